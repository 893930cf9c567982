import Derived.Test.YtcnblloiaambaaaSA
namespace Go.Proofs.Ytcnblloiaambaaa
open Go.V
set_option maxHeartbeats 4000000

/- the first index -/
def idx (p : Nat → Bool) : Nat → Int
  | 0 => -1
  | n + 1 => if 0 ≤ idx p n then idx p n else if p n then (n : Int) else -1

theorem idx_none {p : Nat → Bool} : ∀ {n : Nat}, (∀ i, i < n → p i = false) → idx p n = -1
  | 0, _ => rfl
  | n + 1, h => by
    have h1 := idx_none (n := n) (fun i hi => h i (by omega))
    simp [idx, h1, h n (by omega)]

theorem idx_first {p : Nat → Bool} {i : Nat} (h : ∀ j, j < i → p j = false) (hp : p i = true) : ∀ {n : Nat}, i < n → idx p n = i
  | n + 1, hn => by
    rcases Nat.lt_succ_iff_lt_or_eq.1 hn with h1 | rfl
    · have h2 := idx_first h hp h1
      simp [idx, h2]
    · simp [idx, idx_none h, hp]

theorem idx_iff {p : Nat → Bool} : ∀ {n : Nat}, 0 ≤ idx p n ↔ ∃ i, i < n ∧ p i = true
  | 0 => by simp [idx]
  | n + 1 => by
    have ih := idx_iff (p := p) (n := n)
    simp only [idx]
    split
    · rename_i h
      obtain ⟨i, hi, hp⟩ := ih.1 h
      exact ⟨fun _ => ⟨i, by omega, hp⟩, fun _ => h⟩
    · rename_i h
      split
      · rename_i hp
        exact ⟨fun _ => ⟨n, by omega, hp⟩, fun _ => by omega⟩
      · rename_i hp
        refine ⟨fun h => by omega, fun ⟨i, hi, hp'⟩ => ?_⟩
        rcases Nat.lt_succ_iff_lt_or_eq.1 hi with h1 | rfl
        · exact absurd (ih.2 ⟨i, h1, hp'⟩) h
        · exact absurd hp' hp

/-- A function value that says p of each place. -/
def Says (fv : D) (enc : Nat → D) (n : Nat) (p : Nat → Bool) : Prop := ∀ i, i < n → ∀ H, ValTo Try.prog fv [enc i] H fun d' H' => d' = .bool (p i) ∧ H' = H

/- f39: slices.IndexFunc over []int -/
theorem IndexInt_spec {xs : List Int} {fv : D} {p : Nat → Bool} (hp : Pure fv) (hf : Says fv (fun i => I (atI xs i)) xs.length p) (hb : xs.length ≤ 9223372036854775807) : PureFn Try.prog 39 [eI xs, fv] (I (idx p xs.length)) := by
  refine .of_W (fn := Try.f39) ⟨encI_pure _ _, hp, trivial⟩ Try.call39 Try.func39 rfl rfl ?_
  refine .sreg ?_
  iterate 1 refine .p rfl rfl rfl trivial ?_
  refine .nil (.seq (.sreg ?_)) rfl
  iterate 3 refine .p rfl rfl rfl trivial ?_
  refine .nil ?_ rfl
  refine .range (xs.length) (fun i => [(0, eI xs), (1, fv)]) (fun i => []) (fun i => ∀ j, j < i → p j = false) rfl rfl rfl rfl rfl rfl rfl rfl rfl rfl (hb) (by first | exact trivial | (intro j hj; exact absurd hj (Nat.not_lt_zero j))) (.wk ?_) (fun _ => rfl) (fun i hi Ci => ?_) (fun Ci => ?_)
  · repeat (first | exact trivial | refine ⟨⟨_, rfl, .refl _⟩, ?_⟩)
  · refine .sreg ?_
    iterate 2 refine .p rfl rfl rfl trivial ?_
    refine .nil (.sreg ?_) rfl
    iterate 3 refine .p rfl rfl rfl trivial ?_
    refine .ix (i) rfl rfl rfl rfl rfl rfl rfl (by first | rfl | omega) (by first | omega | decide) ?_
    refine .ld _ rfl rfl rfl rfl rfl rfl (i_get hi rfl) ?_
    refine .callV rfl rfl rfl rfl rfl (hf i hi) ?_
    refine .nil (.cond rfl (fun h => ?_) (fun h => .skip ⟨all_succ Ci h, .wk ?_⟩)) rfl
    · refine .sreg ?_
      iterate 2 refine .p rfl rfl rfl trivial ?_
      refine .nil (.ret ⟨_, rfl, .int ?_, rfl⟩) rfl
      exact (idx_first Ci h hi).symm
    · repeat (first | exact trivial | refine ⟨⟨_, rfl, .refl _⟩, ?_⟩)
  · refine W.sreg ?_
    iterate 1 refine .p rfl rfl rfl trivial ?_
    refine .nil (.ret ⟨_, rfl, .int ?_, rfl⟩) rfl
    exact (idx_none Ci).symm

/- f33: slices.IndexFunc over []Term -/
theorem IndexTerm_spec {xs : List (List Int)} {fv : D} {p : Nat → Bool} (hp : Pure fv) (hf : Says fv (fun i => eI (atT xs i)) xs.length p) (hb : xs.length ≤ 9223372036854775807) : PureFn Try.prog 33 [eT xs, fv] (I (idx p xs.length)) := by
  refine .of_W (fn := Try.f33) ⟨eT_pure _, hp, trivial⟩ Try.call33 Try.func33 rfl rfl ?_
  refine .sreg ?_
  iterate 1 refine .p rfl rfl rfl trivial ?_
  refine .nil (.seq (.sreg ?_)) rfl
  iterate 3 refine .p rfl rfl rfl trivial ?_
  refine .nil ?_ rfl
  refine .range (xs.length) (fun i => [(0, eT xs), (1, fv)]) (fun i => []) (fun i => ∀ j, j < i → p j = false) rfl rfl rfl rfl rfl rfl rfl rfl rfl rfl (hb) (by first | exact trivial | (intro j hj; exact absurd hj (Nat.not_lt_zero j))) (.wk ?_) (fun _ => rfl) (fun i hi Ci => ?_) (fun Ci => ?_)
  · repeat (first | exact trivial | refine ⟨⟨_, rfl, .refl _⟩, ?_⟩)
  · refine .sreg ?_
    iterate 2 refine .p rfl rfl rfl trivial ?_
    refine .nil (.sreg ?_) rfl
    iterate 3 refine .p rfl rfl rfl trivial ?_
    refine .ix (i) rfl rfl rfl rfl rfl rfl rfl (by first | rfl | omega) (by first | omega | decide) ?_
    refine .ld _ rfl rfl rfl rfl rfl rfl (t_get hi rfl) ?_
    refine .callV rfl rfl rfl rfl rfl (hf i hi) ?_
    refine .nil (.cond rfl (fun h => ?_) (fun h => .skip ⟨all_succ Ci h, .wk ?_⟩)) rfl
    · refine .sreg ?_
      iterate 2 refine .p rfl rfl rfl trivial ?_
      refine .nil (.ret ⟨_, rfl, .int ?_, rfl⟩) rfl
      exact (idx_first Ci h hi).symm
    · repeat (first | exact trivial | refine ⟨⟨_, rfl, .refl _⟩, ?_⟩)
  · refine W.sreg ?_
    iterate 1 refine .p rfl rfl rfl trivial ?_
    refine .nil (.ret ⟨_, rfl, .int ?_, rfl⟩) rfl
    exact (idx_none Ci).symm

/- f40: slices.IndexFunc over []Row -/
theorem IndexRow_spec {xs : List Row} {fv : D} {p : Nat → Bool} (hp : Pure fv) (hf : Says fv (fun i => .agg (rowCells (rowAt xs i))) xs.length p) (hb : xs.length ≤ 9223372036854775807) : PureFn Try.prog 40 [eR xs, fv] (I (idx p xs.length)) := by
  refine .of_W (fn := Try.f40) ⟨eR_pure _, hp, trivial⟩ Try.call40 Try.func40 rfl rfl ?_
  refine .sreg ?_
  iterate 1 refine .p rfl rfl rfl trivial ?_
  refine .nil (.seq (.sreg ?_)) rfl
  iterate 3 refine .p rfl rfl rfl trivial ?_
  refine .nil ?_ rfl
  refine .range (xs.length) (fun i => [(0, eR xs), (1, fv)]) (fun i => []) (fun i => ∀ j, j < i → p j = false) rfl rfl rfl rfl rfl rfl rfl rfl rfl rfl (hb) (by first | exact trivial | (intro j hj; exact absurd hj (Nat.not_lt_zero j))) (.wk ?_) (fun _ => rfl) (fun i hi Ci => ?_) (fun Ci => ?_)
  · repeat (first | exact trivial | refine ⟨⟨_, rfl, .refl _⟩, ?_⟩)
  · refine .sreg ?_
    iterate 2 refine .p rfl rfl rfl trivial ?_
    refine .nil (.sreg ?_) rfl
    iterate 3 refine .p rfl rfl rfl trivial ?_
    refine .ix (i) rfl rfl rfl rfl rfl rfl rfl (by first | rfl | omega) (by first | omega | decide) ?_
    refine .lda _ rfl rfl rfl rfl rfl rfl rfl (r_agg hi rfl) ?_
    refine .callV rfl rfl rfl rfl rfl (hf i hi) ?_
    refine .nil (.cond rfl (fun h => ?_) (fun h => .skip ⟨all_succ Ci h, .wk ?_⟩)) rfl
    · refine .sreg ?_
      iterate 2 refine .p rfl rfl rfl trivial ?_
      refine .nil (.ret ⟨_, rfl, .int ?_, rfl⟩) rfl
      exact (idx_first Ci h hi).symm
    · repeat (first | exact trivial | refine ⟨⟨_, rfl, .refl _⟩, ?_⟩)
  · refine W.sreg ?_
    iterate 1 refine .p rfl rfl rfl trivial ?_
    refine .nil (.ret ⟨_, rfl, .int ?_, rfl⟩) rfl
    exact (idx_none Ci).symm

/- f30, f21, f35: slices.ContainsFunc -/
theorem ContainsInt_spec {xs : List Int} {fv : D} {p : Nat → Bool} (hp : Pure fv) (hf : Says fv (fun i => I (atI xs i)) xs.length p) (hb : xs.length ≤ 9223372036854775807) : PureFn Try.prog 30 [eI xs, fv] (B (∃ i, i < xs.length ∧ p i = true)) := by
  refine .of_W (fn := Try.f30) ⟨encI_pure _ _, hp, trivial⟩ Try.call30 Try.func30 rfl rfl ?_
  refine .sreg ?_
  iterate 1 refine .p rfl rfl rfl trivial ?_
  refine .nil (.sreg ?_) rfl
  iterate 2 refine .p rfl rfl rfl trivial ?_
  refine .call (IndexInt_spec hp hf hb) rfl rfl rfl rfl ?_
  iterate 2 refine .p rfl rfl rfl trivial ?_
  refine .nil (.ret ⟨_, rfl, .bool (B_iff idx_iff), rfl⟩) rfl

theorem ContainsTerm_spec {xs : List (List Int)} {fv : D} {p : Nat → Bool} (hp : Pure fv) (hf : Says fv (fun i => eI (atT xs i)) xs.length p) (hb : xs.length ≤ 9223372036854775807) : PureFn Try.prog 21 [eT xs, fv] (B (∃ i, i < xs.length ∧ p i = true)) := by
  refine .of_W (fn := Try.f21) ⟨eT_pure _, hp, trivial⟩ Try.call21 Try.func21 rfl rfl ?_
  refine .sreg ?_
  iterate 1 refine .p rfl rfl rfl trivial ?_
  refine .nil (.sreg ?_) rfl
  iterate 2 refine .p rfl rfl rfl trivial ?_
  refine .call (IndexTerm_spec hp hf hb) rfl rfl rfl rfl ?_
  iterate 2 refine .p rfl rfl rfl trivial ?_
  refine .nil (.ret ⟨_, rfl, .bool (B_iff idx_iff), rfl⟩) rfl

theorem ContainsRow_spec {xs : List Row} {fv : D} {p : Nat → Bool} (hp : Pure fv) (hf : Says fv (fun i => .agg (rowCells (rowAt xs i))) xs.length p) (hb : xs.length ≤ 9223372036854775807) : PureFn Try.prog 35 [eR xs, fv] (B (∃ i, i < xs.length ∧ p i = true)) := by
  refine .of_W (fn := Try.f35) ⟨eR_pure _, hp, trivial⟩ Try.call35 Try.func35 rfl rfl ?_
  refine .sreg ?_
  iterate 1 refine .p rfl rfl rfl trivial ?_
  refine .nil (.sreg ?_) rfl
  iterate 2 refine .p rfl rfl rfl trivial ?_
  refine .call (IndexRow_spec hp hf hb) rfl rfl rfl rfl ?_
  iterate 2 refine .p rfl rfl rfl trivial ?_
  refine .nil (.ret ⟨_, rfl, .bool (B_iff idx_iff), rfl⟩) rfl

/- f31: solution.valid$1 -/
theorem valid1_spec (s : Int) : PureFn Try.prog 31 [I s] (B (¬ sign s)) := by
  refine .of_W (fn := Try.f31) ⟨.int _ _, trivial⟩ Try.call31 Try.func31 rfl rfl ?_
  refine .sreg ?_
  iterate 1 refine .p rfl rfl rfl trivial ?_
  refine .nil (.sreg ?_) rfl
  iterate 3 refine .p rfl rfl rfl trivial ?_
  refine .dsplit (fun h => ?_) (fun h => ?_)
  · iterate 2 refine .skip rfl rfl ?_
    iterate 2 refine .p rfl rfl rfl trivial ?_
    refine .nil (.ret ⟨_, rfl, .bool (B_true fun hs => by have := hs.1; omega), rfl⟩) rfl
  · iterate 4 refine .p rfl rfl rfl trivial ?_
    refine .nil (.ret ⟨_, rfl, .bool (B_iff ⟨fun h hs => by have := hs.2; omega, fun hn => by
      rcases Int.lt_or_le 1 s with h1 | h1
      · exact h1
      · exact absurd ⟨by omega, h1⟩ hn⟩), rfl⟩) rfl

theorem Says.fn {f : FuncId} {caps : List D} {enc : Nat → D} {n : Nat} {p : Nat → Bool} (h : ∀ i, i < n → PureFn Try.prog f (enc i :: caps) (.bool (p i))) : Says (.fn f caps) enc n p :=
  fun i hi H => h i hi H

def valid (n : Int) (rows : List Row) : Prop := 0 ≤ n ∧ ∀ i, i < rows.length → ((rowAt rows i).1.length : Int) = n ∧ signs (rowAt rows i).1

/- f18: solution.valid -/
theorem valid_spec {n : Int} {rows : List Row} (hf : few rows) : PureFn Try.prog 18 [I n, eR rows] (B (valid n rows)) := by
  refine .of_W (fn := Try.f18) ⟨.int _ _, eR_pure _, trivial⟩ Try.call18 Try.func18 rfl rfl ?_
  refine .sreg ?_
  iterate 1 refine .p rfl rfl rfl trivial ?_
  refine .nil (.seq (.sreg ?_)) rfl
  iterate 3 refine .p rfl rfl rfl trivial ?_
  refine .nil ?_ rfl
  refine .range (rows.length) (fun i => [(0, I n), (7, eR rows)]) (fun i => []) (fun i => ∀ j, j < i → ((rowAt rows j).1.length : Int) = n ∧ signs (rowAt rows j).1) rfl rfl rfl rfl rfl rfl rfl rfl rfl rfl ((by have := hf.1; omega)) (by first | exact trivial | (intro j hj; exact absurd hj (Nat.not_lt_zero j))) (.wk ?_) (fun _ => rfl) (fun i hi Ci => ?_) (fun Ci => ?_)
  · repeat (first | exact trivial | refine ⟨⟨_, rfl, .refl _⟩, ?_⟩)
  · refine .sreg ?_
    refine .ix (i) rfl rfl rfl rfl rfl rfl rfl (by first | rfl | omega) (by first | omega | decide) ?_
    refine .lda _ rfl rfl rfl rfl rfl rfl rfl (r_agg hi rfl) ?_
    refine .alloc 0 rfl rfl rfl rfl rfl rfl rfl ?_
    iterate 1 refine .store rfl rfl rfl rfl rfl rfl rfl rfl rfl rfl ?_
    refine .nil (.sreg ?_) rfl
    iterate 1 refine .p rfl rfl rfl trivial ?_
    iterate 1 refine .ldl rfl rfl rfl rfl rfl rfl rfl rfl rfl ?_
    iterate 3 refine .p rfl rfl rfl trivial ?_
    have hl := hf.2 i hi
    have bad : (((rowAt rows i).1.length : Int) ≠ n ∨ ¬ signs (rowAt rows i).1) → ¬ valid n rows := fun hb hv => hb.elim (fun h => h (hv.2 i hi).1) (fun h => h (hv.2 i hi).2)
    iterate 1 refine .p rfl rfl rfl trivial ?_
    refine .split (fun h => ?_) (fun h => ?_)
    · iterate 3 refine .skip rfl rfl ?_
      iterate 1 refine .p rfl rfl rfl trivial ?_
      refine .nil (.condT rfl ?_) rfl
      refine .sreg ?_
      iterate 1 refine .p rfl rfl rfl trivial ?_
      refine .nil (.ret ⟨_, rfl, .bool (B_false (bad (.inl (by simpa using h)))), rfl⟩) rfl
    · have hn : ((rowAt rows i).1.length : Int) = n := by simpa using h
      iterate 1 refine .p rfl rfl rfl trivial ?_
      iterate 1 refine .ldl rfl rfl rfl rfl rfl rfl rfl rfl rfl ?_
      refine .call (ContainsInt_spec (xs := (rowAt rows i).1) (fv := .fn 31 []) (.fn (by simp)) (.fn (p := fun k => @decide (¬ sign (atI (rowAt rows i).1 k)) (Classical.propDecidable _)) fun k hk => valid1_spec _) (by omega)) rfl rfl rfl rfl ?_
      iterate 1 refine .p rfl rfl rfl trivial ?_
      refine .nil (.cond_dec rfl (fun h => ?_) (fun h => .skip ⟨all_succ Ci ⟨hn, ?_⟩, .pure ?_⟩)) rfl
      · refine .sreg ?_
        iterate 1 refine .p rfl rfl rfl trivial ?_
        obtain ⟨k, hk, hs⟩ := h
        refine .nil (.ret ⟨_, rfl, .bool (B_false (bad (.inr (fun hh => absurd (hh k hk) (by simpa using hs))))), rfl⟩) rfl
      · intro k hk
        rcases Classical.em (sign (atI (rowAt rows i).1 k)) with h1 | h1
        · exact h1
        · exact absurd ⟨k, hk, by simpa using h1⟩ h
      · repeat (first | exact trivial | refine ⟨⟨rfl, by first | exact .int _ _ | exact .bool _ | exact encI_pure _ _ | exact eR_pure _ | exact eT_pure _⟩, ?_⟩)
  · refine W.sreg ?_
    iterate 3 refine .p rfl rfl rfl trivial ?_
    refine .nil (.ret ⟨_, rfl, .bool (B_iff ⟨fun h => ⟨h, Ci⟩, fun h => h.1⟩), rfl⟩) rfl
end Go.Proofs.Ytcnblloiaambaaa
