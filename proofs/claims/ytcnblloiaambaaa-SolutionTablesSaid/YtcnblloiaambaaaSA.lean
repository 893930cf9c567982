import Derived.Test.YtcnblloiaambaaaV26
import Derived.Test.YtcnblloiaambaaaChecked
namespace Go.Proofs.Ytcnblloiaambaaa
open Go.V
set_option maxHeartbeats 4000000
theorem mixed : Try.prog.follows .mixedOrders = true := Try.checked.mixed

/- encodings -/
abbrev I (n : Int) : D := .int .i64 n
noncomputable abbrev B (p : Prop) : D := .bool (@decide p (Classical.propDecidable p))
abbrev eI (xs : List Int) : D := encI .i64 xs
abbrev Row := List Int × Bool
def rowCells (r : Row) : List D := [eI r.1, .bool r.2]
abbrev eR (rows : List Row) : D := encS rowCells rows
abbrev eT (ts : List (List Int)) : D := encL eI ts

theorem eI_pure (xs : List Int) : Pure (eI xs) := encI_pure _ _
theorem rowCells_pure (r : Row) : ∀ d ∈ rowCells r, Pure d := by
  intro d hd
  simp only [rowCells, List.mem_cons, List.not_mem_nil, or_false] at hd
  rcases hd with rfl | rfl
  · exact eI_pure _
  · exact .bool _
theorem eR_pure (rows : List Row) : Pure (eR rows) := encS_pure fun r _ => rowCells_pure r
theorem eT_pure (ts : List (List Int)) : Pure (eT ts) := encL_pure fun t _ => eI_pure t

def rowAt (rows : List Row) (i : Nat) : Row := rows.getD i ([], false)
def atI (xs : List Int) (i : Nat) : Int := xs.getD i 0
def atT (ts : List (List Int)) (i : Nat) : List Int := ts.getD i []

theorem rowAt_eq {rows : List Row} {i : Nat} (h : i < rows.length) : rowAt rows i = rows[i] := by simp [rowAt, h]
theorem rowAt_mem {rows : List Row} {i : Nat} (h : i < rows.length) : rowAt rows i ∈ rows := by rw [rowAt_eq h]; exact List.getElem_mem _
theorem atI_mem {xs : List Int} {i : Nat} (h : i < xs.length) : atI xs i ∈ xs := by
  have : atI xs i = xs[i] := by simp [atI, h]
  rw [this]; exact List.getElem_mem _

theorem i_get {xs : List Int} {i off : Nat} (h : i < xs.length) (ho : off = i * 1) : (xs.map (D.int .i64))[off]? = some (I (atI xs i)) := by
  subst ho; simp [h, atI]
theorem t_get {ts : List (List Int)} {i off : Nat} (h : i < ts.length) (ho : off = i * 1) : (ts.map eI)[off]? = some (eI (atT ts i)) := by
  subst ho; simp [h, atT]
theorem r_sig {rows : List Row} {i off : Nat} (h : i < rows.length) (ho : off = i * 2 + 0) : (rows.flatMap rowCells)[off]? = some (eI (rowAt rows i).1) := by
  rw [flat_get (s := 2) (fun _ => rfl) h (j := 0) (by omega) ho, rowAt_eq h]; rfl
theorem r_tr {rows : List Row} {i off : Nat} (h : i < rows.length) (ho : off = i * 2 + 1) : (rows.flatMap rowCells)[off]? = some (.bool (rowAt rows i).2) := by
  rw [flat_get (s := 2) (fun _ => rfl) h (j := 1) (by omega) ho, rowAt_eq h]; rfl
theorem r_agg {rows : List Row} {i off : Nat} (h : i < rows.length) (ho : off = i * 2) : takeR (rows.flatMap rowCells) off 2 = some [eI (rowAt rows i).1, .bool (rowAt rows i).2] := by
  rw [flat_take (s := 2) (fun _ => rfl) (by omega) h ho, rowAt_eq h]; rfl

theorem B_true {p : Prop} (h : p) : true = @decide p (Classical.propDecidable p) := (@decide_eq_true p (Classical.propDecidable p) h).symm
theorem B_false {p : Prop} (h : ¬ p) : false = @decide p (Classical.propDecidable p) := (@decide_eq_false p (Classical.propDecidable p) h).symm
theorem B_iff {p q : Prop} {i : Decidable q} (h : q ↔ p) : decide q = @decide p (Classical.propDecidable p) := by
  by_cases hp : p
  · rw [← B_true hp]; exact decide_eq_true (h.2 hp)
  · rw [← B_false hp]; exact decide_eq_false (fun hq => hp (h.1 hq))

theorem all_succ {p : Nat → Prop} {i : Nat} (h : ∀ j, j < i → p j) (hp : p i) : ∀ j, j < i + 1 → p j := by
  intro j hj
  rcases Nat.lt_succ_iff_lt_or_eq.1 hj with h1 | rfl
  · exact h j h1
  · exact hp

/- plain meanings -/
def bitOf (s : Int) : Int := if s = -1 then 1 else if s = 0 then 2 else 4
def sign (s : Int) : Prop := -1 ≤ s ∧ s ≤ 1
def signs (l : List Int) : Prop := ∀ i, i < l.length → sign (atI l i)
def landI (a b : Int) : Int := IntKind.i64.wrap ((BitVec.ofInt 64 a &&& BitVec.ofInt 64 b).toNat)
def lorI (a b : Int) : Int := IntKind.i64.wrap ((BitVec.ofInt 64 a ||| BitVec.ofInt 64 b).toNat)
def perm (t s : List Int) : Prop := ∀ i, i < s.length → landI (atI t i) (bitOf (atI s i)) ≠ 0
def permR (t s : List Int) : Prop := t.length = s.length ∧ perm t s
def few (rows : List Row) : Prop := rows.length ≤ 90 ∧ ∀ i, i < rows.length → (rowAt rows i).1.length ≤ 6

/- f38: cylinderref50.bit -/
theorem refbit_spec {s : Int} (h : sign s) : PureFn Try.prog 38 [I s] (I (bitOf s)) := by
  obtain ⟨h0, h1⟩ := h
  refine .of_W (fn := Try.f38) ⟨.int _ _, trivial⟩ Try.call38 Try.func38 rfl rfl ?_
  refine .sreg ?_
  iterate 1 refine .p rfl rfl rfl trivial ?_
  refine .nil (.sreg ?_) rfl
  iterate 2 refine .p rfl rfl rfl trivial ?_
  refine .pe (I (s+1)) rfl rfl rfl trivial (by rw [wrap64] <;> first | omega | rfl | exact congrArg (D.int .i64) (by omega)) ?_
  refine .ix ((s+1).toNat) rfl rfl rfl rfl rfl rfl rfl (by first | rfl | omega) (by first | omega | decide) ?_
  refine .ld (I (bitOf s)) rfl rfl rfl rfl rfl rfl ?_ ?_
  · have : s = -1 ∨ s = 0 ∨ s = 1 := by omega
    rcases this with rfl | rfl | rfl <;> rfl
  iterate 1 refine .p rfl rfl rfl trivial ?_
  exact .nil (.ret ⟨_, rfl, .int rfl, rfl⟩) rfl

/- f32: solution.bit -/
theorem bit_spec {s : Int} (h : sign s) : PureFn Try.prog 32 [I s] (I (bitOf s)) := by
  obtain ⟨h0, h1⟩ := h
  refine .of_W (fn := Try.f32) ⟨.int _ _, trivial⟩ Try.call32 Try.func32 rfl rfl ?_
  refine .sreg ?_
  iterate 1 refine .p rfl rfl rfl trivial ?_
  refine .nil (.sreg ?_) rfl
  iterate 1 refine .p rfl rfl rfl trivial ?_
  refine .pe (I (s+1)) rfl rfl rfl trivial (by rw [wrap64] <;> first | omega | rfl | exact congrArg (D.int .i64) (by omega)) ?_
  refine .pe (I (bitOf s)) rfl rfl rfl (show (0 : Int) ≤ s + 1 by omega) ?_ ?_
  · have : s = -1 ∨ s = 0 ∨ s = 1 := by omega
    rcases this with rfl | rfl | rfl <;> rfl
  iterate 1 refine .p rfl rfl rfl trivial ?_
  exact .nil (.ret ⟨_, rfl, .int rfl, rfl⟩) rfl

/- f26: cylinderref50.Permits -/
theorem Permits_spec {t s : List Int} (hs : signs s) (hb : t.length ≤ 9223372036854775807) : PureFn Try.prog 26 [eI t, eI s] (B (permR t s)) := by
  refine .of_W (fn := Try.f26) ⟨encI_pure _ _, encI_pure _ _, trivial⟩ Try.call26 Try.func26 rfl rfl ?_
  refine .sreg ?_
  iterate 1 refine .p rfl rfl rfl trivial ?_
  refine .nil (.seq (.sreg ?_)) rfl
  iterate 5 refine .p rfl rfl rfl trivial ?_
  refine .nil (.cond_ndec rfl (fun hne => ?_) (fun heq => .skip ?_)) rfl
  · refine .sreg ?_
    iterate 1 refine .p rfl rfl rfl trivial ?_
    refine .nil (.ret ⟨_, rfl, .bool (B_false fun hp => hne (by have := hp.1; omega)), rfl⟩) rfl
  have hlen : t.length = s.length := by omega
  refine .seq (.sreg ?_)
  iterate 3 refine .p rfl rfl rfl trivial ?_
  refine .nil ?_ rfl
  refine .range (t.length) (fun i => [(0, eI t), (1, eI s)]) (fun i => []) (fun i => ∀ j, j < i → landI (atI t j) (bitOf (atI s j)) ≠ 0) rfl rfl rfl rfl rfl rfl rfl rfl rfl rfl (hb) (by first | exact trivial | (intro j hj; exact absurd hj (Nat.not_lt_zero j))) (.wk ?_) (fun _ => rfl) (fun i hi Ci => ?_) (fun Ci => ?_)
  · repeat (first | exact trivial | refine ⟨⟨_, rfl, .refl _⟩, ?_⟩)
  · refine .sreg ?_
    iterate 2 refine .p rfl rfl rfl trivial ?_
    refine .nil (.sdraw mixed (by kernel_rfl) (by kernel_rfl) ?_) rfl
    iterate 2 refine .p rfl rfl rfl trivial ?_
    refine .ix (i) rfl rfl rfl rfl rfl rfl rfl (by first | rfl | omega) (by first | omega | decide) ?_
    refine .ld _ rfl rfl rfl rfl rfl rfl (i_get hi rfl) ?_
    iterate 2 refine .p rfl rfl rfl trivial ?_
    refine .ix (i) rfl rfl rfl rfl rfl rfl rfl (by first | rfl | omega) (by first | omega | decide) ?_
    refine .ld _ rfl rfl rfl rfl rfl rfl (i_get (by omega) rfl) ?_
    refine .call (refbit_spec (hs i (by omega))) rfl rfl rfl rfl ?_
    iterate 2 refine .p rfl rfl rfl trivial ?_
    refine .nil (.cond_dec rfl (fun h => ?_) (fun h => .skip ⟨all_succ Ci h, .wk ?_⟩)) rfl
    · refine .sreg ?_
      iterate 1 refine .p rfl rfl rfl trivial ?_
      refine .nil (.ret ⟨_, rfl, .bool (B_false fun hp => hp.2 i (by omega) h), rfl⟩) rfl
    · repeat (first | exact trivial | refine ⟨⟨_, rfl, .refl _⟩, ?_⟩)
  · refine W.sreg ?_
    iterate 1 refine .p rfl rfl rfl trivial ?_
    refine .nil (.ret ⟨_, rfl, .bool (B_true ⟨hlen, fun i hi => Ci i (by omega)⟩), rfl⟩) rfl

/- f20: solution.permits -/
theorem permits_spec {t s : List Int} (hs : signs s) (hl : s.length ≤ t.length) (hb : s.length ≤ 9223372036854775807) : PureFn Try.prog 20 [eI t, eI s] (B (perm t s)) := by
  refine .of_W (fn := Try.f20) ⟨encI_pure _ _, encI_pure _ _, trivial⟩ Try.call20 Try.func20 rfl rfl ?_
  refine .sreg ?_
  iterate 1 refine .p rfl rfl rfl trivial ?_
  refine .nil (.seq (.sreg ?_)) rfl
  iterate 3 refine .p rfl rfl rfl trivial ?_
  refine .nil ?_ rfl
  refine .range (s.length) (fun i => [(0, eI t), (7, eI s)]) (fun i => []) (fun i => ∀ j, j < i → landI (atI t j) (bitOf (atI s j)) ≠ 0) rfl rfl rfl rfl rfl rfl rfl rfl rfl rfl (hb) (by first | exact trivial | (intro j hj; exact absurd hj (Nat.not_lt_zero j))) (.wk ?_) (fun _ => rfl) (fun i hi Ci => ?_) (fun Ci => ?_)
  · repeat (first | exact trivial | refine ⟨⟨_, rfl, .refl _⟩, ?_⟩)
  · refine .sreg ?_
    iterate 1 refine .p rfl rfl rfl trivial ?_
    refine .ix (i) rfl rfl rfl rfl rfl rfl rfl (by first | rfl | omega) (by first | omega | decide) ?_
    refine .ld _ rfl rfl rfl rfl rfl rfl (i_get (by omega) rfl) ?_
    iterate 2 refine .p rfl rfl rfl trivial ?_
    refine .nil (.sdraw mixed (by kernel_rfl) (by kernel_rfl) ?_) rfl
    iterate 2 refine .p rfl rfl rfl trivial ?_
    refine .ix (i) rfl rfl rfl rfl rfl rfl rfl (by first | rfl | omega) (by first | omega | decide) ?_
    refine .ld _ rfl rfl rfl rfl rfl rfl (i_get (by omega) rfl) ?_
    iterate 1 refine .p rfl rfl rfl trivial ?_
    refine .call (bit_spec (hs i (by omega))) rfl rfl rfl rfl ?_
    iterate 2 refine .p rfl rfl rfl trivial ?_
    refine .nil (.cond_dec rfl (fun h => ?_) (fun h => .skip ⟨all_succ Ci h, .wk ?_⟩)) rfl
    · refine .sreg ?_
      iterate 1 refine .p rfl rfl rfl trivial ?_
      refine .nil (.ret ⟨_, rfl, .bool (B_false fun hp => hp i (by omega) h), rfl⟩) rfl
    · repeat (first | exact trivial | refine ⟨⟨_, rfl, .refl _⟩, ?_⟩)
  · refine W.sreg ?_
    iterate 1 refine .p rfl rfl rfl trivial ?_
    refine .nil (.ret ⟨_, rfl, .bool (B_true Ci), rfl⟩) rfl

/- f9: cylinderref50.Few -/
theorem Few_spec (rows : List Row) : PureFn Try.prog 9 [eR rows] (B (few rows)) := by
  refine .of_W (fn := Try.f9) ⟨eR_pure _, trivial⟩ Try.call9 Try.func9 rfl rfl ?_
  refine .sreg ?_
  iterate 1 refine .p rfl rfl rfl trivial ?_
  refine .nil (.seq (.sreg ?_)) rfl
  iterate 3 refine .p rfl rfl rfl trivial ?_
  refine .nil (.cond_dec rfl (fun h => ?_) (fun h => .skip ?_)) rfl
  · refine .sreg ?_
    iterate 1 refine .p rfl rfl rfl trivial ?_
    refine .nil (.ret ⟨_, rfl, .bool (B_false fun hp => by have := hp.1; omega), rfl⟩) rfl
  have h90 : rows.length ≤ 90 := by omega
  refine .seq (.sreg ?_)
  iterate 3 refine .p rfl rfl rfl trivial ?_
  refine .nil ?_ rfl
  refine .range (rows.length) (fun i => [(0, eR rows)]) (fun i => []) (fun i => ∀ j, j < i → (rowAt rows j).1.length ≤ 6) rfl rfl rfl rfl rfl rfl rfl rfl rfl rfl (by omega) (by first | exact trivial | (intro j hj; exact absurd hj (Nat.not_lt_zero j))) (.wk ?_) (fun _ => rfl) (fun i hi Ci => ?_) (fun Ci => ?_)
  · repeat (first | exact trivial | refine ⟨⟨_, rfl, .refl _⟩, ?_⟩)
  · refine .sreg ?_
    iterate 2 refine .p rfl rfl rfl trivial ?_
    refine .nil (.sreg ?_) rfl
    iterate 2 refine .p rfl rfl rfl trivial ?_
    refine .ix (i) rfl rfl rfl rfl rfl rfl rfl (by first | rfl | omega) (by first | omega | decide) ?_
    iterate 1 refine .p rfl rfl rfl trivial ?_
    refine .ld _ rfl rfl rfl rfl rfl rfl (r_sig hi rfl) ?_
    iterate 2 refine .p rfl rfl rfl trivial ?_
    refine .nil (.cond_dec rfl (fun h => ?_) (fun h => .skip ⟨all_succ Ci (by omega), .wk ?_⟩)) rfl
    · refine .sreg ?_
      iterate 1 refine .p rfl rfl rfl trivial ?_
      refine .nil (.ret ⟨_, rfl, .bool (B_false fun hp => by have := hp.2 i hi; omega), rfl⟩) rfl
    · repeat (first | exact trivial | refine ⟨⟨_, rfl, .refl _⟩, ?_⟩)
  · refine W.sreg ?_
    iterate 1 refine .p rfl rfl rfl trivial ?_
    refine .nil (.ret ⟨_, rfl, .bool (B_true ⟨h90, Ci⟩), rfl⟩) rfl
end Go.Proofs.Ytcnblloiaambaaa
