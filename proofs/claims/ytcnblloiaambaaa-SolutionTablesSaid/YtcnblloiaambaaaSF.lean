import Derived.Test.YtcnblloiaambaaaSE
namespace Go.Proofs.Ytcnblloiaambaaa
open Go.V
set_option maxHeartbeats 4000000

theorem B_not {p q : Prop} {i : Decidable q} (h : ¬ q ↔ p) : (!decide q) = @decide p (Classical.propDecidable p) := by
  by_cases hq : q
  · rw [decide_eq_true hq, ← B_false (fun hp => h.2 hp hq)]; rfl
  · rw [decide_eq_false hq, ← B_true (h.1 hq)]; rfl

/- f15: cylinderref50.Needed -/
def alone (ts : List (List Int)) (rows : List Row) (i k m : Nat) : Prop := ((rowAt rows k).2 = true ∧ permR (atT ts i) (rowAt rows k).1) ∧ ∀ j, j < m → j = i ∨ ¬ permR (atT ts j) (rowAt rows k).1
def needed (ts : List (List Int)) (rows : List Row) : Prop := ∀ i, i < ts.length → ∃ k, k < rows.length ∧ alone ts rows i k ts.length

theorem alone_succ {ts : List (List Int)} {rows : List Row} {i k m : Nat} : alone ts rows i k (m + 1) ↔ alone ts rows i k m ∧ (m = i ∨ ¬ permR (atT ts m) (rowAt rows k).1) := by
  constructor
  · exact fun h => ⟨⟨h.1, fun j hj => h.2 j (by omega)⟩, h.2 m (by omega)⟩
  · exact fun h => ⟨h.1.1, all_succ h.1.2 h.2⟩

theorem Needed_spec {ts : List (List Int)} {rows : List Row} (hf : few rows) (hs : ∀ i, i < rows.length → signs (rowAt rows i).1) (ht : small ts) : PureFn Try.prog 15 [eT ts, eR rows] (B (needed ts rows)) := by
  refine .of_W (fn := Try.f15) ⟨eT_pure _, eR_pure _, trivial⟩ Try.call15 Try.func15 rfl rfl ?_
  refine .sreg ?_
  iterate 1 refine .p rfl rfl rfl trivial ?_
  refine .nil (.seq (.sreg ?_)) rfl
  iterate 3 refine .p rfl rfl rfl trivial ?_
  refine .nil ?_ rfl
  refine .range (ts.length) (fun i => [(0, eT ts), (1, eR rows)]) (fun i => []) (fun i => ∀ j, j < i → ∃ k, k < rows.length ∧ alone ts rows j k ts.length) rfl rfl rfl rfl rfl rfl rfl rfl rfl rfl ((by have := ht.1; omega)) (by first | exact trivial | (intro j hj; exact absurd hj (Nat.not_lt_zero j))) (.wk ?_) (fun _ => rfl) (fun i hi Ci => ?_) (fun Ci => ?_)
  · repeat (first | exact trivial | refine ⟨⟨_, rfl, .refl _⟩, ?_⟩)
  · refine .sreg ?_
    iterate 2 refine .p rfl rfl rfl trivial ?_
    refine .nil (.sreg ?_) rfl
    iterate 1 refine .p rfl rfl rfl trivial ?_
    refine .nil (.seq (.sreg ?_)) rfl
    iterate 3 refine .p rfl rfl rfl trivial ?_
    refine .nil ?_ rfl
    refine .range (rows.length) (fun k => [(0, eT ts), (1, eR rows), (5, I i), (12, I i), (11, I ts.length), (6, B (∃ j, j < k ∧ alone ts rows i j ts.length))]) (fun k => []) (fun k => True) rfl rfl rfl rfl rfl rfl rfl rfl rfl rfl ((by have := hf.1; omega)) (by first | exact trivial | (intro j hj; exact absurd hj (Nat.not_lt_zero j))) (.wk ?_) (fun _ => rfl) (fun k hk Ck => ?_) (fun Ck => ?_)
    · refine ⟨⟨_, rfl, .refl _⟩, ⟨_, rfl, .refl _⟩, ⟨_, rfl, .refl _⟩, ⟨_, rfl, .refl _⟩, ⟨_, rfl, .refl _⟩, ⟨_, rfl, .refl _⟩, ⟨_, rfl, .refl _⟩, ⟨_, rfl, .of_eq ?_⟩, trivial⟩
      exact congrArg D.bool (B_false (by simp))
    · refine .sreg ?_
      iterate 2 refine .p rfl rfl rfl trivial ?_
      refine .nil ?_ rfl
      refine .mid [(8, B (alone ts rows i k 0)), (0, eT ts), (1, eR rows), (5, I i), (7, I k), (12, I i), (11, I ts.length), (17, I k), (16, I rows.length), (6, B (∃ j, j < k ∧ alone ts rows i j ts.length))] [] (.draw mixed (by kernel_rfl) (by kernel_rfl) ?_) ?_
      · iterate 2 refine .p rfl rfl rfl trivial ?_
        refine .ix (k) rfl rfl rfl rfl rfl rfl rfl (by first | rfl | omega) (by first | omega | decide) ?_
        iterate 1 refine .p rfl rfl rfl trivial ?_
        refine .ld _ rfl rfl rfl rfl rfl rfl (r_tr hk rfl) ?_
        iterate 1 refine .p rfl rfl rfl trivial ?_
        refine .split (fun h => ?_) (fun h => ?_)
        · iterate 2 refine .p rfl rfl rfl trivial ?_
          refine .ix (i) rfl rfl rfl rfl rfl rfl rfl (by first | rfl | omega) (by first | omega | decide) ?_
          refine .ld _ rfl rfl rfl rfl rfl rfl (t_get hi rfl) ?_
          iterate 2 refine .p rfl rfl rfl trivial ?_
          refine .ix (k) rfl rfl rfl rfl rfl rfl rfl (by first | rfl | omega) (by first | omega | decide) ?_
          iterate 1 refine .p rfl rfl rfl trivial ?_
          refine .ld _ rfl rfl rfl rfl rfl rfl (r_sig hk rfl) ?_
          refine .call (Permits_spec (hs k hk) (by have := ht.2 i hi; omega)) rfl rfl rfl rfl ?_
          iterate 2 refine .p rfl rfl rfl trivial ?_
          refine .nil (.wk ⟨⟨_, rfl, .of_eq (B_congr ⟨fun h2 => ⟨⟨h, h2⟩, by omega⟩, fun h2 => h2.1.2⟩)⟩, ?_⟩) rfl
          repeat (first | exact trivial | refine ⟨⟨_, rfl, .refl _⟩, ?_⟩)
        · iterate 10 refine .skip rfl rfl ?_
          iterate 2 refine .p rfl rfl rfl trivial ?_
          refine .nil (.wk ⟨⟨_, rfl, .of_eq (congrArg D.bool (B_false fun h2 => by rw [h2.1.1] at h; cases h))⟩, ?_⟩) rfl
          repeat (first | exact trivial | refine ⟨⟨_, rfl, .refl _⟩, ?_⟩)
      refine .seq (.sreg ?_)
      iterate 3 refine .p rfl rfl rfl trivial ?_
      refine .nil ?_ rfl
      refine .range (ts.length) (fun j => [(8, B (alone ts rows i k j)), (0, eT ts), (1, eR rows), (5, I i), (7, I k), (12, I i), (11, I ts.length), (17, I k), (16, I rows.length), (6, B (∃ j, j < k ∧ alone ts rows i j ts.length))]) (fun j => []) (fun j => True) rfl rfl rfl rfl rfl rfl rfl rfl rfl rfl ((by have := ht.1; omega)) (by first | exact trivial | (intro j hj; exact absurd hj (Nat.not_lt_zero j))) (.wk ?_) (fun _ => rfl) (fun j hj Cj => ?_) (fun Cj => ?_)
      · repeat (first | exact trivial | refine ⟨⟨_, rfl, .refl _⟩, ?_⟩)
      · refine .sreg ?_
        iterate 2 refine .p rfl rfl rfl trivial ?_
        refine .nil ?_ rfl
        refine .draw mixed (by kernel_rfl) (by kernel_rfl) ?_
        iterate 2 refine .p rfl rfl rfl trivial ?_
        refine .dsplit (fun h => ?_) (fun h => ?_)
        · iterate 4 refine .p rfl rfl rfl trivial ?_
          refine .dsplit (fun h2 => ?_) (fun h2 => ?_)
          · have h3 : j = i := by omega
            iterate 11 refine .skip rfl rfl ?_
            iterate 3 refine .p rfl rfl rfl trivial ?_
            refine .nil ⟨trivial, .wk ⟨⟨_, rfl, .refl _⟩, ⟨_, rfl, .refl _⟩, ⟨_, rfl, .of_eq (congrArg D.bool (B_true (alone_succ.2 ⟨h, .inl h3⟩)))⟩, ?_⟩⟩ rfl
            repeat (first | exact trivial | refine ⟨⟨_, rfl, .refl _⟩, ?_⟩)
          · have h3 : j ≠ i := fun e => h2 (by omega)
            iterate 2 refine .p rfl rfl rfl trivial ?_
            refine .ix (j) rfl rfl rfl rfl rfl rfl rfl (by first | rfl | omega) (by first | omega | decide) ?_
            refine .ld _ rfl rfl rfl rfl rfl rfl (t_get hj rfl) ?_
            iterate 2 refine .p rfl rfl rfl trivial ?_
            refine .ix (k) rfl rfl rfl rfl rfl rfl rfl (by first | rfl | omega) (by first | omega | decide) ?_
            iterate 1 refine .p rfl rfl rfl trivial ?_
            refine .ld _ rfl rfl rfl rfl rfl rfl (r_sig hk rfl) ?_
            refine .call (Permits_spec (hs k hk) (by have := ht.2 j hj; omega)) rfl rfl rfl rfl ?_
            iterate 4 refine .p rfl rfl rfl trivial ?_
            refine .nil ⟨trivial, .wk ⟨⟨_, rfl, .refl _⟩, ⟨_, rfl, .refl _⟩, ⟨_, rfl, .of_eq ?_⟩, ?_⟩⟩ rfl
            · exact congrArg D.bool (B_not ⟨fun h4 => alone_succ.2 ⟨h, .inr h4⟩, fun h4 => (alone_succ.1 h4).2.resolve_left h3⟩)
            repeat (first | exact trivial | refine ⟨⟨_, rfl, .refl _⟩, ?_⟩)
        · iterate 16 refine .skip rfl rfl ?_
          iterate 2 refine .p rfl rfl rfl trivial ?_
          refine .nil ⟨trivial, .wk ⟨⟨_, rfl, .refl _⟩, ⟨_, rfl, .refl _⟩, ⟨_, rfl, .of_eq (congrArg D.bool (B_false fun h2 => h (alone_succ.1 h2).1))⟩, ?_⟩⟩ rfl
          repeat (first | exact trivial | refine ⟨⟨_, rfl, .refl _⟩, ?_⟩)
      · show W _ _ _ _ _ _ _
        refine .reg ?_
        iterate 2 refine .p rfl rfl rfl trivial ?_
        refine .dsplit (fun h => ?_) (fun h => ?_)
        · iterate 1 refine .skip rfl rfl ?_
          iterate 2 refine .p rfl rfl rfl trivial ?_
          refine .nil ⟨trivial, .wk ?_⟩ rfl
          refine ⟨⟨_, rfl, .refl _⟩, ⟨_, rfl, .refl _⟩, ⟨_, rfl, .refl _⟩, ⟨_, rfl, .refl _⟩, ⟨_, rfl, .refl _⟩, ⟨_, rfl, .refl _⟩, ⟨_, rfl, .refl _⟩, ⟨_, rfl, .of_eq ?_⟩, trivial⟩
          exact congrArg D.bool (B_true (exists_succ.2 (.inl h)))
        · iterate 3 refine .p rfl rfl rfl trivial ?_
          refine .nil ⟨trivial, .wk ?_⟩ rfl
          refine ⟨⟨_, rfl, .refl _⟩, ⟨_, rfl, .refl _⟩, ⟨_, rfl, .refl _⟩, ⟨_, rfl, .refl _⟩, ⟨_, rfl, .refl _⟩, ⟨_, rfl, .refl _⟩, ⟨_, rfl, .refl _⟩, ⟨_, rfl, .of_eq ?_⟩, trivial⟩
          exact B_congr ⟨fun h2 => exists_succ.2 (.inr h2), fun h2 => (exists_succ.1 h2).resolve_left h⟩
    · show W _ _ _ _ _ _ _
      refine .sreg ?_
      iterate 2 refine .p rfl rfl rfl trivial ?_
      refine .nil (.cond rfl (fun h => ?_) (fun h => .skip ⟨all_succ Ci (by simpa using h), .wk ?_⟩)) rfl
      · refine .sreg ?_
        iterate 1 refine .p rfl rfl rfl trivial ?_
        refine .nil (.ret ⟨_, rfl, .bool (B_false fun hc => by simp only [Bool.not_eq_true', decide_eq_false_iff_not] at h; exact h (hc i hi)), rfl⟩) rfl
      · repeat (first | exact trivial | refine ⟨⟨_, rfl, .refl _⟩, ?_⟩)
  · refine W.sreg ?_
    iterate 1 refine .p rfl rfl rfl trivial ?_
    refine .nil (.ret ⟨_, rfl, .bool (B_true Ci), rfl⟩) rfl
end Go.Proofs.Ytcnblloiaambaaa
