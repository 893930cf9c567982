import Derived.Test.YtcnblloiaambaaaSD
namespace Go.Proofs.Ytcnblloiaambaaa
open Go.V
set_option maxHeartbeats 4000000

theorem B_congr {p q : Prop} (h : p ↔ q) : B p = B q := by
  rw [show p = q from propext h]

/- f13: cylinderref50.Covers -/
theorem Covers_spec {ts : List (List Int)} {rows : List Row} (hf : few rows) (hs : ∀ i, i < rows.length → signs (rowAt rows i).1) (ht : small ts) : PureFn Try.prog 13 [eT ts, eR rows] (B (covs ts rows)) := by
  refine .of_W (fn := Try.f13) ⟨eT_pure _, eR_pure _, trivial⟩ Try.call13 Try.func13 rfl rfl ?_
  refine .sreg ?_
  iterate 1 refine .p rfl rfl rfl trivial ?_
  refine .nil (.seq (.sreg ?_)) rfl
  iterate 3 refine .p rfl rfl rfl trivial ?_
  refine .nil ?_ rfl
  refine .range (rows.length) (fun io => [(0, eT ts), (1, eR rows)]) (fun io => []) (fun io => ∀ j, j < io → ((∃ k, k < ts.length ∧ permR (atT ts k) (rowAt rows j).1) ↔ (rowAt rows j).2 = true)) rfl rfl rfl rfl rfl rfl rfl rfl rfl rfl ((by have := hf.1; omega)) (by first | exact trivial | (intro j hj; exact absurd hj (Nat.not_lt_zero j))) (.wk ?_) (fun _ => rfl) (fun io hio Cio => ?_) (fun Cio => ?_)
  · repeat (first | exact trivial | refine ⟨⟨_, rfl, .refl _⟩, ?_⟩)
  · refine .sreg ?_
    iterate 2 refine .p rfl rfl rfl trivial ?_
    refine .nil (.sreg ?_) rfl
    iterate 1 refine .p rfl rfl rfl trivial ?_
    refine .nil (.seq (.sreg ?_)) rfl
    iterate 3 refine .p rfl rfl rfl trivial ?_
    refine .nil ?_ rfl
    refine .range (ts.length) (fun k => [(0, eT ts), (1, eR rows), (5, I io), (10, I io), (9, I rows.length), (6, B (∃ j, j < k ∧ permR (atT ts j) (rowAt rows io).1))]) (fun k => []) (fun k => True) rfl rfl rfl rfl rfl rfl rfl rfl rfl rfl ((by have := ht.1; omega)) (by first | exact trivial | (intro j hj; exact absurd hj (Nat.not_lt_zero j))) (.wk ?_) (fun _ => rfl) (fun k hk Ck => ?_) (fun Ck => ?_)
    · refine ⟨⟨_, rfl, .refl _⟩, ⟨_, rfl, .refl _⟩, ⟨_, rfl, .refl _⟩, ⟨_, rfl, .refl _⟩, ⟨_, rfl, .refl _⟩, ⟨_, rfl, .refl _⟩, ⟨_, rfl, .refl _⟩, ⟨_, rfl, .of_eq ?_⟩, trivial⟩
      exact congrArg D.bool (B_false (by simp))
    · refine .sreg ?_
      iterate 2 refine .p rfl rfl rfl trivial ?_
      refine .nil ?_ rfl
      refine .draw mixed (by kernel_rfl) (by kernel_rfl) ?_
      iterate 2 refine .p rfl rfl rfl trivial ?_
      refine .dsplit (fun h => ?_) (fun h => ?_)
      · iterate 10 refine .skip rfl rfl ?_
        iterate 2 refine .p rfl rfl rfl trivial ?_
        refine .nil ⟨trivial, .wk ?_⟩ rfl
        refine ⟨⟨_, rfl, .refl _⟩, ⟨_, rfl, .refl _⟩, ⟨_, rfl, .refl _⟩, ⟨_, rfl, .refl _⟩, ⟨_, rfl, .refl _⟩, ⟨_, rfl, .refl _⟩, ⟨_, rfl, .refl _⟩, ⟨_, rfl, .of_eq ?_⟩, trivial⟩
        exact congrArg D.bool (B_true (exists_succ.2 (.inl h)))
      · iterate 2 refine .p rfl rfl rfl trivial ?_
        refine .ix (k) rfl rfl rfl rfl rfl rfl rfl (by first | rfl | omega) (by first | omega | decide) ?_
        refine .ld _ rfl rfl rfl rfl rfl rfl (t_get hk rfl) ?_
        iterate 2 refine .p rfl rfl rfl trivial ?_
        refine .ix (io) rfl rfl rfl rfl rfl rfl rfl (by first | rfl | omega) (by first | omega | decide) ?_
        iterate 1 refine .p rfl rfl rfl trivial ?_
        refine .ld _ rfl rfl rfl rfl rfl rfl (r_sig hio rfl) ?_
        refine .call (Permits_spec (hs io hio) (by have := ht.2 k hk; omega)) rfl rfl rfl rfl ?_
        iterate 2 refine .p rfl rfl rfl trivial ?_
        refine .nil ⟨trivial, .wk ?_⟩ rfl
        refine ⟨⟨_, rfl, .refl _⟩, ⟨_, rfl, .refl _⟩, ⟨_, rfl, .refl _⟩, ⟨_, rfl, .refl _⟩, ⟨_, rfl, .refl _⟩, ⟨_, rfl, .refl _⟩, ⟨_, rfl, .refl _⟩, ⟨_, rfl, .of_eq ?_⟩, trivial⟩
        exact B_congr ⟨fun h => exists_succ.2 (.inr h), fun h' => (exists_succ.1 h').resolve_left h⟩
    · show W _ _ _ _ _ _ _
      refine .sreg ?_
      iterate 3 refine .p rfl rfl rfl trivial ?_
      refine .ix (io) rfl rfl rfl rfl rfl rfl rfl (by first | rfl | omega) (by first | omega | decide) ?_
      iterate 1 refine .p rfl rfl rfl trivial ?_
      refine .ld _ rfl rfl rfl rfl rfl rfl (r_tr hio rfl) ?_
      iterate 1 refine .p rfl rfl rfl trivial ?_
      have key : ∀ q : Prop, (!(@decide q (Classical.propDecidable q) == (rowAt rows io).2)) = false ↔ (q ↔ (rowAt rows io).2 = true) := by
        intro q
        by_cases hq : q <;> cases (rowAt rows io).2 <;> simp [hq]
      refine .nil (.cond rfl (fun h => ?_) (fun h => .skip ⟨all_succ Cio ((key _).1 h), .wk ?_⟩)) rfl
      · refine .sreg ?_
        iterate 1 refine .p rfl rfl rfl trivial ?_
        refine .nil (.ret ⟨_, rfl, .bool (B_false fun hc => by rw [(key _).2 (hc io hio)] at h; cases h), rfl⟩) rfl
      · repeat (first | exact trivial | refine ⟨⟨_, rfl, .refl _⟩, ?_⟩)
  · refine W.sreg ?_
    iterate 1 refine .p rfl rfl rfl trivial ?_
    refine .nil (.ret ⟨_, rfl, .bool (B_true Cio), rfl⟩) rfl
end Go.Proofs.Ytcnblloiaambaaa
