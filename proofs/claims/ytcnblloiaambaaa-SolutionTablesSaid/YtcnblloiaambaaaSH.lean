import Derived.Test.YtcnblloiaambaaaSG
namespace Go.Proofs.Ytcnblloiaambaaa
open Go.V
set_option maxHeartbeats 4000000

theorem sptr_row (r : Row) : Pure (.sptr (rowCells r) 0) := .sptr (rowCells_pure r)
theorem agg_row (r : Row) : Pure (.agg (rowCells r)) := .agg (rowCells_pure r)
theorem one_pure {d : D} (h : Pure d) : ∀ x ∈ [d], Pure x := by
  intro x hx
  simp only [List.mem_cons, List.not_mem_nil, or_false] at hx
  subst hx; exact h

/- f19: solution.Cover$1 -/
theorem Cover1_spec {t : List Int} {r : Row} (hs : signs r.1) (hl : r.1.length ≤ t.length) (hb : r.1.length ≤ 6) : PureFn Try.prog 19 [eI t, .sptr (rowCells r) 0] (B (perm t r.1)) := by
  refine .of_W (fn := Try.f19) ⟨eI_pure _, sptr_row r, trivial⟩ Try.call19 Try.func19 rfl rfl ?_
  refine .sreg ?_
  iterate 1 refine .p rfl rfl rfl trivial ?_
  refine .nil (.sreg ?_) rfl
  iterate 2 refine .p rfl rfl rfl trivial ?_
  refine .ld _ rfl rfl rfl rfl rfl rfl (rfl) ?_
  refine .call (permits_spec hs hl (by omega)) rfl rfl rfl rfl ?_
  iterate 1 refine .p rfl rfl rfl trivial ?_
  refine .nil (.ret ⟨_, rfl, .bool (rfl), rfl⟩) rfl

/- f37: solution.covers$1$1 -/
theorem covers11_spec {t : List Int} {r : Row} (hs : signs r.1) (hl : r.1.length ≤ t.length) (hb : r.1.length ≤ 6) : PureFn Try.prog 37 [eI t, .sptr (rowCells r) 0] (B (perm t r.1)) := by
  refine .of_W (fn := Try.f37) ⟨eI_pure _, sptr_row r, trivial⟩ Try.call37 Try.func37 rfl rfl ?_
  refine .sreg ?_
  iterate 1 refine .p rfl rfl rfl trivial ?_
  refine .nil (.sreg ?_) rfl
  iterate 2 refine .p rfl rfl rfl trivial ?_
  refine .ld _ rfl rfl rfl rfl rfl rfl (rfl) ?_
  refine .call (permits_spec hs hl (by omega)) rfl rfl rfl rfl ?_
  iterate 1 refine .p rfl rfl rfl trivial ?_
  refine .nil (.ret ⟨_, rfl, .bool (rfl), rfl⟩) rfl

/- f34: solution.widest$1 -/
theorem widest1_spec {t : List Int} {r : Row} (hs : signs r.1) (hl : r.1.length ≤ t.length) (hb : r.1.length ≤ 6) : PureFn Try.prog 34 [.agg (rowCells r), .sptr [eI t] 0] (B (r.2 = false ∧ perm t r.1)) := by
  refine .of_W (fn := Try.f34) ⟨agg_row r, .sptr (one_pure (eI_pure _)), trivial⟩ Try.call34 Try.func34 rfl rfl ?_
  refine .sreg ?_
  refine .box 0 rfl rfl rfl rfl rfl rfl rfl ?_
  iterate 1 refine .p rfl rfl rfl trivial ?_
  refine .nil (.sreg ?_) rfl
  iterate 1 refine .p rfl rfl rfl trivial ?_
  iterate 1 refine .ldl rfl rfl rfl rfl rfl rfl rfl rfl rfl ?_
  iterate 2 refine .p rfl rfl rfl trivial ?_
  refine .split (fun h => ?_) (fun h => ?_)
  · have h1 : r.2 = false := by simpa using h
    refine .ld _ rfl rfl rfl rfl rfl rfl (rfl) ?_
    iterate 1 refine .p rfl rfl rfl trivial ?_
    iterate 1 refine .ldl rfl rfl rfl rfl rfl rfl rfl rfl rfl ?_
    refine .call (permits_spec hs hl (by omega)) rfl rfl rfl rfl ?_
    iterate 2 refine .p rfl rfl rfl trivial ?_
    refine .nil (.ret ⟨_, rfl, .bool (B_iff ⟨fun h2 => ⟨h1, h2⟩, fun h2 => h2.2⟩), rfl⟩) rfl
  · iterate 4 refine .skip rfl rfl ?_
    iterate 2 refine .p rfl rfl rfl trivial ?_
    refine .nil (.ret ⟨_, rfl, .bool (B_false fun h2 => by rw [h2.1] at h; cases h), rfl⟩) rfl

theorem frz_row {H : Hp} {b : Nat} {r : Row} (hb : H[b]? = some (some (.cells (rowCells r)))) : Frz H (.ptr b 0) (.sptr (rowCells r) 0) :=
  .ptr hb (Nat.le_refl _) fun i x y hx hy => by
    rw [hx] at hy; cases hy
    exact .pure (rowCells_pure r x (List.mem_of_getElem? hx)) (.refl _)

/- f36: solution.covers$1 -/
theorem covers1_spec {ts : List (List Int)} {r : Row} (hs : signs r.1) (hl : ∀ i, i < ts.length → r.1.length ≤ (atT ts i).length) (hb : r.1.length ≤ 6) (ht : ts.length ≤ 90) : PureFn Try.prog 36 [.agg (rowCells r), .sptr [eT ts] 0] (B (r.2 = true ∧ ¬ ∃ k, k < ts.length ∧ perm (atT ts k) r.1)) := by
  refine .of_W (fn := Try.f36) ⟨agg_row r, .sptr (one_pure (eT_pure _)), trivial⟩ Try.call36 Try.func36 rfl rfl ?_
  refine .sreg ?_
  refine .box 0 rfl rfl rfl rfl rfl rfl rfl ?_
  iterate 1 refine .p rfl rfl rfl trivial ?_
  refine .nil (.sreg ?_) rfl
  iterate 1 refine .p rfl rfl rfl trivial ?_
  iterate 1 refine .ldl rfl rfl rfl rfl rfl rfl rfl rfl rfl ?_
  iterate 1 refine .p rfl rfl rfl trivial ?_
  refine .split (fun h => ?_) (fun h => ?_)
  · refine .ld _ rfl rfl rfl rfl rfl rfl (rfl) ?_
    iterate 1 refine .p rfl rfl rfl trivial ?_
    refine .callB (ContainsTerm_spec (xs := ts) (fv := .fn 37 [.sptr (rowCells r) 0]) (p := fun k => @decide (perm (atT ts k) r.1) (Classical.propDecidable _)) (.fn (one_pure (sptr_row r))) (.fn fun k hk => covers11_spec hs (hl k hk) hb) (by omega)) rfl (noLoopB_spec rfl) rfl rfl rfl rfl (.cons (.pure (eT_pure _) (.refl _)) (.cons (.fn rfl (FrzL.cons (frz_row rfl) .nil).2) .nil)) ?_
    iterate 3 refine .p rfl rfl rfl trivial ?_
    refine .nil (.ret ⟨_, rfl, .bool (B_not ⟨fun h2 => ⟨h, fun ⟨k, hk, h3⟩ => h2 ⟨k, hk, by simpa using h3⟩⟩, fun h2 ⟨k, hk, h3⟩ => h2.2 ⟨k, hk, by simpa using h3⟩⟩), rfl⟩) rfl
  · iterate 4 refine .skip rfl rfl ?_
    iterate 2 refine .p rfl rfl rfl trivial ?_
    refine .nil (.ret ⟨_, rfl, .bool (B_false fun h2 => by rw [h2.1] at h; cases h), rfl⟩) rfl

/- f25: solution.covers -/
def covT (ts : List (List Int)) (rows : List Row) : Prop := ∀ i, i < rows.length → (rowAt rows i).2 = true → ∃ k, k < ts.length ∧ perm (atT ts k) (rowAt rows i).1

theorem covers_spec {ts : List (List Int)} {rows : List Row} (hf : few rows) (hs : ∀ i, i < rows.length → signs (rowAt rows i).1) (hl : ∀ i, i < rows.length → ∀ k, k < ts.length → (rowAt rows i).1.length ≤ (atT ts k).length) (ht : ts.length ≤ 90) : PureFn Try.prog 25 [eT ts, eR rows] (B (covT ts rows)) := by
  refine .of_W (fn := Try.f25) ⟨eT_pure _, eR_pure _, trivial⟩ Try.call25 Try.func25 rfl rfl ?_
  refine .sreg ?_
  refine .box 0 rfl rfl rfl rfl rfl rfl rfl ?_
  iterate 1 refine .p rfl rfl rfl trivial ?_
  refine .nil (.sreg ?_) rfl
  iterate 2 refine .p rfl rfl rfl trivial ?_
  refine .callB (ContainsRow_spec (xs := rows) (fv := .fn 36 [.sptr [eT ts] 0]) (p := fun i => @decide ((rowAt rows i).2 = true ∧ ¬ ∃ k, k < ts.length ∧ perm (atT ts k) (rowAt rows i).1) (Classical.propDecidable _)) (.fn (one_pure (.sptr (one_pure (eT_pure _))))) (.fn fun i hi => covers1_spec (hs i hi) (hl i hi) (hf.2 i hi) ht) (by have := hf.1; omega)) rfl (noLoopB_spec rfl) rfl rfl rfl rfl (.cons (.pure (eR_pure _) (.refl _)) (.cons (.fn rfl (FrzL.cons (.ptr rfl (Nat.le_refl _) (FrzL.cons (.pure (eT_pure _) (.refl _)) .nil).2) .nil).2) .nil)) ?_
  iterate 2 refine .p rfl rfl rfl trivial ?_
  refine .nil (.ret ⟨_, rfl, .bool (B_not ⟨fun h i hi h1 => ?_, fun h ⟨i, hi, h2⟩ => ?_⟩), rfl⟩) rfl
  · rcases Classical.em (∃ k, k < ts.length ∧ perm (atT ts k) (rowAt rows i).1) with h3 | h3
    · exact h3
    · exact absurd ⟨i, hi, by simpa using ⟨h1, by simpa using h3⟩⟩ h
  · have h3 : (rowAt rows i).2 = true ∧ ¬ ∃ k, k < ts.length ∧ perm (atT ts k) (rowAt rows i).1 := @of_decide_eq_true _ (Classical.propDecidable _) h2
    exact h3.2 (h i hi h3.1)
end Go.Proofs.Ytcnblloiaambaaa
