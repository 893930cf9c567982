import Derived.Test.YtcnblloiaambaaaSM
namespace Go.Proofs.Ytcnblloiaambaaa
open Go.V
set_option maxHeartbeats 4000000

theorem Wk.snapL {cs cs' : List D} {n : Nat} {t : Bool} (h : WkL cs cs') : Wk (.snap cs n t) (.snap cs' n false) :=
  .snap (Nat.le_of_eq h.1) (fun h => by cases h) h.2

/- f8: awake -/
def R0 : List Row := [([0], true), ([1], false), ([-1], false)]

theorem three {i : Nat} (h : i < R0.length) : i = 0 ∨ i = 1 ∨ i = 2 := by
  have : R0.length = 3 := rfl
  omega

theorem one_sign {x : Int} (h : sign x) : signs [x] := by
  intro i hi
  have : i = 0 := by simp at hi; exact hi
  subst this; exact h

theorem few0 : few R0 := ⟨by decide, fun i hi => by rcases three hi with rfl | rfl | rfl <;> decide⟩
theorem valid0 : valid 1 R0 := ⟨by decide, fun i hi => by
  rcases three hi with rfl | rfl | rfl
  · exact ⟨rfl, one_sign ⟨by decide, by decide⟩⟩
  · exact ⟨rfl, one_sign ⟨by decide, by decide⟩⟩
  · exact ⟨rfl, one_sign ⟨by decide, by decide⟩⟩⟩
theorem sep0 : sep R0 := fun i hi k hk h => by
  have h1 := h.2
  have h2 := three (i := k) (by omega)
  rcases three hi with rfl | rfl | rfl <;> rcases h2 with rfl | rfl | rfl <;> first | omega | (revert h1; decide)
theorem rows0 : Rows 1 R0 := ⟨fun i hi => by have := (valid0.2 i hi).1; omega, fun i hi => (valid0.2 i hi).2, sep0⟩

theorem cover0 : cover R0 = [[2]] := by
  obtain ⟨a, b, c, d⟩ := cover_spec rows0
  have hn := cover_needed rows0
  have hc := cover_covs rows0
  have first : ∀ i, i < (cover R0).length → alone (cover R0) R0 i 0 (cover R0).length := by
    intro i hi
    obtain ⟨k, hk, h⟩ := hn i hi
    rcases three hk with rfl | rfl | rfl
    · exact h
    · exact absurd h.1.1 (by decide)
    · exact absurd h.1.1 (by decide)
  obtain ⟨k, hk, hp⟩ := (hc 0 (by decide)).2 rfl
  have hk0 : ∀ j, j < (cover R0).length → j = k := by
    intro j hj
    rcases (first j hj).2 k hk with h | h
    · exact h.symm
    · exact absurd hp h
  have hlen : (cover R0).length = 1 := by
    have h0 := hk0 0 (by omega)
    rcases Nat.lt_or_ge 1 (cover R0).length with h1 | h1
    · have := hk0 1 h1; omega
    · omega
  obtain ⟨t, ht⟩ := List.length_eq_one_iff.1 hlen
  have htm : Term 1 R0 t := a t (by rw [ht]; simp)
  have hkk : k = 0 := by omega
  subst hkk
  rw [ht] at hp hc
  have l1 := htm.fit.len
  obtain ⟨v, rfl⟩ := List.length_eq_one_iff.1 l1
  have hr := htm.fit.rng 0 (by omega)
  have e : atI [v] 0 = v := rfl
  rw [e] at hr
  have e2 : atT [[v]] 0 = [v] := rfl
  rw [e2] at hp
  have p0 : landI v 2 ≠ 0 := by
    have h := hp.2 0 (by decide)
    rw [e, show bitOf (atI (rowAt R0 0).1 0) = 2 from rfl] at h
    exact h
  have no : ∀ (i : Nat) (x : Int), i < R0.length → rowAt R0 i = ([x], false) → landI v (bitOf x) = 0 := by
    intro i x hi he
    rcases Classical.em (landI v (bitOf x) = 0) with h | h
    · exact h
    · have := (hc i hi).1 ⟨0, by simp, ?_⟩
      · rw [he] at this; cases this
      · rw [he]
        rw [e2]
        refine ⟨rfl, fun j hj => ?_⟩
        have : j = 0 := by simp at hj; exact hj
        subst this
        rw [e, show atI [x] 0 = x from rfl]
        exact h
  have p1 := no 1 1 (by decide) rfl
  have p2 := no 2 (-1) (by decide) rfl
  rw [show bitOf 1 = 4 from rfl] at p1
  rw [show bitOf (-1) = 1 from rfl] at p2
  have : v = 1 ∨ v = 2 ∨ v = 3 ∨ v = 4 ∨ v = 5 ∨ v = 6 ∨ v = 7 := by omega
  rw [ht]
  rcases this with rfl | rfl | rfl | rfl | rfl | rfl | rfl
  · exact absurd p2 (by decide +kernel)
  · rfl
  · exact absurd p2 (by decide +kernel)
  · exact absurd p1 (by decide +kernel)
  · exact absurd p1 (by decide +kernel)
  · exact absurd p1 (by decide +kernel)
  · exact absurd p1 (by decide +kernel)

theorem awake_spec : PureFn Try.prog 8 [] (.bool true) := by
  have hC := Cover_spec (n := 1) few0
  rw [show coverL 1 R0 = [[2]] by rw [coverL, if_pos ⟨valid0, sep0⟩, cover0], err_ok valid0 sep0] at hC
  refine .of_W (fn := Try.f8) trivial Try.call8 Try.func8 rfl rfl ?_
  refine .sreg ?_
  iterate 1 refine .p rfl rfl rfl trivial ?_
  refine .nil (.sreg ?_) rfl
  iterate 7 refine .p rfl rfl rfl trivial ?_
  refine .call (hC.args (.cons (.refl _) (.cons (Wk.snapL (.cons .tight (.cons (.refl _) (.cons .tight (.cons (.refl _) (.cons .tight (.cons (.refl _) .nil))))))) .nil))) rfl rfl rfl rfl ?_
  iterate 5 refine .p rfl rfl rfl trivial ?_
  refine .nil (.sreg ?_) rfl
  iterate 9 refine .p rfl rfl rfl trivial ?_
  refine .ix (0) rfl rfl rfl rfl rfl rfl rfl (by first | rfl | omega) (by first | omega | decide) ?_
  refine .ld _ rfl rfl rfl rfl rfl rfl (rfl) ?_
  iterate 5 refine .p rfl rfl rfl trivial ?_
  refine .ix (0) rfl rfl rfl rfl rfl rfl rfl (by first | rfl | omega) (by first | omega | decide) ?_
  refine .ld _ rfl rfl rfl rfl rfl rfl (rfl) ?_
  refine .ix (0) rfl rfl rfl rfl rfl rfl rfl (by first | rfl | omega) (by first | omega | decide) ?_
  refine .ld _ rfl rfl rfl rfl rfl rfl (rfl) ?_
  iterate 3 refine .p rfl rfl rfl trivial ?_
  exact .nil (.ret ⟨_, rfl, .bool rfl, rfl⟩) rfl

theorem B_of {p : Prop} {i : Decidable p} (h : p) : decide p = true := decide_eq_true h

theorem coverL_none {n : Int} {rows : List Row} (h : err n rows ≠ 0) : coverL n rows = [] := by
  rw [coverL]
  split
  · rename_i hc
    exact absurd (err_ok hc.1 hc.2) h
  · rfl
theorem err_zero {n : Int} {rows : List Row} (h : err n rows = 0) : valid n rows ∧ sep rows := by
  unfold err at h
  split at h
  · split at h
    · exact ⟨by assumption, by assumption⟩
    · cases h
  · cases h

/- f3: SolutionCovers -/
theorem SolutionCovers_spec (n : Int) (rows : List Row) : PureFn Try.prog 3 [I n, eR rows] (.bool true) := by
  refine .of_W (fn := Try.f3) ⟨.int _ _, eR_pure _, trivial⟩ Try.call3 Try.func3 rfl rfl ?_
  refine .sreg ?_
  iterate 1 refine .p rfl rfl rfl trivial ?_
  refine .nil (.seq (.sreg ?_)) rfl
  refine .call (awake_spec) rfl rfl rfl rfl ?_
  iterate 3 refine .p rfl rfl rfl trivial ?_
  refine .call (Few_spec rows) rfl rfl rfl rfl ?_
  iterate 3 refine .p rfl rfl rfl trivial ?_
  refine .split (fun h => ?_) (fun h => ?_)
  · iterate 2 refine .skip rfl rfl ?_
    iterate 1 refine .p rfl rfl rfl trivial ?_
    refine .nil (.condT rfl ?_) rfl
    refine .sreg ?_
    refine .call (awake_spec) rfl rfl rfl rfl ?_
    iterate 1 refine .p rfl rfl rfl trivial ?_
    refine .nil (.ret ⟨_, rfl, .bool (rfl), rfl⟩) rfl
  have hf : few rows := by simpa using h
  iterate 3 refine .p rfl rfl rfl trivial ?_
  refine .nil (.cond_dec rfl (fun h => ?_) (fun h => .skip ?_)) rfl
  · refine .sreg ?_
    refine .call (awake_spec) rfl rfl rfl rfl ?_
    iterate 1 refine .p rfl rfl rfl trivial ?_
    refine .nil (.ret ⟨_, rfl, .bool (rfl), rfl⟩) rfl
  refine .sreg ?_
  iterate 2 refine .p rfl rfl rfl trivial ?_
  refine .call (Cover_spec hf) rfl rfl rfl rfl ?_
  iterate 5 refine .p rfl rfl rfl trivial ?_
  refine .nil (.sreg ?_) rfl
  iterate 2 refine .p rfl rfl rfl trivial ?_
  refine .call (Error_spec hf) rfl rfl rfl rfl ?_
  iterate 1 refine .p rfl rfl rfl trivial ?_
  refine .nil (.seq (.sreg ?_)) rfl
  iterate 2 refine .p rfl rfl rfl trivial ?_
  refine .nil (.cond_ndec rfl (fun h0 => ?_) (fun h0 => .skip ?_)) rfl
  · refine .sreg ?_
    iterate 4 refine .p rfl rfl rfl trivial ?_
    refine .dsplit (fun h1 => ?_) (fun h1 => absurd rfl h1)
    iterate 5 refine .p rfl rfl rfl trivial ?_
    refine .nil (.ret ⟨_, rfl, .bool (B_of (by rw [coverL_none h0]; rfl)), rfl⟩) rfl
  obtain ⟨hv, hp⟩ := err_zero h0
  obtain ⟨m, rfl, hR⟩ := Rows.of hv hp
  have hL : coverL (m : Int) rows = cover rows := by rw [coverL, if_pos ⟨hv, hp⟩]
  rw [hL]
  have hsm := cover_small hR hf (by omega)
  refine .sreg ?_
  iterate 3 refine .p rfl rfl rfl trivial ?_
  refine .dsplit (fun h1 => ?_) (fun h1 => absurd h0 h1)
  iterate 2 refine .p rfl rfl rfl trivial ?_
  refine .call (Sets_spec hsm) rfl rfl rfl rfl ?_
  iterate 2 refine .p rfl rfl rfl trivial ?_
  refine .dsplit (fun h1 => ?_) (fun h1 => absurd (cover_sets hR) h1)
  iterate 2 refine .p rfl rfl rfl trivial ?_
  refine .call (Covers_spec hf hR.sg hsm) rfl rfl rfl rfl ?_
  iterate 2 refine .p rfl rfl rfl trivial ?_
  refine .nil (.ret ⟨_, rfl, .bool (B_of (cover_covs hR)), rfl⟩) rfl

/- f4: SolutionPrime -/
theorem SolutionPrime_spec (n : Int) (rows : List Row) : PureFn Try.prog 4 [I n, eR rows] (.bool true) := by
  refine .of_W (fn := Try.f4) ⟨.int _ _, eR_pure _, trivial⟩ Try.call4 Try.func4 rfl rfl ?_
  refine .sreg ?_
  iterate 1 refine .p rfl rfl rfl trivial ?_
  refine .nil (.seq (.sreg ?_)) rfl
  refine .call (awake_spec) rfl rfl rfl rfl ?_
  iterate 3 refine .p rfl rfl rfl trivial ?_
  refine .call (Few_spec rows) rfl rfl rfl rfl ?_
  iterate 3 refine .p rfl rfl rfl trivial ?_
  refine .split (fun h => ?_) (fun h => ?_)
  · iterate 2 refine .skip rfl rfl ?_
    iterate 1 refine .p rfl rfl rfl trivial ?_
    refine .nil (.condT rfl ?_) rfl
    refine .sreg ?_
    refine .call (awake_spec) rfl rfl rfl rfl ?_
    iterate 1 refine .p rfl rfl rfl trivial ?_
    refine .nil (.ret ⟨_, rfl, .bool (rfl), rfl⟩) rfl
  have hf : few rows := by simpa using h
  iterate 3 refine .p rfl rfl rfl trivial ?_
  refine .nil (.cond_dec rfl (fun h => ?_) (fun h => .skip ?_)) rfl
  · refine .sreg ?_
    refine .call (awake_spec) rfl rfl rfl rfl ?_
    iterate 1 refine .p rfl rfl rfl trivial ?_
    refine .nil (.ret ⟨_, rfl, .bool (rfl), rfl⟩) rfl
  refine .sreg ?_
  iterate 2 refine .p rfl rfl rfl trivial ?_
  refine .call (Cover_spec hf) rfl rfl rfl rfl ?_
  iterate 5 refine .p rfl rfl rfl trivial ?_
  refine .nil (.sreg ?_) rfl
  iterate 3 refine .p rfl rfl rfl trivial ?_
  refine .split (fun h0 => ?_) (fun h0 => ?_)
  · iterate 13 refine .skip rfl rfl ?_
    iterate 2 refine .p rfl rfl rfl trivial ?_
    refine .nil (.ret ⟨_, rfl, .bool (rfl), rfl⟩) rfl
  have h0 : err n rows = 0 := by simpa using h0
  obtain ⟨hv, hp⟩ := err_zero h0
  obtain ⟨m, rfl, hR⟩ := Rows.of hv hp
  have hL : coverL (m : Int) rows = cover rows := by rw [coverL, if_pos ⟨hv, hp⟩]
  rw [hL]
  have hsm := cover_small hR hf (by omega)
  iterate 2 refine .p rfl rfl rfl trivial ?_
  refine .call (Sets_spec hsm) rfl rfl rfl rfl ?_
  iterate 1 refine .p rfl rfl rfl trivial ?_
  refine .dsplit (fun h1 => ?_) (fun h1 => absurd (cover_sets hR) h1)
  iterate 2 refine .p rfl rfl rfl trivial ?_
  refine .call (Prime_spec hf hR.sg hsm) rfl rfl rfl rfl ?_
  iterate 2 refine .p rfl rfl rfl trivial ?_
  refine .dsplit (fun h1 => ?_) (fun h1 => absurd (cover_prime hR) h1)
  iterate 2 refine .p rfl rfl rfl trivial ?_
  refine .call (Needed_spec hf hR.sg hsm) rfl rfl rfl rfl ?_
  iterate 3 refine .p rfl rfl rfl trivial ?_
  refine .nil (.ret ⟨_, rfl, .bool (B_of (cover_needed hR)), rfl⟩) rfl

/- f5: SolutionSeparated -/
theorem SolutionSeparated_spec (rows : List Row) : PureFn Try.prog 5 [eR rows] (.bool true) := by
  refine .of_W (fn := Try.f5) ⟨eR_pure _, trivial⟩ Try.call5 Try.func5 rfl rfl ?_
  refine .sreg ?_
  iterate 1 refine .p rfl rfl rfl trivial ?_
  refine .nil (.seq (.sreg ?_)) rfl
  refine .call (awake_spec) rfl rfl rfl rfl ?_
  iterate 3 refine .p rfl rfl rfl trivial ?_
  refine .call (Few_spec rows) rfl rfl rfl rfl ?_
  iterate 2 refine .p rfl rfl rfl trivial ?_
  refine .nil (.cond rfl (fun h => ?_) (fun h => .skip ?_)) rfl
  · refine .sreg ?_
    refine .call (awake_spec) rfl rfl rfl rfl ?_
    iterate 1 refine .p rfl rfl rfl trivial ?_
    refine .nil (.ret ⟨_, rfl, .bool (rfl), rfl⟩) rfl
  have hf : few rows := by simpa using h
  refine .sreg ?_
  iterate 1 refine .p rfl rfl rfl trivial ?_
  refine .call (Separated_spec hf) rfl rfl rfl rfl ?_
  iterate 1 refine .p rfl rfl rfl trivial ?_
  refine .call (refSep_spec hf) rfl rfl rfl rfl ?_
  iterate 2 refine .p rfl rfl rfl trivial ?_
  refine .nil (.ret ⟨_, rfl, .bool (by simp), rfl⟩) rfl
end Go.Proofs.Ytcnblloiaambaaa
