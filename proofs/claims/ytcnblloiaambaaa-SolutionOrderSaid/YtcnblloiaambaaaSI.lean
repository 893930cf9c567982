import Derived.Test.YtcnblloiaambaaaSH
namespace Go.Proofs.Ytcnblloiaambaaa
open Go.V
set_option maxHeartbeats 4000000

theorem frz_box {H : Hp} {b : Nat} {d d' : D} (hb : H[b]? = some (some (.cells [d]))) (h : Frz H d d') : Frz H (.ptr b 0) (.sptr [d'] 0) :=
  .ptr hb (Nat.le_refl 1) (FrzL.cons h .nil).2

/- f22: solution.widest -/
def wrong (t : List Int) (rows : List Row) : Prop := ∃ i, i < rows.length ∧ (rowAt rows i).2 = false ∧ perm t (rowAt rows i).1
noncomputable def wstep (rows : List Row) (t : List Int) (i : Nat) (s : Int) : List Int :=
  @ite _ (wrong (setT t i (lorI (atI t i) (bitOf s))) rows) (Classical.propDecidable _) (setT (setT t i (lorI (atI t i) (bitOf s))) i (atI t i)) (setT t i (lorI (atI t i) (bitOf s)))
noncomputable def wsteps (rows : List Row) (t : List Int) (i : Nat) : Nat → List Int
  | 0 => t
  | e + 1 => wstep rows (wsteps rows t i e) i ((e : Int) - 1)
noncomputable def wid (rows : List Row) (t : List Int) : Nat → List Int
  | 0 => t
  | i + 1 => wsteps rows (wid rows t i) i 3

theorem wstep_length (rows : List Row) (t : List Int) (i : Nat) (s : Int) : (wstep rows t i s).length = t.length := by
  unfold wstep; split <;> simp [setT]
theorem wsteps_length (rows : List Row) (t : List Int) (i : Nat) : ∀ e, (wsteps rows t i e).length = t.length
  | 0 => rfl
  | e + 1 => by rw [wsteps, wstep_length, wsteps_length rows t i e]
theorem wid_length (rows : List Row) (t : List Int) : ∀ e, (wid rows t e).length = t.length
  | 0 => rfl
  | e + 1 => by rw [wid, wsteps_length, wid_length rows t e]

def half (s : List Int) (i : Nat) : List Int := (s.take i).map bitOf ++ List.replicate (s.length - i) 0
theorem half_length {s : List Int} {i : Nat} (h : i ≤ s.length) : (half s i).length = s.length := by simp [half]; omega
theorem half_succ {s : List Int} {i : Nat} (h : i < s.length) : (half s i).set i (bitOf (atI s i)) = half s (i + 1) := by
  have e : (s.take i).length = i := by simp; omega
  have e2 : s.length - i = (s.length - (i + 1)) + 1 := by omega
  rw [half, half, List.set_append_right _ _ (by simp; omega), List.length_map, e, Nat.sub_self, e2, List.replicate_succ, List.set_cons_zero, List.take_add_one, List.map_append]
  simp [h, atI]

theorem widest_spec {s : List Int} {rows : List Row} (hf : few rows) (hs : signs s) (h6 : s.length ≤ 6) (hr : ∀ i, i < rows.length → signs (rowAt rows i).1 ∧ (rowAt rows i).1.length = s.length) : PureFn Try.prog 22 [eI s, eR rows] (eI (wid rows (s.map bitOf) s.length)) := by
  refine .of_W (fn := Try.f22) ⟨eI_pure _, eR_pure _, trivial⟩ Try.call22 Try.func22 rfl rfl ?_
  refine .sreg ?_
  iterate 1 refine .p rfl rfl rfl trivial ?_
  refine .nil (.sreg ?_) rfl
  iterate 2 refine .p rfl rfl rfl trivial ?_
  refine .make 0 s.length 1 8 ((half s 0).map I) rfl rfl rfl rfl rfl rfl rfl rfl rfl rfl (by omega) (by first | rfl | omega) (by omega) (by omega) ?_ rfl ?_
  · rw [show (half s 0) = List.replicate s.length 0 by simp [half]]
    exact rep_ints _ _ _
  refine .alloc 1 rfl rfl rfl rfl rfl rfl rfl ?_
  iterate 1 refine .store rfl rfl rfl rfl rfl rfl rfl rfl rfl rfl ?_
  refine .nil (.seq (.sreg ?_)) rfl
  iterate 3 refine .p rfl rfl rfl trivial ?_
  refine .nil ?_ rfl
  refine .range (s.length) (fun i => [(1, eR rows), (15, eI s), (5, .ptr 1 0)]) (fun i => [some (.cells ((half s i).map I)), some (.cells [.live 0 0 s.length s.length 1])]) (fun i => True) rfl rfl rfl rfl rfl rfl rfl rfl rfl rfl ((by omega)) (by first | exact trivial | (intro j hj; exact absurd hj (Nat.not_lt_zero j))) (.wk ?_) (fun _ => rfl) (fun i hi Ci => ?_) (fun Ci => ?_)
  · repeat (first | exact trivial | refine ⟨⟨_, rfl, .refl _⟩, ?_⟩)
  · refine .sreg ?_
    iterate 1 refine .p rfl rfl rfl trivial ?_
    refine .ix (i) rfl rfl rfl rfl rfl rfl rfl (by first | rfl | omega) (by first | omega | decide) ?_
    refine .ld _ rfl rfl rfl rfl rfl rfl (i_get hi rfl) ?_
    iterate 2 refine .p rfl rfl rfl trivial ?_
    refine .nil ?_ rfl
    refine .draw mixed (by kernel_rfl) (by kernel_rfl) ?_
    iterate 1 refine .ldl rfl rfl rfl rfl rfl rfl rfl rfl rfl ?_
    iterate 2 refine .p rfl rfl rfl trivial ?_
    refine .call (bit_spec (hs i hi)) rfl rfl rfl rfl ?_
    refine .ixl (i) (i) rfl rfl rfl rfl rfl rfl rfl (by first | rfl | omega) (by omega) (show 0 + i * 1 = i by omega) ?_
    refine .store rfl rfl rfl rfl rfl rfl rfl rfl (over1 (v := bitOf (atI s i)) rfl (by rw [half_length (by omega)]; exact hi)) rfl ?_
    refine .nil ⟨trivial, .heap ?_ (by rw [half_succ hi])⟩ rfl
    repeat (first | exact trivial | refine ⟨⟨_, rfl, .refl _⟩, ?_⟩)
  · show W _ _ _ _ _ _ _
    have h0 : half s s.length = s.map bitOf := by simp [half]
    rw [h0]
    refine .sreg ?_
    iterate 2 refine .p rfl rfl rfl trivial ?_
    refine .nil (.seq (.sreg ?_)) rfl
    iterate 1 refine .ldl rfl rfl rfl rfl rfl rfl rfl rfl rfl ?_
    iterate 2 refine .p rfl rfl rfl trivial ?_
    refine .nil ?_ rfl
    have hT : ∀ i, (wid rows (s.map bitOf) i).length = s.length := fun i => by rw [wid_length]; simp
    refine .range (s.length) (fun i => [(8, .fn 34 [.ptr 1 0]), (5, .ptr 1 0), (1, eR rows)]) (fun i => [some (.cells ((wid rows (s.map bitOf) i).map I)), some (.cells [.live 0 0 s.length s.length 1])]) (fun i => True) rfl rfl rfl rfl rfl rfl rfl rfl rfl rfl ((by omega)) (by first | exact trivial | (intro j hj; exact absurd hj (Nat.not_lt_zero j))) (.wk ?_) (fun _ => rfl) (fun i hi Ci => ?_) (fun Ci => ?_)
    · repeat (first | exact trivial | refine ⟨⟨_, rfl, .refl _⟩, ?_⟩)
    · refine .sreg ?_
      iterate 2 refine .p rfl rfl rfl trivial ?_
      refine .nil (.sreg ?_) rfl
      iterate 1 refine .p rfl rfl rfl trivial ?_
      refine .nil ?_ rfl
      have hE : ∀ e, (wsteps rows (wid rows (s.map bitOf) i) i e).length = s.length := fun e => by rw [wsteps_length]; exact hT i
      refine .block (.loopT (fun e => e ≤ 3) (fun e => 3 - e) (fun e => [(10, I ((e : Int) - 1)), (8, .fn 34 [.ptr 1 0]), (5, .ptr 1 0), (1, eR rows), (9, I i), (31, I i), (30, I s.length)]) (fun e => [some (.cells ((wsteps rows (wid rows (s.map bitOf) i) i e).map I)), some (.cells [.live 0 0 s.length s.length 1])]) 0 (by omega) (.wk ?_) ?_)
      · repeat (first | exact trivial | refine ⟨⟨_, rfl, .refl _⟩, ?_⟩)
      intro e he3
      refine .seq (.sreg ?_)
      iterate 2 refine .p rfl rfl rfl trivial ?_
      refine .nil (.cond_dec rfl (fun h => .skip (.midP True [(10, I ((e : Int) - 1)), (8, .fn 34 [.ptr 1 0]), (5, .ptr 1 0), (1, eR rows), (9, I i), (31, I i), (30, I s.length)] [some (.cells ((wsteps rows (wid rows (s.map bitOf) i) i (e + 1)).map I)), some (.cells [.live 0 0 s.length s.length 1])] (.block ?_) ?_)) (fun h => .exit ?_)) rfl
      rotate_left 2
      · have : e = 3 := by omega
        subst this
        refine ⟨trivial, .wk ?_⟩
        repeat (first | exact trivial | refine ⟨⟨_, rfl, .refl _⟩, ?_⟩)
      rotate_left
      · intro _
        have he : e < 3 := by omega
        refine W.reg ?_
        iterate 1 refine .p rfl rfl rfl trivial ?_
        refine .pe (I (((e + 1 : Nat) : Int) - 1)) rfl rfl rfl trivial (by rw [wrap64] <;> first | omega | rfl | exact congrArg (D.int .i64) (by omega)) ?_
        iterate 1 refine .p rfl rfl rfl trivial ?_
        refine .nil ⟨e + 1, (by show 3 - (e + 1) < 3 - e; omega), (by omega), .wk ?_⟩ rfl
        repeat (first | exact trivial | refine ⟨⟨_, rfl, .refl _⟩, ?_⟩)
      have he : e < 3 := by omega
      have hsg : sign ((e : Int) - 1) := ⟨by omega, by omega⟩
      have hi' : i < (wsteps rows (wid rows (s.map bitOf) i) i e).length := by rw [hE]; exact hi
      refine .sreg ?_
      iterate 1 refine .ldl rfl rfl rfl rfl rfl rfl rfl rfl rfl ?_
      iterate 1 refine .p rfl rfl rfl trivial ?_
      refine .ixl (i) (i) rfl rfl rfl rfl rfl rfl rfl (by first | rfl | omega) (by omega) (show 0 + i * 1 = i by omega) ?_
      refine .ldl rfl rfl rfl rfl rfl rfl rfl rfl (i_get hi' (by omega)) ?_
      iterate 1 refine .p rfl rfl rfl trivial ?_
      refine .nil ?_ rfl
      refine .sdraw mixed (by kernel_rfl) (by kernel_rfl) ?_
      iterate 1 refine .ldl rfl rfl rfl rfl rfl rfl rfl rfl rfl ?_
      iterate 1 refine .p rfl rfl rfl trivial ?_
      refine .ixl (i) (i) rfl rfl rfl rfl rfl rfl rfl (by first | rfl | omega) (by omega) (show 0 + i * 1 = i by omega) ?_
      refine .ldl rfl rfl rfl rfl rfl rfl rfl rfl (i_get hi' (by omega)) ?_
      iterate 1 refine .p rfl rfl rfl trivial ?_
      refine .call (bit_spec hsg) rfl rfl rfl rfl ?_
      iterate 1 refine .p rfl rfl rfl trivial ?_
      refine .ixl (i) (i) rfl rfl rfl rfl rfl rfl rfl (by first | rfl | omega) (by omega) (show 0 + i * 1 = i by omega) ?_
      refine .store rfl rfl rfl rfl rfl rfl rfl rfl (over1 (v := lorI (atI (wsteps rows (wid rows (s.map bitOf) i) i e) i) (bitOf ((e : Int) - 1))) rfl hi') rfl ?_
      refine .nil (.sreg ?_) rfl
      iterate 2 refine .p rfl rfl rfl trivial ?_
      have hl' : (setT (wsteps rows (wid rows (s.map bitOf) i) i e) i (lorI (atI (wsteps rows (wid rows (s.map bitOf) i) i e) i) (bitOf ((e : Int) - 1)))).length = s.length := by simp only [setT, List.length_set]; exact hE e
      refine .callB (ContainsRow_spec (xs := rows) (fv := .fn 34 [.sptr [eI (setT (wsteps rows (wid rows (s.map bitOf) i) i e) i (lorI (atI (wsteps rows (wid rows (s.map bitOf) i) i e) i) (bitOf ((e : Int) - 1))))] 0]) (p := fun j => @decide ((rowAt rows j).2 = false ∧ perm (setT (wsteps rows (wid rows (s.map bitOf) i) i e) i (lorI (atI (wsteps rows (wid rows (s.map bitOf) i) i e) i) (bitOf ((e : Int) - 1)))) (rowAt rows j).1) (Classical.propDecidable _)) (.fn (one_pure (.sptr (one_pure (eI_pure _))))) (.fn fun j hj => widest1_spec (hr j hj).1 (by rw [hl']; exact Nat.le_of_eq (hr j hj).2) (hf.2 j hj)) (by have := hf.1; omega)) rfl (noLoopB_spec rfl) rfl rfl rfl rfl (.cons (.pure (eR_pure _) (.refl _)) (.cons (.fn rfl (FrzL.cons (frz_box rfl (frz_encI rfl hl'.symm)) .nil).2) .nil)) ?_
      have hw : (∃ j, j < rows.length ∧ @decide ((rowAt rows j).2 = false ∧ perm (setT (wsteps rows (wid rows (s.map bitOf) i) i e) i (lorI (atI (wsteps rows (wid rows (s.map bitOf) i) i e) i) (bitOf ((e : Int) - 1)))) (rowAt rows j).1) (Classical.propDecidable _) = true) ↔ wrong (setT (wsteps rows (wid rows (s.map bitOf) i) i e) i (lorI (atI (wsteps rows (wid rows (s.map bitOf) i) i e) i) (bitOf ((e : Int) - 1)))) rows :=
        ⟨fun ⟨j, hj, h⟩ => ⟨j, hj, @of_decide_eq_true _ (Classical.propDecidable _) h⟩, fun ⟨j, hj, h⟩ => ⟨j, hj, @decide_eq_true _ (Classical.propDecidable _) h⟩⟩
      refine .nil (.cond_dec rfl (fun h1 => ?_) (fun h1 => .skip ⟨trivial, .heap ?_ ?_⟩)) rfl
      · refine W.reg ?_
        iterate 1 refine .ldl rfl rfl rfl rfl rfl rfl rfl rfl rfl ?_
        iterate 2 refine .p rfl rfl rfl trivial ?_
        refine .ixl (i) (i) rfl rfl rfl rfl rfl rfl rfl (by first | rfl | omega) (by omega) (show 0 + i * 1 = i by omega) ?_
        refine .store rfl rfl rfl rfl rfl rfl rfl rfl (over1 (v := atI (wsteps rows (wid rows (s.map bitOf) i) i e) i) rfl (by rw [List.length_set]; exact hi')) rfl ?_
        refine .nil ⟨trivial, .heap ?_ ?_⟩ rfl
        · repeat (first | exact trivial | refine ⟨⟨_, rfl, .refl _⟩, ?_⟩)
        · rw [wsteps, wstep, if_pos (hw.1 h1)]; rfl
      · repeat (first | exact trivial | refine ⟨⟨_, rfl, .refl _⟩, ?_⟩)
      · rw [wsteps, wstep, if_neg (fun h2 => h1 (hw.2 h2))]; rfl
    · show W _ _ _ _ _ _ _
      refine .sreg ?_
      iterate 1 refine .ldl rfl rfl rfl rfl rfl rfl rfl rfl rfl ?_
      iterate 1 refine .p rfl rfl rfl trivial ?_
      refine .nil (.ret ⟨_, rfl, ?_, rfl⟩) rfl
      exact frz_encI rfl (hT s.length).symm
end Go.Proofs.Ytcnblloiaambaaa
