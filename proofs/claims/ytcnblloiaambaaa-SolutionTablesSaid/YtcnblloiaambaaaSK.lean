import Derived.Test.YtcnblloiaambaaaSJ
namespace Go.Proofs.Ytcnblloiaambaaa
open Go.V
set_option maxHeartbeats 4000000

/- f10: solution.Cover -/
noncomputable def cov1 (rows : List Row) : Nat → List (List Int)
  | 0 => []
  | i + 1 => @ite _ ((rowAt rows i).2 = true ∧ ¬ ∃ k, k < (cov1 rows i).length ∧ perm (atT (cov1 rows i) k) (rowAt rows i).1) (Classical.propDecidable _)
      (cov1 rows i ++ [wid rows ((rowAt rows i).1.map bitOf) (rowAt rows i).1.length]) (cov1 rows i)

theorem cov1_length (rows : List Row) : ∀ i, (cov1 rows i).length ≤ i
  | 0 => Nat.le_refl _
  | i + 1 => by
    have := cov1_length rows i
    rw [cov1]
    split
    · simp; omega
    · omega

theorem cov1_size {rows : List Row} {n : Nat} (h : ∀ i, i < rows.length → (rowAt rows i).1.length = n) : ∀ i, i ≤ rows.length → ∀ k, k < (cov1 rows i).length → (atT (cov1 rows i) k).length = n
  | 0, _, k, hk => by simp [cov1] at hk
  | i + 1, hi, k, hk => by
    have ih := cov1_size h i (by omega)
    rw [cov1] at hk ⊢
    split at hk
    · rename_i hc
      rw [if_pos hc]
      by_cases h1 : k < (cov1 rows i).length
      · have : atT (cov1 rows i ++ [wid rows ((rowAt rows i).1.map bitOf) (rowAt rows i).1.length]) k = atT (cov1 rows i) k := by simp [atT, List.getElem?_append_left h1]
        rw [this]; exact ih k h1
      · have h2 : k = (cov1 rows i).length := by simp at hk; omega
        subst h2
        have : atT (cov1 rows i ++ [wid rows ((rowAt rows i).1.map bitOf) (rowAt rows i).1.length]) (cov1 rows i).length = wid rows ((rowAt rows i).1.map bitOf) (rowAt rows i).1.length := by simp [atT]
        rw [this, wid_length]
        simpa using h i (by omega)
    · rename_i hc
      rw [if_neg hc]
      exact ih k hk

noncomputable def prune (rows : List Row) : Nat → List (List Int) → Nat → List (List Int)
  | 0, ts, _ => ts
  | f + 1, ts, i => @ite _ (covT (ts.eraseIdx i) rows) (Classical.propDecidable _) (prune rows f (ts.eraseIdx i) i) (prune rows f ts (i + 1))

noncomputable def cover (rows : List Row) : List (List Int) := prune rows (cov1 rows rows.length).length (cov1 rows rows.length) 0
noncomputable def coverL (n : Int) (rows : List Row) : List (List Int) := @ite _ (valid n rows ∧ sep rows) (Classical.propDecidable _) (cover rows) []

/-- The list of terms as it grows: nil, then a live row. -/
def tacD (ts : List (List Int)) : D := match ts with
  | [] => .snil
  | t :: r => .live 0 0 (t :: r).length (t :: r).length 1
def tacH (ts : List (List Int)) : Hp := match ts with
  | [] => []
  | t :: r => [some (.cells ((t :: r).map eI))]

theorem frz_acc {ts : List (List Int)} : Frz (tacH ts) (tacD ts) (eT ts) := by
  cases ts with
  | nil => exact .pure .snil (.snil _)
  | cons t r => exact frz_map rfl (fun _ _ => eI_pure _) rfl

theorem erase_at {ts : List (List Int)} {n i : Nat} (h : ∀ k, k < ts.length → (atT ts k).length = n) : ∀ k, k < (ts.eraseIdx i).length → (atT (ts.eraseIdx i) k).length = n := by
  intro k hk
  have hm : (ts.eraseIdx i)[k] ∈ ts := List.mem_of_mem_eraseIdx (List.getElem_mem hk)
  obtain ⟨j, hj, e⟩ := List.getElem_of_mem hm
  have : atT (ts.eraseIdx i) k = (ts.eraseIdx i)[k] := by simp [atT, hk]
  rw [this, ← e]
  have h2 := h j hj
  simpa [atT, hj] using h2

theorem Cover_spec {n : Int} {rows : List Row} (hf : few rows) : PureFn Try.prog 10 [I n, eR rows] (.tup [eT (coverL n rows), I (err n rows)]) := by
  refine .of_W (fn := Try.f10) ⟨.int _ _, eR_pure _, trivial⟩ Try.call10 Try.func10 rfl rfl ?_
  refine .sreg ?_
  iterate 2 refine .p rfl rfl rfl trivial ?_
  refine .nil (.seq (.sreg ?_)) rfl
  iterate 2 refine .p rfl rfl rfl trivial ?_
  refine .call (valid_spec hf) rfl rfl rfl rfl ?_
  iterate 1 refine .p rfl rfl rfl trivial ?_
  refine .nil (.cond_ndec rfl (fun h => ?_) (fun hv => .skip ?_)) rfl
  · refine .sreg ?_
    iterate 2 refine .p rfl rfl rfl trivial ?_
    refine .nil (.ret ⟨_, rfl, .tupL (.cons ?_ (.cons (.int (err_arg h).symm) .nil)), rfl⟩) rfl
    rw [show coverL n rows = [] by simp [coverL, h]]
    exact .pure .snil (.snil _)
  refine .seq (.sreg ?_)
  iterate 1 refine .p rfl rfl rfl trivial ?_
  refine .call (Separated_spec hf) rfl rfl rfl rfl ?_
  iterate 1 refine .p rfl rfl rfl trivial ?_
  refine .nil (.cond_ndec rfl (fun h => ?_) (fun hp => .skip ?_)) rfl
  · refine .sreg ?_
    iterate 2 refine .p rfl rfl rfl trivial ?_
    refine .nil (.ret ⟨_, rfl, .tupL (.cons ?_ (.cons (.int (err_none hv h).symm) .nil)), rfl⟩) rfl
    rw [show coverL n rows = [] by simp [coverL, h]]
    exact .pure .snil (.snil _)
  have hcl : coverL n rows = cover rows := by simp [coverL, hv, hp]
  rw [hcl, err_ok hv hp]
  obtain ⟨m, rfl⟩ : ∃ m : Nat, n = m := ⟨n.toNat, by have := hv.1; omega⟩
  have hlen : ∀ i, i < rows.length → (rowAt rows i).1.length = m := fun i hi => by have := (hv.2 i hi).1; omega
  have hsg : ∀ i, i < rows.length → signs (rowAt rows i).1 := fun i hi => (hv.2 i hi).2
  have h90 := hf.1
  refine .sreg ?_
  iterate 1 refine .p rfl rfl rfl trivial ?_
  refine .nil (.seq (.sreg ?_)) rfl
  iterate 3 refine .p rfl rfl rfl trivial ?_
  refine .nil ?_ rfl
  refine .range (rows.length) (fun i => [(6, tacD (cov1 rows i)), (1, eR rows), (19, eR rows)]) (fun i => tacH (cov1 rows i)) (fun i => True) rfl rfl rfl rfl rfl rfl rfl rfl rfl rfl ((by omega)) (by first | exact trivial | (intro j hj; exact absurd hj (Nat.not_lt_zero j))) (.wk ?_) (fun _ => rfl) (fun i hi Ci => ?_) (fun Ci => ?_)
  · repeat (first | exact trivial | refine ⟨⟨_, rfl, .refl _⟩, ?_⟩)
  · have hci := cov1_length rows i
    have hcz := cov1_size hlen i (by omega)
    have hw : eI (wid rows ((rowAt rows i).1.map bitOf) (rowAt rows i).1.length) = eI (wid rows ((rowAt rows i).1.map bitOf) (rowAt rows i).1.length) := rfl
    have hstep : ((rowAt rows i).2 = true ∧ ¬ ∃ k, k < (cov1 rows i).length ∧ perm (atT (cov1 rows i) k) (rowAt rows i).1) → cov1 rows (i + 1) = cov1 rows i ++ [wid rows ((rowAt rows i).1.map bitOf) (rowAt rows i).1.length] := fun h => by rw [cov1, if_pos h]
    have hstay : ¬ ((rowAt rows i).2 = true ∧ ¬ ∃ k, k < (cov1 rows i).length ∧ perm (atT (cov1 rows i) k) (rowAt rows i).1) → cov1 rows (i + 1) = cov1 rows i := fun h => by rw [cov1, if_neg h]
    have hwid := widest_spec (s := (rowAt rows i).1) hf (hsg i hi) (hf.2 i hi) (fun j hj => ⟨hsg j hj, by rw [hlen j hj, hlen i hi]⟩)
    generalize hW : wid rows ((rowAt rows i).1.map bitOf) (rowAt rows i).1.length = w at *
    generalize hA : cov1 rows i = acc at *
    rcases acc with _ | ⟨a, acc⟩
    · refine .sreg ?_
      refine .ix (i) rfl rfl rfl rfl rfl rfl rfl (by first | rfl | omega) (by first | omega | decide) ?_
      refine .lda _ rfl rfl rfl rfl rfl rfl rfl (r_agg hi rfl) ?_
      refine .alloc 0 rfl rfl rfl rfl rfl rfl rfl ?_
      iterate 1 refine .store rfl rfl rfl rfl rfl rfl rfl rfl rfl rfl ?_
      refine .nil (.sreg ?_) rfl
      iterate 2 refine .p rfl rfl rfl trivial ?_
      refine .nil (.sreg ?_) rfl
      iterate 1 refine .p rfl rfl rfl trivial ?_
      iterate 1 refine .ldl rfl rfl rfl rfl rfl rfl rfl rfl rfl ?_
      iterate 1 refine .p rfl rfl rfl trivial ?_
      have hcall := ContainsTerm_spec (xs := ([] : List (List Int))) (fv := .fn 19 [.sptr (rowCells (rowAt rows i)) 0]) (p := fun k => @decide (perm (atT ([] : List (List Int)) k) (rowAt rows i).1) (Classical.propDecidable _)) (.fn (one_pure (sptr_row _))) (.fn fun k hk => Cover1_spec (hsg i hi) (by rw [hcz k hk, hlen i hi]; exact Nat.le_refl _) (hf.2 i hi)) (by omega)
      have hiff : (∃ k, k < ([] : List (List Int)).length ∧ @decide (perm (atT ([] : List (List Int)) k) (rowAt rows i).1) (Classical.propDecidable _) = true) ↔ ∃ k, k < ([] : List (List Int)).length ∧ perm (atT ([] : List (List Int)) k) (rowAt rows i).1 :=
        ⟨fun ⟨k, hk, h⟩ => ⟨k, hk, @of_decide_eq_true _ (Classical.propDecidable _) h⟩, fun ⟨k, hk, h⟩ => ⟨k, hk, @decide_eq_true _ (Classical.propDecidable _) h⟩⟩
      have keep : ¬ ((rowAt rows i).2 = true ∧ ¬ ∃ k, k < ([] : List (List Int)).length ∧ perm (atT ([] : List (List Int)) k) (rowAt rows i).1) → ∀ F, FrBel 0 [(21, I i), (20, I rows.length), (6, tacD ([] : List (List Int))), (1, eR rows), (19, eR rows)] F → To 0 [(21, I i), (20, I rows.length), (6, tacD (cov1 rows (i + 1))), (1, eR rows), (19, eR rows)] (tacH (cov1 rows (i + 1))) F (tacH ([] : List (List Int)) ++ [some (.cells (rowCells (rowAt rows i)))]) := by
        intro hn F hF
        rw [hstay hn]
        refine .trunc [_] rfl (Nat.zero_le _) rfl hF ?_
        trivial
      refine .split (fun h => ?_) (fun h => ?_)
      · iterate 2 refine .p rfl rfl rfl trivial ?_
        refine .callB (hcall) rfl (noLoopB_spec rfl) rfl rfl rfl rfl (.cons (.pure .snil (.snil _)) (.cons (.fn rfl (FrzL.cons (frz_row rfl) .nil).2) .nil)) ?_
        iterate 2 refine .p rfl rfl rfl trivial ?_
        refine .nil (.cond_ndec rfl (fun h2 => ?_) (fun h2 => .skip ⟨trivial, keep (fun h3 => h3.2 (hiff.1 h2)) _ ?_⟩)) rfl
        rotate_left
        · exact ⟨⟨rfl, .int _ _⟩, ⟨rfl, .int _ _⟩, ⟨rfl, .snil⟩, ⟨rfl, (eR_pure _).bel⟩, ⟨rfl, (eR_pure _).bel⟩, trivial⟩
        refine W.reg ?_
        iterate 2 refine .p rfl rfl rfl trivial ?_
        iterate 1 refine .ldl rfl rfl rfl rfl rfl rfl rfl rfl rfl ?_
        iterate 1 refine .p rfl rfl rfl trivial ?_
        refine .call (hwid) rfl rfl rfl rfl ?_
        iterate 1 refine .p rfl rfl rfl trivial ?_
        refine .appNew 1 1 24 1 (([w] : List (List Int)).map eI) rfl rfl rfl rfl rfl rfl rfl rfl rfl (.inl ⟨rfl, rfl, rfl⟩) (.snap rfl) (by omega) (by omega) (by omega) (by omega) ?_ rfl ?_
        · rfl
        iterate 1 refine .p rfl rfl rfl trivial ?_
        refine .nil ⟨trivial, ?_⟩ rfl
        show To 0 [(21, I i), (20, I rows.length), (6, tacD (cov1 rows (i + 1))), (1, eR rows), (19, eR rows)] (tacH (cov1 rows (i + 1))) _ _
        rw [hstep ⟨h, fun h3 => h2 (hiff.2 h3)⟩]
        refine .ren [1] [] (Nat.zero_le _) (fun b hb => absurd hb (Nat.not_lt_zero b)) (by simp) ?_ ?_
        · refine ⟨⟨_, rfl, .wk (.int _ _) (.refl _)⟩, ⟨_, rfl, .wk (.int _ _) (.refl _)⟩, ⟨_, rfl, ?_⟩, ⟨_, rfl, .wk (eR_pure _) (.refl _)⟩, ⟨_, rfl, .wk (eR_pure _) (.refl _)⟩, trivial⟩
          show Ren _ _ _ _ (.live 0 0 1 1 1)
          exact .live rfl
        · refine ⟨⟨by simp, _, rfl, Nat.le_refl _, fun j x y hx hy => ?_⟩, trivial⟩
          have e := Option.some.inj (hx.symm.trans hy)
          subst e
          obtain ⟨z, _, rfl⟩ := List.mem_map.1 (List.mem_of_getElem? hx)
          exact .wk (eI_pure _) (.refl _)
      · iterate 4 refine .skip rfl rfl ?_
        iterate 1 refine .p rfl rfl rfl trivial ?_
        refine .nil (.condF rfl (.skip ⟨trivial, keep (fun h3 => by rw [h3.1] at h; cases h) _ ?_⟩)) rfl
        exact ⟨⟨rfl, .int _ _⟩, ⟨rfl, .int _ _⟩, ⟨rfl, .snil⟩, ⟨rfl, (eR_pure _).bel⟩, ⟨rfl, (eR_pure _).bel⟩, trivial⟩
    · refine .sreg ?_
      refine .ix (i) rfl rfl rfl rfl rfl rfl rfl (by first | rfl | omega) (by first | omega | decide) ?_
      refine .lda _ rfl rfl rfl rfl rfl rfl rfl (r_agg hi rfl) ?_
      refine .alloc 1 rfl rfl rfl rfl rfl rfl rfl ?_
      iterate 1 refine .store rfl rfl rfl rfl rfl rfl rfl rfl rfl rfl ?_
      refine .nil (.sreg ?_) rfl
      iterate 2 refine .p rfl rfl rfl trivial ?_
      refine .nil (.sreg ?_) rfl
      iterate 1 refine .p rfl rfl rfl trivial ?_
      iterate 1 refine .ldl rfl rfl rfl rfl rfl rfl rfl rfl rfl ?_
      iterate 1 refine .p rfl rfl rfl trivial ?_
      have hcall := ContainsTerm_spec (xs := (a :: acc)) (fv := .fn 19 [.sptr (rowCells (rowAt rows i)) 0]) (p := fun k => @decide (perm (atT (a :: acc) k) (rowAt rows i).1) (Classical.propDecidable _)) (.fn (one_pure (sptr_row _))) (.fn fun k hk => Cover1_spec (hsg i hi) (by rw [hcz k hk, hlen i hi]; exact Nat.le_refl _) (hf.2 i hi)) (by omega)
      have hiff : (∃ k, k < (a :: acc).length ∧ @decide (perm (atT (a :: acc) k) (rowAt rows i).1) (Classical.propDecidable _) = true) ↔ ∃ k, k < (a :: acc).length ∧ perm (atT (a :: acc) k) (rowAt rows i).1 :=
        ⟨fun ⟨k, hk, h⟩ => ⟨k, hk, @of_decide_eq_true _ (Classical.propDecidable _) h⟩, fun ⟨k, hk, h⟩ => ⟨k, hk, @decide_eq_true _ (Classical.propDecidable _) h⟩⟩
      have keep : ¬ ((rowAt rows i).2 = true ∧ ¬ ∃ k, k < (a :: acc).length ∧ perm (atT (a :: acc) k) (rowAt rows i).1) → ∀ F, FrBel 1 [(21, I i), (20, I rows.length), (6, tacD (a :: acc)), (1, eR rows), (19, eR rows)] F → To 0 [(21, I i), (20, I rows.length), (6, tacD (cov1 rows (i + 1))), (1, eR rows), (19, eR rows)] (tacH (cov1 rows (i + 1))) F (tacH (a :: acc) ++ [some (.cells (rowCells (rowAt rows i)))]) := by
        intro hn F hF
        rw [hstay hn]
        refine .trunc [_] rfl (Nat.zero_le _) rfl hF ?_
        refine ⟨BelL.mem (BelL.map (fun _ => eI_pure _)), trivial⟩
      refine .split (fun h => ?_) (fun h => ?_)
      · iterate 2 refine .p rfl rfl rfl trivial ?_
        refine .callB (hcall) rfl (noLoopB_spec rfl) rfl rfl rfl rfl (.cons (frz_map rfl (fun _ _ => eI_pure _) rfl) (.cons (.fn rfl (FrzL.cons (frz_row rfl) .nil).2) .nil)) ?_
        iterate 2 refine .p rfl rfl rfl trivial ?_
        refine .nil (.cond_ndec rfl (fun h2 => ?_) (fun h2 => .skip ⟨trivial, keep (fun h3 => h3.2 (hiff.1 h2)) _ ?_⟩)) rfl
        rotate_left
        · repeat (first | exact trivial | refine ⟨⟨rfl, (by first | exact .int _ _ | exact .bool _ | exact (eI_pure _).bel | exact (eR_pure _).bel | exact (eT_pure _).bel | exact .ptr (Nat.le_of_ble_eq_true rfl) | exact .live (Nat.le_of_ble_eq_true rfl))⟩, ?_⟩)
        refine W.reg ?_
        iterate 2 refine .p rfl rfl rfl trivial ?_
        iterate 1 refine .ldl rfl rfl rfl rfl rfl rfl rfl rfl rfl ?_
        iterate 1 refine .p rfl rfl rfl trivial ?_
        refine .call (hwid) rfl rfl rfl rfl ?_
        iterate 1 refine .p rfl rfl rfl trivial ?_
        refine .app 2 1 24 ((a :: acc).length + 1) (((a :: acc) ++ [w]).map eI) rfl rfl rfl rfl rfl rfl rfl rfl rfl rfl ?_ (.snap rfl) (by omega) (by omega) (by omega) ?_ rfl rfl ?_
        · simp
        · rw [List.drop_zero, Nat.mul_one, List.take_of_length_le (by simp), List.map_append]; rfl
        iterate 1 refine .p rfl rfl rfl trivial ?_
        refine .nil ⟨trivial, ?_⟩ rfl
        show To 0 [(21, I i), (20, I rows.length), (6, tacD (cov1 rows (i + 1))), (1, eR rows), (19, eR rows)] (tacH (cov1 rows (i + 1))) _ _
        rw [hstep ⟨h, fun h3 => h2 (hiff.2 h3)⟩]
        refine .ren [2] [] (Nat.zero_le _) (fun b hb => absurd hb (Nat.not_lt_zero b)) (by simp) ?_ ?_
        · refine ⟨⟨_, rfl, .wk (.int _ _) (.refl _)⟩, ⟨_, rfl, .wk (.int _ _) (.refl _)⟩, ⟨_, rfl, ?_⟩, ⟨_, rfl, .wk (eR_pure _) (.refl _)⟩, ⟨_, rfl, .wk (eR_pure _) (.refl _)⟩, trivial⟩
          rw [show tacD (a :: acc ++ [w]) = .live 0 0 ((a :: acc).length + 1) ((a :: acc).length + 1) 1 by simp [tacD]]
          exact .live rfl
        · refine ⟨⟨by simp, _, rfl, Nat.le_refl _, fun j x y hx hy => ?_⟩, trivial⟩
          have e := Option.some.inj (hx.symm.trans hy)
          subst e
          obtain ⟨z, _, rfl⟩ := List.mem_map.1 (List.mem_of_getElem? hx)
          exact .wk (eI_pure _) (.refl _)
      · iterate 4 refine .skip rfl rfl ?_
        iterate 1 refine .p rfl rfl rfl trivial ?_
        refine .nil (.condF rfl (.skip ⟨trivial, keep (fun h3 => by rw [h3.1] at h; cases h) _ ?_⟩)) rfl
        repeat (first | exact trivial | refine ⟨⟨rfl, (by first | exact .int _ _ | exact .bool _ | exact (eI_pure _).bel | exact (eR_pure _).bel | exact (eT_pure _).bel | exact .ptr (Nat.le_of_ble_eq_true rfl) | exact .live (Nat.le_of_ble_eq_true rfl))⟩, ?_⟩)
  · show W _ _ _ _ _ _ _
    have hz := cov1_size hlen rows.length (Nat.le_refl _)
    have hl9 := cov1_length rows rows.length
    refine .seq (.sreg ?_)
    iterate 1 refine .p rfl rfl rfl trivial ?_
    refine .nil ?_ rfl
    refine .block (.loopT (fun (p : List (List Int) × Nat) => p.2 ≤ p.1.length ∧ p.1.length ≤ 90 ∧ (∀ k, k < p.1.length → (atT p.1 k).length = m) ∧ prune rows (p.1.length - p.2) p.1 p.2 = cover rows) (fun p => p.1.length - p.2) (fun p => [(10, I p.2), (6, eT p.1), (1, eR rows)]) (fun _ => []) (cov1 rows rows.length, 0) ⟨Nat.zero_le _, (by show (cov1 rows rows.length).length ≤ 90; omega), hz, rfl⟩ (.frz ⟨⟨_, rfl, .pure (.int _ _) (.refl _)⟩, ⟨_, rfl, frz_acc⟩, ⟨_, rfl, .pure (eR_pure _) (.refl _)⟩, trivial⟩) ?_)
    rintro ⟨ts, i⟩ ⟨hil, hl, hts, hpr⟩
    have hil : i ≤ ts.length := hil
    have hl : ts.length ≤ 90 := hl
    have hts : ∀ k, k < ts.length → (atT ts k).length = m := hts
    have hpr : prune rows (ts.length - i) ts i = cover rows := hpr
    refine .seq (.sreg ?_)
    iterate 4 refine .p rfl rfl rfl trivial ?_
    refine .nil (.cond_dec rfl (fun h => .skip (.block ?_)) (fun h => .exit ?_)) rfl
    · have hi : i < ts.length := by simpa using h
      have hel : (ts.eraseIdx i).length = ts.length - 1 := by rw [List.length_eraseIdx, if_pos hi]
      have hez := erase_at (i := i) hts
      have hfu : ts.length - i = (ts.length - (i + 1)) + 1 := by omega
      rw [hfu, prune] at hpr
      refine .sreg ?_
      iterate 1 refine .p rfl rfl rfl trivial ?_
      refine .callF (Clone_spec (ts := ts) (by omega) hl []) rfl rfl rfl rfl ?_
      rintro d H' ⟨rfl, rfl⟩
      iterate 2 refine .p rfl rfl rfl trivial ?_
      refine .pe (I (((i + 1 : Nat) : Int))) rfl rfl rfl trivial (by rw [wrap64] <;> first | omega | rfl | exact congrArg (D.int .i64) (by omega)) ?_
      refine .callF (Delete_spec (ts := ts) (i := i) (b := 0) (H := [some (.cells (ts.map eI))]) hi hl rfl) rfl rfl rfl rfl ?_
      rintro d H' ⟨rfl, rfl⟩
      iterate 1 refine .p rfl rfl rfl trivial ?_
      refine .nil (.sreg ?_) rfl
      iterate 2 refine .p rfl rfl rfl trivial ?_
      refine .callB (covers_spec (ts := ts.eraseIdx i) hf hsg (fun j hj k hk => by rw [hez k hk, hlen j hj]; exact Nat.le_refl _) (by omega)) rfl (noLoopB_spec rfl) rfl rfl rfl rfl (.cons (frz_pre rfl (fun _ _ => eI_pure _) hel.symm) (.cons (.pure (eR_pure _) (.refl _)) .nil)) ?_
      refine .nil (.cond_dec rfl (fun hc => ?_) (fun hc => ?_)) rfl
      · rw [if_pos hc] at hpr
        refine W.reg ?_
        iterate 2 refine .p rfl rfl rfl trivial ?_
        refine .nil ⟨(ts.eraseIdx i, i), (by show (ts.eraseIdx i).length - i < ts.length - i; omega), ⟨(by show i ≤ (ts.eraseIdx i).length; omega), (by show (ts.eraseIdx i).length ≤ 90; omega), hez, ?_⟩, .frz ?_⟩ rfl
        · show prune rows ((ts.eraseIdx i).length - i) (ts.eraseIdx i) i = cover rows
          rw [hel, show ts.length - 1 - i = ts.length - (i + 1) by omega]
          exact hpr
        · exact ⟨⟨_, rfl, .pure (.int _ _) (.refl _)⟩, ⟨_, rfl, frz_pre rfl (fun _ _ => eI_pure _) hel.symm⟩, ⟨_, rfl, .pure (eR_pure _) (.refl _)⟩, trivial⟩
      · rw [if_neg hc] at hpr
        refine W.reg ?_
        iterate 1 refine .p rfl rfl rfl trivial ?_
        refine .pe (I (((i + 1 : Nat) : Int))) rfl rfl rfl trivial (by rw [wrap64] <;> first | omega | rfl | exact congrArg (D.int .i64) (by omega)) ?_
        iterate 1 refine .p rfl rfl rfl trivial ?_
        refine .nil ⟨(ts, i + 1), (by show ts.length - (i + 1) < ts.length - i; omega), ⟨hi, hl, hts, hpr⟩, .frz ?_⟩ rfl
        exact ⟨⟨_, rfl, .pure (.int _ _) (.refl _)⟩, ⟨_, rfl, .pure (eT_pure _) (.refl _)⟩, ⟨_, rfl, .pure (eR_pure _) (.refl _)⟩, trivial⟩
    · have hi : i = ts.length := by have : ¬ ((i : Int) < ts.length) := h; omega
      subst hi
      rw [Nat.sub_self, prune] at hpr
      show W _ _ _ _ _ _ _
      refine .sreg ?_
      iterate 3 refine .p rfl rfl rfl trivial ?_
      refine .nil (.ret ⟨_, rfl, .tupL (.cons ?_ (.cons (.int rfl) .nil)), rfl⟩) rfl
      rw [← hpr]
      exact .pure (eT_pure _) (.refl _)
end Go.Proofs.Ytcnblloiaambaaa
