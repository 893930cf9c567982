import Derived.Test.YtcnblloiaambaaaSO
namespace Go.Proofs.Ytcnblloiaambaaa
open Go.V
set_option maxHeartbeats 4000000

theorem wf_u8 {n : Int} (h : (Lit.int .u8 n).wf = true) : 0 ≤ n ∧ n ≤ 255 := by
  simp [Lit.wf] at h
  exact h

def tv (a : Int) (i : Nat) : Bool := decide (IntKind.u32.wrap ((BitVec.ofInt 32 (a.fdiv (2 ^ (min i 32))) &&& BitVec.ofInt 32 1).toNat) = 1)
def tsg (i : Nat) : List Int := [((i % 3 : Nat) : Int) - 1, ((i / 3 % 3 : Nat) : Int) - 1, ((i / 9 : Nat) : Int) - 1]
def trow (a : Int) (i : Nat) : Row := (tsg i, tv a i)
def tabs (a : Int) (n : Nat) : List Row := (List.range n).map (trow a)
theorem tabs_succ (a : Int) (n : Nat) : tabs a (n + 1) = tabs a n ++ [trow a n] := by simp [tabs, List.range_succ]
theorem tabs_len (a : Int) (n : Nat) : (tabs a n).length = n := by simp [tabs]
theorem tabs_at {a : Int} {n i : Nat} (h : i < n) : rowAt (tabs a n) i = trow a i := by
  rw [rowAt_eq (by rw [tabs_len]; exact h)]; simp [tabs]

def rowCellsT (r : Row) : List D := [.snap (r.1.map (D.int .i64)) r.1.length true, .bool r.2]
theorem rowCellsT_len (r : Row) : (rowCellsT r).length = 2 := rfl
theorem rowCellsT_pure (r : Row) : ∀ d ∈ rowCellsT r, Pure d := by
  intro d hd
  simp only [rowCellsT, List.mem_cons, List.not_mem_nil, or_false] at hd
  rcases hd with rfl | rfl
  · exact .snap (by
      intro d hd
      obtain ⟨x, _, rfl⟩ := List.mem_map.1 hd
      exact .int _ _)
  · exact .bool _
theorem rowCellsT_wk (r : Row) : WkL (rowCellsT r) (rowCells r) := .cons .tight (.cons (.refl _) .nil)

theorem tfew (a : Int) : few (tabs a 27) := ⟨by rw [tabs_len]; omega, fun i hi => by rw [tabs_len] at hi; rw [tabs_at hi]; exact Nat.le_of_ble_eq_true rfl⟩
theorem tsg_signs {i : Nat} (h : i < 27) : signs (tsg i) := by
  intro k hk
  have hk3 : k = 0 ∨ k = 1 ∨ k = 2 := by have : k < 3 := hk; omega
  rcases hk3 with rfl | rfl | rfl
  · show sign (((i % 3 : Nat) : Int) - 1); unfold sign; omega
  · show sign (((i / 3 % 3 : Nat) : Int) - 1); unfold sign; omega
  · show sign (((i / 9 : Nat) : Int) - 1); unfold sign; omega
theorem tvalid (a : Int) : valid 3 (tabs a 27) := ⟨by decide, fun i hi => by
  rw [tabs_len] at hi
  rw [tabs_at hi]
  exact ⟨rfl, tsg_signs hi⟩⟩
theorem tsep (a : Int) : sep (tabs a 27) := fun i hi k hk h => by
  rw [tabs_len] at hi
  unfold clash at h
  rw [tabs_at hi, tabs_at (show k < 27 by omega)] at h
  obtain ⟨h1, h2⟩ := h
  have e : tsg i = tsg k := h2
  simp only [tsg, List.cons.injEq, and_true] at e
  omega
theorem trows (a : Int) : Rows 3 (tabs a 27) := by
  obtain ⟨m, hm, hR⟩ := Rows.of (tvalid a) (tsep a)
  have : m = 3 := by omega
  exact this ▸ hR
theorem tcover_len (a : Int) : (cover (tabs a 27)).length ≤ 27 := by
  have h := (cover_spec (trows a)).2.2.2
  have h2 := tabs_len a 27
  omega

/- f6: SolutionTables -/
theorem SolutionTables_spec (a : Int) : PureFn Try.prog 6 [.int .u32 a] (.bool true) := by
  refine .of_W (fn := Try.f6) ⟨.int _ _, trivial⟩ Try.call6 Try.func6 rfl rfl ?_
  refine .sreg ?_
  iterate 1 refine .p rfl rfl rfl trivial ?_
  refine .nil (.seq (.sreg ?_)) rfl
  refine .call (awake_spec) rfl rfl rfl rfl ?_
  iterate 1 refine .p rfl rfl rfl trivial ?_
  refine .nil (.condF rfl (.skip ?_)) rfl
  refine .sreg ?_
  iterate 1 refine .p rfl rfl rfl trivial ?_
  refine .nil (.seq (.sreg ?_)) rfl
  iterate 1 refine .p rfl rfl rfl trivial ?_
  refine .nil ?_ rfl
  refine .rangeC 27 (fun i => [(3, accD 2 0 (tabs a i)), (0, .int .u32 a)]) (fun i => [accB rowCellsT (tabs a i)]) (fun _ => True) rfl rfl rfl rfl rfl rfl rfl rfl rfl rfl (by omega) trivial ?_ (fun _ => rfl) (fun i hi _ => ?_) (fun _ => ?_)
  · refine .ren [0] [] (Nat.zero_le _) (fun b hb => absurd hb (Nat.not_lt_zero b)) (by simp) ?_ trivial
    exact ⟨⟨_, rfl, .wk (.int _ _) (.refl _)⟩, ⟨_, rfl, .wk .snil (.refl _)⟩, ⟨_, rfl, .wk (.int _ _) (.refl _)⟩, trivial⟩
  · refine .sreg ?_
    iterate 2 refine .p rfl rfl rfl trivial ?_
    refine .nil (.reg ?_) rfl
    iterate 2 refine .p rfl rfl rfl trivial ?_
    refine .pe (I ((i % 3 : Nat) : Int)) rfl rfl rfl (show (3 : Int) ≠ 0 by decide) rfl ?_
    refine .pe (I (((i % 3 : Nat) : Int) - 1)) rfl rfl rfl trivial (by rw [wrap64] <;> first | omega | rfl | exact congrArg (D.int .i64) (by omega)) ?_
    iterate 1 refine .p rfl rfl rfl trivial ?_
    refine .pe (I ((i / 3 : Nat) : Int)) rfl rfl rfl (show (3 : Int) ≠ 0 by decide) (congrArg (D.int .i64) ((wrap64 (x := ((i / 3 : Nat) : Int)) (by omega) (by omega)))) ?_
    refine .pe (I ((i / 3 % 3 : Nat) : Int)) rfl rfl rfl (show (3 : Int) ≠ 0 by decide) rfl ?_
    refine .pe (I (((i / 3 % 3 : Nat) : Int) - 1)) rfl rfl rfl trivial (by rw [wrap64] <;> first | omega | rfl | exact congrArg (D.int .i64) (by omega)) ?_
    iterate 1 refine .p rfl rfl rfl trivial ?_
    refine .pe (I ((i / 9 : Nat) : Int)) rfl rfl rfl (show (9 : Int) ≠ 0 by decide) (congrArg (D.int .i64) ((wrap64 (x := ((i / 9 : Nat) : Int)) (by omega) (by omega)))) ?_
    refine .pe (I (((i / 9 : Nat) : Int) - 1)) rfl rfl rfl trivial (by rw [wrap64] <;> first | omega | rfl | exact congrArg (D.int .i64) (by omega)) ?_
    iterate 3 refine .p rfl rfl rfl trivial ?_
    refine .pe (.int .u32 (a.fdiv (2 ^ (min i 32)))) rfl rfl rfl (show (0 : Int) ≤ i by omega) rfl ?_
    iterate 4 refine .p rfl rfl rfl trivial ?_
    refine .grow 1 0 2 32 (tabs a i) [trow a i] (enc := rowCellsT) rowCellsT_len rfl rfl rfl rfl rfl rfl rfl rfl rfl rfl (.snap rfl) rfl (by simp) (by simp [tabs_len]; omega) (by simp [tabs_len]; omega) rfl ?_
    rw [← tabs_succ]
    iterate 1 refine .p rfl rfl rfl trivial ?_
    refine .nil ⟨trivial, ?_⟩ rfl
    refine .ren [1] [] (Nat.zero_le _) (fun b hb => absurd hb (Nat.not_lt_zero b)) (by simp) ?_ (.acc (by simp) rfl rowCellsT_pure trivial)
    exact ⟨⟨_, rfl, .wk (.int _ _) (.refl _)⟩, ⟨_, rfl, .acc rfl⟩, ⟨_, rfl, .wk (.int _ _) (.refl _)⟩, trivial⟩
  show W _ _ _ _ _ _ _
  have hnz : err 3 (tabs a 27) = 0 := err_ok (tvalid a) (tsep a)
  refine .to (F' := [(3, eR (tabs a 27)), (0, .int .u32 a)]) (H' := []) (.frz ?_) ?_
  · exact ⟨⟨_, rfl, frz_accW rowCellsT_len rowCells_len rowCellsT_pure rowCellsT_wk rfl (by omega)⟩, ⟨_, rfl, .pure (.int _ _) (.refl _)⟩, trivial⟩
  have hR := trows a
  have hl := tcover_len a
  have hCs := cover_covs hR
  have hsm := cover_small hR (tfew a) (by omega)
  generalize hrw : tabs a 27 = rows at *
  have hlen : rows.length = 27 := by rw [← hrw, tabs_len]
  refine .sreg ?_
  iterate 1 refine .p rfl rfl rfl trivial ?_
  refine .call (Cover_spec (n := 3) (hrw ▸ tfew a)) rfl rfl rfl rfl ?_
  iterate 5 refine .p rfl rfl rfl trivial ?_
  rw [hnz, show coverL 3 rows = cover rows by rw [coverL, if_pos ⟨hrw ▸ tvalid a, hrw ▸ tsep a⟩]]
  generalize cover rows = cv at *
  refine .nil (.seq (.sreg ?_)) rfl
  iterate 2 refine .p rfl rfl rfl trivial ?_
  refine .nil (.condF rfl (.skip ?_)) rfl
  refine .seq (.sreg ?_)
  iterate 3 refine .p rfl rfl rfl trivial ?_
  refine .nil ?_ rfl
  refine .range (rows.length) (fun i => [(3, eR rows), (5, eT cv)]) (fun i => []) (fun i => True) rfl rfl rfl rfl rfl rfl rfl rfl rfl rfl (by omega) (by first | exact trivial | (intro j hj; exact absurd hj (Nat.not_lt_zero j))) (.wk ?_) (fun _ => rfl) (fun i hi Ci => ?_) (fun Ci => ?_)
  · repeat (first | exact trivial | refine ⟨⟨_, rfl, .refl _⟩, ?_⟩)
  · have hs3 : (rowAt rows i).1.length = 3 := hR.len i hi
    have hsg := hR.sg i hi
    refine .sreg ?_
    iterate 2 refine .p rfl rfl rfl trivial ?_
    refine .nil (.sreg ?_) rfl
    iterate 1 refine .p rfl rfl rfl trivial ?_
    refine .nil (.seq (.sreg ?_)) rfl
    iterate 3 refine .p rfl rfl rfl trivial ?_
    refine .nil ?_ rfl
    refine .range (cv.length) (fun k => [(8, B (∃ j, j < k ∧ permR (atT cv j) (rowAt rows i).1)), (3, eR rows), (5, eT cv), (7, I i), (47, I i), (46, I rows.length)]) (fun k => []) (fun k => True) rfl rfl rfl rfl rfl rfl rfl rfl rfl rfl (by omega) (by first | exact trivial | (intro j hj; exact absurd hj (Nat.not_lt_zero j))) (.wk ?_) (fun _ => rfl) (fun k hk Ck => ?_) (fun Ck => ?_)
    · refine ⟨⟨_, rfl, .refl _⟩, ⟨_, rfl, .refl _⟩, ⟨_, rfl, .of_eq (congrArg D.bool (B_false (by rintro ⟨j, hj, _⟩; exact absurd hj (Nat.not_lt_zero j))))⟩, ?_⟩
      repeat (first | exact trivial | refine ⟨⟨_, rfl, .refl _⟩, ?_⟩)
    · refine .sreg ?_
      iterate 2 refine .p rfl rfl rfl trivial ?_
      refine .nil (.sreg ?_) rfl
      iterate 2 refine .p rfl rfl rfl trivial ?_
      refine .ix (k) rfl rfl rfl rfl rfl rfl rfl (by first | rfl | omega) (by first | omega | decide) ?_
      refine .ld _ rfl rfl rfl rfl rfl rfl (t_get hk rfl) ?_
      iterate 3 refine .p rfl rfl rfl trivial ?_
      refine .nil ?_ rfl
      refine .mid [(10, B (permR (atT cv k) (rowAt rows i).1)), (8, B (∃ j, j < k ∧ permR (atT cv j) (rowAt rows i).1)), (3, eR rows), (5, eT cv), (7, I i), (47, I i), (46, I rows.length), (52, I k), (51, I cv.length)] [] (.sreg ?_) ?_
      · iterate 1 refine .p rfl rfl rfl trivial ?_
        refine .nil ?_ rfl
        refine .block (.loopT (fun j => j ≤ 3) (fun j => 3 - j) (fun j => [(10, B ((atT cv k).length = 3 ∧ ∀ j', j' < j → landI (atI (atT cv k) j') (bitOf (atI (rowAt rows i).1 j')) ≠ 0)), (11, I j), (9, I k), (8, B (∃ j, j < k ∧ permR (atT cv j) (rowAt rows i).1)), (3, eR rows), (5, eT cv), (7, I i), (47, I i), (46, I rows.length), (52, I k), (51, I cv.length)]) (fun _ => []) 0 (Nat.zero_le _) (.wk ?_) ?_)
        · refine ⟨⟨_, rfl, .of_eq (congrArg D.bool (B_iff ⟨fun h => ⟨by omega, fun j hj => absurd hj (Nat.not_lt_zero j)⟩, fun h => by have := h.1; omega⟩))⟩, ?_⟩
          repeat (first | exact trivial | refine ⟨⟨_, rfl, .refl _⟩, ?_⟩)
        intro j hj
        refine .seq (.sreg ?_)
        iterate 2 refine .p rfl rfl rfl trivial ?_
        refine .dsplit (fun hP => ?_) (fun hP => ?_)
        · iterate 3 refine .p rfl rfl rfl trivial ?_
          refine .nil (.cond_dec rfl (fun h => .skip ?_) (fun h => .exit (.wk ?_))) rfl
          rotate_left
          · have : j = 3 := by omega
            subst this
            refine ⟨⟨_, rfl, .of_eq (congrArg D.bool (B_iff ⟨fun h => ⟨by rw [hs3]; exact h.1, fun j hj => h.2 j (by omega)⟩, fun h => ⟨by rw [← hs3]; exact h.1, fun j hj => h.2 j (by omega)⟩⟩))⟩, ?_⟩
            repeat (first | exact trivial | refine ⟨⟨_, rfl, .refl _⟩, ?_⟩)
          have hj3 : j < 3 := by omega
          have hs := hsg j (by omega)
          unfold sign at hs
          refine .seq (.block (.draw mixed (by kernel_rfl) (by kernel_rfl) ?_))
          iterate 2 refine .p rfl rfl rfl trivial ?_
          refine .ix (k) rfl rfl rfl rfl rfl rfl rfl (by first | rfl | omega) (by first | omega | decide) ?_
          refine .ld _ rfl rfl rfl rfl rfl rfl (t_get hk rfl) ?_
          iterate 1 refine .p rfl rfl rfl trivial ?_
          refine .ix (j) rfl rfl rfl rfl rfl rfl rfl (by first | rfl | omega) (by first | omega | decide) ?_
          refine .ld _ rfl rfl rfl rfl rfl rfl (i_get (by omega) rfl) ?_
          iterate 3 refine .p rfl rfl rfl trivial ?_
          refine .ix (i) rfl rfl rfl rfl rfl rfl rfl (by first | rfl | omega) (by first | omega | decide) ?_
          iterate 1 refine .p rfl rfl rfl trivial ?_
          refine .ld _ rfl rfl rfl rfl rfl rfl (r_sig hi rfl) ?_
          iterate 1 refine .p rfl rfl rfl trivial ?_
          refine .ix (j) rfl rfl rfl rfl rfl rfl rfl (by first | rfl | omega) (by first | omega | decide) ?_
          refine .ld _ rfl rfl rfl rfl rfl rfl (i_get (by omega) rfl) ?_
          refine .pe (I (atI (rowAt rows i).1 j + 1)) rfl rfl rfl trivial (by rw [wrap64] <;> first | omega | rfl | exact congrArg (D.int .i64) (by omega)) ?_
          refine .ix ((atI (rowAt rows i).1 j + 1).toNat) rfl rfl rfl rfl rfl rfl rfl (by first | rfl | omega) (by first | omega | decide) ?_
          refine .ld (I (bitOf (atI (rowAt rows i).1 j))) rfl rfl rfl rfl rfl rfl ?_ ?_
          · generalize atI (rowAt rows i).1 j = s at hs
            have : s = -1 ∨ s = 0 ∨ s = 1 := by omega
            rcases this with rfl | rfl | rfl <;> rfl
          iterate 3 refine .p rfl rfl rfl trivial ?_
          refine .nil ?_ rfl
          show W _ _ _ _ _ _ _
          refine .reg ?_
          iterate 1 refine .p rfl rfl rfl trivial ?_
          refine .pe (I (((j + 1 : Nat) : Int))) rfl rfl rfl trivial (by rw [wrap64] <;> first | omega | rfl | exact congrArg (D.int .i64) (by omega)) ?_
          iterate 1 refine .p rfl rfl rfl trivial ?_
          refine .nil ⟨j + 1, by show 3 - (j + 1) < 3 - j; omega, hj3, .wk ?_⟩ rfl
          refine ⟨⟨_, rfl, .of_eq (congrArg D.bool (B_not ⟨fun h => ⟨hP.1, all_succ hP.2 h⟩, fun h => h.2 j (by omega)⟩))⟩, ?_⟩
          repeat (first | exact trivial | refine ⟨⟨_, rfl, .refl _⟩, ?_⟩)
        · iterate 2 refine .skip rfl rfl ?_
          iterate 1 refine .p rfl rfl rfl trivial ?_
          refine .nil (.condF rfl (.exit (.wk ?_))) rfl
          refine ⟨⟨_, rfl, .of_eq (congrArg D.bool (B_iff ⟨fun h => absurd h hP, fun hp => absurd ⟨by rw [← hs3]; exact hp.1, fun j' hj' => hp.2 j' (by omega)⟩ hP⟩))⟩, ?_⟩
          repeat (first | exact trivial | refine ⟨⟨_, rfl, .refl _⟩, ?_⟩)
      · refine .reg ?_
        iterate 2 refine .p rfl rfl rfl trivial ?_
        refine .dsplit (fun hP => ?_) (fun hP => ?_)
        · iterate 1 refine .skip rfl rfl ?_
          iterate 2 refine .p rfl rfl rfl trivial ?_
          refine .nil ⟨trivial, .wk ?_⟩ rfl
          obtain ⟨j, hj, hp⟩ := hP
          refine ⟨⟨_, rfl, .refl _⟩, ⟨_, rfl, .refl _⟩, ⟨_, rfl, .of_eq (congrArg D.bool (B_true ⟨j, by omega, hp⟩))⟩, ?_⟩
          repeat (first | exact trivial | refine ⟨⟨_, rfl, .refl _⟩, ?_⟩)
        · iterate 3 refine .p rfl rfl rfl trivial ?_
          refine .nil ⟨trivial, .wk ?_⟩ rfl
          refine ⟨⟨_, rfl, .refl _⟩, ⟨_, rfl, .refl _⟩, ⟨_, rfl, .of_eq (congrArg D.bool (B_iff ⟨fun h => ⟨k, by omega, h⟩, fun ⟨j, hj, hp⟩ => ?_⟩))⟩, ?_⟩
          · rcases Nat.lt_or_ge j k with h1 | h1
            · exact absurd ⟨j, h1, hp⟩ hP
            · have : j = k := by omega
              exact this ▸ hp
          repeat (first | exact trivial | refine ⟨⟨_, rfl, .refl _⟩, ?_⟩)
    show W _ _ _ _ _ _ _
    refine .sreg ?_
    iterate 3 refine .p rfl rfl rfl trivial ?_
    refine .ix (i) rfl rfl rfl rfl rfl rfl rfl (by first | rfl | omega) (by first | omega | decide) ?_
    iterate 1 refine .p rfl rfl rfl trivial ?_
    refine .ld _ rfl rfl rfl rfl rfl rfl (r_tr hi rfl) ?_
    refine .pe (.bool false) rfl rfl rfl trivial ?_ ?_
    · have hbb := hCs i hi
      congr 1
      cases hr : (rowAt rows i).2 with
      | true => rw [← B_true (hbb.2 hr)]; rfl
      | false => rw [← B_false fun h => by rw [hbb.1 h] at hr; cases hr]; rfl
    refine .nil (.condF rfl (.skip ⟨trivial, .wk ?_⟩)) rfl
    repeat (first | exact trivial | refine ⟨⟨_, rfl, .refl _⟩, ?_⟩)
  show W _ _ _ _ _ _ _
  refine .sreg ?_
  iterate 3 refine .p rfl rfl rfl trivial ?_
  iterate 1 refine .p rfl rfl rfl trivial ?_
  refine .nil (.ret ⟨_, rfl, .bool (B_of (by omega)), rfl⟩) rfl
end Go.Proofs.Ytcnblloiaambaaa
