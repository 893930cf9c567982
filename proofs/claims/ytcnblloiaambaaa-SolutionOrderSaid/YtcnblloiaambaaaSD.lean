import Derived.Test.YtcnblloiaambaaaSC
namespace Go.Proofs.Ytcnblloiaambaaa
open Go.V
set_option maxHeartbeats 4000000

/- f17: cylinderref50.Separated -/
theorem refSep_spec {rows : List Row} (hf : few rows) : PureFn Try.prog 17 [eR rows] (B (sep rows)) := by
  refine .of_W (fn := Try.f17) ⟨eR_pure _, trivial⟩ Try.call17 Try.func17 rfl rfl ?_
  refine .sreg ?_
  iterate 1 refine .p rfl rfl rfl trivial ?_
  refine .nil (.seq (.sreg ?_)) rfl
  iterate 3 refine .p rfl rfl rfl trivial ?_
  refine .nil ?_ rfl
  refine .range (rows.length) (fun io => [(0, eR rows)]) (fun io => []) (fun io => ∀ j, j < io → ∀ k, k < j → ¬ clash rows j k) rfl rfl rfl rfl rfl rfl rfl rfl rfl rfl ((by have := hf.1; omega)) (by first | exact trivial | (intro j hj; exact absurd hj (Nat.not_lt_zero j))) (.wk ?_) (fun _ => rfl) (fun io hio Cio => ?_) (fun Cio => ?_)
  · repeat (first | exact trivial | refine ⟨⟨_, rfl, .refl _⟩, ?_⟩)
  · refine .sreg ?_
    iterate 2 refine .p rfl rfl rfl trivial ?_
    refine .nil (.sreg ?_) rfl
    iterate 1 refine .p rfl rfl rfl trivial ?_
    refine .nil ?_ rfl
    refine .block (.loopT (fun k => k ≤ io ∧ ∀ j, j < k → ¬ clash rows io j) (fun k => io - k) (fun k => [(4, I k), (3, I io), (7, I io), (6, I rows.length), (0, eR rows)]) (fun _ => []) 0 ⟨Nat.zero_le _, fun j hj => absurd hj (Nat.not_lt_zero j)⟩ (.wk ?_) ?_)
    · repeat (first | exact trivial | refine ⟨⟨_, rfl, .refl _⟩, ?_⟩)
    rintro k ⟨hkl, Ck⟩
    refine .seq (.sreg ?_)
    iterate 3 refine .p rfl rfl rfl trivial ?_
    refine .nil (.cond_dec rfl (fun h => .skip (.seq (.block ?_))) (fun h => .exit ⟨all_succ Cio (fun j hj => Ck j (by omega)), .wk ?_⟩)) rfl
    rotate_left
    · repeat (first | exact trivial | refine ⟨⟨_, rfl, .refl _⟩, ?_⟩)
    have hk : k < io := by omega
    have h90 := hf.1
    refine .sdraw mixed (by kernel_rfl) (by kernel_rfl) ?_
    iterate 2 refine .p rfl rfl rfl trivial ?_
    refine .ix (io) rfl rfl rfl rfl rfl rfl rfl (by first | rfl | omega) (by first | omega | decide) ?_
    iterate 1 refine .p rfl rfl rfl trivial ?_
    refine .ld _ rfl rfl rfl rfl rfl rfl (r_tr hio rfl) ?_
    iterate 2 refine .p rfl rfl rfl trivial ?_
    refine .ix (k) rfl rfl rfl rfl rfl rfl rfl (by first | rfl | omega) (by first | omega | decide) ?_
    iterate 1 refine .p rfl rfl rfl trivial ?_
    refine .ld _ rfl rfl rfl rfl rfl rfl (r_tr (by omega) rfl) ?_
    iterate 2 refine .p rfl rfl rfl trivial ?_
    refine .split (fun h => ?_) (fun h => ?_)
    · have h2 : (rowAt rows io).2 ≠ (rowAt rows k).2 := by simpa using h
      iterate 2 refine .p rfl rfl rfl trivial ?_
      refine .ix (io) rfl rfl rfl rfl rfl rfl rfl (by first | rfl | omega) (by first | omega | decide) ?_
      iterate 1 refine .p rfl rfl rfl trivial ?_
      refine .ld _ rfl rfl rfl rfl rfl rfl (r_sig hio rfl) ?_
      iterate 2 refine .p rfl rfl rfl trivial ?_
      refine .ix (k) rfl rfl rfl rfl rfl rfl rfl (by first | rfl | omega) (by first | omega | decide) ?_
      iterate 1 refine .p rfl rfl rfl trivial ?_
      refine .ld _ rfl rfl rfl rfl rfl rfl (r_sig (by omega) rfl) ?_
      refine .call (same_spec (by have := hf.2 io hio; omega)) rfl rfl rfl rfl ?_
      iterate 1 refine .p rfl rfl rfl trivial ?_
      refine .nil (.cond_dec rfl (fun h => ?_) (fun h => .skip ?_)) rfl
      · refine .sreg ?_
        iterate 1 refine .p rfl rfl rfl trivial ?_
        refine .nil (.ret ⟨_, rfl, .bool (B_false fun hs => hs io hio k hk ⟨h2, h⟩), rfl⟩) rfl
      · refine W.reg ?_
        iterate 1 refine .p rfl rfl rfl trivial ?_
        refine .pe (I (((k + 1 : Nat) : Int))) rfl rfl rfl trivial (by rw [wrap64] <;> first | omega | rfl | exact congrArg (D.int .i64) (by omega)) ?_
        iterate 1 refine .p rfl rfl rfl trivial ?_
        refine .nil ⟨k + 1, (by show io - (k + 1) < io - k; omega), ⟨by omega, all_succ Ck fun hc => h hc.2⟩, .wk ?_⟩ rfl
        repeat (first | exact trivial | refine ⟨⟨_, rfl, .refl _⟩, ?_⟩)
    · iterate 11 refine .skip rfl rfl ?_
      iterate 1 refine .p rfl rfl rfl trivial ?_
      refine .nil (.condF rfl (.skip ?_)) rfl
      refine W.reg ?_
      iterate 1 refine .p rfl rfl rfl trivial ?_
      refine .pe (I (((k + 1 : Nat) : Int))) rfl rfl rfl trivial (by rw [wrap64] <;> first | omega | rfl | exact congrArg (D.int .i64) (by omega)) ?_
      iterate 1 refine .p rfl rfl rfl trivial ?_
      refine .nil ⟨k + 1, (by show io - (k + 1) < io - k; omega), ⟨by omega, all_succ Ck fun hc => by simp at h; exact hc.1 h⟩, .wk ?_⟩ rfl
      repeat (first | exact trivial | refine ⟨⟨_, rfl, .refl _⟩, ?_⟩)
  · refine W.sreg ?_
    iterate 1 refine .p rfl rfl rfl trivial ?_
    refine .nil (.ret ⟨_, rfl, .bool (B_true Cio), rfl⟩) rfl

/- f11: cylinderref50.Error -/
noncomputable def err (n : Int) (rows : List Row) : Int := @ite _ (valid n rows) (Classical.propDecidable _) (@ite _ (sep rows) (Classical.propDecidable _) 0 5) 1
theorem err_arg {n : Int} {rows : List Row} (h : ¬ valid n rows) : err n rows = 1 := by simp [err, h]
theorem err_none {n : Int} {rows : List Row} (h : valid n rows) (h' : ¬ sep rows) : err n rows = 5 := by simp [err, h, h']
theorem err_ok {n : Int} {rows : List Row} (h : valid n rows) (h' : sep rows) : err n rows = 0 := by simp [err, h, h']

theorem Error_spec {n : Int} {rows : List Row} (hf : few rows) : PureFn Try.prog 11 [I n, eR rows] (I (err n rows)) := by
  refine .of_W (fn := Try.f11) ⟨.int _ _, eR_pure _, trivial⟩ Try.call11 Try.func11 rfl rfl ?_
  refine .sreg ?_
  iterate 1 refine .p rfl rfl rfl trivial ?_
  refine .nil (.seq (.sreg ?_)) rfl
  iterate 2 refine .p rfl rfl rfl trivial ?_
  refine .nil (.cond_dec rfl (fun h => ?_) (fun h => .skip ?_)) rfl
  · refine .sreg ?_
    iterate 1 refine .p rfl rfl rfl trivial ?_
    refine .nil (.ret ⟨_, rfl, .int ?_, rfl⟩) rfl
    exact (err_arg fun hv => by have := hv.1; omega).symm
  have h0 : 0 ≤ n := by omega
  refine .seq (.sreg ?_)
  iterate 3 refine .p rfl rfl rfl trivial ?_
  refine .nil ?_ rfl
  refine .range (rows.length) (fun io => [(0, I n), (1, eR rows)]) (fun io => []) (fun io => ∀ j, j < io → ((rowAt rows j).1.length : Int) = n ∧ signs (rowAt rows j).1) rfl rfl rfl rfl rfl rfl rfl rfl rfl rfl ((by have := hf.1; omega)) (by first | exact trivial | (intro j hj; exact absurd hj (Nat.not_lt_zero j))) (.wk ?_) (fun _ => rfl) (fun io hio Cio => ?_) (fun Cio => ?_)
  · repeat (first | exact trivial | refine ⟨⟨_, rfl, .refl _⟩, ?_⟩)
  · refine .sreg ?_
    iterate 2 refine .p rfl rfl rfl trivial ?_
    refine .nil (.seq (.sreg ?_)) rfl
    iterate 2 refine .p rfl rfl rfl trivial ?_
    refine .ix (io) rfl rfl rfl rfl rfl rfl rfl (by first | rfl | omega) (by first | omega | decide) ?_
    iterate 1 refine .p rfl rfl rfl trivial ?_
    refine .ld _ rfl rfl rfl rfl rfl rfl (r_sig hio rfl) ?_
    iterate 3 refine .p rfl rfl rfl trivial ?_
    refine .nil (.cond_ndec rfl (fun h => ?_) (fun hn => .skip ?_)) rfl
    · refine .sreg ?_
      iterate 1 refine .p rfl rfl rfl trivial ?_
      refine .nil (.ret ⟨_, rfl, .int ?_, rfl⟩) rfl
      exact (err_arg fun hv => h (hv.2 io hio).1).symm
    refine .sreg ?_
    iterate 2 refine .p rfl rfl rfl trivial ?_
    refine .ix (io) rfl rfl rfl rfl rfl rfl rfl (by first | rfl | omega) (by first | omega | decide) ?_
    iterate 1 refine .p rfl rfl rfl trivial ?_
    refine .ld _ rfl rfl rfl rfl rfl rfl (r_sig hio rfl) ?_
    iterate 2 refine .p rfl rfl rfl trivial ?_
    refine .nil ?_ rfl
    refine .range ((rowAt rows io).1.length) (fun k => [(0, I n), (1, eR rows), (5, I io), (11, I io), (10, I rows.length)]) (fun k => []) (fun k => ∀ j, j < k → sign (atI (rowAt rows io).1 j)) rfl rfl rfl rfl rfl rfl rfl rfl rfl rfl ((by have := hf.2 io hio; omega)) (by first | exact trivial | (intro j hj; exact absurd hj (Nat.not_lt_zero j))) (.wk ?_) (fun _ => rfl) (fun k hk Ck => ?_) (fun Ck => ?_)
    · repeat (first | exact trivial | refine ⟨⟨_, rfl, .refl _⟩, ?_⟩)
    · refine .sreg ?_
      iterate 2 refine .p rfl rfl rfl trivial ?_
      refine .nil (.sreg ?_) rfl
      iterate 2 refine .p rfl rfl rfl trivial ?_
      refine .ix (io) rfl rfl rfl rfl rfl rfl rfl (by first | rfl | omega) (by first | omega | decide) ?_
      iterate 1 refine .p rfl rfl rfl trivial ?_
      refine .ld _ rfl rfl rfl rfl rfl rfl (r_sig hio rfl) ?_
      iterate 1 refine .p rfl rfl rfl trivial ?_
      refine .ix (k) rfl rfl rfl rfl rfl rfl rfl (by first | rfl | omega) (by first | omega | decide) ?_
      refine .ld _ rfl rfl rfl rfl rfl rfl (i_get hk rfl) ?_
      iterate 2 refine .p rfl rfl rfl trivial ?_
      have bad : ¬ sign (atI (rowAt rows io).1 k) → err n rows = 1 := fun h => err_arg fun hv => h ((hv.2 io hio).2 k hk)
      refine .dsplit (fun h => ?_) (fun h => ?_)
      · iterate 9 refine .skip rfl rfl ?_
        iterate 1 refine .p rfl rfl rfl trivial ?_
        refine .nil (.condT rfl ?_) rfl
        refine .sreg ?_
        iterate 1 refine .p rfl rfl rfl trivial ?_
        refine .nil (.ret ⟨_, rfl, .int ?_, rfl⟩) rfl
        exact (bad fun hs => by have := hs.1; omega).symm
      · iterate 2 refine .p rfl rfl rfl trivial ?_
        refine .ix (io) rfl rfl rfl rfl rfl rfl rfl (by first | rfl | omega) (by first | omega | decide) ?_
        iterate 1 refine .p rfl rfl rfl trivial ?_
        refine .ld _ rfl rfl rfl rfl rfl rfl (r_sig hio rfl) ?_
        iterate 1 refine .p rfl rfl rfl trivial ?_
        refine .ix (k) rfl rfl rfl rfl rfl rfl rfl (by first | rfl | omega) (by first | omega | decide) ?_
        refine .ld _ rfl rfl rfl rfl rfl rfl (i_get hk rfl) ?_
        iterate 2 refine .p rfl rfl rfl trivial ?_
        refine .nil (.cond_dec rfl (fun h2 => ?_) (fun h2 => .skip ⟨all_succ Ck ⟨by omega, by omega⟩, .wk ?_⟩)) rfl
        · refine .sreg ?_
          iterate 1 refine .p rfl rfl rfl trivial ?_
          refine .nil (.ret ⟨_, rfl, .int ?_, rfl⟩) rfl
          exact (bad fun hs => by have := hs.2; omega).symm
        · repeat (first | exact trivial | refine ⟨⟨_, rfl, .refl _⟩, ?_⟩)
    · refine ⟨all_succ Cio ⟨hn, Ck⟩, .wk ?_⟩
      repeat (first | exact trivial | refine ⟨⟨_, rfl, .refl _⟩, ?_⟩)
  · have hv : valid n rows := ⟨h0, Cio⟩
    show W _ _ _ _ _ _ _
    refine .seq (.sreg ?_)
    iterate 1 refine .p rfl rfl rfl trivial ?_
    refine .call (refSep_spec hf) rfl rfl rfl rfl ?_
    iterate 1 refine .p rfl rfl rfl trivial ?_
    refine .nil (.cond rfl (fun h => ?_) (fun h => .skip ?_)) rfl
    · refine .sreg ?_
      iterate 1 refine .p rfl rfl rfl trivial ?_
      refine .nil (.ret ⟨_, rfl, .int ?_, rfl⟩) rfl
      exact (err_none hv (by simpa using h)).symm
    · refine .sreg ?_
      iterate 1 refine .p rfl rfl rfl trivial ?_
      refine .nil (.ret ⟨_, rfl, .int ?_, rfl⟩) rfl
      exact (err_ok hv (by simpa using h)).symm

/- f12: cylinderref50.Sets -/
def sets (n : Int) (ts : List (List Int)) : Prop := ∀ i, i < ts.length → ((atT ts i).length : Int) = n ∧ ∀ k, k < (atT ts i).length → 1 ≤ atI (atT ts i) k ∧ atI (atT ts i) k ≤ 7
def small (ts : List (List Int)) : Prop := ts.length ≤ 90 ∧ ∀ i, i < ts.length → (atT ts i).length ≤ 6

theorem Sets_spec {n : Int} {ts : List (List Int)} (hf : small ts) : PureFn Try.prog 12 [I n, eT ts] (B (sets n ts)) := by
  refine .of_W (fn := Try.f12) ⟨.int _ _, eT_pure _, trivial⟩ Try.call12 Try.func12 rfl rfl ?_
  refine .sreg ?_
  iterate 1 refine .p rfl rfl rfl trivial ?_
  refine .nil (.seq (.sreg ?_)) rfl
  iterate 3 refine .p rfl rfl rfl trivial ?_
  refine .nil ?_ rfl
  refine .range (ts.length) (fun io => [(0, I n), (1, eT ts)]) (fun io => []) (fun io => ∀ j, j < io → ((atT ts j).length : Int) = n ∧ ∀ k, k < (atT ts j).length → 1 ≤ atI (atT ts j) k ∧ atI (atT ts j) k ≤ 7) rfl rfl rfl rfl rfl rfl rfl rfl rfl rfl ((by have := hf.1; omega)) (by first | exact trivial | (intro j hj; exact absurd hj (Nat.not_lt_zero j))) (.wk ?_) (fun _ => rfl) (fun io hio Cio => ?_) (fun Cio => ?_)
  · repeat (first | exact trivial | refine ⟨⟨_, rfl, .refl _⟩, ?_⟩)
  · refine .sreg ?_
    iterate 2 refine .p rfl rfl rfl trivial ?_
    refine .nil (.seq (.sreg ?_)) rfl
    iterate 2 refine .p rfl rfl rfl trivial ?_
    refine .ix (io) rfl rfl rfl rfl rfl rfl rfl (by first | rfl | omega) (by first | omega | decide) ?_
    refine .ld _ rfl rfl rfl rfl rfl rfl (t_get hio rfl) ?_
    iterate 3 refine .p rfl rfl rfl trivial ?_
    refine .nil (.cond_ndec rfl (fun h => ?_) (fun hn => .skip ?_)) rfl
    · refine .sreg ?_
      iterate 1 refine .p rfl rfl rfl trivial ?_
      refine .nil (.ret ⟨_, rfl, .bool (B_false fun hv => h (hv io hio).1), rfl⟩) rfl
    refine .sreg ?_
    iterate 2 refine .p rfl rfl rfl trivial ?_
    refine .ix (io) rfl rfl rfl rfl rfl rfl rfl (by first | rfl | omega) (by first | omega | decide) ?_
    refine .ld _ rfl rfl rfl rfl rfl rfl (t_get hio rfl) ?_
    iterate 2 refine .p rfl rfl rfl trivial ?_
    refine .nil ?_ rfl
    refine .range ((atT ts io).length) (fun k => [(0, I n), (1, eT ts), (5, I io), (9, I io), (8, I ts.length)]) (fun k => []) (fun k => ∀ j, j < k → 1 ≤ atI (atT ts io) j ∧ atI (atT ts io) j ≤ 7) rfl rfl rfl rfl rfl rfl rfl rfl rfl rfl ((by have := hf.2 io hio; omega)) (by first | exact trivial | (intro j hj; exact absurd hj (Nat.not_lt_zero j))) (.wk ?_) (fun _ => rfl) (fun k hk Ck => ?_) (fun Ck => ?_)
    · repeat (first | exact trivial | refine ⟨⟨_, rfl, .refl _⟩, ?_⟩)
    · refine .sreg ?_
      iterate 2 refine .p rfl rfl rfl trivial ?_
      refine .nil (.sreg ?_) rfl
      iterate 2 refine .p rfl rfl rfl trivial ?_
      refine .ix (io) rfl rfl rfl rfl rfl rfl rfl (by first | rfl | omega) (by first | omega | decide) ?_
      refine .ld _ rfl rfl rfl rfl rfl rfl (t_get hio rfl) ?_
      iterate 1 refine .p rfl rfl rfl trivial ?_
      refine .ix (k) rfl rfl rfl rfl rfl rfl rfl (by first | rfl | omega) (by first | omega | decide) ?_
      refine .ld _ rfl rfl rfl rfl rfl rfl (i_get hk rfl) ?_
      iterate 2 refine .p rfl rfl rfl trivial ?_
      refine .dsplit (fun h => ?_) (fun h => ?_)
      · iterate 8 refine .skip rfl rfl ?_
        iterate 1 refine .p rfl rfl rfl trivial ?_
        refine .nil (.condT rfl ?_) rfl
        refine .sreg ?_
        iterate 1 refine .p rfl rfl rfl trivial ?_
        refine .nil (.ret ⟨_, rfl, .bool (B_false fun hv => by have := ((hv io hio).2 k hk).1; omega), rfl⟩) rfl
      · iterate 2 refine .p rfl rfl rfl trivial ?_
        refine .ix (io) rfl rfl rfl rfl rfl rfl rfl (by first | rfl | omega) (by first | omega | decide) ?_
        refine .ld _ rfl rfl rfl rfl rfl rfl (t_get hio rfl) ?_
        iterate 1 refine .p rfl rfl rfl trivial ?_
        refine .ix (k) rfl rfl rfl rfl rfl rfl rfl (by first | rfl | omega) (by first | omega | decide) ?_
        refine .ld _ rfl rfl rfl rfl rfl rfl (i_get hk rfl) ?_
        iterate 2 refine .p rfl rfl rfl trivial ?_
        refine .nil (.cond_dec rfl (fun h2 => ?_) (fun h2 => .skip ⟨all_succ Ck ⟨by omega, by omega⟩, .wk ?_⟩)) rfl
        · refine .sreg ?_
          iterate 1 refine .p rfl rfl rfl trivial ?_
          refine .nil (.ret ⟨_, rfl, .bool (B_false fun hv => by have := ((hv io hio).2 k hk).2; omega), rfl⟩) rfl
        · repeat (first | exact trivial | refine ⟨⟨_, rfl, .refl _⟩, ?_⟩)
    · refine ⟨all_succ Cio ⟨hn, Ck⟩, .wk ?_⟩
      repeat (first | exact trivial | refine ⟨⟨_, rfl, .refl _⟩, ?_⟩)
  · refine W.sreg ?_
    iterate 1 refine .p rfl rfl rfl trivial ?_
    refine .nil (.ret ⟨_, rfl, .bool (B_true Cio), rfl⟩) rfl

/- f27: cylinderref50.permitsFalse -/
def permF (t : List Int) (rows : List Row) : Prop := ∃ i, i < rows.length ∧ (rowAt rows i).2 = false ∧ permR t (rowAt rows i).1

theorem permitsFalse_spec {t : List Int} {rows : List Row} (hf : few rows) (hs : ∀ i, i < rows.length → signs (rowAt rows i).1) (ht : t.length ≤ 6) : PureFn Try.prog 27 [eI t, eR rows] (B (permF t rows)) := by
  refine .of_W (fn := Try.f27) ⟨eI_pure _, eR_pure _, trivial⟩ Try.call27 Try.func27 rfl rfl ?_
  refine .sreg ?_
  iterate 1 refine .p rfl rfl rfl trivial ?_
  refine .nil (.seq (.sreg ?_)) rfl
  iterate 3 refine .p rfl rfl rfl trivial ?_
  refine .nil ?_ rfl
  refine .range (rows.length) (fun i => [(0, eI t), (1, eR rows)]) (fun i => []) (fun i => ∀ j, j < i → ¬ ((rowAt rows j).2 = false ∧ permR t (rowAt rows j).1)) rfl rfl rfl rfl rfl rfl rfl rfl rfl rfl ((by have := hf.1; omega)) (by first | exact trivial | (intro j hj; exact absurd hj (Nat.not_lt_zero j))) (.wk ?_) (fun _ => rfl) (fun i hi Ci => ?_) (fun Ci => ?_)
  · repeat (first | exact trivial | refine ⟨⟨_, rfl, .refl _⟩, ?_⟩)
  · refine .sreg ?_
    iterate 2 refine .p rfl rfl rfl trivial ?_
    refine .nil (.sreg ?_) rfl
    iterate 2 refine .p rfl rfl rfl trivial ?_
    refine .ix (i) rfl rfl rfl rfl rfl rfl rfl (by first | rfl | omega) (by first | omega | decide) ?_
    iterate 1 refine .p rfl rfl rfl trivial ?_
    refine .ld _ rfl rfl rfl rfl rfl rfl (r_tr hi rfl) ?_
    iterate 2 refine .p rfl rfl rfl trivial ?_
    refine .split (fun h => ?_) (fun h => ?_)
    · have h1 : (rowAt rows i).2 = false := by simpa using h
      iterate 3 refine .p rfl rfl rfl trivial ?_
      refine .ix (i) rfl rfl rfl rfl rfl rfl rfl (by first | rfl | omega) (by first | omega | decide) ?_
      iterate 1 refine .p rfl rfl rfl trivial ?_
      refine .ld _ rfl rfl rfl rfl rfl rfl (r_sig hi rfl) ?_
      refine .call (Permits_spec (hs i hi) (by omega)) rfl rfl rfl rfl ?_
      iterate 1 refine .p rfl rfl rfl trivial ?_
      refine .nil (.cond_dec rfl (fun h2 => ?_) (fun h2 => .skip ⟨all_succ Ci fun hc => h2 hc.2, .wk ?_⟩)) rfl
      · refine .sreg ?_
        iterate 1 refine .p rfl rfl rfl trivial ?_
        refine .nil (.ret ⟨_, rfl, .bool (B_true ⟨i, hi, h1, h2⟩), rfl⟩) rfl
      · repeat (first | exact trivial | refine ⟨⟨_, rfl, .refl _⟩, ?_⟩)
    · iterate 7 refine .skip rfl rfl ?_
      iterate 1 refine .p rfl rfl rfl trivial ?_
      refine .nil (.condF rfl (.skip ⟨all_succ Ci fun hc => by simp [hc.1] at h, .wk ?_⟩)) rfl
      repeat (first | exact trivial | refine ⟨⟨_, rfl, .refl _⟩, ?_⟩)
  · refine W.sreg ?_
    iterate 1 refine .p rfl rfl rfl trivial ?_
    refine .nil (.ret ⟨_, rfl, .bool (B_false fun ⟨i, hi, h⟩ => Ci i hi h), rfl⟩) rfl

/- f13: cylinderref50.Covers -/
def covs (ts : List (List Int)) (rows : List Row) : Prop := ∀ i, i < rows.length → ((∃ k, k < ts.length ∧ permR (atT ts k) (rowAt rows i).1) ↔ (rowAt rows i).2 = true)

theorem exists_succ {p : Nat → Prop} {k : Nat} : (∃ j, j < k + 1 ∧ p j) ↔ (∃ j, j < k ∧ p j) ∨ p k := by
  constructor
  · rintro ⟨j, hj, h⟩
    rcases Nat.lt_succ_iff_lt_or_eq.1 hj with h1 | rfl
    · exact .inl ⟨j, h1, h⟩
    · exact .inr h
  · rintro (⟨j, hj, h⟩ | h)
    · exact ⟨j, by omega, h⟩
    · exact ⟨k, by omega, h⟩

end Go.Proofs.Ytcnblloiaambaaa
