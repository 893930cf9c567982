import Derived.Test.YtbdefjbekbbldaaA2
import Derived.Test.YtbdefjbekbbldaaNB
import Derived.Test.YtbdefjbekbbldaaA3
set_option linter.unusedVariables false
set_option linter.unusedSimpArgs false
set_option linter.unnecessarySimpa false
namespace Go.Proofs.Ytbdefjbekbbldaa
open Go.V Go.N
set_option maxHeartbeats 8000000
set_option maxRecDepth 20000

theorem cmpI_Z (x y : Int) : cmpI x y = cmpZ x y := rfl
/- sparse.Compare$1 -/
theorem Compare1_spec {x y : RT} (h : okZ x.1) (h' : okZ y.1) : PureFn Try.prog 76 [eT x, eT y] (I (cmpT1 (zv x.1, x.2) (zv y.1, y.2))) := by
  refine .of_W (fn := Try.f76) (by repeat (first | exact trivial | refine ⟨(by repeat (exact eT_pure _)), ?_⟩)) Try.call76 Try.func76 rfl rfl ?_
  repeat (first | (with_reducible refine W.id_ ?_); (first | refine W.sreg ?_ | refine W.seq ?_) | (with_reducible refine RK.id_ ?_); (first | refine RK.cons_ ?_; (first | refine RK.k_ 0 rfl ?_; refine .p rfl rfl rfl (by exact trivial) ?_ | refine RK.k_ 5 rfl ?_; (refine .ldla rfl rfl rfl rfl rfl rfl rfl (by rfl) rfl ?_) | refine RK.k_ 6 rfl ?_; (refine .box _ rfl rfl rfl rfl rfl rfl rfl ?_)) | refine RK.nilT rfl ?_ rfl))
  refine .call (CompareMono_spec x.2 y.2) rfl rfl rfl rfl ?_
  repeat (first | (with_reducible refine W.id_ ?_); (refine W.sreg ?_) | (with_reducible refine RK.id_ ?_); (first | refine RK.cons_ ?_; (refine RK.k_ 0 rfl ?_; refine .p rfl rfl rfl (by exact trivial) ?_) | refine RK.nilT rfl ?_ rfl))
  refine W.cond_ndec rfl (fun h1 => ?_) (fun h1 => ?_)
  · repeat (first | (with_reducible refine W.id_ ?_); (refine W.sreg ?_) | (with_reducible refine RK.id_ ?_); (first | refine RK.cons_ ?_; (refine RK.k_ 0 rfl ?_; refine .p rfl rfl rfl (by exact trivial) ?_) | refine RK.nilT rfl ?_ rfl))
    refine W.ret ⟨_, rfl, .eq (by repeat (exact .int _ _)) ?_, rfl⟩
    rw [cmpT1, if_pos h1]
  · repeat (first | (with_reducible refine W.id_ ?_); (first | refine W.sreg ?_ | refine W.skipT rfl ?_) | (with_reducible refine RK.id_ ?_); (refine RK.cons_ ?_; (first | refine RK.k_ 0 rfl ?_; refine .p rfl rfl rfl (by exact trivial) ?_ | refine RK.k_ 5 rfl ?_; (refine .ldla rfl rfl rfl rfl rfl rfl rfl (by rfl) rfl ?_))))
    refine .call (Zcmp_spec h h') rfl rfl rfl rfl ?_
    repeat ((with_reducible refine RK.id_ ?_); (first | refine RK.cons_ ?_; (refine RK.k_ 0 rfl ?_; refine .p rfl rfl rfl (by exact trivial) ?_) | refine RK.nilT rfl ?_ rfl))
    refine W.ret ⟨_, rfl, .eq (by repeat (exact .int _ _)) ?_, rfl⟩
    rw [cmpT1, if_neg (by simpa using h1)]; rfl

/- slices.CompareFunc -/
theorem CompareFunc_spec {a b : P} (hka : Pok (can a)) (hkb : Pok (can b)) : PureFn Try.prog 75 [eP (can a), eP (can b), .fn 76 []] (I (cmpL a b)) := by
  have hna : (can a).length ≤ 1000000 := hka.n
  have hnb : (can b).length ≤ 1000000 := hkb.n
  have ka : (can a).length = a.length := can_len a
  have kb : (can b).length = b.length := can_len b
  refine .of_W (fn := Try.f75) (by repeat (first | exact trivial | refine ⟨(by repeat (first | exact trivial | exact eP_pure _ | refine .fn (PureL.mem ?_))), ?_⟩)) Try.call75 Try.func75 rfl rfl ?_
  repeat (first | (with_reducible refine W.id_ ?_); (first | refine W.sreg ?_ | refine W.seq ?_) | (with_reducible refine RK.id_ ?_); (first | refine RK.cons_ ?_; (refine RK.k_ 0 rfl ?_; refine .p rfl rfl rfl (by exact trivial) ?_) | refine RK.nilT rfl ?_ rfl))
  refine .rangeS ((can a).length) (fun i s => [(2, .fn 76 []), (1, eP (can b)), (11, eP (can a)), (0, eP (can a))]) (fun i s => []) (fun i s => s = () ∧ i ≤ b.length ∧ cmpL a b = cmpL (a.drop i) (b.drop i)) (()) rfl rfl rfl rfl rfl rfl rfl rfl rfl rfl (by omega) ?_ ?_ (fun _ _ => rfl) (fun i s hi Ci => ?_) (fun s Ci => ?_)
  · exact ⟨rfl, Nat.zero_le _, rfl⟩
  · refine .heap ?_ rfl
    repeat (first | exact trivial | refine ⟨⟨_, rfl, .refl _⟩, ?_⟩)
  · have hia : i < a.length := by omega
    repeat (first | (with_reducible refine W.id_ ?_); (first | refine W.sreg ?_ | refine W.seq ?_) | (with_reducible refine RK.id_ ?_); (first | refine RK.cons_ ?_; (first | refine RK.k_ 0 rfl ?_; refine .p rfl rfl rfl (by exact trivial) ?_ | refine RK.k_ 4 rfl ?_; (refine .ix _ (s := 6) rfl rfl rfl rfl rfl rfl rfl (by rfl) (by omega) ?_) | refine RK.k_ 5 rfl ?_; (refine .lda _ rfl rfl rfl rfl rfl rfl rfl (by exact take_flat (z := zT) tc_len (by omega) (by omega) rfl) ?_) | refine RK.k_ 6 rfl ?_; (first | refine .alloc _ rfl rfl rfl rfl rfl rfl rfl ?_ | refine .store rfl rfl rfl rfl rfl rfl rfl (by rfl) (by rfl) (by rfl) ?_)) | refine RK.nilT rfl ?_ rfl))
    refine W.cond_dec rfl (fun h => ?_) (fun h => ?_)
    · repeat (first | (with_reducible refine W.id_ ?_); (refine W.sreg ?_) | (with_reducible refine RK.id_ ?_); (first | refine RK.cons_ ?_; (refine RK.k_ 0 rfl ?_; refine .p rfl rfl rfl (by exact trivial) ?_) | refine RK.nilT rfl ?_ rfl))
      refine W.ret ⟨_, rfl, .eq (by repeat (exact .int _ _)) ?_, rfl⟩
      rw [Ci.2.2, cmpL_l hia (by omega)]
    · have hib : i < b.length := by omega
      have hib' : i < (can b).length := by omega
      have e1 := cmpL_drop hia hib
      have hC := Compare1_spec (hka.z _ (getD_mem (z := zT) hi)) (hkb.z _ (getD_mem (z := zT) hib'))
      rw [show (zv ((can a).getD i zT).1, ((can a).getD i zT).2) = a.getD i N.t0 by rw [getD_can hia, zv_can], show (zv ((can b).getD i zT).1, ((can b).getD i zT).2) = b.getD i N.t0 by rw [getD_can hib, zv_can]] at hC
      repeat (first | (with_reducible refine W.id_ ?_); (first | refine W.sreg ?_ | refine W.skipT rfl ?_) | (with_reducible refine RK.id_ ?_); (first | refine RK.cons_ ?_; (first | refine RK.k_ 0 rfl ?_; refine .p rfl rfl rfl (by exact trivial) ?_ | refine RK.k_ 4 rfl ?_; (refine .ix _ (s := 6) rfl rfl rfl rfl rfl rfl rfl (by rfl) (by omega) ?_) | refine RK.k_ 5 rfl ?_; (first | refine .ldla rfl rfl rfl rfl rfl rfl rfl (by rfl) rfl ?_ | refine .lda _ rfl rfl rfl rfl rfl rfl rfl (by exact take_flat (z := zT) tc_len (by omega) (by omega) rfl) ?_) | refine RK.k_ 6 rfl ?_; (first | refine .alloc _ rfl rfl rfl rfl rfl rfl rfl ?_ | refine .store rfl rfl rfl rfl rfl rfl rfl (by rfl) (by rfl) (by rfl) ?_)) | refine RK.nilT rfl ?_ rfl))
      refine .callP (hC) rfl rfl rfl rfl rfl rfl ?_
      repeat (first | (with_reducible refine W.id_ ?_); (refine W.sreg ?_) | (with_reducible refine RK.id_ ?_); (first | refine RK.cons_ ?_; (refine RK.k_ 0 rfl ?_; refine .p rfl rfl rfl (by exact trivial) ?_) | refine RK.nilT rfl ?_ rfl))
      refine W.cond_ndec rfl (fun h2 => ?_) (fun h2 => ?_)
      · repeat (first | (with_reducible refine W.id_ ?_); (refine W.sreg ?_) | (with_reducible refine RK.id_ ?_); (first | refine RK.cons_ ?_; (refine RK.k_ 0 rfl ?_; refine .p rfl rfl rfl (by exact trivial) ?_) | refine RK.nilT rfl ?_ rfl))
        refine W.ret ⟨_, rfl, .eq (by repeat (exact .int _ _)) ?_, rfl⟩
        rw [Ci.2.2, e1, if_pos h2]
      · refine .skip ⟨(), ⟨rfl, by omega, by rw [Ci.2.2, e1, if_neg (by simpa using h2)]⟩, .ren [] [] (Nat.zero_le _) (fun b hb => absurd hb (Nat.not_lt_zero b)) (by simp) ?_ trivial⟩
        repeat (first | exact trivial | refine ⟨⟨_, rfl, .wk (by repeat (first | exact trivial | exact .int _ _ | exact eP_pure _ | refine .fn (PureL.mem ?_))) (by exact .refl _)⟩, ?_⟩)
  show W _ _ _ _ _ _ _
  repeat (first | (with_reducible refine W.id_ ?_); (first | refine W.sreg ?_ | refine W.seq ?_) | (with_reducible refine RK.id_ ?_); (first | refine RK.cons_ ?_; (refine RK.k_ 0 rfl ?_; refine .p rfl rfl rfl (by exact trivial) ?_) | refine RK.nilT rfl ?_ rfl))
  refine W.cond_dec rfl (fun h => ?_) (fun h => ?_)
  · repeat (first | (with_reducible refine W.id_ ?_); (refine W.sreg ?_) | (with_reducible refine RK.id_ ?_); (first | refine RK.cons_ ?_; (refine RK.k_ 0 rfl ?_; refine .p rfl rfl rfl (by exact trivial) ?_) | refine RK.nilT rfl ?_ rfl))
    refine W.ret ⟨_, rfl, .eq (by repeat (exact .int _ _)) ?_, rfl⟩
    rw [Ci.2.2, cmpL_r (by omega) (by omega)]
  · repeat (first | (with_reducible refine W.id_ ?_); (first | refine W.sreg ?_ | refine W.skipT rfl ?_) | (with_reducible refine RK.id_ ?_); (first | refine RK.cons_ ?_; (refine RK.k_ 0 rfl ?_; refine .p rfl rfl rfl (by exact trivial) ?_) | refine RK.nilT rfl ?_ rfl))
    refine W.ret ⟨_, rfl, .eq (by repeat (exact .int _ _)) ?_, rfl⟩
    rw [Ci.2.2, cmpL_e (by omega) (by omega)]

/- sparse.Compare -/
theorem Compare_spec {p q : List RT} {a b : P} (hp : Pok p) (hq : Pok q) (ea : a = nrm (vals p)) (eb : b = nrm (vals q)) : PureFn Try.prog 39 [eP p, eP q] (I (cmpL a b)) := by
  have ka : Pok (can a) := by rw [ea]; exact can_pok' (Nat.lt_of_le_of_lt (l1_nrm _) hp.l) (Nat.le_trans (nrm_len _) (by rw [vals_len]; exact hp.n))
  have kb : Pok (can b) := by rw [eb]; exact can_pok' (Nat.lt_of_le_of_lt (l1_nrm _) hq.l) (Nat.le_trans (nrm_len _) (by rw [vals_len]; exact hq.n))
  have h1 := Normal_spec hp
  have h2 := Normal_spec hq
  rw [← ea] at h1
  rw [← eb] at h2
  refine .of_W (fn := Try.f39) (by repeat (first | exact trivial | refine ⟨(by repeat (exact eP_pure _)), ?_⟩)) Try.call39 Try.func39 rfl rfl ?_
  repeat (first | (with_reducible refine W.id_ ?_); (refine W.sreg ?_) | (with_reducible refine RK.id_ ?_); (first | refine RK.cons_ ?_; (refine RK.k_ 0 rfl ?_; refine .p rfl rfl rfl (by exact trivial) ?_) | refine RK.nilT rfl ?_ rfl))
  refine .call (h1) rfl rfl rfl rfl ?_
  repeat ((with_reducible refine RK.id_ ?_); (refine RK.cons_ ?_; (refine RK.k_ 0 rfl ?_; refine .p rfl rfl rfl (by exact trivial) ?_)))
  refine .call (h2) rfl rfl rfl rfl ?_
  skip
  refine .call (CompareFunc_spec ka kb) rfl rfl rfl rfl ?_
  repeat ((with_reducible refine RK.id_ ?_); (first | refine RK.cons_ ?_; (refine RK.k_ 0 rfl ?_; refine .p rfl rfl rfl (by exact trivial) ?_) | refine RK.nilT rfl ?_ rfl))
  refine W.ret ⟨_, rfl, .eq (by repeat (exact .int _ _)) ?_, rfl⟩
  rfl

/- cylinderref20.Compare -/
theorem RCompare_spec {a b : P} (hka : Pok (can a)) (hkb : Pok (can b)) : PureFn Try.prog 40 [eP (can a), eP (can b)] (I (cmpL a b)) := by
  have hna : (can a).length ≤ 1000000 := hka.n
  have hnb : (can b).length ≤ 1000000 := hkb.n
  have ka : (can a).length = a.length := can_len a
  have kb : (can b).length = b.length := can_len b
  refine .of_W (fn := Try.f40) (by repeat (first | exact trivial | refine ⟨(by repeat (exact eP_pure _)), ?_⟩)) Try.call40 Try.func40 rfl rfl ?_
  repeat (first | (with_reducible refine W.id_ ?_); (first | refine W.sreg ?_ | refine W.seq ?_) | (with_reducible refine RK.id_ ?_); (first | refine RK.cons_ ?_; (refine RK.k_ 0 rfl ?_; refine .p rfl rfl rfl (by exact trivial) ?_) | refine RK.nilT rfl ?_ rfl))
  refine W.loopE (fun i => (i ≤ a.length ∧ i ≤ b.length) ∧ cmpL a b = cmpL (a.drop i) (b.drop i)) (fun i => (a.length ≤ i ∨ b.length ≤ i) ∧ i ≤ a.length ∧ i ≤ b.length ∧ cmpL a b = cmpL (a.drop i) (b.drop i)) (fun i => a.length - i) (fun i => [(5, I (i : Int)), (0, eP (can a)), (1, eP (can b))]) (fun i => []) (0) rfl ?_ ?_ ?_ ?_
  · exact ⟨⟨Nat.zero_le _, Nat.zero_le _⟩, rfl⟩
  · refine .heap ?_ rfl
    repeat (first | exact trivial | refine ⟨⟨_, rfl, .refl _⟩, ?_⟩)
  · rintro i ⟨⟨h1, h2⟩, h3⟩
    repeat (first | (with_reducible refine W.id_ ?_); (first | refine W.sreg ?_ | refine W.seq ?_) | (with_reducible refine RK.id_ ?_); (refine RK.cons_ ?_; (refine RK.k_ 0 rfl ?_; refine .p rfl rfl rfl (by exact trivial) ?_)))
    refine .dsplit (fun h4 => ?_) (fun h4 => ?_)
    · repeat ((with_reducible refine RK.id_ ?_); (first | refine RK.cons_ ?_; (refine RK.k_ 0 rfl ?_; refine .p rfl rfl rfl (by exact trivial) ?_) | refine RK.nilT rfl ?_ rfl))
      refine W.cond_dec rfl (fun h5 => ?_) (fun h5 => ?_)
      · have hia : i < a.length := by omega
        have hib : i < b.length := by omega
        have hia' : i < (can a).length := by omega
        have hib' : i < (can b).length := by omega
        have e1 := cmpL_drop hia hib
        have ga : (can a).getD i zT = (zcan (a.getD i N.t0).1, (a.getD i N.t0).2) := getD_can hia
        have gb : (can b).getD i zT = (zcan (b.getD i N.t0).1, (b.getD i N.t0).2) := getD_can hib
        have hC := RCompareMono_spec ((can a).getD i zT).2 ((can b).getD i zT).2
        have hZ := Zcmp_spec (hka.z _ (getD_mem (z := zT) hia')) (hkb.z _ (getD_mem (z := zT) hib'))
        have v1 : cmpM ((can a).getD i zT).2 ((can b).getD i zT).2 = cmpM (a.getD i N.t0).2 (b.getD i N.t0).2 := by rw [ga, gb]
        have v2 : cmpI (zv ((can a).getD i zT).1) (zv ((can b).getD i zT).1) = cmpZ (a.getD i N.t0).1 (b.getD i N.t0).1 := by rw [ga, gb, zv_can, zv_can]; rfl
        repeat (first | (with_reducible refine W.id_ ?_); (first | refine W.sdraw mixed (by kernel_rfl) (by kernel_rfl) ?_ | refine W.seq ?_ | refine W.blockS ?_ | refine W.skipT rfl ?_) | (with_reducible refine RK.id_ ?_); (refine RK.cons_ ?_; (first | refine RK.k_ 0 rfl ?_; refine .p rfl rfl rfl (by exact trivial) ?_ | refine RK.k_ 4 rfl ?_; (refine .ix _ (s := 6) rfl rfl rfl rfl rfl rfl rfl (by rfl) (by omega) ?_) | refine RK.k_ 5 rfl ?_; (refine .lda _ rfl rfl rfl rfl rfl rfl rfl (by exact take_part (z := zT) tc_len (by omega) (Nat.le_of_ble_eq_true rfl) (Nat.le_of_ble_eq_true rfl) rfl rfl) ?_))))
        refine .call (hC) rfl rfl rfl rfl ?_
        repeat (first | (with_reducible refine W.id_ ?_); (first | refine W.sreg ?_ | refine W.seq ?_) | (with_reducible refine RK.id_ ?_); (first | refine RK.cons_ ?_; (refine RK.k_ 0 rfl ?_; refine .p rfl rfl rfl (by exact trivial) ?_) | refine RK.nilT rfl ?_ rfl))
        refine W.cond_ndec rfl (fun h6 => ?_) (fun h6 => ?_)
        · have t1 : cmpT1 (a.getD i N.t0) (b.getD i N.t0) = cmpM ((can a).getD i zT).2 ((can b).getD i zT).2 := by rw [cmpT1, if_pos (by rw [← v1]; exact h6), v1]
          repeat (first | (with_reducible refine W.id_ ?_); (refine W.sreg ?_) | (with_reducible refine RK.id_ ?_); (first | refine RK.cons_ ?_; (refine RK.k_ 0 rfl ?_; refine .p rfl rfl rfl (by exact trivial) ?_) | refine RK.nilT rfl ?_ rfl))
          refine W.ret ⟨_, rfl, .eq (by repeat (exact .int _ _)) ?_, rfl⟩
          rw [h3, e1, t1, if_pos h6]
        have t1 : cmpT1 (a.getD i N.t0) (b.getD i N.t0) = cmpI (zv ((can a).getD i zT).1) (zv ((can b).getD i zT).1) := by rw [cmpT1, if_neg (by rw [← v1]; simpa using h6), v2]
        repeat (first | (with_reducible refine W.id_ ?_); (first | refine W.sdraw mixed (by kernel_rfl) (by kernel_rfl) ?_ | refine W.skipT rfl ?_) | (with_reducible refine RK.id_ ?_); (refine RK.cons_ ?_; (first | refine RK.k_ 0 rfl ?_; refine .p rfl rfl rfl (by exact trivial) ?_ | refine RK.k_ 4 rfl ?_; (refine .ix _ (s := 6) rfl rfl rfl rfl rfl rfl rfl (by rfl) (by omega) ?_) | refine RK.k_ 5 rfl ?_; (refine .lda _ rfl rfl rfl rfl rfl rfl rfl (by exact take_part (z := zT) tc_len (by omega) (Nat.le_of_ble_eq_true rfl) (Nat.le_of_ble_eq_true rfl) rfl rfl) ?_))))
        refine .call (hZ) rfl rfl rfl rfl ?_
        repeat (first | (with_reducible refine W.id_ ?_); (refine W.sreg ?_) | (with_reducible refine RK.id_ ?_); (first | refine RK.cons_ ?_; (refine RK.k_ 0 rfl ?_; refine .p rfl rfl rfl (by exact trivial) ?_) | refine RK.nilT rfl ?_ rfl))
        refine W.cond_ndec rfl (fun h7 => ?_) (fun h7 => ?_)
        · repeat (first | (with_reducible refine W.id_ ?_); (refine W.sreg ?_) | (with_reducible refine RK.id_ ?_); (first | refine RK.cons_ ?_; (refine RK.k_ 0 rfl ?_; refine .p rfl rfl rfl (by exact trivial) ?_) | refine RK.nilT rfl ?_ rfl))
          refine W.ret ⟨_, rfl, .eq (by repeat (exact .int _ _)) ?_, rfl⟩
          rw [h3, e1, t1, if_pos h7]
        repeat (first | (with_reducible refine W.id_ ?_); (first | refine W.reg ?_ | refine W.skipT rfl ?_) | (with_reducible refine RK.id_ ?_); (refine RK.cons_ ?_; (first | refine RK.k_ 0 rfl ?_; refine .p rfl rfl rfl (by exact trivial) ?_ | refine RK.k_ 1 rfl ?_; (refine .pa rfl rfl rfl rfl rfl rfl (by omega) (by omega) ?_))))
        refine .nil ?_ rfl
        refine ⟨i + 1, by show a.length - (i + 1) < a.length - i; omega, ⟨⟨by omega, by omega⟩, by rw [h3, e1, t1, if_neg (by simpa using h7)]⟩, .heap ?_ rfl⟩
        repeat (first | exact trivial | refine ⟨⟨_, rfl, .refl _⟩, ?_⟩)
      · refine W.exit ⟨i, ⟨.inr (by omega), h1, h2, h3⟩, .heap ?_ rfl⟩
        repeat (first | exact trivial | refine ⟨⟨_, rfl, .refl _⟩, ?_⟩)
    · repeat (first | (with_reducible refine W.id_ ?_); (refine W.condF rfl ?_) | (with_reducible refine RK.id_ ?_); (first | refine RK.cons_ ?_; (first | refine .skip rfl rfl ?_ | refine RK.k_ 0 rfl ?_; refine .p rfl rfl rfl (by exact trivial) ?_) | refine RK.nilT rfl ?_ rfl))
      refine W.exit ⟨i, ⟨.inl (by omega), h1, h2, h3⟩, .heap ?_ rfl⟩
      repeat (first | exact trivial | refine ⟨⟨_, rfl, .refl _⟩, ?_⟩)
  · rintro i ⟨h1, h2, h3, h4⟩
    repeat (first | (with_reducible refine W.id_ ?_); (first | refine W.sreg ?_ | refine W.seq ?_) | (with_reducible refine RK.id_ ?_); (first | refine RK.cons_ ?_; (refine RK.k_ 0 rfl ?_; refine .p rfl rfl rfl (by exact trivial) ?_) | refine RK.nilT rfl ?_ rfl))
    refine W.cond_dec rfl (fun h5 => ?_) (fun h5 => ?_)
    · repeat (first | (with_reducible refine W.id_ ?_); (refine W.sreg ?_) | (with_reducible refine RK.id_ ?_); (first | refine RK.cons_ ?_; (refine RK.k_ 0 rfl ?_; refine .p rfl rfl rfl (by exact trivial) ?_) | refine RK.nilT rfl ?_ rfl))
      refine W.ret ⟨_, rfl, .eq (by repeat (exact .int _ _)) ?_, rfl⟩
      rw [h4, cmpL_l (by omega) (by omega)]
    repeat (first | (with_reducible refine W.id_ ?_); (first | refine W.sreg ?_ | refine W.seq ?_ | refine W.skipT rfl ?_) | (with_reducible refine RK.id_ ?_); (first | refine RK.cons_ ?_; (refine RK.k_ 0 rfl ?_; refine .p rfl rfl rfl (by exact trivial) ?_) | refine RK.nilT rfl ?_ rfl))
    refine W.cond_dec rfl (fun h6 => ?_) (fun h6 => ?_)
    · repeat (first | (with_reducible refine W.id_ ?_); (refine W.sreg ?_) | (with_reducible refine RK.id_ ?_); (first | refine RK.cons_ ?_; (refine RK.k_ 0 rfl ?_; refine .p rfl rfl rfl (by exact trivial) ?_) | refine RK.nilT rfl ?_ rfl))
      refine W.ret ⟨_, rfl, .eq (by repeat (exact .int _ _)) ?_, rfl⟩
      rw [h4, cmpL_r (by omega) (by omega)]
    · repeat (first | (with_reducible refine W.id_ ?_); (first | refine W.sreg ?_ | refine W.skipT rfl ?_) | (with_reducible refine RK.id_ ?_); (first | refine RK.cons_ ?_; (refine RK.k_ 0 rfl ?_; refine .p rfl rfl rfl (by exact trivial) ?_) | refine RK.nilT rfl ?_ rfl))
      refine W.ret ⟨_, rfl, .eq (by repeat (exact .int _ _)) ?_, rfl⟩
      rw [h4, cmpL_e (by omega) (by omega)]
end Go.Proofs.Ytbdefjbekbbldaa

namespace Go.Proofs.Ytbdefjbekbbldaa
open Go.V Go.N
open Go.ChangeShapes Go.WideShapes Go.ChangeAt Go.RowKit

theorem okWide_arr {P : Program} {w : World} {r : Reach} {base : Nat} {t e : TypeId} {n : Nat} {v : Value} (ht : P.underlying t = some (.array n e)) (h : Value.okWide P w r base t v) : ∃ cs, v = .agg cs ∧ cs.size = P.cellsOf t := by
  simp only [Value.okWide, ht] at h
  obtain ⟨cs, h1, h2, _⟩ := h
  exact ⟨cs, h1, h2⟩

theorem opens_mono2 (W : World) : Opens Try.prog W 58 (fun m : M × M => mc m.1 ++ mc m.2) (fun m => True) := by
  intro H en held fuel cs x hx
  obtain ⟨xs, m, _, _, hl, hn, hx⟩ := DataW.trod_array (n := 2) (e := 33) Try.underlying58 hx
  have hc4 : Try.prog.cellsOf 33 = 4 := by kernel_rfl
  have hct : Try.prog.cellsOf 58 = 8 := by kernel_rfl
  rw [hct] at hl
  have at_ : ∀ i, i < 2 → ∃ a : M, RepL W (g0 W) (mc a) ((cs.drop (i * 4)).take 4) := fun i hi => by
    have h1 := hx i hi
    rw [hc4] at h1
    have h2 : xs[i]? = some (xs[i]'(by omega)) := List.getElem?_eq_getElem (by omega)
    rw [h2] at h1
    obtain ⟨a, _, ha⟩ := opens_mono W H en held m _ _ h1
    exact ⟨a, ha⟩
  obtain ⟨a, ra⟩ := at_ 0 (by omega)
  obtain ⟨b, rb⟩ := at_ 1 (by omega)
  refine ⟨(a, b), trivial, ?_⟩
  have e : cs = (cs.drop (0 * 4)).take 4 ++ (cs.drop (1 * 4)).take 4 := by
    rw [Nat.zero_mul, Nat.one_mul, List.drop_zero, List.take_of_length_le (l := cs.drop 4) (by rw [List.length_drop]; omega), List.take_append_drop]
  rw [e]
  exact ra.app rb
theorem mc2_one (m : M × M) : ∀ d ∈ mc m.1 ++ mc m.2, d.one = true := fun d hd => by
  simp only [mc, List.cons_append, List.nil_append, List.mem_cons, List.mem_nil_iff, or_false] at hd
  rcases hd with rfl | rfl | rfl | rfl | rfl | rfl | rfl | rfl <;> rfl
end Go.Proofs.Ytbdefjbekbbldaa
