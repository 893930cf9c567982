import Derived.Test.YtbdefjbekbbldaaB6
set_option linter.unusedVariables false
set_option linter.unusedSimpArgs false
set_option linter.unnecessarySimpa false
namespace Go.Proofs.Ytbdefjbekbbldaa
open Go.V Go.N
set_option maxHeartbeats 8000000
set_option maxRecDepth 20000

theorem scl_scl (a b : Int) (s : P) : scl a (scl b s) = scl (b * a) s := by
  unfold scl
  rw [List.map_map]
  exact List.map_congr_left fun t _ => by show (t.1 * b * a, t.2) = _; rw [Int.mul_assoc]
theorem sgI_pos {x : Int} (h : 0 < x) : sgI x = 1 := by unfold sgI; rw [if_neg (by omega), if_neg (by omega)]
theorem sgP_neg {t : Int × M} {r : P} : sgP (t :: r) < 0 ↔ t.1 < 0 := sgI_neg

/- cylinderlaw20.SparseContent -/
theorem LContent_spec {p : List RT} {c : Z} (hp : p.length ≤ 9223372036854775807) (zp : ∀ t ∈ p, okN t.1.2 ∧ t.1.2.length ≤ 9223372036854775807) (kc : okN c.2) (hc : c.2.length ≤ 9223372036854775807) :
    PureFn Try.prog 8 [eP p, eZ c] (.bool true) := by
  refine .of_W (fn := Try.f8) (by repeat (first | exact trivial | refine ⟨(by repeat (first | exact eZ_pure _ | exact eP_pure _)), ?_⟩)) Try.call8 Try.func8 rfl rfl ?_
  repeat (first | (with_reducible refine W.id_ ?_); (first | refine W.sreg ?_ | refine W.seq ?_) | (with_reducible refine RK.id_ ?_); (first | refine RK.cons_ ?_; (first | refine RK.k_ 0 rfl ?_; refine .p rfl rfl rfl (by exact trivial) ?_ | refine RK.k_ 6 rfl ?_; (refine .box _ rfl rfl rfl rfl rfl rfl rfl ?_)) | refine RK.nilT rfl ?_ rfl))
  refine .call (fit_spec) rfl rfl rfl rfl ?_
  repeat (first | (with_reducible refine W.id_ ?_); (first | refine W.sreg ?_ | refine W.seq ?_ | refine W.skipT rfl ?_ | refine W.condF rfl ?_) | (with_reducible refine RK.id_ ?_); (first | refine RK.cons_ ?_; (refine RK.k_ 0 rfl ?_; refine .p rfl rfl rfl (by exact trivial) ?_) | refine RK.nilT rfl ?_ rfl))
  refine .call (few_spec hp (fun t ht => (zp t ht).2)) rfl rfl rfl rfl ?_
  repeat ((with_reducible refine RK.id_ ?_); (refine RK.cons_ ?_; (refine RK.k_ 0 rfl ?_; refine .p rfl rfl rfl (by exact trivial) ?_)))
  refine .split (fun h1 => ?_) (fun h1 => ?_)
  · repeat (first | (with_reducible refine W.id_ ?_); (first | refine W.sreg ?_ | refine W.condT rfl ?_) | (with_reducible refine RK.id_ ?_); (first | refine RK.cons_ ?_; (first | refine .skip rfl rfl ?_ | refine RK.k_ 0 rfl ?_; refine .p rfl rfl rfl (by exact trivial) ?_) | refine RK.nilT rfl ?_ rfl))
    refine W.ret ⟨_, rfl, .eq (by repeat (exact .bool _)) ?_, rfl⟩
    rfl
  repeat ((with_reducible refine RK.id_ ?_); (first | refine RK.cons_ ?_; (first | refine RK.k_ 0 rfl ?_; refine .p rfl rfl rfl (by exact trivial) ?_ | refine RK.k_ 5 rfl ?_; (refine .ldl rfl rfl rfl rfl rfl rfl rfl (by rfl) (by rfl) ?_)) | refine RK.nilT rfl ?_ rfl))
  refine W.cond_dec rfl (fun h2 => ?_) (fun h2 => ?_)
  · repeat (first | (with_reducible refine W.id_ ?_); (refine W.sreg ?_) | (with_reducible refine RK.id_ ?_); (first | refine RK.cons_ ?_; (refine RK.k_ 0 rfl ?_; refine .p rfl rfl rfl (by exact trivial) ?_) | refine RK.nilT rfl ?_ rfl))
    refine W.ret ⟨_, rfl, .eq (by repeat (exact .bool _)) ?_, rfl⟩
    rfl
  have h1 : few p 8 6 9 := by simpa using h1
  have hcl : c.2.length ≤ 6 := by omega
  have hP := few_Rp h1 (fun t ht => (zp t ht).1)
  obtain ⟨A, hA⟩ : ∃ A, A = nrm (vals p) := ⟨_, rfl⟩
  rw [← hA] at hP
  have kA : Pok (can A) := can_pok' (small_lt hP.l1 (by omega)) (Nat.le_trans hP.len (by omega))
  have hpk := hP.pok (by omega) (by omega)
  have hC := Content_spec hpk hP.eqn
  obtain ⟨s1, S1⟩ := hP.sn (by omega) (by omega)
  have hN := Normal_spec hpk
  rw [← hP.eqn] at hN
  have c1 := S1.canonical (snP_canon hP.canon) (by omega) (by omega)
  have hz := PIsZero_spec hpk hP.eqn
  have hsg := sign_spec hpk hP.eqn
  have hAl := hP.len
  have hgz : okZ (zcan (gcdP A : Int)) := gcd_okZ (small_lt hP.l1 (by omega))
  have hS0 := Zsame_spec hgz hgz
  rw [decide_eq_true rfl] at hS0
  have hcz : okZ c := ⟨kc, by omega⟩
  repeat (first | (with_reducible refine W.id_ ?_); (first | refine W.sreg ?_ | refine W.skipT rfl ?_) | (with_reducible refine RK.id_ ?_); (refine RK.cons_ ?_; (refine RK.k_ 0 rfl ?_; refine .p rfl rfl rfl (by exact trivial) ?_)))
  refine .call (hC) rfl rfl rfl rfl ?_
  repeat ((with_reducible refine RK.id_ ?_); (refine RK.cons_ ?_; (refine RK.k_ 0 rfl ?_; refine .p rfl rfl rfl (by exact trivial) ?_)))
  refine .call (s1) rfl rfl rfl rfl ?_
  repeat (first | (with_reducible refine W.id_ ?_); (refine W.sreg ?_) | (with_reducible refine RK.id_ ?_); (first | refine RK.cons_ ?_; (first | refine RK.k_ 0 rfl ?_; refine .p rfl rfl rfl (by exact trivial) ?_ | refine RK.k_ 6 rfl ?_; (first | refine .alloc _ rfl rfl rfl rfl rfl rfl rfl ?_ | refine .store rfl rfl rfl rfl rfl rfl rfl (by rfl) (by rfl) (by rfl) ?_)) | refine RK.nilT rfl ?_ rfl))
  refine .call (Of_spec (n := 0) (by decide) (by decide)) rfl rfl rfl rfl ?_
  repeat (first | (with_reducible refine W.id_ ?_); (first | refine W.sreg ?_ | refine W.seq ?_) | (with_reducible refine RK.id_ ?_); (first | refine RK.cons_ ?_; (first | refine RK.k_ 0 rfl ?_; refine .p rfl rfl rfl (by exact trivial) ?_ | refine RK.k_ 6 rfl ?_; (first | refine .alloc _ rfl rfl rfl rfl rfl rfl rfl ?_ | refine .store rfl rfl rfl rfl rfl rfl rfl (by rfl) (by rfl) (by rfl) ?_)) | refine RK.nilT rfl ?_ rfl))
  refine .call (hN) rfl rfl rfl rfl ?_
  repeat ((with_reducible refine RK.id_ ?_); (first | refine RK.cons_ ?_; (refine RK.k_ 0 rfl ?_; refine .p rfl rfl rfl (by exact trivial) ?_) | refine RK.nilT rfl ?_ rfl))
  refine .rangeS ((can A).length) (fun i s => [(0, eP p), (28, eP (can A)), (3, .ptr 0 0), (5, .ptr 1 0), (6, eP (can (snP A))), (7, .ptr 2 0)]) (fun i s => [some (.cells (zc c)), some (.cells (zc (zcan (gcdP A : Int)))), some (.cells (zc (zcan (gcdP (A.take i) : Int))))]) (fun i s => s = ()) (()) rfl rfl rfl rfl rfl rfl rfl rfl rfl rfl ((by rw [can_len]; omega)) ?_ ?_ (fun _ _ => rfl) (fun i s hi Ci => ?_) (fun s Ci => ?_)
  · rfl
  · refine .heap ?_ rfl
    repeat (first | exact trivial | refine ⟨⟨_, rfl, .refl _⟩, ?_⟩)
  · have hi' : i < A.length := by rw [can_len] at hi; exact hi
    have hG := Gcd_next kA hi'
    rw [← show ((can A).getD i zT).1 = zcan (A.getD i tz).1 by rw [getD_can hi']] at hG
    repeat (first | (with_reducible refine W.id_ ?_); (first | refine W.sreg ?_ | refine W.reg ?_) | (with_reducible refine RK.id_ ?_); (first | refine RK.cons_ ?_; (first | refine RK.k_ 0 rfl ?_; refine .p rfl rfl rfl (by exact trivial) ?_ | refine RK.k_ 4 rfl ?_; (refine .ix _ (s := 6) rfl rfl rfl rfl rfl rfl rfl (by rfl) (by omega) ?_) | refine RK.k_ 5 rfl ?_; (first | refine .ldla rfl rfl rfl rfl rfl rfl rfl (by rfl) rfl ?_ | refine .lda _ rfl rfl rfl rfl rfl rfl rfl (by exact take_flat (z := zT) tc_len (by omega) (by omega) rfl) ?_) | refine RK.k_ 6 rfl ?_; (first | refine .alloc _ rfl rfl rfl rfl rfl rfl rfl ?_ | refine .store rfl rfl rfl rfl rfl rfl rfl (by rfl) (by rfl) (by rfl) ?_)) | refine RK.nilT rfl ?_ rfl))
    refine .call (hG) rfl rfl rfl rfl ?_
    repeat ((with_reducible refine RK.id_ ?_); (refine RK.cons_ ?_; (refine RK.k_ 6 rfl ?_; (refine .store rfl rfl rfl rfl rfl rfl rfl (by rfl) (by rfl) (by rfl) ?_))))
    refine .nil ?_ rfl
    refine ⟨(), rfl, .cut (Y := [some (.cells (zc c)), some (.cells (zc (zcan (gcdP A : Int)))), some (.cells (zc (zcan (gcdP (A.take (i + 1)) : Int))))]) [some (.cells (tc ((can A).getD i zT)))] (Nat.zero_le _) ⟨clz _ _, clz _ _, clz _ _, trivial⟩ ?_⟩
    repeat (first | exact trivial | refine ⟨⟨_, rfl, .ptr rfl⟩, ?_⟩ | refine ⟨⟨_, rfl, .wk (by repeat (first | exact .int _ _ | exact eP_pure _)) (by exact .refl _)⟩, ?_⟩)
  rw [show (can A).length = A.length from can_len A, List.take_of_length_le (Nat.le_refl _)]
  show W _ _ _ _ _ _ _
  repeat (first | (with_reducible refine W.id_ ?_); (first | refine W.sreg ?_ | refine W.seq ?_) | (with_reducible refine RK.id_ ?_); (refine RK.cons_ ?_; (refine RK.k_ 5 rfl ?_; (refine .ldla rfl rfl rfl rfl rfl rfl rfl (by rfl) rfl ?_))))
  refine .call (hS0) rfl rfl rfl rfl ?_
  repeat ((with_reducible refine RK.id_ ?_); (refine RK.cons_ ?_; (refine RK.k_ 0 rfl ?_; refine .p rfl rfl rfl (by exact trivial) ?_)))
  refine .call (c1) rfl rfl rfl rfl ?_
  repeat (first | (with_reducible refine W.id_ ?_); (first | refine W.sreg ?_ | refine W.seq ?_ | refine W.skipT rfl ?_ | refine W.condF rfl ?_) | (with_reducible refine RK.id_ ?_); (first | refine RK.cons_ ?_; (refine RK.k_ 0 rfl ?_; refine .p rfl rfl rfl (by exact trivial) ?_) | refine RK.nilT rfl ?_ rfl))
  refine .call (hz) rfl rfl rfl rfl ?_
  repeat ((with_reducible refine RK.id_ ?_); (refine RK.nilT rfl ?_ rfl))
  refine W.cond_dec rfl (fun h3 => ?_) (fun h3 => ?_)
  · subst h3
    repeat (first | (with_reducible refine W.id_ ?_); (refine W.sreg ?_) | (with_reducible refine RK.id_ ?_); (first | refine RK.cons_ ?_; (refine RK.k_ 0 rfl ?_; refine .p rfl rfl rfl (by exact trivial) ?_) | refine RK.nilT rfl ?_ rfl))
    refine W.ret ⟨_, rfl, .eq (by repeat (exact .bool _)) ?_, rfl⟩
    rfl
  cases A with
  | nil => exact absurd rfl h3
  | cons t0 r0 =>
    have hne : (t0 :: r0 : P) ≠ [] := by simp
    have hS2 := sign_spec (S1.pok (by omega) (by omega)) S1.eqn
    obtain ⟨u0, v0, hs0⟩ : ∃ u0 v0, snP (t0 :: r0) = u0 :: v0 := ⟨_, _, rfl⟩
    rw [show sgP (snP (t0 :: r0)) = 1 by rw [hs0]; exact sgI_pos (sn_head hP.canon hs0)] at hS2
    have hC2 := Content_spec (S1.pok (by omega) (by omega)) S1.eqn
    rw [gcdP_sn hP.canon hne] at hC2
    have hS3 := Zsame_spec (okZ.can (n := 1) one_small) (okZ.can (n := 1) one_small)
    rw [decide_eq_true rfl] at hS3
    obtain ⟨m1, M1⟩ := S1.scale (c := zcan (gcdP (t0 :: r0) : Int)) (k' := 7) hgz (by rw [zv_can, Int.natAbs_natCast]; exact Nat.lt_of_le_of_lt (gcdP_l1 _) hP.l1) (by omega) (by omega)
    rw [zv_can] at m1 M1
    obtain ⟨m2, M2⟩ := M1.neg (by omega) (by omega)
    have hg0 : (gcdP (t0 :: r0) : Int) ≠ 0 := by have := gcdP_pos hP.canon hne; omega
    have hscl : sclc (gcdP (t0 :: r0) : Int) (snP (t0 :: r0)) = scl (gcdP (t0 :: r0) : Int) (snP (t0 :: r0)) := nrm_self (scl_canon hg0 (snP_canon hP.canon))
    have hsn : scl (sgP' (t0 :: r0)) (snP (t0 :: r0)) = t0 :: r0 := scl_sn
    obtain ⟨bk, hbk⟩ : ∃ bk, bk = sclc (gcdP (t0 :: r0) : Int) (snP (t0 :: r0)) := ⟨_, rfl⟩
    have hb1 : ¬ t0.1 < 0 → bk = t0 :: r0 := fun h => by
      rw [hbk, hscl]
      rw [sg_cons, if_neg h] at hsn
      exact hsn
    have hb2 : t0.1 < 0 → sclc (-1) bk = t0 :: r0 := fun h => by
      rw [hbk, hscl]
      rw [sg_cons, if_pos h] at hsn
      show nrm (scl (-1) (scl _ _)) = _
      rw [scl_scl, show (gcdP (t0 :: r0) : Int) * -1 = -(gcdP (t0 :: r0) : Int) by omega, hsn]
      exact nrm_self hP.canon
    have hsame : PureFn Try.prog 16 [eP (can (t0 :: r0)), eP p] (.bool true) := by
      have RA : Rp 7 8 9 (can (t0 :: r0)) (t0 :: r0) := .cn hP.canon hP.l1 hP.len hP.eb (by omega)
      have := RA.same hP (by omega) (by omega) (by omega) (by omega)
      rw [decide_eq_true rfl] at this
      exact this
    have hSc := Sign_spec hcz
    repeat (first | (with_reducible refine W.id_ ?_); (first | refine W.sreg ?_ | refine W.seq ?_ | refine W.skipT rfl ?_) | (with_reducible refine RK.id_ ?_); (refine RK.cons_ ?_; (refine RK.k_ 0 rfl ?_; refine .p rfl rfl rfl (by exact trivial) ?_)))
    refine .call (hS2) rfl rfl rfl rfl ?_
    repeat ((with_reducible refine RK.id_ ?_); (refine RK.cons_ ?_; (refine RK.k_ 0 rfl ?_; refine .p rfl rfl rfl (by exact trivial) ?_)))
    refine .call (hC2) rfl rfl rfl rfl ?_
    skip
    refine .call (Of_spec (n := 1) (by decide) (by decide)) rfl rfl rfl rfl ?_
    skip
    refine .call (hS3) rfl rfl rfl rfl ?_
    repeat (first | (with_reducible refine W.id_ ?_); (first | refine W.sreg ?_ | refine W.skipT rfl ?_ | refine W.condF rfl ?_) | (with_reducible refine RK.id_ ?_); (first | refine RK.cons_ ?_; (first | refine RK.k_ 0 rfl ?_; refine .p rfl rfl rfl (by exact trivial) ?_ | refine RK.k_ 5 rfl ?_; (refine .ldla rfl rfl rfl rfl rfl rfl rfl (by rfl) rfl ?_)) | refine RK.nilT rfl ?_ rfl))
    refine .call (m1) rfl rfl rfl rfl ?_
    repeat (first | (with_reducible refine W.id_ ?_); (first | refine W.sreg ?_ | refine W.seq ?_) | (with_reducible refine RK.id_ ?_); (first | refine RK.cons_ ?_; (refine RK.k_ 0 rfl ?_; refine .p rfl rfl rfl (by exact trivial) ?_) | refine RK.nilT rfl ?_ rfl))
    refine .call (hsg) rfl rfl rfl rfl ?_
    repeat ((with_reducible refine RK.id_ ?_); (first | refine RK.cons_ ?_; (refine RK.k_ 0 rfl ?_; refine .p rfl rfl rfl (by exact trivial) ?_) | refine RK.nilT rfl ?_ rfl))
    refine .joinS (fun (_ : Unit) => True) (fun _ => [(0, eP p), (3, .ptr 0 0), (6, eP (can (snP (t0 :: r0)))), (10, eP (can (t0 :: r0)))]) (fun _ => [some (.cells (zc c))]) ?_ ?_
    · refine W.cond_dec rfl (fun h4 => ?_) (fun h4 => ?_)
      · have h5 := hb2 (sgP_neg.1 h4)
        rw [hbk] at h5
        rw [h5] at m2
        repeat (first | (with_reducible refine W.id_ ?_); (refine W.reg ?_) | (with_reducible refine RK.id_ ?_); (refine RK.cons_ ?_; (refine RK.k_ 0 rfl ?_; refine .p rfl rfl rfl (by exact trivial) ?_)))
        refine .call (m2) rfl rfl rfl rfl ?_
        repeat ((with_reducible refine RK.id_ ?_); (refine RK.cons_ ?_; (refine RK.k_ 0 rfl ?_; refine .p rfl rfl rfl (by exact trivial) ?_)))
        refine .nil ?_ rfl
        refine ⟨(), trivial, .cut (Y := [some (.cells (zc c))]) [_, _] (Nat.zero_le _) ⟨clz _ _, trivial⟩ ?_⟩
        repeat (first | exact trivial | refine ⟨⟨_, rfl, .ptr rfl⟩, ?_⟩ | refine ⟨⟨_, rfl, .wk (by repeat (exact eP_pure _)) (by exact .refl _)⟩, ?_⟩)
      · have h5 := hb1 (fun h => h4 (sgP_neg.2 h))
        rw [hbk] at h5
        rw [h5]
        refine .skip ⟨(), trivial, .cut (Y := [some (.cells (zc c))]) [_, _] (Nat.zero_le _) ⟨clz _ _, trivial⟩ ?_⟩
        repeat (first | exact trivial | refine ⟨⟨_, rfl, .ptr rfl⟩, ?_⟩ | refine ⟨⟨_, rfl, .wk (by repeat (exact eP_pure _)) (by exact .refl _)⟩, ?_⟩)
    rintro _ _
    repeat (first | (with_reducible refine W.id_ ?_); (refine W.sreg ?_) | (with_reducible refine RK.id_ ?_); (refine RK.cons_ ?_; (refine RK.k_ 0 rfl ?_; refine .p rfl rfl rfl (by exact trivial) ?_)))
    refine .call (hsame) rfl rfl rfl rfl ?_
    repeat ((with_reducible refine RK.id_ ?_); (refine RK.cons_ ?_; (first | refine RK.k_ 0 rfl ?_; refine .p rfl rfl rfl (by exact trivial) ?_ | refine RK.k_ 5 rfl ?_; (refine .ldla rfl rfl rfl rfl rfl rfl rfl (by rfl) rfl ?_))))
    refine .call (hSc) rfl rfl rfl rfl ?_
    repeat ((with_reducible refine RK.id_ ?_); (refine RK.cons_ ?_; (refine RK.k_ 0 rfl ?_; refine .p rfl rfl rfl (by exact trivial) ?_)))
    refine .dsplit (fun h6 => ?_) (fun h6 => ?_)
    · repeat ((with_reducible refine RK.id_ ?_); (first | refine RK.cons_ ?_; (first | refine .skip rfl rfl ?_ | refine RK.k_ 0 rfl ?_; refine .p rfl rfl rfl (by exact trivial) ?_) | refine RK.nilT rfl ?_ rfl))
      refine W.ret ⟨_, rfl, .eq (by repeat (exact .bool _)) ?_, rfl⟩
      rfl
    · have hc0 : zv c ≠ 0 := fun h => h6 (by rw [h]; rfl)
      obtain ⟨m3, M3⟩ := hP.scale (c := c) (k' := 6) hcz (zn_lt kc hcl) (by omega) (by omega)
      obtain ⟨m4, M4⟩ := M3.sn (by omega) (by omega)
      have m5 := M4.same S1 (by omega) (by omega) (by omega) (by omega)
      rw [decide_eq_true (show snP (sclc (zv c) (t0 :: r0)) = snP (t0 :: r0) by
        rw [show sclc (zv c) (t0 :: r0) = scl (zv c) (t0 :: r0) from nrm_self (scl_canon hc0 hP.canon)]
        exact snP_scl hP.canon hc0)] at m5
      repeat ((with_reducible refine RK.id_ ?_); (refine RK.cons_ ?_; (first | refine RK.k_ 0 rfl ?_; refine .p rfl rfl rfl (by exact trivial) ?_ | refine RK.k_ 5 rfl ?_; (refine .ldla rfl rfl rfl rfl rfl rfl rfl (by rfl) rfl ?_))))
      refine .call (m3) rfl rfl rfl rfl ?_
      skip
      refine .call (m4) rfl rfl rfl rfl ?_
      repeat ((with_reducible refine RK.id_ ?_); (refine RK.cons_ ?_; (refine RK.k_ 0 rfl ?_; refine .p rfl rfl rfl (by exact trivial) ?_)))
      refine .call (m5) rfl rfl rfl rfl ?_
      repeat ((with_reducible refine RK.id_ ?_); (first | refine RK.cons_ ?_; (refine RK.k_ 0 rfl ?_; refine .p rfl rfl rfl (by exact trivial) ?_) | refine RK.nilT rfl ?_ rfl))
      refine W.ret ⟨_, rfl, .eq (by repeat (exact .bool _)) ?_, rfl⟩
      rfl
end Go.Proofs.Ytbdefjbekbbldaa
