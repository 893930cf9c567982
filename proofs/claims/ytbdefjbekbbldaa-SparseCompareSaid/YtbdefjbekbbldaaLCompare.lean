import Derived.Test.YtbdefjbekbbldaaA4
set_option linter.unusedVariables false
set_option linter.unusedSimpArgs false
set_option linter.unnecessarySimpa false
namespace Go.Proofs.Ytbdefjbekbbldaa
open Go.V Go.N
set_option maxHeartbeats 8000000
set_option maxRecDepth 20000

def sgP : P → Int
  | [] => 0
  | t :: _ => sgI t.1
/- cylinderlaw20.sign -/
theorem sign_spec {p : List RT} {a : P} (hp : Pok p) (ea : a = nrm (vals p)) : PureFn Try.prog 43 [eP p] (I (sgP a)) := by
  have ka : Pok (can a) := by rw [ea]; exact can_pok' (Nat.lt_of_le_of_lt (l1_nrm _) hp.l) (Nat.le_trans (nrm_len _) (by rw [vals_len]; exact hp.n))
  have h1 := Normal_spec hp
  rw [← ea] at h1
  have hn : (can a).length ≤ 1000000 := ka.n
  have hl : (can a).length = a.length := can_len a
  refine .of_W (fn := Try.f43) (by repeat (first | exact trivial | refine ⟨(by repeat (exact eP_pure _)), ?_⟩)) Try.call43 Try.func43 rfl rfl ?_
  repeat (first | (with_reducible refine W.id_ ?_); (first | refine W.sreg ?_ | refine W.seq ?_) | (with_reducible refine RK.id_ ?_); (first | refine RK.cons_ ?_; (refine RK.k_ 0 rfl ?_; refine .p rfl rfl rfl (by exact trivial) ?_) | refine RK.nilT rfl ?_ rfl))
  refine .call (h1) rfl rfl rfl rfl ?_
  repeat ((with_reducible refine RK.id_ ?_); (first | refine RK.cons_ ?_; (refine RK.k_ 0 rfl ?_; refine .p rfl rfl rfl (by exact trivial) ?_) | refine RK.nilT rfl ?_ rfl))
  refine W.block (.loop1 ?_)
  repeat (first | (with_reducible refine W.id_ ?_); (first | refine W.sreg ?_ | refine W.seq ?_) | (with_reducible refine RK.id_ ?_); (first | refine RK.cons_ ?_; (refine RK.k_ 0 rfl ?_; refine .p rfl rfl rfl (by exact trivial) ?_) | refine RK.nilT rfl ?_ rfl))
  refine W.cond_dec rfl (fun h => ?_) (fun h => ?_)
  · cases a with
    | nil => exact absurd h (by decide)
    | cons t r =>
      have hz : okZ ((can (t :: r)).getD 0 zT).1 := ka.z _ (getD_mem (z := zT) (by rw [can_len]; exact Nat.succ_pos _))
      have hS := Sign_spec hz
      rw [show zv ((can (t :: r)).getD 0 zT).1 = t.1 from zv_can t.1] at hS
      repeat (first | (with_reducible refine W.id_ ?_); (first | refine W.sreg ?_ | refine W.seq ?_ | refine W.blockS ?_ | refine W.skipT rfl ?_) | (with_reducible refine RK.id_ ?_); (first | refine RK.cons_ ?_; (first | refine RK.k_ 0 rfl ?_; refine .p rfl rfl rfl (by exact trivial) ?_ | refine RK.k_ 4 rfl ?_; (refine .p rfl rfl rfl (by omega) ?_) | refine RK.k_ 5 rfl ?_; (first | refine .ldla rfl rfl rfl rfl rfl rfl rfl (by rfl) rfl ?_ | refine .lda _ rfl rfl rfl rfl rfl rfl rfl (by exact take_flat (z := zT) tc_len (by omega) (by omega) rfl) ?_) | refine RK.k_ 6 rfl ?_; (first | refine .alloc _ rfl rfl rfl rfl rfl rfl rfl ?_ | refine .store rfl rfl rfl rfl rfl rfl rfl (by rfl) (by rfl) (by rfl) ?_)) | refine RK.nilT rfl ?_ rfl))
      refine .call (hS) rfl rfl rfl rfl ?_
      repeat ((with_reducible refine RK.id_ ?_); (first | refine RK.cons_ ?_; (refine RK.k_ 0 rfl ?_; refine .p rfl rfl rfl (by exact trivial) ?_) | refine RK.nilT rfl ?_ rfl))
      refine W.ret ⟨_, rfl, .eq (by repeat (exact .int _ _)) ?_, rfl⟩
      rfl
  · cases a with
    | nil =>
      refine W.exitT rfl ?_
      repeat (first | (with_reducible refine W.id_ ?_); (refine W.sreg ?_) | (with_reducible refine RK.id_ ?_); (first | refine RK.cons_ ?_; (refine RK.k_ 0 rfl ?_; refine .p rfl rfl rfl (by exact trivial) ?_) | refine RK.nilT rfl ?_ rfl))
      refine W.ret ⟨_, rfl, .eq (by repeat (exact .int _ _)) ?_, rfl⟩
      rfl
    | cons t r => exact absurd (show (0 : Int) < ((r.length + 1 : Nat) : Int) by omega) (by simpa [can] using h)

theorem cmp_neg_self {a : P} (hc : Canon a) : cmpL (sclc (-1) a) a = -sgP a := by
  rw [show sclc (-1) a = scl (-1) a from nrm_self (scl_canon (by decide) hc)]
  cases a with
  | nil => rfl
  | cons t r =>
    have hz : t.1 ≠ 0 := hc.nz t (by simp)
    have e1 : cmpT1 (t.1 * -1, t.2) t = cmpZ (t.1 * -1) t.1 := by
      unfold cmpT1
      rw [if_neg (by show ¬ cmpM t.2 t.2 ≠ 0; rw [cmpM_self]; simp)]
    show (if cmpT1 (t.1 * -1, t.2) t ≠ 0 then cmpT1 (t.1 * -1, t.2) t else cmpL (scl (-1) r) r) = -sgI t.1
    rw [e1]
    unfold cmpZ sgI
    (repeat' split) <;> omega

theorem cmpT1_bd (x y : Int × M) : -1 ≤ cmpT1 x y ∧ cmpT1 x y ≤ 1 := by
  unfold cmpT1 cmpZ
  rcases cmpM_cases x.2 y.2 with ⟨h, _⟩ | ⟨h, _⟩ | ⟨h, _⟩ <;> rw [h] <;> (repeat' split) <;> omega
theorem cmpL_bd : ∀ a b : P, -1 ≤ cmpL a b ∧ cmpL a b ≤ 1
  | [], [] => by simp [cmpL]
  | [], _ :: _ => by simp [cmpL]
  | _ :: _, [] => by simp [cmpL]
  | x :: a, y :: b => by
    rw [cmpL]
    have := cmpT1_bd x y
    have := cmpL_bd a b
    split <;> omega
theorem cmpM_bd (a b : M) : -1 ≤ cmpM a b ∧ cmpM a b ≤ 1 := by
  rcases cmpM_cases a b with ⟨h, _⟩ | ⟨h, _⟩ | ⟨h, _⟩ <;> omega
theorem sgP_bd (a : P) : -1 ≤ sgP a ∧ sgP a ≤ 1 := by
  cases a with
  | nil => simp [sgP]
  | cons t r =>
    show -1 ≤ sgI t.1 ∧ sgI t.1 ≤ 1
    unfold sgI
    (repeat' split) <;> omega

/- cylinderlaw20.SparseCompare -/
theorem LCompare_spec {p q : List RT} {m0 m1 : M} (hp : p.length ≤ 9223372036854775807) (hq : q.length ≤ 9223372036854775807) (zp : ∀ t ∈ p, okN t.1.2 ∧ t.1.2.length ≤ 9223372036854775807) (zq : ∀ t ∈ q, okN t.1.2 ∧ t.1.2.length ≤ 9223372036854775807) :
    PureFn Try.prog 7 [eP p, eP q, .agg (mc m0 ++ mc m1)] (.bool true) := by
  refine .of_W (fn := Try.f7) (by repeat (first | exact trivial | refine ⟨(by repeat (first | exact trivial | exact .int _ _ | exact eP_pure _ | refine .agg (PureL.mem ?_) | refine ⟨?_, ?_⟩)), ?_⟩)) Try.call7 Try.func7 rfl rfl ?_
  repeat (first | (with_reducible refine W.id_ ?_); (first | refine W.sreg ?_ | refine W.seq ?_) | (with_reducible refine RK.id_ ?_); (first | refine RK.cons_ ?_; (first | refine RK.k_ 0 rfl ?_; refine .p rfl rfl rfl (by exact trivial) ?_ | refine RK.k_ 6 rfl ?_; (refine .box _ rfl rfl rfl rfl rfl rfl rfl ?_)) | refine RK.nilT rfl ?_ rfl))
  refine .call (fit_spec) rfl rfl rfl rfl ?_
  repeat (first | (with_reducible refine W.id_ ?_); (first | refine W.sreg ?_ | refine W.seq ?_ | refine W.skipT rfl ?_ | refine W.condF rfl ?_) | (with_reducible refine RK.id_ ?_); (first | refine RK.cons_ ?_; (refine RK.k_ 0 rfl ?_; refine .p rfl rfl rfl (by exact trivial) ?_) | refine RK.nilT rfl ?_ rfl))
  refine .call (few_spec hp (fun t ht => (zp t ht).2)) rfl rfl rfl rfl ?_
  repeat ((with_reducible refine RK.id_ ?_); (refine RK.cons_ ?_; (refine RK.k_ 0 rfl ?_; refine .p rfl rfl rfl (by exact trivial) ?_)))
  refine .split (fun h1 => ?_) (fun h1 => ?_)
  · repeat (first | (with_reducible refine W.id_ ?_); (first | refine W.sreg ?_ | refine W.condT rfl ?_) | (with_reducible refine RK.id_ ?_); (first | refine RK.cons_ ?_; (first | refine .skip rfl rfl ?_ | refine RK.k_ 0 rfl ?_; refine .p rfl rfl rfl (by exact trivial) ?_) | refine RK.nilT rfl ?_ rfl))
    refine W.ret ⟨_, rfl, .eq (by repeat (exact .bool _)) ?_, rfl⟩
    rfl
  repeat ((with_reducible refine RK.id_ ?_); (refine RK.cons_ ?_; (refine RK.k_ 0 rfl ?_; refine .p rfl rfl rfl (by exact trivial) ?_)))
  refine .call (few_spec hq (fun t ht => (zq t ht).2)) rfl rfl rfl rfl ?_
  repeat ((with_reducible refine RK.id_ ?_); (first | refine RK.cons_ ?_; (refine RK.k_ 0 rfl ?_; refine .p rfl rfl rfl (by exact trivial) ?_) | refine RK.nilT rfl ?_ rfl))
  refine W.cond_ndec rfl (fun h2 => ?_) (fun h2 => ?_)
  · repeat (first | (with_reducible refine W.id_ ?_); (refine W.sreg ?_) | (with_reducible refine RK.id_ ?_); (first | refine RK.cons_ ?_; (refine RK.k_ 0 rfl ?_; refine .p rfl rfl rfl (by exact trivial) ?_) | refine RK.nilT rfl ?_ rfl))
    refine W.ret ⟨_, rfl, .eq (by repeat (exact .bool _)) ?_, rfl⟩
    rfl
  have h1 : few p 8 6 9 := by simpa using h1
  have h2 : few q 8 6 9 := by simpa using h2
  have hP := few_Rp h1 (fun t ht => (zp t ht).1)
  have hQ := few_Rp h2 (fun t ht => (zq t ht).1)
  obtain ⟨A, hA⟩ : ∃ A, A = nrm (vals p) := ⟨_, rfl⟩
  obtain ⟨B, hB⟩ : ∃ B, B = nrm (vals q) := ⟨_, rfl⟩
  rw [← hA] at hP
  rw [← hB] at hQ
  have kp := hP.pok (by omega) (by omega)
  have kq := hQ.pok (by omega) (by omega)
  have n1 := Normal_spec kp
  have n2 := Normal_spec kq
  rw [← hA] at n1
  rw [← hB] at n2
  have RA : Rp 7 8 9 (can A) A := .cn hP.canon hP.l1 hP.len hP.eb (by omega)
  have RB : Rp 7 8 9 (can B) B := .cn hQ.canon hQ.l1 hQ.len hQ.eb (by omega)
  have ka := RA.pok (by omega) (by omega)
  have kb := RB.pok (by omega) (by omega)
  have c1 := Compare_spec kp kq hP.eqn hQ.eqn
  have c2 := Compare_spec kq kp hQ.eqn hP.eqn
  rw [cmpL_neg] at c2
  obtain ⟨m4, M4⟩ := hP.neg (by omega) (by omega)
  have c3 := Compare_spec (M4.pok (by omega) (by omega)) kp M4.eqn hP.eqn
  rw [cmp_neg_self hP.canon] at c3
  have hs := hP.same hQ (by omega) (by omega) (by omega) (by omega)
  have hg := sign_spec kp hP.eqn
  repeat (first | (with_reducible refine W.id_ ?_); (first | refine W.sreg ?_ | refine W.skipT rfl ?_) | (with_reducible refine RK.id_ ?_); (refine RK.cons_ ?_; (refine RK.k_ 0 rfl ?_; refine .p rfl rfl rfl (by exact trivial) ?_)))
  refine .call (c1) rfl rfl rfl rfl ?_
  repeat (first | (with_reducible refine W.id_ ?_); (first | refine W.sreg ?_ | refine W.seq ?_) | (with_reducible refine RK.id_ ?_); (first | refine RK.cons_ ?_; (refine RK.k_ 0 rfl ?_; refine .p rfl rfl rfl (by exact trivial) ?_) | refine RK.nilT rfl ?_ rfl))
  refine .call (n1) rfl rfl rfl rfl ?_
  repeat ((with_reducible refine RK.id_ ?_); (refine RK.cons_ ?_; (refine RK.k_ 0 rfl ?_; refine .p rfl rfl rfl (by exact trivial) ?_)))
  refine .call (n2) rfl rfl rfl rfl ?_
  skip
  refine .call (RCompare_spec ka kb) rfl rfl rfl rfl ?_
  repeat ((with_reducible refine RK.id_ ?_); (refine RK.cons_ ?_; (refine RK.k_ 0 rfl ?_; refine .p rfl rfl rfl (by exact trivial) ?_)))
  refine .split (fun h3 => ?_) (fun h3 => ?_)
  · exact absurd h3 (by simp)
  have bd := cmpL_bd A B
  have bm := cmpM_bd m0 m1
  have bs := sgP_bd A
  repeat ((with_reducible refine RK.id_ ?_); (refine RK.cons_ ?_; (refine RK.k_ 0 rfl ?_; refine .p rfl rfl rfl (by exact trivial) ?_)))
  refine .call (c2) rfl rfl rfl rfl ?_
  repeat ((with_reducible refine RK.id_ ?_); (refine RK.cons_ ?_; (refine RK.k_ 0 rfl ?_; refine .p rfl rfl rfl (by exact trivial) ?_)))
  refine .pe (.int .i64 (-cmpL A B)) rfl rfl rfl trivial (by rw [wrap64] <;> first | omega | exact congrArg (D.int .i64) (by omega)) ?_
  repeat ((with_reducible refine RK.id_ ?_); (refine RK.cons_ ?_; (refine RK.k_ 0 rfl ?_; refine .p rfl rfl rfl (by exact trivial) ?_)))
  refine .split (fun h4 => ?_) (fun h4 => ?_)
  · exact absurd h4 (by simp)
  repeat ((with_reducible refine RK.id_ ?_); (refine RK.cons_ ?_; (refine RK.k_ 0 rfl ?_; refine .p rfl rfl rfl (by exact trivial) ?_)))
  refine .call (hs) rfl rfl rfl rfl ?_
  repeat ((with_reducible refine RK.id_ ?_); (first | refine RK.cons_ ?_; (refine RK.k_ 0 rfl ?_; refine .p rfl rfl rfl (by exact trivial) ?_) | refine RK.nilT rfl ?_ rfl))
  refine W.cond_ndec rfl (fun h5 => ?_) (fun h5 => ?_)
  · exact absurd h5 (by simp [cmpL_zero])
  have d1 := CompareMono_spec m0 m1
  have d2 := CompareMono_spec m1 m0
  have d3 := RCompareMono_spec m0 m1
  rw [cmpM_neg] at d2
  repeat (first | (with_reducible refine W.id_ ?_); (first | refine W.sreg ?_ | refine W.skipT rfl ?_) | (with_reducible refine RK.id_ ?_); (refine RK.cons_ ?_; (first | refine RK.k_ 4 rfl ?_; (refine .p rfl rfl rfl (by omega) ?_) | refine RK.k_ 5 rfl ?_; (refine .ldla rfl rfl rfl rfl rfl rfl rfl (by rfl) rfl ?_))))
  refine .call (d1) rfl rfl rfl rfl ?_
  repeat (first | (with_reducible refine W.id_ ?_); (refine W.sreg ?_) | (with_reducible refine RK.id_ ?_); (first | refine RK.cons_ ?_; (first | refine RK.k_ 0 rfl ?_; refine .p rfl rfl rfl (by exact trivial) ?_ | refine RK.k_ 4 rfl ?_; (refine .p rfl rfl rfl (by omega) ?_) | refine RK.k_ 5 rfl ?_; (refine .ldla rfl rfl rfl rfl rfl rfl rfl (by rfl) rfl ?_)) | refine RK.nilT rfl ?_ rfl))
  refine .call (d3) rfl rfl rfl rfl ?_
  repeat ((with_reducible refine RK.id_ ?_); (refine RK.cons_ ?_; (refine RK.k_ 0 rfl ?_; refine .p rfl rfl rfl (by exact trivial) ?_)))
  refine .dsplit (fun h6 => ?_) (fun h6 => ?_)
  rotate_left
  · exact absurd h6 (by simp)
  repeat ((with_reducible refine RK.id_ ?_); (refine RK.cons_ ?_; (first | refine RK.k_ 4 rfl ?_; (refine .p rfl rfl rfl (by omega) ?_) | refine RK.k_ 5 rfl ?_; (refine .ldla rfl rfl rfl rfl rfl rfl rfl (by rfl) rfl ?_))))
  refine .call (d2) rfl rfl rfl rfl ?_
  repeat ((with_reducible refine RK.id_ ?_); (refine RK.cons_ ?_; (refine RK.k_ 0 rfl ?_; refine .p rfl rfl rfl (by exact trivial) ?_)))
  refine .pe (.int .i64 (-cmpM m0 m1)) rfl rfl rfl trivial (by rw [wrap64] <;> first | omega | exact congrArg (D.int .i64) (by omega)) ?_
  repeat ((with_reducible refine RK.id_ ?_); (refine RK.cons_ ?_; (refine RK.k_ 0 rfl ?_; refine .p rfl rfl rfl (by exact trivial) ?_)))
  refine .dsplit (fun h7 => ?_) (fun h7 => ?_)
  rotate_left
  · exact absurd h7 (by simp)
  repeat ((with_reducible refine RK.id_ ?_); (refine RK.cons_ ?_; (first | refine RK.k_ 0 rfl ?_; refine .p rfl rfl rfl (by exact trivial) ?_ | refine RK.k_ 4 rfl ?_; (refine .p rfl rfl rfl (by omega) ?_) | refine RK.k_ 5 rfl ?_; (refine .ldla rfl rfl rfl rfl rfl rfl rfl (by rfl) rfl ?_))))
  refine .dsplit (fun h8 => ?_) (fun h8 => ?_)
  rotate_left
  · exact absurd h8 (by rw [eqM_dec]; simp [cmpM_zero])
  repeat ((with_reducible refine RK.id_ ?_); (refine RK.cons_ ?_; (refine RK.k_ 0 rfl ?_; refine .p rfl rfl rfl (by exact trivial) ?_)))
  refine .call (m4) rfl rfl rfl rfl ?_
  repeat ((with_reducible refine RK.id_ ?_); (refine RK.cons_ ?_; (refine RK.k_ 0 rfl ?_; refine .p rfl rfl rfl (by exact trivial) ?_)))
  refine .call (c3) rfl rfl rfl rfl ?_
  repeat ((with_reducible refine RK.id_ ?_); (refine RK.cons_ ?_; (refine RK.k_ 0 rfl ?_; refine .p rfl rfl rfl (by exact trivial) ?_)))
  refine .call (hg) rfl rfl rfl rfl ?_
  skip
  refine .pe (.int .i64 (-sgP A)) rfl rfl rfl trivial (by rw [wrap64] <;> first | omega | exact congrArg (D.int .i64) (by omega)) ?_
  repeat ((with_reducible refine RK.id_ ?_); (first | refine RK.cons_ ?_; (refine RK.k_ 0 rfl ?_; refine .p rfl rfl rfl (by exact trivial) ?_) | refine RK.nilT rfl ?_ rfl))
  refine W.ret ⟨_, rfl, .eq (by repeat (exact .bool _)) ?_, rfl⟩
  simp
end Go.Proofs.Ytbdefjbekbbldaa
