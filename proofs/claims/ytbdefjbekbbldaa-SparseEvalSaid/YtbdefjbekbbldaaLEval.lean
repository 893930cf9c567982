import Derived.Test.YtbdefjbekbbldaaB3
set_option linter.unusedVariables false
set_option linter.unusedSimpArgs false
set_option linter.unnecessarySimpa false
namespace Go.Proofs.Ytbdefjbekbbldaa
open Go.V Go.N
set_option maxHeartbeats 8000000
set_option maxRecDepth 20000

/- cylinderlaw20.SparseEval -/
theorem LEval_spec {p q : List RT} {a : List Q} (hp : p.length ≤ 9223372036854775807) (hq : q.length ≤ 9223372036854775807) (zp : ∀ t ∈ p, okN t.1.2 ∧ t.1.2.length ≤ 9223372036854775807) (zq : ∀ t ∈ q, okN t.1.2 ∧ t.1.2.length ≤ 9223372036854775807)
    (ha : a.length ≤ 9223372036854775807) (za : ∀ r ∈ a, inQ r) : PureFn Try.prog 9 [eP p, eP q, eV a] (.bool true) := by
  refine .of_W (fn := Try.f9) (by repeat (first | exact trivial | refine ⟨(by repeat (first | exact eP_pure _ | exact eV_pure _)), ?_⟩)) Try.call9 Try.func9 rfl rfl ?_
  repeat (first | (with_reducible refine W.id_ ?_); (first | refine W.sreg ?_ | refine W.seq ?_) | (with_reducible refine RK.id_ ?_); (first | refine RK.cons_ ?_; (refine RK.k_ 0 rfl ?_; refine .p rfl rfl rfl (by exact trivial) ?_) | refine RK.nilT rfl ?_ rfl))
  refine .call (fit_spec) rfl rfl rfl rfl ?_
  repeat (first | (with_reducible refine W.id_ ?_); (first | refine W.sreg ?_ | refine W.seq ?_ | refine W.skipT rfl ?_ | refine W.condF rfl ?_) | (with_reducible refine RK.id_ ?_); (first | refine RK.cons_ ?_; (refine RK.k_ 0 rfl ?_; refine .p rfl rfl rfl (by exact trivial) ?_) | refine RK.nilT rfl ?_ rfl))
  refine .call (few_spec hp (fun t ht => (zp t ht).2)) rfl rfl rfl rfl ?_
  repeat ((with_reducible refine RK.id_ ?_); (refine RK.cons_ ?_; (refine RK.k_ 0 rfl ?_; refine .p rfl rfl rfl (by exact trivial) ?_)))
  refine .split (fun h1 => ?_) (fun h1 => ?_)
  · repeat (first | (with_reducible refine W.id_ ?_); (first | refine W.sreg ?_ | refine W.condT rfl ?_) | (with_reducible refine RK.id_ ?_); (first | refine RK.cons_ ?_; (first | refine .skip rfl rfl ?_ | refine RK.k_ 0 rfl ?_; refine .p rfl rfl rfl (by exact trivial) ?_) | refine RK.nilT rfl ?_ rfl))
    refine W.ret ⟨_, rfl, .eq (by repeat (exact .bool _)) ?_, rfl⟩
    rfl
  repeat ((with_reducible refine RK.id_ ?_); (refine RK.cons_ ?_; (refine RK.k_ 0 rfl ?_; refine .p rfl rfl rfl (by exact trivial) ?_)))
  refine .call (few_spec hq (fun t ht => (zq t ht).2)) rfl rfl rfl rfl ?_
  repeat ((with_reducible refine RK.id_ ?_); (refine RK.cons_ ?_; (refine RK.k_ 0 rfl ?_; refine .p rfl rfl rfl (by exact trivial) ?_)))
  refine .split (fun h2 => ?_) (fun h2 => ?_)
  · repeat (first | (with_reducible refine W.id_ ?_); (first | refine W.sreg ?_ | refine W.condT rfl ?_) | (with_reducible refine RK.id_ ?_); (first | refine RK.cons_ ?_; (first | refine .skip rfl rfl ?_ | refine RK.k_ 0 rfl ?_; refine .p rfl rfl rfl (by exact trivial) ?_) | refine RK.nilT rfl ?_ rfl))
    refine W.ret ⟨_, rfl, .eq (by repeat (exact .bool _)) ?_, rfl⟩
    rfl
  repeat ((with_reducible refine RK.id_ ?_); (refine RK.cons_ ?_; (refine RK.k_ 0 rfl ?_; refine .p rfl rfl rfl (by exact trivial) ?_)))
  refine .call (values_in ha za) rfl rfl rfl rfl ?_
  repeat ((with_reducible refine RK.id_ ?_); (first | refine RK.cons_ ?_; (refine RK.k_ 0 rfl ?_; refine .p rfl rfl rfl (by exact trivial) ?_) | refine RK.nilT rfl ?_ rfl))
  refine W.cond_ndec rfl (fun h3 => ?_) (fun h3 => ?_)
  · repeat (first | (with_reducible refine W.id_ ?_); (refine W.sreg ?_) | (with_reducible refine RK.id_ ?_); (first | refine RK.cons_ ?_; (refine RK.k_ 0 rfl ?_; refine .p rfl rfl rfl (by exact trivial) ?_) | refine RK.nilT rfl ?_ rfl))
    refine W.ret ⟨_, rfl, .eq (by repeat (exact .bool _)) ?_, rfl⟩
    rfl
  have h1 : few p 8 6 9 := by simpa using h1
  have h2 : few q 8 6 9 := by simpa using h2
  have h3 : fewV a 6 2 := by simpa using h3
  have hv := few_Vk h3 za
  have hP := few_Rp h1 (fun t ht => (zp t ht).1)
  have hQ := few_Rp h2 (fun t ht => (zq t ht).1)
  have V1 := Rp.value h1 hP hv
  obtain ⟨A, hA⟩ : ∃ A, A = nrm (vals p) := ⟨_, rfl⟩
  obtain ⟨B, hB⟩ : ∃ B, B = nrm (vals q) := ⟨_, rfl⟩
  rw [← hA] at hP V1
  rw [← hB] at hQ
  obtain ⟨e1, E1⟩ := hP.eval hv (by omega) (by omega) (by omega) (by omega) (by omega) (by decide)
  obtain ⟨e2, E2⟩ := hQ.eval hv (by omega) (by omega) (by omega) (by omega) (by omega) (by decide)
  obtain ⟨m1, M1⟩ := hP.add hQ (by omega) (by omega)
  obtain ⟨e3, E3⟩ := M1.eval hv (by omega) (by omega) (by omega) (by omega) (by omega) (by decide)
  obtain ⟨m2, M2⟩ := hP.mul hQ (by omega) (by omega) (by omega) (by omega) (by omega) (by omega) (by omega)
  obtain ⟨e4, E4⟩ := M2.eval hv (by omega) (by omega) (by omega) (by omega) (by omega) (by decide)
  obtain ⟨m3, M3⟩ := hP.pw 3 (by omega) (by omega) (by omega) (by decide) (by omega) (by omega) (by omega) (by omega)
  obtain ⟨e5, E5⟩ := M3.eval hv (by omega) (by omega) (by omega) (by decide) (by omega) (by decide)
  have m4 := hP.pw0 (-2) (by omega) (by omega) (by omega) (by omega) (by omega)
  obtain ⟨m5, M5⟩ := hP.pw 1 (by omega) (by omega) (by omega) (by decide) (by omega) (by omega) (by omega) (by omega)
  have s1 := qsame_can E1 E1 (by decide) rfl
  have a1 := qadd_can E1 E2 (by decide)
  have s2 := qsame_can E3 (E1.add E2) (by decide) (ev_addc (xs a) hP.canon hQ.canon)
  have a2 := qmul_can E1 E2 (by decide)
  have s3 := qsame_can E4 (E1.mul E2) (by decide) (ev_mulc (xs a) hP.canon hQ.canon)
  have a3 := qmul_can E1 E1 (by decide)
  have a4 := qmul_can E1 (E1.mul E1) (by decide)
  have s4 := qsame_can E5 (E1.mul (E1.mul E1)) (by decide) (by
    rw [ev_powc (xs a) hP.canon, Rat.pow_succ, Rat.pow_succ, Rat.pow_succ, Rat.pow_zero, Rat.one_mul, Rat.mul_assoc])
  have s5 := Rp.one.same Rp.one (by omega) (by omega) (by omega) (by omega)
  rw [decide_eq_true rfl] at s5
  have s6 := M5.same hP (by omega) (by omega) (by omega) (by omega)
  rw [decide_eq_true (powc_1 hP.canon)] at s6
  repeat (first | (with_reducible refine W.id_ ?_); (first | refine W.sreg ?_ | refine W.skipT rfl ?_) | (with_reducible refine RK.id_ ?_); (refine RK.cons_ ?_; (refine RK.k_ 0 rfl ?_; refine .p rfl rfl rfl (by exact trivial) ?_)))
  refine .call (e1) rfl rfl rfl rfl ?_
  repeat ((with_reducible refine RK.id_ ?_); (refine RK.cons_ ?_; (refine RK.k_ 0 rfl ?_; refine .p rfl rfl rfl (by exact trivial) ?_)))
  refine .call (e2) rfl rfl rfl rfl ?_
  repeat (first | (with_reducible refine W.id_ ?_); (first | refine W.sdraw mixed (by kernel_rfl) (by kernel_rfl) ?_ | refine W.seq ?_) | (with_reducible refine RK.id_ ?_); (first | refine RK.cons_ ?_; (first | refine RK.k_ 0 rfl ?_; refine .p rfl rfl rfl (by exact trivial) ?_ | refine RK.k_ 5 rfl ?_; (refine .ldla rfl rfl rfl rfl rfl rfl rfl (by rfl) rfl ?_) | refine RK.k_ 6 rfl ?_; (first | refine .alloc _ rfl rfl rfl rfl rfl rfl rfl ?_ | refine .store rfl rfl rfl rfl rfl rfl rfl (by rfl) (by rfl) (by rfl) ?_)) | refine RK.nilT rfl ?_ rfl))
  refine .call (V1) rfl rfl rfl rfl ?_
  skip
  refine .call (s1) rfl rfl rfl rfl ?_
  repeat ((with_reducible refine RK.id_ ?_); (refine RK.cons_ ?_; (refine RK.k_ 0 rfl ?_; refine .p rfl rfl rfl (by exact trivial) ?_)))
  refine .call (m1) rfl rfl rfl rfl ?_
  repeat ((with_reducible refine RK.id_ ?_); (refine RK.cons_ ?_; (refine RK.k_ 0 rfl ?_; refine .p rfl rfl rfl (by exact trivial) ?_)))
  refine .call (e3) rfl rfl rfl rfl ?_
  repeat ((with_reducible refine RK.id_ ?_); (refine RK.cons_ ?_; (refine RK.k_ 5 rfl ?_; (refine .ldla rfl rfl rfl rfl rfl rfl rfl (by rfl) rfl ?_))))
  refine .call (a1) rfl rfl rfl rfl ?_
  skip
  refine .call (s2) rfl rfl rfl rfl ?_
  repeat ((with_reducible refine RK.id_ ?_); (refine RK.cons_ ?_; (refine RK.k_ 0 rfl ?_; refine .p rfl rfl rfl (by exact trivial) ?_)))
  refine .call (m2) rfl rfl rfl rfl ?_
  repeat ((with_reducible refine RK.id_ ?_); (refine RK.cons_ ?_; (refine RK.k_ 0 rfl ?_; refine .p rfl rfl rfl (by exact trivial) ?_)))
  refine .call (e4) rfl rfl rfl rfl ?_
  repeat ((with_reducible refine RK.id_ ?_); (refine RK.cons_ ?_; (refine RK.k_ 5 rfl ?_; (refine .ldla rfl rfl rfl rfl rfl rfl rfl (by rfl) rfl ?_))))
  refine .call (a2) rfl rfl rfl rfl ?_
  skip
  refine .call (s3) rfl rfl rfl rfl ?_
  repeat (first | (with_reducible refine W.id_ ?_); (first | refine W.sdraw mixed (by kernel_rfl) (by kernel_rfl) ?_ | refine W.skipT rfl ?_ | refine W.condF rfl ?_) | (with_reducible refine RK.id_ ?_); (first | refine RK.cons_ ?_; (first | refine RK.k_ 0 rfl ?_; refine .p rfl rfl rfl (by exact trivial) ?_ | refine RK.k_ 5 rfl ?_; (refine .ldla rfl rfl rfl rfl rfl rfl rfl (by rfl) rfl ?_)) | refine RK.nilT rfl ?_ rfl))
  refine .call (a3) rfl rfl rfl rfl ?_
  skip
  refine .call (a4) rfl rfl rfl rfl ?_
  repeat (first | (with_reducible refine W.id_ ?_); (refine W.sdraw mixed (by kernel_rfl) (by kernel_rfl) ?_) | (with_reducible refine RK.id_ ?_); (first | refine RK.cons_ ?_; (first | refine RK.k_ 0 rfl ?_; refine .p rfl rfl rfl (by exact trivial) ?_ | refine RK.k_ 6 rfl ?_; (first | refine .alloc _ rfl rfl rfl rfl rfl rfl rfl ?_ | refine .store rfl rfl rfl rfl rfl rfl rfl (by rfl) (by rfl) (by rfl) ?_)) | refine RK.nilT rfl ?_ rfl))
  refine .call (m3) rfl rfl rfl rfl ?_
  repeat ((with_reducible refine RK.id_ ?_); (refine RK.cons_ ?_; (refine RK.k_ 0 rfl ?_; refine .p rfl rfl rfl (by exact trivial) ?_)))
  refine .call (e5) rfl rfl rfl rfl ?_
  repeat ((with_reducible refine RK.id_ ?_); (refine RK.cons_ ?_; (refine RK.k_ 5 rfl ?_; (refine .ldla rfl rfl rfl rfl rfl rfl rfl (by rfl) rfl ?_))))
  refine .call (s4) rfl rfl rfl rfl ?_
  repeat ((with_reducible refine RK.id_ ?_); (refine RK.cons_ ?_; (refine RK.k_ 0 rfl ?_; refine .p rfl rfl rfl (by exact trivial) ?_)))
  refine .call (m4) rfl rfl rfl rfl ?_
  skip
  refine .call (Of_spec (n := 1) (by decide) (by decide)) rfl rfl rfl rfl ?_
  skip
  refine .call (Const1) rfl rfl rfl rfl ?_
  skip
  refine .call (s5) rfl rfl rfl rfl ?_
  repeat ((with_reducible refine RK.id_ ?_); (refine RK.cons_ ?_; (refine RK.k_ 0 rfl ?_; refine .p rfl rfl rfl (by exact trivial) ?_)))
  refine .call (m5) rfl rfl rfl rfl ?_
  repeat ((with_reducible refine RK.id_ ?_); (refine RK.cons_ ?_; (refine RK.k_ 0 rfl ?_; refine .p rfl rfl rfl (by exact trivial) ?_)))
  refine .call (s6) rfl rfl rfl rfl ?_
  repeat ((with_reducible refine RK.id_ ?_); (first | refine RK.cons_ ?_; (refine RK.k_ 0 rfl ?_; refine .p rfl rfl rfl (by exact trivial) ?_) | refine RK.nilT rfl ?_ rfl))
  refine W.ret ⟨_, rfl, .eq (by repeat (exact .bool _)) ?_, rfl⟩
  rfl
end Go.Proofs.Ytbdefjbekbbldaa
