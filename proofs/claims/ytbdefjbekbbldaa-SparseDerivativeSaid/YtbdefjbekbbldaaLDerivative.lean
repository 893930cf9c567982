import Derived.Test.YtbdefjbekbbldaaA5
set_option linter.unusedVariables false
set_option linter.unusedSimpArgs false
set_option linter.unnecessarySimpa false
namespace Go.Proofs.Ytbdefjbekbbldaa
open Go.V Go.N
set_option maxHeartbeats 8000000
set_option maxRecDepth 20000

/- cylinderlaw20.SparseDerivative -/
theorem LDerivative_spec {p q : List RT} {l : Int} (hp : p.length ≤ 9223372036854775807) (hq : q.length ≤ 9223372036854775807) (zp : ∀ t ∈ p, okN t.1.2 ∧ t.1.2.length ≤ 9223372036854775807) (zq : ∀ t ∈ q, okN t.1.2 ∧ t.1.2.length ≤ 9223372036854775807) :
    PureFn Try.prog 6 [eP p, eP q, I l] (.bool true) := by
  refine .of_W (fn := Try.f6) (by repeat (first | exact trivial | refine ⟨(by repeat (first | exact .int _ _ | exact eP_pure _)), ?_⟩)) Try.call6 Try.func6 rfl rfl ?_
  repeat (first | (with_reducible refine W.id_ ?_); (first | refine W.sreg ?_ | refine W.seq ?_) | (with_reducible refine RK.id_ ?_); (first | refine RK.cons_ ?_; (refine RK.k_ 0 rfl ?_; refine .p rfl rfl rfl (by exact trivial) ?_) | refine RK.nilT rfl ?_ rfl))
  refine .call (fit_spec) rfl rfl rfl rfl ?_
  repeat (first | (with_reducible refine W.id_ ?_); (first | refine W.sreg ?_ | refine W.seq ?_ | refine W.skipT rfl ?_ | refine W.condF rfl ?_) | (with_reducible refine RK.id_ ?_); (first | refine RK.cons_ ?_; (refine RK.k_ 0 rfl ?_; refine .p rfl rfl rfl (by exact trivial) ?_) | refine RK.nilT rfl ?_ rfl))
  refine .call (few_spec hp (fun t ht => (zp t ht).2)) rfl rfl rfl rfl ?_
  repeat ((with_reducible refine RK.id_ ?_); (refine RK.cons_ ?_; (refine RK.k_ 0 rfl ?_; refine .p rfl rfl rfl (by exact trivial) ?_)))
  refine .split (fun h1 => ?_) (fun h1 => ?_)
  · repeat (first | (with_reducible refine W.id_ ?_); (first | refine W.sreg ?_ | refine W.condT rfl ?_) | (with_reducible refine RK.id_ ?_); (first | refine RK.cons_ ?_; (first | refine .skip rfl rfl ?_ | refine RK.k_ 0 rfl ?_; refine .p rfl rfl rfl (by exact trivial) ?_) | refine RK.nilT rfl ?_ rfl))
    refine W.ret ⟨_, rfl, .eq (by repeat (exact .bool _)) ?_, rfl⟩
    rfl
  repeat ((with_reducible refine RK.id_ ?_); (refine RK.cons_ ?_; (refine RK.k_ 0 rfl ?_; refine .p rfl rfl rfl (by exact trivial) ?_)))
  refine .call (few_spec hq (fun t ht => (zq t ht).2)) rfl rfl rfl rfl ?_
  repeat ((with_reducible refine RK.id_ ?_); (first | refine RK.cons_ ?_; (refine RK.k_ 0 rfl ?_; refine .p rfl rfl rfl (by exact trivial) ?_) | refine RK.nilT rfl ?_ rfl))
  refine W.cond_ndec rfl (fun h2 => ?_) (fun h2 => ?_)
  · repeat (first | (with_reducible refine W.id_ ?_); (refine W.sreg ?_) | (with_reducible refine RK.id_ ?_); (first | refine RK.cons_ ?_; (refine RK.k_ 0 rfl ?_; refine .p rfl rfl rfl (by exact trivial) ?_) | refine RK.nilT rfl ?_ rfl))
    refine W.ret ⟨_, rfl, .eq (by repeat (exact .bool _)) ?_, rfl⟩
    rfl
  have h1 : few p 8 6 9 := by simpa using h1
  have h2 : few q 8 6 9 := by simpa using h2
  have hP := few_Rp h1 (fun t ht => (zp t ht).1)
  have hQ := few_Rp h2 (fun t ht => (zq t ht).1)
  obtain ⟨A, hA⟩ : ∃ A, A = nrm (vals p) := ⟨_, rfl⟩
  obtain ⟨B, hB⟩ : ∃ B, B = nrm (vals q) := ⟨_, rfl⟩
  rw [← hA] at hP
  rw [← hB] at hQ
  obtain ⟨d1, D1⟩ := hP.deriv l (by omega) (by omega) (by omega) (by omega)
  obtain ⟨d2, D2⟩ := hQ.deriv l (by omega) (by omega) (by omega) (by omega)
  have c1 := D1.canonical (dv_canon l A) (by omega) (by omega)
  obtain ⟨m1, M1⟩ := hP.add hQ (by omega) (by omega)
  obtain ⟨d3, D3⟩ := M1.deriv l (by omega) (by omega) (by omega) (by omega)
  obtain ⟨m2, M2⟩ := D1.add D2 (by omega) (by omega)
  have s1 := D3.same M2 (by omega) (by omega) (by omega) (by omega)
  rw [decide_eq_true (dv_add hP.canon hQ.canon)] at s1
  obtain ⟨m3, M3⟩ := hP.mul hQ (by omega) (by omega) (by omega) (by omega) (by omega) (by omega) (by omega)
  obtain ⟨d4, D4⟩ := M3.deriv l (by omega) (by omega) (by omega) (by omega)
  obtain ⟨m4, M4⟩ := D1.mul hQ (by omega) (by omega) (by omega) (by omega) (by omega) (by omega) (by omega)
  obtain ⟨m5, M5⟩ := hP.mul D2 (by omega) (by omega) (by omega) (by omega) (by omega) (by omega) (by omega)
  obtain ⟨m6, M6⟩ := M4.add (M5.mono (k' := 7 + 1 + 7) (n' := 8 * 8) (by omega) (by omega) (Int.le_refl _)) (by omega) (by omega)
  have s2 := D4.same M6 (by omega) (by omega) (by omega) (by omega)
  rw [decide_eq_true (dv_mul hP.canon hQ.canon)] at s2
  have hout : ¬ (1 ≤ l ∧ l ≤ 4) → (can (dv l A)).length = 0 := fun h => by rw [dv_out h]; rfl
  have hC : PureFn Try.prog 35 [eZ (zcan 1)] (eP (can (con 1))) := by
    have h := Const_spec (c := zcan 1) (.can one_small)
    rw [zv_can] at h
    exact h
  have R1 : Rp 1 1 0 (can (con 1)) (con 1) := .cn (con_canon 1) (by decide) (by decide) (Eb.con (by decide) 1) (by omega)
  have R7 : Rp 1 1 0 (can (con 7)) (con 7) := .cn (con_canon 7) (by decide) (by decide) (Eb.con (by decide) 7) (by omega)
  have hC7 : PureFn Try.prog 35 [eZ (zcan 7)] (eP (can (con 7))) := by
    have h := Const_spec (c := zcan 7) (.can (tiny (by decide)))
    rw [zv_can] at h
    exact h
  obtain ⟨d7, D7⟩ := R7.deriv l (by omega) (by omega) (by omega) (by omega)
  rw [dv_con] at d7
  repeat (first | (with_reducible refine W.id_ ?_); (first | refine W.sreg ?_ | refine W.skipT rfl ?_) | (with_reducible refine RK.id_ ?_); (refine RK.cons_ ?_; (refine RK.k_ 0 rfl ?_; refine .p rfl rfl rfl (by exact trivial) ?_)))
  refine .call (d1) rfl rfl rfl rfl ?_
  repeat ((with_reducible refine RK.id_ ?_); (refine RK.cons_ ?_; (refine RK.k_ 0 rfl ?_; refine .p rfl rfl rfl (by exact trivial) ?_)))
  refine .call (d2) rfl rfl rfl rfl ?_
  iterate 2 refine .p rfl rfl rfl trivial ?_
  refine .nil ?_ rfl
  refine .seq (.joinS (fun _ : Unit => True) (fun _ => [(0, eP p), (1, eP q), (2, I l), (7, eP (can (dv l A))), (8, eP (can (dv l B)))]) (fun _ => []) ?_ ?_)
  · repeat (first | (with_reducible refine W.id_ ?_); (refine W.sreg ?_) | (with_reducible refine RK.id_ ?_); (refine RK.cons_ ?_; (refine RK.k_ 0 rfl ?_; refine .p rfl rfl rfl (by exact trivial) ?_)))
    refine .call (c1) rfl rfl rfl rfl ?_
    repeat ((with_reducible refine RK.id_ ?_); (refine RK.cons_ ?_; (refine RK.k_ 0 rfl ?_; refine .p rfl rfl rfl (by exact trivial) ?_)))
    refine .call (inner_spec l) rfl rfl rfl rfl ?_
    repeat ((with_reducible refine RK.id_ ?_); (refine RK.cons_ ?_; (refine RK.k_ 0 rfl ?_; refine .p rfl rfl rfl (by exact trivial) ?_)))
    refine .split (fun h3 => ?_) (fun h3 => ?_)
    · have h4 : ¬ (1 ≤ l ∧ l ≤ 4) := by simp at h3; omega
      have h5 := hout h4
      repeat ((with_reducible refine RK.id_ ?_); (first | refine RK.cons_ ?_; (refine RK.k_ 0 rfl ?_; refine .p rfl rfl rfl (by exact trivial) ?_) | refine RK.nilT rfl ?_ rfl))
      refine W.cond_dec rfl (fun h6 => ?_) (fun h6 => ?_)
      · omega
      · refine .skip ⟨(), trivial, .heap ?_ rfl⟩
        repeat (first | exact trivial | refine ⟨⟨_, rfl, .refl _⟩, ?_⟩)
    · repeat (first | (with_reducible refine W.id_ ?_); (refine W.condF rfl ?_) | (with_reducible refine RK.id_ ?_); (first | refine RK.cons_ ?_; (first | refine .skip rfl rfl ?_ | refine RK.k_ 0 rfl ?_; refine .p rfl rfl rfl (by exact trivial) ?_) | refine RK.nilT rfl ?_ rfl))
      refine .skip ⟨(), trivial, .heap ?_ rfl⟩
      repeat (first | exact trivial | refine ⟨⟨_, rfl, .refl _⟩, ?_⟩)
  intro _ _
  show W _ _ _ _ _ _ _
  repeat (first | (with_reducible refine W.id_ ?_); (first | refine W.sreg ?_ | refine W.seq ?_) | (with_reducible refine RK.id_ ?_); (refine RK.cons_ ?_; (refine RK.k_ 0 rfl ?_; refine .p rfl rfl rfl (by exact trivial) ?_)))
  refine .call (m1) rfl rfl rfl rfl ?_
  repeat ((with_reducible refine RK.id_ ?_); (refine RK.cons_ ?_; (refine RK.k_ 0 rfl ?_; refine .p rfl rfl rfl (by exact trivial) ?_)))
  refine .call (d3) rfl rfl rfl rfl ?_
  repeat ((with_reducible refine RK.id_ ?_); (refine RK.cons_ ?_; (refine RK.k_ 0 rfl ?_; refine .p rfl rfl rfl (by exact trivial) ?_)))
  refine .call (m2) rfl rfl rfl rfl ?_
  skip
  refine .call (s1) rfl rfl rfl rfl ?_
  repeat ((with_reducible refine RK.id_ ?_); (refine RK.cons_ ?_; (refine RK.k_ 0 rfl ?_; refine .p rfl rfl rfl (by exact trivial) ?_)))
  refine .call (m3) rfl rfl rfl rfl ?_
  repeat ((with_reducible refine RK.id_ ?_); (refine RK.cons_ ?_; (refine RK.k_ 0 rfl ?_; refine .p rfl rfl rfl (by exact trivial) ?_)))
  refine .call (d4) rfl rfl rfl rfl ?_
  repeat ((with_reducible refine RK.id_ ?_); (refine RK.cons_ ?_; (refine RK.k_ 0 rfl ?_; refine .p rfl rfl rfl (by exact trivial) ?_)))
  refine .call (m4) rfl rfl rfl rfl ?_
  repeat ((with_reducible refine RK.id_ ?_); (refine RK.cons_ ?_; (refine RK.k_ 0 rfl ?_; refine .p rfl rfl rfl (by exact trivial) ?_)))
  refine .call (m5) rfl rfl rfl rfl ?_
  skip
  refine .call (m6) rfl rfl rfl rfl ?_
  skip
  refine .call (s2) rfl rfl rfl rfl ?_
  repeat (first | (with_reducible refine W.id_ ?_); (first | refine W.sreg ?_ | refine W.seq ?_ | refine W.skipT rfl ?_ | refine W.condF rfl ?_) | (with_reducible refine RK.id_ ?_); (first | refine RK.cons_ ?_; (refine RK.k_ 0 rfl ?_; refine .p rfl rfl rfl (by exact trivial) ?_) | refine RK.nilT rfl ?_ rfl))
  refine W.loopE (fun i => 1 ≤ i ∧ i ≤ 5) (fun i => True) (fun i => 5 - i) (fun i => [(9, I (i : Int)), (2, I l)]) (fun i => []) (1) rfl ?_ ?_ ?_ ?_
  · omega
  · refine .heap ?_ rfl
    repeat (first | exact trivial | refine ⟨⟨_, rfl, .refl _⟩, ?_⟩)
  · rintro i ⟨h3, h4⟩
    repeat (first | (with_reducible refine W.id_ ?_); (first | refine W.sreg ?_ | refine W.seq ?_) | (with_reducible refine RK.id_ ?_); (first | refine RK.cons_ ?_; (refine RK.k_ 0 rfl ?_; refine .p rfl rfl rfl (by exact trivial) ?_) | refine RK.nilT rfl ?_ rfl))
    refine W.cond_dec rfl (fun h5 => ?_) (fun h5 => ?_)
    · have hv := Var_spec (i : Int) (by omega) (by omega)
      obtain ⟨dx, Dx⟩ := (Rp.var (i : Int)).deriv l (by omega) (by omega) (by omega) (by omega)
      have sx := Dx.same R1 (by omega) (by omega) (by omega) (by omega)
      rw [show decide (dv l (var' (i : Int)) = con 1) = decide ((i : Int) = l) from decide_eq_decide.2 (dv_var (by omega))] at sx
      repeat (first | (with_reducible refine W.id_ ?_); (first | refine W.sreg ?_ | refine W.seq ?_ | refine W.blockS ?_ | refine W.skipT rfl ?_) | (with_reducible refine RK.id_ ?_); (refine RK.cons_ ?_; (refine RK.k_ 0 rfl ?_; refine .p rfl rfl rfl (by exact trivial) ?_)))
      refine .call (hv) rfl rfl rfl rfl ?_
      repeat ((with_reducible refine RK.id_ ?_); (refine RK.cons_ ?_; (refine RK.k_ 0 rfl ?_; refine .p rfl rfl rfl (by exact trivial) ?_)))
      refine .call (dx) rfl rfl rfl rfl ?_
      skip
      refine .call (Of_spec (n := 1) (by decide) (by decide)) rfl rfl rfl rfl ?_
      skip
      refine .call (hC) rfl rfl rfl rfl ?_
      skip
      refine .call (sx) rfl rfl rfl rfl ?_
      repeat (first | (with_reducible refine W.id_ ?_); (refine W.sreg ?_) | (with_reducible refine RK.id_ ?_); (first | refine RK.cons_ ?_; (refine RK.k_ 0 rfl ?_; refine .p rfl rfl rfl (by exact trivial) ?_) | refine RK.nilT rfl ?_ rfl))
      refine W.cond_ndec rfl (fun h6 => ?_) (fun h6 => ?_)
      · exact absurd h6 (by simp)
      repeat (first | (with_reducible refine W.id_ ?_); (first | refine W.reg ?_ | refine W.skipT rfl ?_) | (with_reducible refine RK.id_ ?_); (refine RK.cons_ ?_; (first | refine RK.k_ 0 rfl ?_; refine .p rfl rfl rfl (by exact trivial) ?_ | refine RK.k_ 1 rfl ?_; (refine .pa rfl rfl rfl rfl rfl rfl (by omega) (by omega) ?_))))
      refine .nil ?_ rfl
      refine ⟨i + 1, by show 5 - (i + 1) < 5 - i; omega, by omega, .heap ?_ rfl⟩
      repeat (first | exact trivial | refine ⟨⟨_, rfl, .refl _⟩, ?_⟩)
    · refine W.exit ⟨i, trivial, .heap ?_ rfl⟩
      repeat (first | exact trivial | refine ⟨⟨_, rfl, .refl _⟩, ?_⟩)
  · intro i _
    repeat ((with_reducible refine W.id_ ?_); (refine W.sreg ?_))
    refine .call (Of_spec (n := 7) (by decide) (by decide)) rfl rfl rfl rfl ?_
    skip
    refine .call (hC7) rfl rfl rfl rfl ?_
    repeat ((with_reducible refine RK.id_ ?_); (refine RK.cons_ ?_; (refine RK.k_ 0 rfl ?_; refine .p rfl rfl rfl (by exact trivial) ?_)))
    refine .call (d7) rfl rfl rfl rfl ?_
    repeat ((with_reducible refine RK.id_ ?_); (first | refine RK.cons_ ?_; (refine RK.k_ 0 rfl ?_; refine .p rfl rfl rfl (by exact trivial) ?_) | refine RK.nilT rfl ?_ rfl))
    refine W.ret ⟨_, rfl, .eq (by repeat (exact .bool _)) ?_, rfl⟩
    rfl
end Go.Proofs.Ytbdefjbekbbldaa
