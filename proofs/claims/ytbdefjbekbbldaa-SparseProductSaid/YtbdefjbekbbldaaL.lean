import Derived.Test.YtbdefjbekbbldaaA2
import Derived.Test.YtbdefjbekbbldaaN
set_option linter.unusedVariables false
namespace Go.Proofs.Ytbdefjbekbbldaa
open Go.V Go.N
set_option maxHeartbeats 8000000
set_option maxRecDepth 20000

theorem vals_get {p : List RT} {i : Nat} (h : i < p.length) : (vals p).getD i N.t0 = (zv (p.getD i zT).1, (p.getD i zT).2) := by
  simp [vals, h]

/-- The first exponents of a sum, from 0 on. -/
def pz : Nat → M → M → M
  | 0, _, _ => ⟨0, 0, 0, 0⟩
  | 1, a, b => ⟨a.x0 + b.x0, 0, 0, 0⟩
  | 2, a, b => ⟨a.x0 + b.x0, a.x1 + b.x1, 0, 0⟩
  | 3, a, b => ⟨a.x0 + b.x0, a.x1 + b.x1, a.x2 + b.x2, 0⟩
  | _, a, b => a.add b

/- cylinderlaw20.SparseProduct -/
theorem Product_spec {p q r : List RT} (hp : p.length ≤ 9223372036854775807) (hq : q.length ≤ 9223372036854775807) (hr : r.length ≤ 9223372036854775807) (zp : ∀ t ∈ p, okN t.1.2 ∧ t.1.2.length ≤ 9223372036854775807) (zq : ∀ t ∈ q, okN t.1.2 ∧ t.1.2.length ≤ 9223372036854775807) (zr : ∀ t ∈ r, okN t.1.2 ∧ t.1.2.length ≤ 9223372036854775807) :
    PureFn Try.prog 3 [eP p, eP q, eP r] (.bool true) := by
  refine .of_W (fn := Try.f3) (by repeat (first | exact trivial | refine ⟨(by repeat (exact eP_pure _)), ?_⟩)) Try.call3 Try.func3 rfl rfl ?_
  repeat (first | (with_reducible refine W.id_ ?_); (first | refine W.sreg ?_ | refine W.seq ?_) | (with_reducible refine RK.id_ ?_); (first | refine RK.cons_ ?_; (refine RK.k_ 0 rfl ?_; refine .p rfl rfl rfl (by exact trivial) ?_) | refine RK.nilT rfl ?_ rfl))
  refine .call (fit_spec) rfl rfl rfl rfl ?_
  repeat (first | (with_reducible refine W.id_ ?_); (first | refine W.sreg ?_ | refine W.seq ?_ | refine W.skipT rfl ?_ | refine W.condF rfl ?_) | (with_reducible refine RK.id_ ?_); (first | refine RK.cons_ ?_; (refine RK.k_ 0 rfl ?_; refine .p rfl rfl rfl (by exact trivial) ?_) | refine RK.nilT rfl ?_ rfl))
  refine .call (few_spec hp (fun t ht => (zp t ht).2)) rfl rfl rfl rfl ?_
  repeat ((with_reducible refine RK.id_ ?_); (refine RK.cons_ ?_; (refine RK.k_ 0 rfl ?_; refine .p rfl rfl rfl (by exact trivial) ?_)))
  refine .split (fun h1 => ?_) (fun h1 => ?_)
  · repeat (first | (with_reducible refine W.id_ ?_); (first | refine W.sreg ?_ | refine W.condT rfl ?_) | (with_reducible refine RK.id_ ?_); (first | refine RK.cons_ ?_; (first | refine .skip rfl rfl ?_ | refine RK.k_ 0 rfl ?_; refine .p rfl rfl rfl (by exact trivial) ?_) | refine RK.nilT rfl ?_ rfl))
    refine W.ret ⟨_, rfl, .eq (by repeat (exact .bool _)) ?_, rfl⟩
    rfl
  repeat ((with_reducible refine RK.id_ ?_); (refine RK.cons_ ?_; (refine RK.k_ 0 rfl ?_; refine .p rfl rfl rfl (by exact trivial) ?_)))
  refine .call (few_spec hq (fun t ht => (zq t ht).2)) rfl rfl rfl rfl ?_
  repeat ((with_reducible refine RK.id_ ?_); (refine RK.cons_ ?_; (refine RK.k_ 0 rfl ?_; refine .p rfl rfl rfl (by exact trivial) ?_)))
  refine .split (fun h2 => ?_) (fun h2 => ?_)
  · repeat (first | (with_reducible refine W.id_ ?_); (first | refine W.sreg ?_ | refine W.condT rfl ?_) | (with_reducible refine RK.id_ ?_); (first | refine RK.cons_ ?_; (first | refine .skip rfl rfl ?_ | refine RK.k_ 0 rfl ?_; refine .p rfl rfl rfl (by exact trivial) ?_) | refine RK.nilT rfl ?_ rfl))
    refine W.ret ⟨_, rfl, .eq (by repeat (exact .bool _)) ?_, rfl⟩
    rfl
  repeat ((with_reducible refine RK.id_ ?_); (refine RK.cons_ ?_; (refine RK.k_ 0 rfl ?_; refine .p rfl rfl rfl (by exact trivial) ?_)))
  refine .call (few_spec hr (fun t ht => (zr t ht).2)) rfl rfl rfl rfl ?_
  repeat ((with_reducible refine RK.id_ ?_); (first | refine RK.cons_ ?_; (refine RK.k_ 0 rfl ?_; refine .p rfl rfl rfl (by exact trivial) ?_) | refine RK.nilT rfl ?_ rfl))
  refine W.cond_ndec rfl (fun h3 => ?_) (fun h3 => ?_)
  · repeat (first | (with_reducible refine W.id_ ?_); (refine W.sreg ?_) | (with_reducible refine RK.id_ ?_); (first | refine RK.cons_ ?_; (refine RK.k_ 0 rfl ?_; refine .p rfl rfl rfl (by exact trivial) ?_) | refine RK.nilT rfl ?_ rfl))
    refine W.ret ⟨_, rfl, .eq (by repeat (exact .bool _)) ?_, rfl⟩
    rfl
  have h1 : few p 8 6 9 := by simpa using h1
  have h2 : few q 8 6 9 := by simpa using h2
  have h3 : few r 8 6 9 := by simpa using h3
  have hP := few_Rp h1 (fun t ht => (zp t ht).1)
  have hQ := few_Rp h2 (fun t ht => (zq t ht).1)
  have hR := few_Rp h3 (fun t ht => (zr t ht).1)
  have hpn : p.length ≤ 8 := h1.1
  have hqn : q.length ≤ 8 := h2.1
  obtain ⟨m1, M1⟩ := hP.mul hQ (by omega) (by omega) (by omega) (by omega) (by omega) (by omega) (by omega)
  obtain ⟨m2, M2⟩ := hQ.mul hP (by omega) (by omega) (by omega) (by omega) (by omega) (by omega) (by omega)
  obtain ⟨m3, M3⟩ := hQ.add hR (by omega) (by omega)
  obtain ⟨m4, M4⟩ := hP.mul M3 (by omega) (by omega) (by omega) (by omega) (by omega) (by omega) (by omega)
  obtain ⟨m5, M5⟩ := hP.mul hR (by omega) (by omega) (by omega) (by omega) (by omega) (by omega) (by omega)
  obtain ⟨m6, M6⟩ := M1.add M5 (by omega) (by omega)
  have s1 := M1.same M2 (by omega) (by omega) (by omega) (by omega)
  rw [decide_eq_true (mulc_comm _ _)] at s1
  have s2 := M4.same M6 (by omega) (by omega) (by omega) (by omega)
  rw [decide_eq_true (mulc_addc hP.canon hQ.canon hR.canon)] at s2
  have hm := M1
  have cm := M1.canonical (show Canon (mulc (nrm (vals p)) (nrm (vals q))) from nrm_canon _) (by omega) (by omega)
  obtain ⟨A, hA⟩ : ∃ A, A = mulL (vf (vals p)) (vf (vals q)) := ⟨_, rfl⟩
  obtain ⟨m, hM⟩ : ∃ m, m = mulc (nrm (vals p)) (nrm (vals q)) := ⟨_, rfl⟩
  rw [← hM] at m1 M1 s1 m6 M6 s2 hm cm
  repeat (first | (with_reducible refine W.id_ ?_); (first | refine W.sreg ?_ | refine W.skipT rfl ?_) | (with_reducible refine RK.id_ ?_); (refine RK.cons_ ?_; (refine RK.k_ 0 rfl ?_; refine .p rfl rfl rfl (by exact trivial) ?_)))
  refine .call (m1) rfl rfl rfl rfl ?_
  repeat (first | (with_reducible refine W.id_ ?_); (first | refine W.sreg ?_ | refine W.seq ?_) | (with_reducible refine RK.id_ ?_); (first | refine RK.cons_ ?_; (refine RK.k_ 0 rfl ?_; refine .p rfl rfl rfl (by exact trivial) ?_) | refine RK.nilT rfl ?_ rfl))
  refine .call (cm) rfl rfl rfl rfl ?_
  repeat ((with_reducible refine RK.id_ ?_); (refine RK.cons_ ?_; (refine RK.k_ 0 rfl ?_; refine .p rfl rfl rfl (by exact trivial) ?_)))
  refine .call (m2) rfl rfl rfl rfl ?_
  skip
  refine .call (s1) rfl rfl rfl rfl ?_
  repeat ((with_reducible refine RK.id_ ?_); (refine RK.cons_ ?_; (refine RK.k_ 0 rfl ?_; refine .p rfl rfl rfl (by exact trivial) ?_)))
  refine .call (m3) rfl rfl rfl rfl ?_
  skip
  refine .call (m4) rfl rfl rfl rfl ?_
  repeat ((with_reducible refine RK.id_ ?_); (refine RK.cons_ ?_; (refine RK.k_ 0 rfl ?_; refine .p rfl rfl rfl (by exact trivial) ?_)))
  refine .call (m5) rfl rfl rfl rfl ?_
  skip
  refine .call (m6) rfl rfl rfl rfl ?_
  skip
  refine .call (s2) rfl rfl rfl rfl ?_
  repeat (first | (with_reducible refine W.id_ ?_); (first | refine W.sreg ?_ | refine W.seq ?_ | refine W.skipT rfl ?_ | refine W.condF rfl ?_) | (with_reducible refine RK.id_ ?_); (first | refine RK.cons_ ?_; (refine RK.k_ 0 rfl ?_; refine .p rfl rfl rfl (by exact trivial) ?_) | refine RK.nilT rfl ?_ rfl))
  refine .rangeS (p.length) (fun i s => [(8, accD 6 0 s), (62, eP p), (1, eP q), (7, eP (can m))]) (fun i s => [accB tc s]) (fun i s => s = can (mulL (vf ((vals p).take i)) (vf (vals q)))) ([]) rfl rfl rfl rfl rfl rfl rfl rfl rfl rfl (by omega) ?_ ?_ (fun _ _ => rfl) (fun i s hi Ci => ?_) (fun s Ci => ?_)
  · rfl
  · refine .ren [0] [] (Nat.zero_le _) (fun b hb => absurd hb (Nat.not_lt_zero b)) (by simp) ?_ trivial
    repeat (first | exact trivial | refine ⟨⟨_, rfl, .wk (by repeat (first | exact .int _ _ | exact .snil | exact eP_pure _)) (by exact .refl _)⟩, ?_⟩)
  · have hmp : p.getD i zT ∈ p := getD_mem hi
    have fp := (h1.2 _ hmp).2
    have ozp : okZ (p.getD i zT).1 := hP.z _ hmp
    have hip : i < (vals p).length := by rw [vals_len]; exact hi
    unfold xok at fp
    repeat (first | (with_reducible refine W.id_ ?_); (refine W.sreg ?_) | (with_reducible refine RK.id_ ?_); (first | refine RK.cons_ ?_; (first | refine RK.k_ 0 rfl ?_; refine .p rfl rfl rfl (by exact trivial) ?_ | refine RK.k_ 4 rfl ?_; (refine .ix _ (s := 6) rfl rfl rfl rfl rfl rfl rfl (by rfl) (by omega) ?_) | refine RK.k_ 5 rfl ?_; (refine .lda _ rfl rfl rfl rfl rfl rfl rfl (by exact take_flat (z := zT) tc_len (by omega) (by omega) rfl) ?_) | refine RK.k_ 6 rfl ?_; (first | refine .alloc _ rfl rfl rfl rfl rfl rfl rfl ?_ | refine .store rfl rfl rfl rfl rfl rfl rfl (by rfl) (by rfl) (by rfl) ?_)) | refine RK.nilT rfl ?_ rfl))
    refine .rangeS (q.length) (fun k u => [(8, accD 6 0 u), (10, .ptr 1 0), (68, eP q), (62, eP p), (1, eP q), (7, eP (can m)), (64, I i), (63, I p.length)]) (fun k u => [accB tc u, some (.cells (tc (p.getD i zT)))]) (fun k u => u = can (gv (vals p) (vals q) i k)) (s) rfl rfl rfl rfl rfl rfl rfl rfl rfl rfl (by omega) ?_ ?_ (fun _ _ => rfl) (fun k u hk Ck => ?_) (fun u Ck => ?_)
    · rw [Ci, gv_0]
    · refine .ren [0, 1] [] (Nat.zero_le _) (fun b hb => absurd hb (Nat.not_lt_zero b)) (by simp) ?_ (.acc (by simp) rfl tc_pure (.cell (by simp) rfl (.refl _) (tc_pure _) trivial))
      repeat (first | exact trivial | refine ⟨⟨_, rfl, .acc rfl⟩, ?_⟩ | refine ⟨⟨_, rfl, .ptr rfl⟩, ?_⟩ | refine ⟨⟨_, rfl, .wk (by repeat (first | exact .int _ _ | exact eP_pure _)) (by exact .refl _)⟩, ?_⟩)
    · have hmq : q.getD k zT ∈ q := getD_mem hk
      have fq := (h2.2 _ hmq).2
      have ozq : okZ (q.getD k zT).1 := hQ.z _ hmq
      have hkq : k < (vals q).length := by rw [vals_len]; exact hk
      unfold xok at fq
      have hul : u.length ≤ 64 := by
        rw [Ck, can_len]
        exact Nat.le_trans (gv_len hip (Nat.le_of_lt hkq)) (by rw [vals_len, vals_len]; exact Nat.mul_le_mul hpn hqn)
      have skip : ¬ (V (p.getD i zT).2 ∧ V (q.getD k zT).2) → u = can (gv (vals p) (vals q) i (k + 1)) := fun h => by
        rw [Ck, gv_skip hkq (by rw [vals_get hi, vals_get hk]; exact h)]
      repeat (first | (with_reducible refine W.id_ ?_); (first | refine W.sreg ?_ | refine W.seq ?_) | (with_reducible refine RK.id_ ?_); (first | refine RK.cons_ ?_; (first | refine RK.k_ 0 rfl ?_; refine .p rfl rfl rfl (by exact trivial) ?_ | refine RK.k_ 4 rfl ?_; (refine .ix _ (s := 6) rfl rfl rfl rfl rfl rfl rfl (by rfl) (by omega) ?_) | refine RK.k_ 5 rfl ?_; (first | refine .ldla rfl rfl rfl rfl rfl rfl rfl (by rfl) rfl ?_ | refine .lda _ rfl rfl rfl rfl rfl rfl rfl (by exact take_flat (z := zT) tc_len (by omega) (by omega) rfl) ?_) | refine RK.k_ 6 rfl ?_; (first | refine .alloc _ rfl rfl rfl rfl rfl rfl rfl ?_ | refine .store rfl rfl rfl rfl rfl rfl rfl (by rfl) (by rfl) (by rfl) ?_)) | refine RK.nilT rfl ?_ rfl))
      refine .call (Valid_spec (p.getD i zT).2) rfl rfl rfl rfl ?_
      repeat ((with_reducible refine RK.id_ ?_); (refine RK.cons_ ?_; (refine RK.k_ 0 rfl ?_; refine .p rfl rfl rfl (by exact trivial) ?_)))
      refine .split (fun h4 => ?_) (fun h4 => ?_)
      · repeat (first | (with_reducible refine W.id_ ?_); (refine W.condT rfl ?_) | (with_reducible refine RK.id_ ?_); (first | refine RK.cons_ ?_; (first | refine .skip rfl rfl ?_ | refine RK.k_ 0 rfl ?_; refine .p rfl rfl rfl (by exact trivial) ?_) | refine RK.nilT rfl ?_ rfl))
        refine W.exit ⟨u, skip (fun h => absurd h.1 (by simpa using h4)), .ren [0, 1] [] (Nat.zero_le _) (fun b hb => absurd hb (Nat.not_lt_zero b)) (by simp) ?_ (.acc (by simp) rfl tc_pure (.cell (by simp) rfl (.refl _) (tc_pure _) trivial))⟩
        repeat (first | exact trivial | refine ⟨⟨_, rfl, .acc rfl⟩, ?_⟩ | refine ⟨⟨_, rfl, .ptr rfl⟩, ?_⟩ | refine ⟨⟨_, rfl, .wk (by repeat (first | exact .int _ _ | exact eP_pure _)) (by exact .refl _)⟩, ?_⟩)
      · repeat ((with_reducible refine RK.id_ ?_); (refine RK.cons_ ?_; (first | refine RK.k_ 0 rfl ?_; refine .p rfl rfl rfl (by exact trivial) ?_ | refine RK.k_ 5 rfl ?_; (refine .ldla rfl rfl rfl rfl rfl rfl rfl (by rfl) rfl ?_))))
        refine .call (Valid_spec (q.getD k zT).2) rfl rfl rfl rfl ?_
        repeat ((with_reducible refine RK.id_ ?_); (first | refine RK.cons_ ?_; (refine RK.k_ 0 rfl ?_; refine .p rfl rfl rfl (by exact trivial) ?_) | refine RK.nilT rfl ?_ rfl))
        refine W.cond_ndec rfl (fun h5 => ?_) (fun h5 => ?_)
        · refine W.exit ⟨u, skip (fun h => absurd h.2 (by simpa using h5)), .ren [0, 1] [] (Nat.zero_le _) (fun b hb => absurd hb (Nat.not_lt_zero b)) (by simp) ?_ (.acc (by simp) rfl tc_pure (.cell (by simp) rfl (.refl _) (tc_pure _) trivial))⟩
          repeat (first | exact trivial | refine ⟨⟨_, rfl, .acc rfl⟩, ?_⟩ | refine ⟨⟨_, rfl, .ptr rfl⟩, ?_⟩ | refine ⟨⟨_, rfl, .wk (by repeat (first | exact .int _ _ | exact eP_pure _)) (by exact .refl _)⟩, ?_⟩)
        · have vi : V (p.getD i zT).2 := by simpa using h4
          have vk : V (q.getD k zT).2 := by simpa using h5
          repeat (first | (with_reducible refine W.id_ ?_); (first | refine W.sreg ?_ | refine W.skipT rfl ?_) | (with_reducible refine RK.id_ ?_); (refine RK.cons_ ?_; (first | refine RK.k_ 0 rfl ?_; refine .p rfl rfl rfl (by exact trivial) ?_ | refine RK.k_ 5 rfl ?_; (refine .ldla rfl rfl rfl rfl rfl rfl rfl (by rfl) rfl ?_))))
          refine .call (Zmul_spec ozp ozq) rfl rfl rfl rfl ?_
          repeat (first | (with_reducible refine W.id_ ?_); (first | refine W.sreg ?_ | refine W.seq ?_) | (with_reducible refine RK.id_ ?_); (first | refine RK.cons_ ?_; (first | refine RK.k_ 0 rfl ?_; refine .p rfl rfl rfl (by exact trivial) ?_ | refine RK.k_ 6 rfl ?_; (first | refine .alloc _ rfl rfl rfl rfl rfl rfl rfl ?_ | refine .store rfl rfl rfl rfl rfl rfl rfl (by rfl) (by rfl) (by rfl) ?_)) | refine RK.nilT rfl ?_ rfl))
          refine W.loopE (fun j => j ≤ 4) (fun j => j = 4) (fun j => 4 - j) (fun j => [(90, I (j : Int)), (13, .ptr 3 0), (12, .ptr 2 0), (10, .ptr 1 0), (8, accD 6 0 u), (68, eP q), (62, eP p), (1, eP q), (7, eP (can m)), (64, I i), (63, I p.length), (70, I k), (69, I q.length)]) (fun j => [accB tc u, some (.cells (tc (p.getD i zT))), some (.cells (tc (q.getD k zT))), some (.cells (tc (zcan (zv (p.getD i zT).1 * zv (q.getD k zT).1), pz j (p.getD i zT).2 (q.getD k zT).2)))]) (0) rfl ?_ ?_ ?_ ?_
          · exact Nat.zero_le _
          · refine .heap ?_ rfl
            repeat (first | exact trivial | refine ⟨⟨_, rfl, .refl _⟩, ?_⟩)
          · intro j hj
            obtain rfl | rfl | rfl | rfl | rfl : j = 0 ∨ j = 1 ∨ j = 2 ∨ j = 3 ∨ j = 4 := by omega
            · repeat (first | (with_reducible refine W.id_ ?_); (first | refine W.sreg ?_ | refine W.reg ?_ | refine W.draw mixed (by kernel_rfl) (by kernel_rfl) ?_ | refine W.seq ?_ | refine W.blockS ?_ | refine W.skipT rfl ?_ | refine W.condT rfl ?_) | (with_reducible refine RK.id_ ?_); (first | refine RK.cons_ ?_; (first | refine RK.k_ 0 rfl ?_; refine .p rfl rfl rfl (by exact trivial) ?_ | refine RK.k_ 1 rfl ?_; (refine .pa rfl rfl rfl rfl rfl rfl (by omega) (by omega) ?_) | refine RK.k_ 4 rfl ?_; (refine .p rfl rfl rfl (by omega) ?_) | refine RK.k_ 5 rfl ?_; (refine .ldl rfl rfl rfl rfl rfl rfl rfl (by rfl) (by rfl) ?_) | refine RK.k_ 6 rfl ?_; (refine .store rfl rfl rfl rfl rfl rfl rfl (by rfl) (by rfl) (by rfl) ?_)) | refine RK.nilT rfl ?_ rfl))
              refine .nil ?_ rfl
              refine ⟨1, by show 4 - 1 < 4 - 0; omega, by show 1 ≤ 4; omega, .heap ?_ rfl⟩
              repeat (first | exact trivial | refine ⟨⟨_, rfl, .refl _⟩, ?_⟩)
            · repeat (first | (with_reducible refine W.id_ ?_); (first | refine W.sreg ?_ | refine W.reg ?_ | refine W.draw mixed (by kernel_rfl) (by kernel_rfl) ?_ | refine W.seq ?_ | refine W.blockS ?_ | refine W.skipT rfl ?_ | refine W.condT rfl ?_) | (with_reducible refine RK.id_ ?_); (first | refine RK.cons_ ?_; (first | refine RK.k_ 0 rfl ?_; refine .p rfl rfl rfl (by exact trivial) ?_ | refine RK.k_ 1 rfl ?_; (refine .pa rfl rfl rfl rfl rfl rfl (by omega) (by omega) ?_) | refine RK.k_ 4 rfl ?_; (refine .p rfl rfl rfl (by omega) ?_) | refine RK.k_ 5 rfl ?_; (refine .ldl rfl rfl rfl rfl rfl rfl rfl (by rfl) (by rfl) ?_) | refine RK.k_ 6 rfl ?_; (refine .store rfl rfl rfl rfl rfl rfl rfl (by rfl) (by rfl) (by rfl) ?_)) | refine RK.nilT rfl ?_ rfl))
              refine .nil ?_ rfl
              refine ⟨2, by show 4 - 2 < 4 - 1; omega, by show 2 ≤ 4; omega, .heap ?_ rfl⟩
              repeat (first | exact trivial | refine ⟨⟨_, rfl, .refl _⟩, ?_⟩)
            · repeat (first | (with_reducible refine W.id_ ?_); (first | refine W.sreg ?_ | refine W.reg ?_ | refine W.draw mixed (by kernel_rfl) (by kernel_rfl) ?_ | refine W.seq ?_ | refine W.blockS ?_ | refine W.skipT rfl ?_ | refine W.condT rfl ?_) | (with_reducible refine RK.id_ ?_); (first | refine RK.cons_ ?_; (first | refine RK.k_ 0 rfl ?_; refine .p rfl rfl rfl (by exact trivial) ?_ | refine RK.k_ 1 rfl ?_; (refine .pa rfl rfl rfl rfl rfl rfl (by omega) (by omega) ?_) | refine RK.k_ 4 rfl ?_; (refine .p rfl rfl rfl (by omega) ?_) | refine RK.k_ 5 rfl ?_; (refine .ldl rfl rfl rfl rfl rfl rfl rfl (by rfl) (by rfl) ?_) | refine RK.k_ 6 rfl ?_; (refine .store rfl rfl rfl rfl rfl rfl rfl (by rfl) (by rfl) (by rfl) ?_)) | refine RK.nilT rfl ?_ rfl))
              refine .nil ?_ rfl
              refine ⟨3, by show 4 - 3 < 4 - 2; omega, by show 3 ≤ 4; omega, .heap ?_ rfl⟩
              repeat (first | exact trivial | refine ⟨⟨_, rfl, .refl _⟩, ?_⟩)
            · repeat (first | (with_reducible refine W.id_ ?_); (first | refine W.sreg ?_ | refine W.reg ?_ | refine W.draw mixed (by kernel_rfl) (by kernel_rfl) ?_ | refine W.seq ?_ | refine W.blockS ?_ | refine W.skipT rfl ?_ | refine W.condT rfl ?_) | (with_reducible refine RK.id_ ?_); (first | refine RK.cons_ ?_; (first | refine RK.k_ 0 rfl ?_; refine .p rfl rfl rfl (by exact trivial) ?_ | refine RK.k_ 1 rfl ?_; (refine .pa rfl rfl rfl rfl rfl rfl (by omega) (by omega) ?_) | refine RK.k_ 4 rfl ?_; (refine .p rfl rfl rfl (by omega) ?_) | refine RK.k_ 5 rfl ?_; (refine .ldl rfl rfl rfl rfl rfl rfl rfl (by rfl) (by rfl) ?_) | refine RK.k_ 6 rfl ?_; (refine .store rfl rfl rfl rfl rfl rfl rfl (by rfl) (by rfl) (by rfl) ?_)) | refine RK.nilT rfl ?_ rfl))
              refine .nil ?_ rfl
              refine ⟨4, by show 4 - 4 < 4 - 3; omega, by show 4 ≤ 4; omega, .heap ?_ rfl⟩
              repeat (first | exact trivial | refine ⟨⟨_, rfl, .refl _⟩, ?_⟩)
            · repeat (first | (with_reducible refine W.id_ ?_); (first | refine W.sreg ?_ | refine W.seq ?_ | refine W.condF rfl ?_) | (with_reducible refine RK.id_ ?_); (first | refine RK.cons_ ?_; (refine RK.k_ 0 rfl ?_; refine .p rfl rfl rfl (by exact trivial) ?_) | refine RK.nilT rfl ?_ rfl))
              refine W.exit ⟨4, rfl, .heap ?_ rfl⟩
              repeat (first | exact trivial | refine ⟨⟨_, rfl, .refl _⟩, ?_⟩)
          · rintro j rfl
            repeat (first | (with_reducible refine W.id_ ?_); (refine W.reg ?_) | (with_reducible refine RK.id_ ?_); (refine RK.cons_ ?_; (first | refine RK.k_ 0 rfl ?_; refine .p rfl rfl rfl (by exact trivial) ?_ | refine RK.k_ 5 rfl ?_; (refine .ldla rfl rfl rfl rfl rfl rfl rfl (by rfl) rfl ?_))))
            refine .grow 4 0 6 64 u [(zcan (zv (p.getD i zT).1 * zv (q.getD k zT).1), pz 4 (p.getD i zT).2 (q.getD k zT).2)] (enc := tc) tc_len rfl rfl rfl rfl rfl rfl rfl rfl rfl rfl (.snap (by rfl)) (by rfl) (by simp) (by simp; omega) (by simp; omega) rfl ?_
            repeat ((with_reducible refine RK.id_ ?_); (refine RK.cons_ ?_; (refine RK.k_ 0 rfl ?_; refine .p rfl rfl rfl (by exact trivial) ?_)))
            refine .nil ?_ rfl
            refine ⟨u ++ [(zcan (zv (p.getD i zT).1 * zv (q.getD k zT).1), pz 4 (p.getD i zT).2 (q.getD k zT).2)], ?_, .ren [4, 1] [] (Nat.zero_le _) (fun b hb => absurd hb (Nat.not_lt_zero b)) (by simp) ?_ (.acc (by simp) rfl tc_pure (.cell (by simp) rfl (.refl _) (tc_pure _) trivial))⟩
            · dsimp only
              rw [gv_next hkq (by rw [vals_get hi]; exact vi) (by rw [vals_get hk]; exact vk), can_append, Ck, vals_get hi, vals_get hk]
              rfl
            · repeat (first | exact trivial | refine ⟨⟨_, rfl, .acc rfl⟩, ?_⟩ | refine ⟨⟨_, rfl, .ptr rfl⟩, ?_⟩ | refine ⟨⟨_, rfl, .wk (by repeat (first | exact .int _ _ | exact eP_pure _)) (by exact .refl _)⟩, ?_⟩)
    refine ⟨u, ?_, .ren [0] [] (Nat.zero_le _) (fun b hb => absurd hb (Nat.not_lt_zero b)) (by simp) ?_ (.acc (by simp) rfl tc_pure trivial)⟩
    · dsimp only
      rw [Ck, ← vals_len q, gv_end hip]
    · repeat (first | exact trivial | refine ⟨⟨_, rfl, .acc rfl⟩, ?_⟩ | refine ⟨⟨_, rfl, .wk (by repeat (first | exact .int _ _ | exact eP_pure _)) (by exact .refl _)⟩, ?_⟩)
  rw [← vals_len p, List.take_of_length_le (Nat.le_refl _), ← hA] at Ci
  refine W.to (F' := [(8, eP (can A)), (7, eP (can m))]) (H' := []) (.frz ⟨⟨_, rfl, by rw [← Ci]; exact frz_accS tc_len tc_pure rfl⟩, ⟨_, rfl, .pure (eP_pure _) (.refl _)⟩, trivial⟩) ?_
  have hcf : ∀ e, V e → cf m e = cf A e := fun e he => by rw [hM, hA]; exact cf_mul' _ _ e
  have kM : Pok (can m) := M1.pok (by omega) (by omega)
  have lA : N.l1 A < B32 ^ 14 := by
    rw [hA, l1_mulL, show (14 : Nat) = 7 + 7 from rfl, Nat.pow_add]
    exact Nat.mul_lt_mul'' (Nat.lt_of_le_of_lt (l1_vf _) hP.hl) (Nat.lt_of_le_of_lt (l1_vf _) hQ.hl)
  have kA : Pok (can A) := can_pok' (small_lt lA (by omega)) (by
    rw [hA, mulL_len]
    refine Nat.le_trans (Nat.mul_le_mul (vf_len _) (vf_len _)) ?_
    rw [vals_len, vals_len]
    exact Nat.le_trans (Nat.mul_le_mul hpn hqn) (by decide))
  repeat (first | (with_reducible refine W.id_ ?_); (first | refine W.sreg ?_ | refine W.seq ?_) | (with_reducible refine RK.id_ ?_); (first | refine RK.cons_ ?_; (refine RK.k_ 0 rfl ?_; refine .p rfl rfl rfl (by exact trivial) ?_) | refine RK.nilT rfl ?_ rfl))
  have hall : ∀ i, i < 2 → ([can A, can m].getD i []).length ≤ 1000000 := fun i hi => by
    obtain rfl | rfl : i = 0 ∨ i = 1 := by omega
    · exact kA.n
    · exact kM.n
  have same : ∀ e, PureFn Try.prog 20 [eZ (zcan (if V e then cf (vals (can m)) e else 0)), eZ (zcan (if V e then cf (vals (can A)) e else 0))] (.bool true) := fun e => by
    have e1 : (if V e then cf (vals (can m)) e else 0) = (if V e then cf (vals (can A)) e else 0) := by
      rw [vals_can, vals_can]
      split
      · exact hcf e (by assumption)
      · rfl
    rw [e1]
    have hz : okZ (zcan (if V e then cf (vals (can A)) e else 0)) := .can (by
      unfold zsm
      split
      · exact Nat.lt_of_le_of_lt (cf_l1 _ _) kA.l
      · exact tiny (by decide))
    have h := Zsame_spec hz hz
    rw [decide_eq_true rfl] at h
    exact h
  refine .rangeS (2) (fun i s => [(114, ePP [can A, can m]), (7, eP (can m)), (8, eP (can A))]) (fun i s => []) (fun i s => s = ()) (()) rfl rfl rfl rfl rfl rfl rfl rfl rfl rfl (by omega) ?_ ?_ (fun _ _ => rfl) (fun i s hi Ci => ?_) (fun s Ci => ?_)
  · rfl
  · refine .heap ?_ rfl
    repeat (first | exact trivial | refine ⟨⟨_, rfl, .refl _⟩, ?_⟩ | refine ⟨⟨_, rfl, .tight⟩, ?_⟩)
  · have hln := hall i hi
    have hi2 : i < [can A, can m].length := hi
    repeat (first | (with_reducible refine W.id_ ?_); (refine W.sreg ?_) | (with_reducible refine RK.id_ ?_); (first | refine RK.cons_ ?_; (first | refine RK.k_ 0 rfl ?_; refine .p rfl rfl rfl (by exact trivial) ?_ | refine RK.k_ 4 rfl ?_; (refine .ix _ (s := 1) rfl rfl rfl rfl rfl rfl rfl (by rfl) (by omega) ?_) | refine RK.k_ 5 rfl ?_; (refine .ld _ rfl rfl rfl rfl rfl rfl (by exact get_map (f := fun p => eP p) (z := ([] : List RT)) (by omega) rfl) ?_)) | refine RK.nilT rfl ?_ rfl))
    refine .rangeS (([can A, can m].getD i []).length) (fun k u => [(120, eP ([can A, can m].getD i [])), (7, eP (can m)), (8, eP (can A)), (114, ePP [can A, can m]), (116, I i), (115, I 2)]) (fun k u => []) (fun k u => u = ()) (()) rfl rfl rfl rfl rfl rfl rfl rfl rfl rfl (by omega) ?_ ?_ (fun _ _ => rfl) (fun k u hk Ck => ?_) (fun u Ck => ?_)
    · rfl
    · refine .heap ?_ rfl
      repeat (first | exact trivial | refine ⟨⟨_, rfl, .refl _⟩, ?_⟩)
    · generalize [can A, can m].getD i [] = l at *
      repeat (first | (with_reducible refine W.id_ ?_); (first | refine W.sreg ?_ | refine W.sdraw mixed (by kernel_rfl) (by kernel_rfl) ?_) | (with_reducible refine RK.id_ ?_); (first | refine RK.cons_ ?_; (first | refine RK.k_ 0 rfl ?_; refine .p rfl rfl rfl (by exact trivial) ?_ | refine RK.k_ 4 rfl ?_; (refine .ix _ (s := 6) rfl rfl rfl rfl rfl rfl rfl (by rfl) (by omega) ?_) | refine RK.k_ 5 rfl ?_; (first | refine .ldla rfl rfl rfl rfl rfl rfl rfl (by rfl) rfl ?_ | refine .lda _ rfl rfl rfl rfl rfl rfl rfl (by exact take_flat (z := zT) tc_len (by omega) (by omega) rfl) ?_) | refine RK.k_ 6 rfl ?_; (first | refine .alloc _ rfl rfl rfl rfl rfl rfl rfl ?_ | refine .store rfl rfl rfl rfl rfl rfl rfl (by rfl) (by rfl) (by rfl) ?_)) | refine RK.nilT rfl ?_ rfl))
      refine .call (RCoef_spec (m := (l.getD k zT).2) kM) rfl rfl rfl rfl ?_
      repeat ((with_reducible refine RK.id_ ?_); (refine RK.cons_ ?_; (first | refine RK.k_ 0 rfl ?_; refine .p rfl rfl rfl (by exact trivial) ?_ | refine RK.k_ 5 rfl ?_; (refine .ldla rfl rfl rfl rfl rfl rfl rfl (by rfl) rfl ?_))))
      refine .call (RCoef_spec (m := (l.getD k zT).2) kA) rfl rfl rfl rfl ?_
      skip
      refine .call (same (l.getD k zT).2) rfl rfl rfl rfl ?_
      repeat (first | (with_reducible refine W.id_ ?_); (refine W.condF rfl ?_) | (with_reducible refine RK.id_ ?_); (first | refine RK.cons_ ?_; (refine RK.k_ 0 rfl ?_; refine .p rfl rfl rfl (by exact trivial) ?_) | refine RK.nilT rfl ?_ rfl))
      refine .skip ⟨(), rfl, .ren [] [] (Nat.zero_le _) (fun b hb => absurd hb (Nat.not_lt_zero b)) (by simp) ?_ trivial⟩
      repeat (first | exact trivial | refine ⟨⟨_, rfl, .wk (by repeat (first | exact .int _ _ | exact eP_pure _ | exact ePP_pure _)) (by exact .refl _)⟩, ?_⟩)
    refine ⟨(), rfl, .heap ?_ rfl⟩
    repeat (first | exact trivial | refine ⟨⟨_, rfl, .refl _⟩, ?_⟩)
  show W _ _ _ _ _ _ _
  repeat (first | (with_reducible refine W.id_ ?_); (refine W.sreg ?_) | (with_reducible refine RK.id_ ?_); (first | refine RK.cons_ ?_; (refine RK.k_ 0 rfl ?_; refine .p rfl rfl rfl (by exact trivial) ?_) | refine RK.nilT rfl ?_ rfl))
  refine W.ret ⟨_, rfl, .eq (by repeat (exact .bool _)) ?_, rfl⟩
  rfl
end Go.Proofs.Ytbdefjbekbbldaa
