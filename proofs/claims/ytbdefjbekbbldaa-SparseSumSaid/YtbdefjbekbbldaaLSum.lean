import Derived.Test.YtbdefjbekbbldaaA2
import Derived.Test.YtbdefjbekbbldaaN
set_option linter.unusedVariables false
namespace Go.Proofs.Ytbdefjbekbbldaa
open Go.V Go.N
set_option maxHeartbeats 8000000
set_option maxRecDepth 20000

/-- The coefficient of a monomial, 0 if it doesn't count. -/
def ce (a : P) (e : M) : Int := if V e then cf a e else 0
theorem ce_nrm (a : P) (e : M) : ce (nrm a) e = ce a e := by
  unfold ce
  split
  · rw [cf_nrm, if_pos (by assumption)]
  · rfl
theorem ce_add (a b : P) (e : M) : ce (addc a b) e = ce a e + ce b e := by
  rw [ce_nrm]; unfold ce
  split
  · rw [cf_append]
  · rfl
theorem ce_scl (c : Int) (a : P) (e : M) : ce (sclc c a) e = ce a e * c := by
  rw [ce_nrm]; unfold ce
  split
  · rw [cf_scl]
  · rw [Int.zero_mul]
theorem ce_l1 (a : P) (e : M) : (ce a e).natAbs ≤ l1 a := by
  unfold ce
  split
  · exact cf_l1 a e
  · exact Nat.zero_le _
theorem scl_one (c : Int) : con c = sclc c (con 1) := by
  show con c = nrm [(1 * c, M0)]
  rw [nrm_con, Int.one_mul]

/-- Coefficients of rows. -/
theorem Rp.coef {k n : Nat} {x : Int} {p : List RT} {a : P} (h : Rp k n x p a) (hk : k ≤ 1000000000) (hn : n ≤ 1000000) (e : M) : PureFn Try.prog 21 [eP p, eM e] (eZ (zcan (ce a e))) := by
  have h1 := RCoef_spec (m := e) (h.pok hk hn)
  rw [show (if V e then cf (vals p) e else 0) = ce a e by rw [h.eqn, ce_nrm]; rfl] at h1
  exact h1
theorem same_of {x y : Int} (h : zsm x) (e : x = y) : PureFn Try.prog 20 [eZ (zcan x), eZ (zcan y)] (.bool true) := by
  subst e
  have h := Zsame_spec (.can h) (.can h)
  rw [decide_eq_true rfl] at h
  exact h

/- cylinderlaw20.SparseSum -/
theorem Sum_spec {p q : List RT} {c : Z} (hp : p.length ≤ 9223372036854775807) (hq : q.length ≤ 9223372036854775807) (zp : ∀ t ∈ p, okN t.1.2 ∧ t.1.2.length ≤ 9223372036854775807) (zq : ∀ t ∈ q, okN t.1.2 ∧ t.1.2.length ≤ 9223372036854775807) (hc : okN c.2) :
    PureFn Try.prog 5 [eP p, eP q, eZ c] (.bool true) := by
  refine .of_W (fn := Try.f5) (by repeat (first | exact trivial | refine ⟨(by repeat (first | exact eZ_pure _ | exact eP_pure _)), ?_⟩)) Try.call5 Try.func5 rfl rfl ?_
  repeat (first | (with_reducible refine W.id_ ?_); (first | refine W.sreg ?_ | refine W.seq ?_) | (with_reducible refine RK.id_ ?_); (first | refine RK.cons_ ?_; (first | refine RK.k_ 0 rfl ?_; refine .p rfl rfl rfl (by exact trivial) ?_ | refine RK.k_ 6 rfl ?_; (refine .box _ rfl rfl rfl rfl rfl rfl rfl ?_)) | refine RK.nilT rfl ?_ rfl))
  refine .call (fit_spec) rfl rfl rfl rfl ?_
  repeat (first | (with_reducible refine W.id_ ?_); (first | refine W.sreg ?_ | refine W.seq ?_ | refine W.skipT rfl ?_ | refine W.condF rfl ?_) | (with_reducible refine RK.id_ ?_); (first | refine RK.cons_ ?_; (refine RK.k_ 0 rfl ?_; refine .p rfl rfl rfl (by exact trivial) ?_) | refine RK.nilT rfl ?_ rfl))
  refine .call (few_spec hp (fun t ht => (zp t ht).2)) rfl rfl rfl rfl ?_
  repeat ((with_reducible refine RK.id_ ?_); (refine RK.cons_ ?_; (refine RK.k_ 0 rfl ?_; refine .p rfl rfl rfl (by exact trivial) ?_)))
  refine .split (fun h1 => ?_) (fun h1 => ?_)
  · repeat (first | (with_reducible refine W.id_ ?_); (first | refine W.sreg ?_ | refine W.condT rfl ?_) | (with_reducible refine RK.id_ ?_); (first | refine RK.cons_ ?_; (first | refine .skip rfl rfl ?_ | refine RK.k_ 0 rfl ?_; refine .p rfl rfl rfl (by exact trivial) ?_) | refine RK.nilT rfl ?_ rfl))
    refine W.ret ⟨_, rfl, .eq (by repeat (exact .bool _)) ?_, rfl⟩
    rfl
  repeat ((with_reducible refine RK.id_ ?_); (refine RK.cons_ ?_; (refine RK.k_ 0 rfl ?_; refine .p rfl rfl rfl (by exact trivial) ?_)))
  refine .call (few_spec hq (fun t ht => (zq t ht).2)) rfl rfl rfl rfl ?_
  repeat ((with_reducible refine RK.id_ ?_); (refine RK.cons_ ?_; (refine RK.k_ 0 rfl ?_; refine .p rfl rfl rfl (by exact trivial) ?_)))
  refine .split (fun h2 => ?_) (fun h2 => ?_)
  · repeat (first | (with_reducible refine W.id_ ?_); (first | refine W.sreg ?_ | refine W.condT rfl ?_) | (with_reducible refine RK.id_ ?_); (first | refine RK.cons_ ?_; (first | refine .skip rfl rfl ?_ | refine RK.k_ 0 rfl ?_; refine .p rfl rfl rfl (by exact trivial) ?_) | refine RK.nilT rfl ?_ rfl))
    refine W.ret ⟨_, rfl, .eq (by repeat (exact .bool _)) ?_, rfl⟩
    rfl
  repeat ((with_reducible refine RK.id_ ?_); (first | refine RK.cons_ ?_; (first | refine RK.k_ 0 rfl ?_; refine .p rfl rfl rfl (by exact trivial) ?_ | refine RK.k_ 5 rfl ?_; (refine .ldl rfl rfl rfl rfl rfl rfl rfl (by rfl) (by rfl) ?_)) | refine RK.nilT rfl ?_ rfl))
  refine W.cond_dec rfl (fun h3 => ?_) (fun h3 => ?_)
  · repeat (first | (with_reducible refine W.id_ ?_); (refine W.sreg ?_) | (with_reducible refine RK.id_ ?_); (first | refine RK.cons_ ?_; (refine RK.k_ 0 rfl ?_; refine .p rfl rfl rfl (by exact trivial) ?_) | refine RK.nilT rfl ?_ rfl))
    refine W.ret ⟨_, rfl, .eq (by repeat (exact .bool _)) ?_, rfl⟩
    rfl
  have h1 : few p 8 6 9 := by simpa using h1
  have h2 : few q 8 6 9 := by simpa using h2
  have hcl : c.2.length ≤ 6 := by omega
  have zc' : okZ c := ⟨hc, by omega⟩
  have cb : (zv c).natAbs < B32 ^ 6 := by rw [← nv_abs]; exact Nat.lt_of_lt_of_le (nv_lt hc) (pw_le hcl)
  have hP := few_Rp h1 (fun t ht => (zp t ht).1)
  have hQ := few_Rp h2 (fun t ht => (zq t ht).1)
  obtain ⟨A, hA⟩ : ∃ A, A = nrm (vals p) := ⟨_, rfl⟩
  obtain ⟨B, hB⟩ : ∃ B, B = nrm (vals q) := ⟨_, rfl⟩
  rw [← hA] at hP
  rw [← hB] at hQ
  obtain ⟨m1, M1⟩ := hP.add hQ (by omega) (by omega)
  obtain ⟨m2, M2⟩ := hP.sub hQ (by omega) (by omega)
  obtain ⟨m3, M3⟩ := hP.scale zc' cb (by omega) (by omega)
  obtain ⟨m4, M4⟩ := hP.neg (by omega) (by omega)
  have c1 := M1.canonical (show Canon (addc A B) from nrm_canon _) (by omega) (by omega)
  have c2 := M2.canonical (show Canon (addc A (sclc (-1) B)) from nrm_canon _) (by omega) (by omega)
  have c3 := M3.canonical (show Canon (sclc (zv c) A) from nrm_canon _) (by omega) (by omega)
  have c4 := M4.canonical (show Canon (sclc (-1) A) from nrm_canon _) (by omega) (by omega)
  obtain ⟨S, hS⟩ : ∃ S, S = addc A B := ⟨_, rfl⟩
  obtain ⟨Df, hD⟩ : ∃ Df, Df = addc A (sclc (-1) B) := ⟨_, rfl⟩
  obtain ⟨K, hK⟩ : ∃ K, K = sclc (zv c) A := ⟨_, rfl⟩
  obtain ⟨Ng, hN⟩ : ∃ Ng, Ng = sclc (-1) A := ⟨_, rfl⟩
  rw [← hS] at m1 M1 c1
  rw [← hD] at m2 M2 c2
  rw [← hK] at m3 M3 c3
  rw [← hN] at m4 M4 c4
  have b1 : ∀ e, (ce A e).natAbs < B32 ^ 7 := fun e => Nat.lt_of_le_of_lt (ce_l1 _ _) hP.l1
  have b2 : ∀ e, (ce B e).natAbs < B32 ^ 7 := fun e => Nat.lt_of_le_of_lt (ce_l1 _ _) hQ.l1
  have t2 := two_pow 7
  have x1 : ∀ e, zsm (ce A e + ce B e) := fun e => small_lt (k := 7 + 1) (by have := b1 e; have := b2 e; omega) (by omega)
  have x2 : ∀ e, zsm (ce A e - ce B e) := fun e => small_lt (k := 7 + 1) (by have := b1 e; have := b2 e; omega) (by omega)
  have x3 : ∀ e, zsm (zv c * ce A e) := fun e => small_lt (k := 6 + 7) (by rw [Int.natAbs_mul, Nat.pow_add]; exact Nat.mul_lt_mul'' cb (b1 e)) (by omega)
  have x4 : ∀ e, zsm (-ce A e) := fun e => small_lt (k := 7) (by rw [Int.natAbs_neg]; exact b1 e) (by omega)
  have y1 : ∀ e, okZ (zcan (ce A e)) := fun e => .can (small_lt (b1 e) (by omega))
  have y2 : ∀ e, okZ (zcan (ce B e)) := fun e => .can (small_lt (b2 e) (by omega))
  repeat (first | (with_reducible refine W.id_ ?_); (first | refine W.sdraw mixed (by kernel_rfl) (by kernel_rfl) ?_ | refine W.skipT rfl ?_) | (with_reducible refine RK.id_ ?_); (refine RK.cons_ ?_; (refine RK.k_ 0 rfl ?_; refine .p rfl rfl rfl (by exact trivial) ?_)))
  refine .call (m1) rfl rfl rfl rfl ?_
  repeat ((with_reducible refine RK.id_ ?_); (refine RK.cons_ ?_; (refine RK.k_ 0 rfl ?_; refine .p rfl rfl rfl (by exact trivial) ?_)))
  refine .call (m2) rfl rfl rfl rfl ?_
  repeat ((with_reducible refine RK.id_ ?_); (refine RK.cons_ ?_; (first | refine RK.k_ 0 rfl ?_; refine .p rfl rfl rfl (by exact trivial) ?_ | refine RK.k_ 5 rfl ?_; (refine .ldla rfl rfl rfl rfl rfl rfl rfl (by rfl) rfl ?_))))
  refine .call (m3) rfl rfl rfl rfl ?_
  repeat ((with_reducible refine RK.id_ ?_); (refine RK.cons_ ?_; (refine RK.k_ 0 rfl ?_; refine .p rfl rfl rfl (by exact trivial) ?_)))
  refine .call (m4) rfl rfl rfl rfl ?_
  repeat (first | (with_reducible refine W.id_ ?_); (first | refine W.sreg ?_ | refine W.seq ?_) | (with_reducible refine RK.id_ ?_); (first | refine RK.cons_ ?_; (refine RK.k_ 0 rfl ?_; refine .p rfl rfl rfl (by exact trivial) ?_) | refine RK.nilT rfl ?_ rfl))
  refine .call (c1) rfl rfl rfl rfl ?_
  repeat ((with_reducible refine RK.id_ ?_); (refine RK.cons_ ?_; (refine RK.k_ 0 rfl ?_; refine .p rfl rfl rfl (by exact trivial) ?_)))
  refine .call (c2) rfl rfl rfl rfl ?_
  repeat ((with_reducible refine RK.id_ ?_); (refine RK.cons_ ?_; (refine RK.k_ 0 rfl ?_; refine .p rfl rfl rfl (by exact trivial) ?_)))
  refine .call (c3) rfl rfl rfl rfl ?_
  repeat ((with_reducible refine RK.id_ ?_); (refine RK.cons_ ?_; (refine RK.k_ 0 rfl ?_; refine .p rfl rfl rfl (by exact trivial) ?_)))
  refine .call (c4) rfl rfl rfl rfl ?_
  repeat (first | (with_reducible refine W.id_ ?_); (first | refine W.sreg ?_ | refine W.seq ?_ | refine W.skipT rfl ?_ | refine W.condF rfl ?_) | (with_reducible refine RK.id_ ?_); (first | refine RK.cons_ ?_; (refine RK.k_ 0 rfl ?_; refine .p rfl rfl rfl (by exact trivial) ?_) | refine RK.nilT rfl ?_ rfl))
  have hall : ∀ i, i < 6 → ([p, q, can S, can Df, can K, can Ng].getD i []).length ≤ 1000000 := fun i hi => by
    obtain rfl | rfl | rfl | rfl | rfl | rfl : i = 0 ∨ i = 1 ∨ i = 2 ∨ i = 3 ∨ i = 4 ∨ i = 5 := by omega
    · exact Nat.le_trans hP.hn (by omega)
    · exact Nat.le_trans hQ.hn (by omega)
    · exact Nat.le_trans M1.hn (by omega)
    · exact Nat.le_trans M2.hn (by omega)
    · exact Nat.le_trans M3.hn (by omega)
    · exact Nat.le_trans M4.hn (by omega)
  refine .rangeS (6) (fun i s => [(68, ePP [p, q, can S, can Df, can K, can Ng]), (0, eP p), (1, eP q), (7, eP (can S)), (8, eP (can Df)), (9, eP (can K)), (10, eP (can Ng)), (5, .ptr 0 0)]) (fun i s => [some (.cells (zc c))]) (fun i s => s = ()) (()) rfl rfl rfl rfl rfl rfl rfl rfl rfl rfl (by omega) ?_ ?_ (fun _ _ => rfl) (fun i s hi Ci => ?_) (fun s Ci => ?_)
  · rfl
  · refine .heap ?_ rfl
    repeat (first | exact trivial | refine ⟨⟨_, rfl, .refl _⟩, ?_⟩ | refine ⟨⟨_, rfl, .tight⟩, ?_⟩)
  · have hln := hall i hi
    have hi2 : i < [p, q, can S, can Df, can K, can Ng].length := hi
    repeat (first | (with_reducible refine W.id_ ?_); (refine W.sreg ?_) | (with_reducible refine RK.id_ ?_); (first | refine RK.cons_ ?_; (first | refine RK.k_ 0 rfl ?_; refine .p rfl rfl rfl (by exact trivial) ?_ | refine RK.k_ 4 rfl ?_; (refine .ix _ (s := 1) rfl rfl rfl rfl rfl rfl rfl (by rfl) (by omega) ?_) | refine RK.k_ 5 rfl ?_; (refine .ld _ rfl rfl rfl rfl rfl rfl (by exact get_map (f := fun p => eP p) (z := ([] : List RT)) (by omega) rfl) ?_)) | refine RK.nilT rfl ?_ rfl))
    refine .rangeS (([p, q, can S, can Df, can K, can Ng].getD i []).length) (fun k u => [(74, eP ([p, q, can S, can Df, can K, can Ng].getD i [])), (68, ePP [p, q, can S, can Df, can K, can Ng]), (0, eP p), (1, eP q), (7, eP (can S)), (8, eP (can Df)), (9, eP (can K)), (10, eP (can Ng)), (5, .ptr 0 0), (70, I i), (69, I 6)]) (fun k u => [some (.cells (zc c))]) (fun k u => u = ()) (()) rfl rfl rfl rfl rfl rfl rfl rfl rfl rfl (by omega) ?_ ?_ (fun _ _ => rfl) (fun k u hk Ck => ?_) (fun u Ck => ?_)
    · rfl
    · refine .heap ?_ rfl
      repeat (first | exact trivial | refine ⟨⟨_, rfl, .refl _⟩, ?_⟩)
    · generalize [p, q, can S, can Df, can K, can Ng].getD i [] = l at *
      have e1 : ce S (l.getD k zT).2 = ce A (l.getD k zT).2 + ce B (l.getD k zT).2 := by rw [hS, ce_add]
      have e2 : ce Df (l.getD k zT).2 = ce A (l.getD k zT).2 - ce B (l.getD k zT).2 := by rw [hD, ce_add, ce_scl]; omega
      have e3 : ce K (l.getD k zT).2 = zv c * ce A (l.getD k zT).2 := by rw [hK, ce_scl, Int.mul_comm]
      have e4 : ce Ng (l.getD k zT).2 = -ce A (l.getD k zT).2 := by rw [hN, ce_scl]; omega
      have f1 := Zadd_spec (y1 (l.getD k zT).2) (y2 (l.getD k zT).2)
      have f2 := Zsub_spec (y1 (l.getD k zT).2) (y2 (l.getD k zT).2)
      have f3 := Zmul_spec zc' (y1 (l.getD k zT).2)
      have f4 := Zneg_spec (y1 (l.getD k zT).2)
      rw [zv_can, zv_can] at f1 f2
      rw [zv_can] at f3 f4
      repeat (first | (with_reducible refine W.id_ ?_); (first | refine W.sreg ?_ | refine W.sdraw mixed (by kernel_rfl) (by kernel_rfl) ?_) | (with_reducible refine RK.id_ ?_); (first | refine RK.cons_ ?_; (first | refine RK.k_ 0 rfl ?_; refine .p rfl rfl rfl (by exact trivial) ?_ | refine RK.k_ 4 rfl ?_; (refine .ix _ (s := 6) rfl rfl rfl rfl rfl rfl rfl (by rfl) (by omega) ?_) | refine RK.k_ 5 rfl ?_; (first | refine .ldla rfl rfl rfl rfl rfl rfl rfl (by rfl) rfl ?_ | refine .lda _ rfl rfl rfl rfl rfl rfl rfl (by exact take_flat (z := zT) tc_len (by omega) (by omega) rfl) ?_) | refine RK.k_ 6 rfl ?_; (first | refine .alloc _ rfl rfl rfl rfl rfl rfl rfl ?_ | refine .store rfl rfl rfl rfl rfl rfl rfl (by rfl) (by rfl) (by rfl) ?_)) | refine RK.nilT rfl ?_ rfl))
      refine .call (hP.coef (by omega) (by omega) (l.getD k zT).2) rfl rfl rfl rfl ?_
      repeat ((with_reducible refine RK.id_ ?_); (refine RK.cons_ ?_; (first | refine RK.k_ 0 rfl ?_; refine .p rfl rfl rfl (by exact trivial) ?_ | refine RK.k_ 5 rfl ?_; (refine .ldla rfl rfl rfl rfl rfl rfl rfl (by rfl) rfl ?_))))
      refine .call (hQ.coef (by omega) (by omega) (l.getD k zT).2) rfl rfl rfl rfl ?_
      repeat (first | (with_reducible refine W.id_ ?_); (refine W.sdraw mixed (by kernel_rfl) (by kernel_rfl) ?_) | (with_reducible refine RK.id_ ?_); (first | refine RK.cons_ ?_; (first | refine RK.k_ 0 rfl ?_; refine .p rfl rfl rfl (by exact trivial) ?_ | refine RK.k_ 5 rfl ?_; (refine .ldla rfl rfl rfl rfl rfl rfl rfl (by rfl) rfl ?_) | refine RK.k_ 6 rfl ?_; (first | refine .alloc _ rfl rfl rfl rfl rfl rfl rfl ?_ | refine .store rfl rfl rfl rfl rfl rfl rfl (by rfl) (by rfl) (by rfl) ?_)) | refine RK.nilT rfl ?_ rfl))
      refine .call (M1.coef (by omega) (by omega) (l.getD k zT).2) rfl rfl rfl rfl ?_
      repeat ((with_reducible refine RK.id_ ?_); (refine RK.cons_ ?_; (refine RK.k_ 5 rfl ?_; (refine .ldla rfl rfl rfl rfl rfl rfl rfl (by rfl) rfl ?_))))
      refine .call (f1) rfl rfl rfl rfl ?_
      skip
      refine .call (same_of (by rw [e1]; exact x1 _) e1) rfl rfl rfl rfl ?_
      repeat ((with_reducible refine RK.id_ ?_); (refine RK.cons_ ?_; (first | refine RK.k_ 0 rfl ?_; refine .p rfl rfl rfl (by exact trivial) ?_ | refine RK.k_ 5 rfl ?_; (refine .ldla rfl rfl rfl rfl rfl rfl rfl (by rfl) rfl ?_))))
      refine .call (M2.coef (by omega) (by omega) (l.getD k zT).2) rfl rfl rfl rfl ?_
      repeat ((with_reducible refine RK.id_ ?_); (refine RK.cons_ ?_; (refine RK.k_ 5 rfl ?_; (refine .ldla rfl rfl rfl rfl rfl rfl rfl (by rfl) rfl ?_))))
      refine .call (f2) rfl rfl rfl rfl ?_
      skip
      refine .call (same_of (by rw [e2]; exact x2 _) e2) rfl rfl rfl rfl ?_
      repeat ((with_reducible refine RK.id_ ?_); (refine RK.cons_ ?_; (first | refine RK.k_ 0 rfl ?_; refine .p rfl rfl rfl (by exact trivial) ?_ | refine RK.k_ 5 rfl ?_; (refine .ldla rfl rfl rfl rfl rfl rfl rfl (by rfl) rfl ?_))))
      refine .call (M3.coef (by omega) (by omega) (l.getD k zT).2) rfl rfl rfl rfl ?_
      repeat ((with_reducible refine RK.id_ ?_); (refine RK.cons_ ?_; (refine RK.k_ 5 rfl ?_; (refine .ldla rfl rfl rfl rfl rfl rfl rfl (by rfl) rfl ?_))))
      refine .call (f3) rfl rfl rfl rfl ?_
      skip
      refine .call (same_of (by rw [e3]; exact x3 _) e3) rfl rfl rfl rfl ?_
      repeat ((with_reducible refine RK.id_ ?_); (refine RK.cons_ ?_; (first | refine RK.k_ 0 rfl ?_; refine .p rfl rfl rfl (by exact trivial) ?_ | refine RK.k_ 5 rfl ?_; (refine .ldla rfl rfl rfl rfl rfl rfl rfl (by rfl) rfl ?_))))
      refine .call (M4.coef (by omega) (by omega) (l.getD k zT).2) rfl rfl rfl rfl ?_
      repeat ((with_reducible refine RK.id_ ?_); (refine RK.cons_ ?_; (refine RK.k_ 5 rfl ?_; (refine .ldla rfl rfl rfl rfl rfl rfl rfl (by rfl) rfl ?_))))
      refine .call (f4) rfl rfl rfl rfl ?_
      skip
      refine .call (same_of (by rw [e4]; exact x4 _) e4) rfl rfl rfl rfl ?_
      repeat (first | (with_reducible refine W.id_ ?_); (refine W.condF rfl ?_) | (with_reducible refine RK.id_ ?_); (first | refine RK.cons_ ?_; (refine RK.k_ 0 rfl ?_; refine .p rfl rfl rfl (by exact trivial) ?_) | refine RK.nilT rfl ?_ rfl))
      refine .skip ⟨(), rfl, .ren [0] [] (Nat.zero_le _) (fun b hb => absurd hb (Nat.not_lt_zero b)) (by simp) ?_ (.cell (by simp) rfl (.refl _) (zc_pure _) trivial)⟩
      repeat (first | exact trivial | refine ⟨⟨_, rfl, .ptr rfl⟩, ?_⟩ | refine ⟨⟨_, rfl, .wk (by repeat (first | exact .int _ _ | exact eP_pure _ | exact ePP_pure _)) (by exact .refl _)⟩, ?_⟩)
    refine ⟨(), rfl, .heap ?_ rfl⟩
    repeat (first | exact trivial | refine ⟨⟨_, rfl, .refl _⟩, ?_⟩)
  have hC := Const_spec zc'
  have hW : PureFn Try.prog 36 [eP p, I 0] (eP (can (con 1))) := Pow_spec (n := 0) (L := N.l1 A) (N := A.length) (hP.pok (by omega) (by omega)) hP.eqn (by decide) (by decide) (Nat.le_refl _) (Nat.le_refl _) hP.eb (by decide) (fun k hk => by
    obtain rfl : k = 0 := Nat.le_zero.1 hk
    exact tiny (by rw [Nat.pow_zero]; decide)) (fun k hk => by
    obtain rfl : k = 0 := Nat.le_zero.1 hk
    rw [Nat.pow_zero]; decide) (by decide)
  have R1 : Rp 1 1 0 (can (con 1)) (con 1) := .cn (con_canon 1) (by decide) (by decide) (Eb.con (by decide) 1) (by omega)
  obtain ⟨m5, M5⟩ := R1.scale zc' cb (by omega) (by omega)
  have R2 : Rp 6 1 0 (can (con (zv c))) (con (zv c)) := .cn (con_canon _) (by
    unfold con
    split
    · decide
    · show (zv c).natAbs + 0 < _; exact cb) (by
    unfold con
    split
    · decide
    · exact Nat.le_refl 1) (Eb.con (by decide) _) (by omega)
  have s5 := R2.same M5 (by omega) (by omega) (by omega) (by omega)
  rw [decide_eq_true (scl_one _)] at s5
  show W _ _ _ _ _ _ _
  repeat (first | (with_reducible refine W.id_ ?_); (refine W.sdraw mixed (by kernel_rfl) (by kernel_rfl) ?_) | (with_reducible refine RK.id_ ?_); (refine RK.cons_ ?_; (refine RK.k_ 5 rfl ?_; (refine .ldla rfl rfl rfl rfl rfl rfl rfl (by rfl) rfl ?_))))
  refine .call (hC) rfl rfl rfl rfl ?_
  repeat ((with_reducible refine RK.id_ ?_); (refine RK.cons_ ?_; (refine RK.k_ 0 rfl ?_; refine .p rfl rfl rfl (by exact trivial) ?_)))
  refine .call (hW) rfl rfl rfl rfl ?_
  repeat ((with_reducible refine RK.id_ ?_); (refine RK.cons_ ?_; (refine RK.k_ 5 rfl ?_; (refine .ldla rfl rfl rfl rfl rfl rfl rfl (by rfl) rfl ?_))))
  refine .call (m5) rfl rfl rfl rfl ?_
  skip
  refine .call (s5) rfl rfl rfl rfl ?_
  repeat ((with_reducible refine RK.id_ ?_); (first | refine RK.cons_ ?_; (refine RK.k_ 0 rfl ?_; refine .p rfl rfl rfl (by exact trivial) ?_) | refine RK.nilT rfl ?_ rfl))
  refine W.ret ⟨_, rfl, .eq (by repeat (exact .bool _)) ?_, rfl⟩
  rfl
end Go.Proofs.Ytbdefjbekbbldaa
