import Derived.Test.YtbdefjbekbbldaaB1
import Derived.Test.YtbdefjbekbbldaaND
import Derived.Test.YtbdefjbekbbldaaA2
set_option linter.unusedVariables false
set_option linter.unusedSimpArgs false
set_option linter.unnecessarySimpa false
namespace Go.Proofs.Ytbdefjbekbbldaa
open Go.V Go.N
set_option maxHeartbeats 8000000
set_option maxRecDepth 20000

theorem zv_nv0 {z : Z} : zv z = 0 ↔ nv z.2 = 0 := by
  have := nv_abs z
  omega

/- division.zero -/
theorem Dzero_spec {z : Z} (h : okZ z) : PureFn Try.prog 98 [eZ z] (.bool (decide (zv z = 0))) := by
  have hl := h.len
  refine .of_W (fn := Try.f98) (by repeat (first | exact trivial | refine ⟨(by repeat (exact eZ_pure _)), ?_⟩)) Try.call98 Try.func98 rfl rfl ?_
  repeat (first | (with_reducible refine W.id_ ?_); (refine W.sreg ?_) | (with_reducible refine RK.id_ ?_); (first | refine RK.cons_ ?_; (first | refine RK.k_ 0 rfl ?_; refine .p rfl rfl rfl (by exact trivial) ?_ | refine RK.k_ 5 rfl ?_; (refine .ldl rfl rfl rfl rfl rfl rfl rfl (by rfl) (by rfl) ?_) | refine RK.k_ 6 rfl ?_; (refine .box _ rfl rfl rfl rfl rfl rfl rfl ?_)) | refine RK.nilT rfl ?_ rfl))
  refine .call (IsZero_spec h.ok (by omega)) rfl rfl rfl rfl ?_
  repeat ((with_reducible refine RK.id_ ?_); (first | refine RK.cons_ ?_; (refine RK.k_ 0 rfl ?_; refine .p rfl rfl rfl (by exact trivial) ?_) | refine RK.nilT rfl ?_ rfl))
  refine W.ret ⟨_, rfl, .eq (by repeat (exact .bool _)) ?_, rfl⟩
  exact congrArg D.bool (decide_eq_decide.2 zv_nv0.symm)

theorem tdiv_zv (z w : Z) : (zv z).tdiv (zv w) = if decide (¬ z.1 = w.1) = true then -((nv z.2 / nv w.2 : Nat) : Int) else ((nv z.2 / nv w.2 : Nat) : Int) := by
  obtain ⟨s, a⟩ := z
  obtain ⟨t, b⟩ := w
  cases s <;> cases t <;> simp [zv, Int.neg_tdiv, Int.tdiv_neg]
theorem tmod_zv (z w : Z) : (zv z).tmod (zv w) = if z.1 = true then -((nv z.2 % nv w.2 : Nat) : Int) else ((nv z.2 % nv w.2 : Nat) : Int) := by
  obtain ⟨s, a⟩ := z
  obtain ⟨t, b⟩ := w
  cases s <;> cases t <;> simp [zv, Int.neg_tmod, Int.tmod_neg] <;> exact Int.tmod_eq_emod_of_nonneg (Int.natCast_nonneg _)

/- division.Quo, by a number that is not 0 -/
theorem Quo_spec {z w : Z} (h : okZ z) (h' : okZ w) (h0 : zv w ≠ 0) : PureFn Try.prog 97 [eZ z, eZ w] (.tup [eZ (zcan ((zv z).tdiv (zv w))), eZ (zcan ((zv z).tmod (zv w))), I 0]) := by
  have hl := h.len
  have hl' := h'.len
  have hw0 : nv w.2 ≠ 0 := fun h => h0 (zv_nv0.2 h)
  have hq1 : (dig (nv z.2 / nv w.2)).length ≤ 1000000000 := Nat.le_trans (dig_len (Nat.lt_of_le_of_lt (Nat.div_le_self _ _) (nv_lt h.ok))) hl
  have hq2 : (dig (nv z.2 % nv w.2)).length ≤ 1000000000 := Nat.le_trans (dig_len (Nat.lt_of_le_of_lt (Nat.mod_le _ _) (nv_lt h.ok))) hl
  refine .of_W (fn := Try.f97) (by repeat (first | exact trivial | refine ⟨(by repeat (exact eZ_pure _)), ?_⟩)) Try.call97 Try.func97 rfl rfl ?_
  repeat (first | (with_reducible refine W.id_ ?_); (first | refine W.sreg ?_ | refine W.seq ?_) | (with_reducible refine RK.id_ ?_); (first | refine RK.cons_ ?_; (first | refine RK.k_ 0 rfl ?_; refine .p rfl rfl rfl (by exact trivial) ?_ | refine RK.k_ 5 rfl ?_; (refine .ldla rfl rfl rfl rfl rfl rfl rfl (by rfl) rfl ?_) | refine RK.k_ 6 rfl ?_; (first | refine .box _ rfl rfl rfl rfl rfl rfl rfl ?_ | refine .alloc _ rfl rfl rfl rfl rfl rfl rfl ?_)) | refine RK.nilT rfl ?_ rfl))
  refine .call (Dzero_spec h') rfl rfl rfl rfl ?_
  repeat ((with_reducible refine RK.id_ ?_); (refine RK.nilT rfl ?_ rfl))
  refine W.cond_dec rfl (fun h1 => ?_) (fun h1 => ?_)
  · exact absurd h1 h0
  repeat (first | (with_reducible refine W.id_ ?_); (first | refine W.sreg ?_ | refine W.skipT rfl ?_) | (with_reducible refine RK.id_ ?_); (refine RK.cons_ ?_; (first | refine RK.k_ 0 rfl ?_; refine .p rfl rfl rfl (by exact trivial) ?_ | refine RK.k_ 5 rfl ?_; (refine .ldl rfl rfl rfl rfl rfl rfl rfl (by rfl) (by rfl) ?_))))
  refine .call (long_spec h.ok h'.ok hl hl' hw0) rfl rfl rfl rfl ?_
  repeat (first | (with_reducible refine W.id_ ?_); (refine W.sdraw mixed (by kernel_rfl) (by kernel_rfl) ?_) | (with_reducible refine RK.id_ ?_); (first | refine RK.cons_ ?_; (first | refine RK.k_ 0 rfl ?_; refine .p rfl rfl rfl (by exact trivial) ?_ | refine RK.k_ 5 rfl ?_; (refine .ldl rfl rfl rfl rfl rfl rfl rfl (by rfl) (by rfl) ?_)) | refine RK.nilT rfl ?_ rfl))
  have hF1 := From_spec (neg := decide (¬ z.1 = w.1)) (okN_dig (nv z.2 / nv w.2)) hq1
  have hF2 := From_spec (neg := z.1) (okN_dig (nv z.2 % nv w.2)) hq2
  rw [nv_dig, ← tdiv_zv] at hF1
  rw [nv_dig, ← tmod_zv] at hF2
  have e : (!decide (z.1 = w.1)) = decide (¬ z.1 = w.1) := by simp
  have e' : (!(z.1 == w.1)) = decide (¬ z.1 = w.1) := by cases z.1 <;> cases w.1 <;> rfl
  rw [e']
  refine .call (hF1) rfl rfl rfl rfl ?_
  repeat ((with_reducible refine RK.id_ ?_); (refine RK.cons_ ?_; (first | refine RK.k_ 0 rfl ?_; refine .p rfl rfl rfl (by exact trivial) ?_ | refine RK.k_ 5 rfl ?_; (refine .ldl rfl rfl rfl rfl rfl rfl rfl (by rfl) (by rfl) ?_))))
  refine .call (hF2) rfl rfl rfl rfl ?_
  repeat ((with_reducible refine RK.id_ ?_); (first | refine RK.cons_ ?_; (first | refine RK.k_ 0 rfl ?_; refine .p rfl rfl rfl (by exact trivial) ?_ | refine RK.k_ 6 rfl ?_; (refine .store rfl rfl rfl rfl rfl rfl rfl (by rfl) (by rfl) (by rfl) ?_)) | refine RK.nilT rfl ?_ rfl))
  exact .ret ⟨_, rfl, .pure (.tup (PureL.mem ⟨eZ_pure _, eZ_pure _, .int _ _, trivial⟩)) (.refl _), rfl⟩

/- division.Exact, where the division leaves nothing -/
theorem Exact_spec {z w : Z} (h : okZ z) (h' : okZ w) (h0 : zv w ≠ 0) (hd : zv w ∣ zv z) : PureFn Try.prog 77 [eZ z, eZ w] (.tup [eZ (zcan (zv z / zv w)), I 0]) := by
  have e1 : (zv z).tmod (zv w) = 0 := Int.tmod_eq_zero_of_dvd hd
  have e2 : (zv z).tdiv (zv w) = zv z / zv w := Int.tdiv_eq_ediv_of_dvd hd
  have hQ := Quo_spec h h' h0
  rw [e1, e2] at hQ
  have hZ := Dzero_spec (z := zcan 0) (.can (lt_pw (K := 1000000000) (n := (0 : Int).natAbs) (k := 0) (by decide) (by omega)))
  rw [zv_can] at hZ
  refine .of_W (fn := Try.f77) (by repeat (first | exact trivial | refine ⟨(by repeat (exact eZ_pure _)), ?_⟩)) Try.call77 Try.func77 rfl rfl ?_
  repeat (first | (with_reducible refine W.id_ ?_); (refine W.sreg ?_) | (with_reducible refine RK.id_ ?_); (first | refine RK.cons_ ?_; (first | refine RK.k_ 0 rfl ?_; refine .p rfl rfl rfl (by exact trivial) ?_ | refine RK.k_ 5 rfl ?_; (refine .ldla rfl rfl rfl rfl rfl rfl rfl (by rfl) rfl ?_) | refine RK.k_ 6 rfl ?_; (first | refine .box _ rfl rfl rfl rfl rfl rfl rfl ?_ | refine .alloc _ rfl rfl rfl rfl rfl rfl rfl ?_)) | refine RK.nilT rfl ?_ rfl))
  refine .call (hQ) rfl rfl rfl rfl ?_
  repeat (first | (with_reducible refine W.id_ ?_); (first | refine W.sreg ?_ | refine W.seq ?_) | (with_reducible refine RK.id_ ?_); (first | refine RK.cons_ ?_; (first | refine RK.k_ 0 rfl ?_; refine .p rfl rfl rfl (by exact trivial) ?_ | refine RK.k_ 5 rfl ?_; (refine .ldla rfl rfl rfl rfl rfl rfl rfl (by rfl) rfl ?_) | refine RK.k_ 6 rfl ?_; (first | refine .alloc _ rfl rfl rfl rfl rfl rfl rfl ?_ | refine .store rfl rfl rfl rfl rfl rfl rfl (by rfl) (by rfl) (by rfl) ?_)) | refine RK.nilT rfl ?_ rfl))
  refine .call (hZ) rfl rfl rfl rfl ?_
  repeat (first | (with_reducible refine W.id_ ?_); (first | refine W.sreg ?_ | refine W.skipT rfl ?_ | refine W.condF rfl ?_) | (with_reducible refine RK.id_ ?_); (first | refine RK.cons_ ?_; (first | refine RK.k_ 0 rfl ?_; refine .p rfl rfl rfl (by exact trivial) ?_ | refine RK.k_ 5 rfl ?_; (refine .ldla rfl rfl rfl rfl rfl rfl rfl (by rfl) rfl ?_) | refine RK.k_ 6 rfl ?_; (refine .store rfl rfl rfl rfl rfl rfl rfl (by rfl) (by rfl) (by rfl) ?_)) | refine RK.nilT rfl ?_ rfl))
  exact .ret ⟨_, rfl, .pure (.tup (PureL.mem ⟨eZ_pure _, .int _ _, trivial⟩)) (.refl _), rfl⟩

/- division.Gcd -/
theorem Gcd_spec {z w : Z} (h : okZ z) (h' : okZ w) : PureFn Try.prog 46 [eZ z, eZ w] (eZ (zcan ((Int.gcd (zv z) (zv w) : Nat) : Int))) := by
  have hl := h.len
  have hl' := h'.len
  have hx0 : nv z.2 < B32 ^ 1000000000 := lt_pw (K := 1000000000) (nv_lt h.ok) hl
  have hy0 : nv w.2 < B32 ^ 1000000000 := lt_pw (K := 1000000000) (nv_lt h'.ok) hl'
  have hG : Int.gcd (zv z) (zv w) = Nat.gcd (nv z.2) (nv w.2) := by rw [nv_abs z, nv_abs w]; rfl
  rw [hG]
  refine .of_W (fn := Try.f46) (by repeat (first | exact trivial | refine ⟨(by repeat (exact eZ_pure _)), ?_⟩)) Try.call46 Try.func46 rfl rfl ?_
  repeat (first | (with_reducible refine W.id_ ?_); (first | refine W.sreg ?_ | refine W.sdraw mixed (by kernel_rfl) (by kernel_rfl) ?_) | (with_reducible refine RK.id_ ?_); (first | refine RK.cons_ ?_; (first | refine RK.k_ 0 rfl ?_; refine .p rfl rfl rfl (by exact trivial) ?_ | refine RK.k_ 5 rfl ?_; (refine .ldl rfl rfl rfl rfl rfl rfl rfl (by rfl) (by rfl) ?_) | refine RK.k_ 6 rfl ?_; (first | refine .box _ rfl rfl rfl rfl rfl rfl rfl ?_ | refine .alloc _ rfl rfl rfl rfl rfl rfl rfl ?_)) | refine RK.nilT rfl ?_ rfl))
  refine .call (Nnormal_spec h.ok (by omega)) rfl rfl rfl rfl ?_
  repeat ((with_reducible refine RK.id_ ?_); (refine RK.cons_ ?_; (first | refine RK.k_ 0 rfl ?_; refine .p rfl rfl rfl (by exact trivial) ?_ | refine RK.k_ 5 rfl ?_; (refine .ldl rfl rfl rfl rfl rfl rfl rfl (by rfl) (by rfl) ?_))))
  refine .call (Nnormal_spec h'.ok (by omega)) rfl rfl rfl rfl ?_
  repeat (first | (with_reducible refine W.id_ ?_); (refine W.seq ?_) | (with_reducible refine RK.id_ ?_); (first | refine RK.cons_ ?_; (refine RK.k_ 0 rfl ?_; refine .p rfl rfl rfl (by exact trivial) ?_) | refine RK.nilT rfl ?_ rfl))
  refine W.loopE (fun (s : Nat × Nat) => Nat.gcd s.1 s.2 = Nat.gcd (nv z.2) (nv w.2) ∧ s.1 < B32 ^ 1000000000 ∧ s.2 < B32 ^ 1000000000) (fun (s : Nat × Nat) => s.1 = Nat.gcd (nv z.2) (nv w.2) ∧ s.1 < B32 ^ 1000000000) (fun (s : Nat × Nat) => s.2) (fun (s : Nat × Nat) => [(5, eN (dig s.1)), (6, eN (dig s.2)), (4, .ptr 2 0)]) (fun _ => [some (.cells (zc z)), some (.cells (zc w)), some (.cells [.bool false, .snil])]) ((nv z.2, nv w.2)) rfl ?_ ?_ ?_ ?_
  · exact ⟨rfl, hx0, hy0⟩
  · refine .heap ?_ rfl
    repeat (first | exact trivial | refine ⟨⟨_, rfl, .refl _⟩, ?_⟩)
  · rintro ⟨x, y⟩ ⟨k1, k2, k3⟩
    dsimp only at k1 k2 k3 ⊢
    have hlx : (dig x).length ≤ 1000000000 := dig_len k2
    have hly : (dig y).length ≤ 1000000000 := dig_len k3
    have hyz := @dig_len0 y
    repeat (first | (with_reducible refine W.id_ ?_); (first | refine W.sreg ?_ | refine W.seq ?_) | (with_reducible refine RK.id_ ?_); (first | refine RK.cons_ ?_; (refine RK.k_ 0 rfl ?_; refine .p rfl rfl rfl (by exact trivial) ?_) | refine RK.nilT rfl ?_ rfl))
    refine W.cond_dec rfl (fun h1 => ?_) (fun h1 => ?_)
    · have hy1 : y ≠ 0 := fun h => by have := hyz.2 h; omega
      have hUx := Uint64_spec (okN_dig x) (by omega)
      have hUy := Uint64_spec (okN_dig y) (by omega)
      rw [nv_dig] at hUx hUy
      have hL := long_spec (okN_dig x) (okN_dig y) hlx hly (by rw [nv_dig]; exact hy1)
      rw [nv_dig, nv_dig] at hL
      have hmod : x % y < y := Nat.mod_lt _ (by omega)
      have hgcd : Nat.gcd y (x % y) = Nat.gcd (nv z.2) (nv w.2) := by rw [Nat.gcd_comm, ← Nat.gcd_rec, Nat.gcd_comm, k1]
      by_cases hx : x < 18446744073709551616
      · rw [if_pos hx] at hUx
        by_cases hy : y < 18446744073709551616
        · rw [if_pos hy] at hUy
          repeat (first | (with_reducible refine W.id_ ?_); (first | refine W.sreg ?_ | refine W.seq ?_ | refine W.blockS ?_ | refine W.skipT rfl ?_) | (with_reducible refine RK.id_ ?_); (refine RK.cons_ ?_; (refine RK.k_ 0 rfl ?_; refine .p rfl rfl rfl (by exact trivial) ?_)))
          refine .call (hUx) rfl rfl rfl rfl ?_
          repeat (first | (with_reducible refine W.id_ ?_); (first | refine W.sreg ?_ | refine W.condT rfl ?_) | (with_reducible refine RK.id_ ?_); (first | refine RK.cons_ ?_; (refine RK.k_ 0 rfl ?_; refine .p rfl rfl rfl (by exact trivial) ?_) | refine RK.nilT rfl ?_ rfl))
          refine .call (hUy) rfl rfl rfl rfl ?_
          repeat (first | (with_reducible refine W.id_ ?_); (first | refine W.sreg ?_ | refine W.seq ?_ | refine W.condT rfl ?_) | (with_reducible refine RK.id_ ?_); (first | refine RK.cons_ ?_; (refine RK.k_ 0 rfl ?_; refine .p rfl rfl rfl (by exact trivial) ?_) | refine RK.nilT rfl ?_ rfl))
          refine W.loopE (fun (s : Nat × Nat) => Nat.gcd s.1 s.2 = Nat.gcd (nv z.2) (nv w.2) ∧ s.1 < 18446744073709551616 ∧ s.2 < 18446744073709551616) (fun (s : Nat × Nat) => s.1 = Nat.gcd (nv z.2) (nv w.2) ∧ s.1 < 18446744073709551616) (fun (s : Nat × Nat) => s.2) (fun (s : Nat × Nat) => [(7, U64 (s.1 : Int)), (9, U64 (s.2 : Int)), (4, .ptr 2 0)]) (fun _ => [some (.cells (zc z)), some (.cells (zc w)), some (.cells [.bool false, .snil])]) ((x, y)) rfl ?_ ?_ ?_ ?_
          · exact ⟨k1, hx, hy⟩
          · refine .heap ?_ rfl
            repeat (first | exact trivial | refine ⟨⟨_, rfl, .refl _⟩, ?_⟩)
          · rintro ⟨a, b⟩ ⟨g1, g2, g3⟩
            dsimp only at g1 g2 g3 ⊢
            repeat (first | (with_reducible refine W.id_ ?_); (first | refine W.sreg ?_ | refine W.seq ?_) | (with_reducible refine RK.id_ ?_); (first | refine RK.cons_ ?_; (refine RK.k_ 0 rfl ?_; refine .p rfl rfl rfl (by exact trivial) ?_) | refine RK.nilT rfl ?_ rfl))
            refine W.cond_ndec rfl (fun h2 => ?_) (fun h2 => ?_)
            · have hb : 0 < b := by omega
              have hm : a % b < b := Nat.mod_lt _ hb
              repeat (first | (with_reducible refine W.id_ ?_); (first | refine W.draw mixed (by kernel_rfl) (by kernel_rfl) ?_ | refine W.blockR ?_ | refine W.skipT rfl ?_) | (with_reducible refine RK.id_ ?_); (refine RK.cons_ ?_; (first | refine RK.k_ 0 rfl ?_; refine .p rfl rfl rfl (by exact trivial) ?_ | refine RK.k_ 3 rfl ?_; (refine .rem rfl rfl rfl rfl rfl (by omega) (by omega) ?_))))
              refine .nil ?_ rfl
              refine ⟨(b, a % b), hm, ⟨by show Nat.gcd b (a % b) = _; rw [Nat.gcd_comm, ← Nat.gcd_rec, Nat.gcd_comm, g1], g3, by show a % b < _; omega⟩, .heap ?_ rfl⟩
              repeat (first | exact trivial | refine ⟨⟨_, rfl, .refl _⟩, ?_⟩)
            · obtain rfl : b = 0 := by omega
              rw [Nat.gcd_zero_right] at g1
              refine W.exit ⟨(a, 0), ⟨g1, g2⟩, .heap ?_ rfl⟩
              repeat (first | exact trivial | refine ⟨⟨_, rfl, .refl _⟩, ?_⟩)
          · rintro ⟨a, b⟩ ⟨g1, g2⟩
            dsimp only at g1 g2 ⊢
            have hF := From_spec (neg := false) (okN_dig a) (Nat.le_trans (dig_len (k := 2) (by unfold B32; omega)) (by decide))
            rw [nv_dig, if_neg (by decide)] at hF
            repeat (first | (with_reducible refine W.id_ ?_); (refine W.sreg ?_) | (with_reducible refine RK.id_ ?_); (refine RK.cons_ ?_; (refine RK.k_ 0 rfl ?_; refine .p rfl rfl rfl (by exact trivial) ?_)))
            refine .call (Nof_spec g2) rfl rfl rfl rfl ?_
            skip
            refine .call (hF) rfl rfl rfl rfl ?_
            repeat ((with_reducible refine RK.id_ ?_); (first | refine RK.cons_ ?_; (refine RK.k_ 6 rfl ?_; (refine .store rfl rfl rfl rfl rfl rfl rfl (by rfl) (by rfl) (by rfl) ?_)) | refine RK.nilT rfl ?_ rfl))
            refine W.ret ⟨_, rfl, .eq (by repeat (exact eZ_pure _)) ?_, rfl⟩
            rw [g1]
            rfl
        · rw [if_neg hy] at hUy
          repeat (first | (with_reducible refine W.id_ ?_); (first | refine W.sreg ?_ | refine W.seq ?_ | refine W.blockS ?_ | refine W.skipT rfl ?_) | (with_reducible refine RK.id_ ?_); (refine RK.cons_ ?_; (refine RK.k_ 0 rfl ?_; refine .p rfl rfl rfl (by exact trivial) ?_)))
          refine .call (hUx) rfl rfl rfl rfl ?_
          repeat (first | (with_reducible refine W.id_ ?_); (first | refine W.sreg ?_ | refine W.condT rfl ?_) | (with_reducible refine RK.id_ ?_); (first | refine RK.cons_ ?_; (refine RK.k_ 0 rfl ?_; refine .p rfl rfl rfl (by exact trivial) ?_) | refine RK.nilT rfl ?_ rfl))
          refine .call (hUy) rfl rfl rfl rfl ?_
          repeat (first | (with_reducible refine W.id_ ?_); (first | refine W.sreg ?_ | refine W.skipT rfl ?_ | refine W.condF rfl ?_) | (with_reducible refine RK.id_ ?_); (first | refine RK.cons_ ?_; (refine RK.k_ 0 rfl ?_; refine .p rfl rfl rfl (by exact trivial) ?_) | refine RK.nilT rfl ?_ rfl))
          refine .call (hL) rfl rfl rfl rfl ?_
          repeat (first | (with_reducible refine W.id_ ?_); (refine W.reg ?_) | (with_reducible refine RK.id_ ?_); (first | refine RK.cons_ ?_; (refine RK.k_ 0 rfl ?_; refine .p rfl rfl rfl (by exact trivial) ?_) | refine RK.nilT rfl ?_ rfl))
          refine .nil ?_ rfl
          refine ⟨(y, x % y), hmod, ⟨hgcd, k3, Nat.lt_trans hmod k3⟩, .heap ?_ rfl⟩
          repeat (first | exact trivial | refine ⟨⟨_, rfl, .refl _⟩, ?_⟩)
      · rw [if_neg hx] at hUx
        repeat (first | (with_reducible refine W.id_ ?_); (first | refine W.sreg ?_ | refine W.seq ?_ | refine W.blockS ?_ | refine W.skipT rfl ?_) | (with_reducible refine RK.id_ ?_); (refine RK.cons_ ?_; (refine RK.k_ 0 rfl ?_; refine .p rfl rfl rfl (by exact trivial) ?_)))
        refine .call (hUx) rfl rfl rfl rfl ?_
        repeat (first | (with_reducible refine W.id_ ?_); (first | refine W.sreg ?_ | refine W.skipT rfl ?_ | refine W.condF rfl ?_) | (with_reducible refine RK.id_ ?_); (first | refine RK.cons_ ?_; (refine RK.k_ 0 rfl ?_; refine .p rfl rfl rfl (by exact trivial) ?_) | refine RK.nilT rfl ?_ rfl))
        refine .call (hL) rfl rfl rfl rfl ?_
        repeat (first | (with_reducible refine W.id_ ?_); (refine W.reg ?_) | (with_reducible refine RK.id_ ?_); (first | refine RK.cons_ ?_; (refine RK.k_ 0 rfl ?_; refine .p rfl rfl rfl (by exact trivial) ?_) | refine RK.nilT rfl ?_ rfl))
        refine .nil ?_ rfl
        refine ⟨(y, x % y), hmod, ⟨hgcd, k3, Nat.lt_trans hmod k3⟩, .heap ?_ rfl⟩
        repeat (first | exact trivial | refine ⟨⟨_, rfl, .refl _⟩, ?_⟩)
    · obtain rfl : y = 0 := hyz.1 (by omega)
      rw [Nat.gcd_zero_right] at k1
      refine W.exit ⟨(x, 0), ⟨k1, k2⟩, .heap ?_ rfl⟩
      repeat (first | exact trivial | refine ⟨⟨_, rfl, .refl _⟩, ?_⟩)
  · rintro ⟨x, y⟩ ⟨k1, k2⟩
    dsimp only at k1 k2 ⊢
    have hF := From_spec (neg := false) (okN_dig x) (dig_len k2)
    rw [nv_dig, if_neg (by decide)] at hF
    repeat (first | (with_reducible refine W.id_ ?_); (refine W.sreg ?_) | (with_reducible refine RK.id_ ?_); (refine RK.cons_ ?_; (refine RK.k_ 0 rfl ?_; refine .p rfl rfl rfl (by exact trivial) ?_)))
    refine .call (hF) rfl rfl rfl rfl ?_
    repeat ((with_reducible refine RK.id_ ?_); (first | refine RK.cons_ ?_; (refine RK.k_ 6 rfl ?_; (refine .store rfl rfl rfl rfl rfl rfl rfl (by rfl) (by rfl) (by rfl) ?_)) | refine RK.nilT rfl ?_ rfl))
    refine W.ret ⟨_, rfl, .eq (by repeat (exact eZ_pure _)) ?_, rfl⟩
    rw [k1]
    rfl
end Go.Proofs.Ytbdefjbekbbldaa

namespace Go.Proofs.Ytbdefjbekbbldaa
open Go.V Go.N
set_option maxHeartbeats 8000000
set_option maxRecDepth 20000

/-- A fraction as the program holds it. -/
abbrev Q := Z × List Int
def qc (q : Q) : List D := [.bool q.1.1, eN q.1.2, eN q.2]
abbrev eQ (q : Q) : D := .agg (qc q)
theorem qc_pure (q : Q) : ∀ d ∈ qc q, Pure d := PureL.mem ⟨.bool _, eN_pure _, eN_pure _, trivial⟩
theorem eQ_pure (q : Q) : Pure (eQ q) := .agg (qc_pure q)
theorem qc_len (q : Q) : (qc q).length = 3 := rfl
def qv (q : Q) : Rat := mkRat (zv q.1) (nv q.2)
def qcan (r : Rat) : Q := (zcan r.num, dig r.den)
theorem qv_can (r : Rat) : qv (qcan r) = r := by
  unfold qv qcan
  rw [zv_can, nv_dig, Rat.mkRat_self]
/-- A fraction of few digits, in whatever form. -/
structure Qk (k : Nat) (q : Q) : Prop where
  o : okN q.1.2
  l : q.1.2.length ≤ k
  d : okN q.2
  dl : q.2.length ≤ k
theorem Qk.can {k : Nat} {r : Rat} (h : Qb k r) : Qk k (qcan r) := ⟨okN_dig _, dig_len h.n, okN_dig _, dig_len h.d⟩
theorem Qk.mono {k l : Nat} {q : Q} (h : Qk k q) (hk : k ≤ l) : Qk l q := ⟨h.o, Nat.le_trans h.l hk, h.d, Nat.le_trans h.dl hk⟩
theorem Qk.zn {k : Nat} {q : Q} (h : Qk k q) : (zv q.1).natAbs < B32 ^ k := by
  rw [← nv_abs]; exact Nat.lt_of_lt_of_le (nv_lt h.o) (pw_mono h.l)
theorem Qk.dn {k : Nat} {q : Q} (h : Qk k q) : nv q.2 < B32 ^ k := Nat.lt_of_lt_of_le (nv_lt h.d) (pw_mono h.dl)
theorem Qk.qb {k : Nat} {q : Q} (h : Qk k q) (hk : 1 ≤ k) : Qb k (qv q) := .mk' h.zn h.dn hk

/- rational.one -/
theorem one_spec : PureFn Try.prog 88 [] (eN (dig 1)) := by
  refine .of_W (fn := Try.f88) (by repeat (exact trivial)) Try.call88 Try.func88 rfl rfl ?_
  repeat (first | (with_reducible refine W.id_ ?_); (refine W.sreg ?_) | (with_reducible refine RK.id_ ?_); (first | refine RK.cons_ ?_; (refine RK.k_ 0 rfl ?_; refine .p rfl rfl rfl (by exact trivial) ?_) | refine RK.nilT rfl ?_ rfl))
  refine .call (Nof_spec (n := 1) (by decide)) rfl rfl rfl rfl ?_
  repeat ((with_reducible refine RK.id_ ?_); (first | refine RK.cons_ ?_; (refine RK.k_ 0 rfl ?_; refine .p rfl rfl rfl (by exact trivial) ?_) | refine RK.nilT rfl ?_ rfl))
  refine W.ret ⟨_, rfl, .eq (by repeat (exact eN_pure _)) ?_, rfl⟩
  rfl

theorem dig_1 : dig 1 = [1] := by rw [dig_pos (by decide), show 1 / B32 = 0 from rfl, dig_zero]; rfl
/- rational.isOne -/
theorem isOne_spec (n : Nat) (h : n < B32 ^ 1000000000) : PureFn Try.prog 104 [eN (dig n)] (.bool (decide (n = 1))) := by
  have hl : (dig n).length ≤ 1000000000 := dig_len h
  clear h
  have hn := nv_dig n
  refine .of_W (fn := Try.f104) (by repeat (first | exact trivial | refine ⟨(by repeat (exact eN_pure _)), ?_⟩)) Try.call104 Try.func104 rfl rfl ?_
  repeat (first | (with_reducible refine W.id_ ?_); (refine W.sreg ?_) | (with_reducible refine RK.id_ ?_); (first | refine RK.cons_ ?_; (refine RK.k_ 0 rfl ?_; refine .p rfl rfl rfl (by exact trivial) ?_) | refine RK.nilT rfl ?_ rfl))
  refine .dsplit (fun h1 => ?_) (fun h1 => ?_)
  · have hl1 : (dig n).length = 1 := by omega
    repeat ((with_reducible refine RK.id_ ?_); (first | refine RK.cons_ ?_; (first | refine RK.k_ 0 rfl ?_; refine .p rfl rfl rfl (by exact trivial) ?_ | refine RK.k_ 4 rfl ?_; (refine .p rfl rfl rfl (by omega) ?_) | refine RK.k_ 5 rfl ?_; (refine .ld _ rfl rfl rfl rfl rfl rfl (by exact n_get (by omega) rfl) ?_)) | refine RK.nilT rfl ?_ rfl))
    refine W.ret ⟨_, rfl, .eq (by repeat (exact .bool _)) ?_, rfl⟩
    refine congrArg D.bool (decide_eq_decide.2 ?_)
    match hd : dig n, hl1 with
    | [x], _ =>
      rw [hd, nv_one] at hn
      have := (okN_dig n)
      rw [hd] at this
      have := this.head
      show x = 1 ↔ n = 1
      omega
  · have hl1 : (dig n).length ≠ 1 := by omega
    repeat ((with_reducible refine RK.id_ ?_); (first | refine RK.cons_ ?_; (first | refine .skip rfl rfl ?_ | refine RK.k_ 0 rfl ?_; refine .p rfl rfl rfl (by exact trivial) ?_) | refine RK.nilT rfl ?_ rfl))
    refine W.ret ⟨_, rfl, .eq (by repeat (exact .bool _)) ?_, rfl⟩
    refine congrArg D.bool (decide_eq_false ?_).symm
    rintro rfl
    rw [dig_1] at hl1
    exact hl1 rfl

/- rational.made -/
theorem qmade_spec {z : Z} {d : List Int} (h : okZ z) (hd : okN d) (hl : d.length ≤ 1000000000) : PureFn Try.prog 87 [eZ z, eN d] (eQ (qcan (mkRat (zv z) (nv d)))) := by
  have hzl := h.len
  have hdb : nv d < B32 ^ 1000000000 := lt_pw (K := 1000000000) (nv_lt hd) hl
  have hzb : (zv z).natAbs < B32 ^ 1000000000 := by rw [← nv_abs]; exact lt_pw (K := 1000000000) (nv_lt h.ok) h.len
  have hdz := @dig_len0 (nv d)
  have hdl : (dig (nv d)).length ≤ 1000000000 := dig_len hdb
  have hF := From_spec (neg := false) (okN_dig (nv d)) hdl
  rw [nv_dig, if_neg (by decide)] at hF
  have h0 : nv d = 0 ∨ zv z = 0 → qcan (mkRat (zv z) (nv d)) = ((false, []), dig 1) := fun h => by
    have e : mkRat (zv z) (nv d) = 0 := by
      rcases h with h | h
      · rw [h, Rat.mkRat_zero]
      · rw [h, Rat.zero_mkRat]
    rw [e]
    show (zcan 0, dig 1) = _
    unfold zcan
    rw [show (0 : Int).natAbs = 0 from rfl, dig_zero]; rfl
  refine .of_W (fn := Try.f87) (by repeat (first | exact trivial | refine ⟨(by repeat (first | exact eN_pure _ | exact eZ_pure _)), ?_⟩)) Try.call87 Try.func87 rfl rfl ?_
  repeat (first | (with_reducible refine W.id_ ?_); (refine W.sreg ?_) | (with_reducible refine RK.id_ ?_); (first | refine RK.cons_ ?_; (first | refine RK.k_ 0 rfl ?_; refine .p rfl rfl rfl (by exact trivial) ?_ | refine RK.k_ 6 rfl ?_; (first | refine .box _ rfl rfl rfl rfl rfl rfl rfl ?_ | refine .alloc _ rfl rfl rfl rfl rfl rfl rfl ?_)) | refine RK.nilT rfl ?_ rfl))
  refine .call (Nnormal_spec hd (by omega)) rfl rfl rfl rfl ?_
  repeat (first | (with_reducible refine W.id_ ?_); (first | refine W.sreg ?_ | refine W.seq ?_) | (with_reducible refine RK.id_ ?_); (first | refine RK.cons_ ?_; (refine RK.k_ 0 rfl ?_; refine .p rfl rfl rfl (by exact trivial) ?_) | refine RK.nilT rfl ?_ rfl))
  refine .dsplit (fun h1 => ?_) (fun h1 => ?_)
  · have hd0 : nv d = 0 := hdz.1 h1
    repeat (first | (with_reducible refine W.id_ ?_); (first | refine W.sreg ?_ | refine W.condT rfl ?_) | (with_reducible refine RK.id_ ?_); (first | refine RK.cons_ ?_; (first | refine .skip rfl rfl ?_ | refine RK.k_ 0 rfl ?_; refine .p rfl rfl rfl (by exact trivial) ?_) | refine RK.nilT rfl ?_ rfl))
    refine .call (one_spec) rfl rfl rfl rfl ?_
    repeat ((with_reducible refine RK.id_ ?_); (first | refine RK.cons_ ?_; (first | refine RK.k_ 0 rfl ?_; refine .p rfl rfl rfl (by exact trivial) ?_ | refine RK.k_ 6 rfl ?_; (refine .store rfl rfl rfl rfl rfl rfl rfl (by rfl) (by rfl) (by rfl) ?_)) | refine RK.nilT rfl ?_ rfl))
    refine .ret ⟨_, rfl, ?_, rfl⟩
    rw [h0 (.inl hd0)]
    exact .aggL (.cons (.pure (.bool _) (.refl _)) (.cons (.pure .snil (.snil _)) (.cons (.pure (eN_pure _) (.refl _)) .nil)))
  have hd0 : nv d ≠ 0 := fun h => h1 (hdz.2 h)
  repeat ((with_reducible refine RK.id_ ?_); (refine RK.cons_ ?_; (first | refine RK.k_ 0 rfl ?_; refine .p rfl rfl rfl (by exact trivial) ?_ | refine RK.k_ 5 rfl ?_; (refine .ldl rfl rfl rfl rfl rfl rfl rfl (by rfl) (by rfl) ?_))))
  refine .call (IsZero_spec h.ok (by omega)) rfl rfl rfl rfl ?_
  repeat ((with_reducible refine RK.id_ ?_); (first | refine RK.cons_ ?_; (refine RK.k_ 0 rfl ?_; refine .p rfl rfl rfl (by exact trivial) ?_) | refine RK.nilT rfl ?_ rfl))
  refine W.cond_dec rfl (fun h2 => ?_) (fun h2 => ?_)
  · repeat ((with_reducible refine W.id_ ?_); (refine W.sreg ?_))
    refine .call (one_spec) rfl rfl rfl rfl ?_
    repeat ((with_reducible refine RK.id_ ?_); (first | refine RK.cons_ ?_; (first | refine RK.k_ 0 rfl ?_; refine .p rfl rfl rfl (by exact trivial) ?_ | refine RK.k_ 6 rfl ?_; (refine .store rfl rfl rfl rfl rfl rfl rfl (by rfl) (by rfl) (by rfl) ?_)) | refine RK.nilT rfl ?_ rfl))
    refine .ret ⟨_, rfl, ?_, rfl⟩
    rw [h0 (.inr (zv_nv0.2 h2))]
    exact .aggL (.cons (.pure (.bool _) (.refl _)) (.cons (.pure .snil (.snil _)) (.cons (.pure (eN_pure _) (.refl _)) .nil)))
  have hz0 : zv z ≠ 0 := fun h => h2 (zv_nv0.1 h)
  repeat (first | (with_reducible refine W.id_ ?_); (first | refine W.sreg ?_ | refine W.seq ?_ | refine W.skipT rfl ?_) | (with_reducible refine RK.id_ ?_); (refine RK.cons_ ?_; (refine RK.k_ 0 rfl ?_; refine .p rfl rfl rfl (by exact trivial) ?_)))
  refine .call (isOne_spec (nv d) hdb) rfl rfl rfl rfl ?_
  repeat ((with_reducible refine RK.id_ ?_); (refine RK.nilT rfl ?_ rfl))
  have hmn := mk_num (zv z) hd0
  have hmd := mk_den (zv z) hd0
  refine W.cond_dec rfl (fun h3 => ?_) (fun h3 => ?_)
  · repeat (first | (with_reducible refine W.id_ ?_); (refine W.sreg ?_) | (with_reducible refine RK.id_ ?_); (refine RK.cons_ ?_; (refine RK.k_ 5 rfl ?_; (refine .ldla rfl rfl rfl rfl rfl rfl rfl (by rfl) rfl ?_))))
    refine .call (Znormal_spec h) rfl rfl rfl rfl ?_
    repeat ((with_reducible refine RK.id_ ?_); (first | refine RK.cons_ ?_; (first | refine RK.k_ 0 rfl ?_; refine .p rfl rfl rfl (by exact trivial) ?_ | refine RK.k_ 6 rfl ?_; (refine .store rfl rfl rfl rfl rfl rfl rfl (by rfl) (by rfl) (by rfl) ?_)) | refine RK.nilT rfl ?_ rfl))
    refine W.ret ⟨_, rfl, .eq (by repeat (first | exact trivial | exact .bool _ | exact eN_pure _ | refine .agg (PureL.mem ?_) | refine ⟨?_, ?_⟩)) ?_, rfl⟩
    rw [h3, mk_one]
    rfl
  repeat (first | (with_reducible refine W.id_ ?_); (first | refine W.sreg ?_ | refine W.skipT rfl ?_) | (with_reducible refine RK.id_ ?_); (refine RK.cons_ ?_; (refine RK.k_ 0 rfl ?_; refine .p rfl rfl rfl (by exact trivial) ?_)))
  refine .call (hF) rfl rfl rfl rfl ?_
  have hoD : okZ (zcan (nv d : Int)) := .can (by show ((nv d : Nat) : Int).natAbs < _; rw [Int.natAbs_natCast]; exact hdb)
  have hGc := Gcd_spec h hoD
  rw [zv_can, show Int.gcd (zv z) (nv d : Int) = Nat.gcd (zv z).natAbs (nv d) from rfl] at hGc
  have hgle : Nat.gcd (zv z).natAbs (nv d) ≤ nv d := Nat.gcd_le_right _ (by omega)
  have hg0 : Nat.gcd (zv z).natAbs (nv d) ≠ 0 := fun h => hd0 (Nat.gcd_eq_zero_iff.1 h).2
  have hgz : ((Nat.gcd (zv z).natAbs (nv d) : Nat) : Int) ∣ zv z := Int.dvd_natAbs.1 (Int.natCast_dvd_natCast.2 (Nat.gcd_dvd_left _ _))
  have hgd : ((Nat.gcd (zv z).natAbs (nv d) : Nat) : Int) ∣ (nv d : Int) := Int.natCast_dvd_natCast.2 (Nat.gcd_dvd_right _ _)
  generalize Nat.gcd (zv z).natAbs (nv d) = g at *
  repeat (first | (with_reducible refine W.id_ ?_); (refine W.sreg ?_) | (with_reducible refine RK.id_ ?_); (first | refine RK.cons_ ?_; (first | refine RK.k_ 5 rfl ?_; (refine .ldla rfl rfl rfl rfl rfl rfl rfl (by rfl) rfl ?_) | refine RK.k_ 6 rfl ?_; (first | refine .alloc _ rfl rfl rfl rfl rfl rfl rfl ?_ | refine .store rfl rfl rfl rfl rfl rfl rfl (by rfl) (by rfl) (by rfl) ?_)) | refine RK.nilT rfl ?_ rfl))
  refine .call (hGc) rfl rfl rfl rfl ?_
  repeat (first | (with_reducible refine W.id_ ?_); (first | refine W.sreg ?_ | refine W.seq ?_) | (with_reducible refine RK.id_ ?_); (first | refine RK.cons_ ?_; (first | refine RK.k_ 0 rfl ?_; refine .p rfl rfl rfl (by exact trivial) ?_ | refine RK.k_ 5 rfl ?_; (refine .ldl rfl rfl rfl rfl rfl rfl rfl (by rfl) (by rfl) ?_) | refine RK.k_ 6 rfl ?_; (first | refine .alloc _ rfl rfl rfl rfl rfl rfl rfl ?_ | refine .store rfl rfl rfl rfl rfl rfl rfl (by rfl) (by rfl) (by rfl) ?_)) | refine RK.nilT rfl ?_ rfl))
  have hio := isOne_spec g (Nat.lt_of_le_of_lt hgle hdb)
  have ezg : zcan (g : Int) = (false, dig g) := by
    unfold zcan
    rw [Int.natAbs_natCast, decide_eq_false (by omega)]
  rw [ezg]
  refine .call (hio) rfl rfl rfl rfl ?_
  repeat ((with_reducible refine RK.id_ ?_); (refine RK.nilT rfl ?_ rfl))
  refine W.cond_dec rfl (fun h4 => ?_) (fun h4 => ?_)
  · repeat (first | (with_reducible refine W.id_ ?_); (refine W.sreg ?_) | (with_reducible refine RK.id_ ?_); (refine RK.cons_ ?_; (refine RK.k_ 5 rfl ?_; (refine .ldla rfl rfl rfl rfl rfl rfl rfl (by rfl) rfl ?_))))
    refine .call (Znormal_spec h) rfl rfl rfl rfl ?_
    repeat ((with_reducible refine RK.id_ ?_); (first | refine RK.cons_ ?_; (first | refine RK.k_ 0 rfl ?_; refine .p rfl rfl rfl (by exact trivial) ?_ | refine RK.k_ 6 rfl ?_; (refine .store rfl rfl rfl rfl rfl rfl rfl (by rfl) (by rfl) (by rfl) ?_)) | refine RK.nilT rfl ?_ rfl))
    refine W.ret ⟨_, rfl, .eq (by repeat (first | exact trivial | exact .bool _ | exact eN_pure _ | refine .agg (PureL.mem ?_) | refine ⟨?_, ?_⟩)) ?_, rfl⟩
    rw [qcan, hmn, hmd, h4]
    simp [qc]
  have hoG : okZ (zcan (g : Int)) := .can (by show ((g : Nat) : Int).natAbs < _; rw [Int.natAbs_natCast]; exact Nat.lt_of_le_of_lt hgle hdb)
  have hE1 := Exact_spec h hoG (by rw [zv_can]; omega) (by rw [zv_can]; exact hgz)
  have hE2 := Exact_spec hoD hoG (by rw [zv_can]; omega) (by rw [zv_can, zv_can]; exact hgd)
  rw [zv_can] at hE1
  rw [zv_can, zv_can, ← Int.natCast_ediv] at hE2
  rw [ezg] at hE1 hE2
  repeat (first | (with_reducible refine W.id_ ?_); (first | refine W.sreg ?_ | refine W.skipT rfl ?_) | (with_reducible refine RK.id_ ?_); (refine RK.cons_ ?_; (refine RK.k_ 5 rfl ?_; (refine .ldla rfl rfl rfl rfl rfl rfl rfl (by rfl) rfl ?_))))
  refine .call (hE1) rfl rfl rfl rfl ?_
  repeat (first | (with_reducible refine W.id_ ?_); (refine W.sreg ?_) | (with_reducible refine RK.id_ ?_); (first | refine RK.cons_ ?_; (first | refine RK.k_ 0 rfl ?_; refine .p rfl rfl rfl (by exact trivial) ?_ | refine RK.k_ 5 rfl ?_; (refine .ldla rfl rfl rfl rfl rfl rfl rfl (by rfl) rfl ?_) | refine RK.k_ 6 rfl ?_; (first | refine .alloc _ rfl rfl rfl rfl rfl rfl rfl ?_ | refine .store rfl rfl rfl rfl rfl rfl rfl (by rfl) (by rfl) (by rfl) ?_)) | refine RK.nilT rfl ?_ rfl))
  refine .call (hE2) rfl rfl rfl rfl ?_
  repeat (first | (with_reducible refine W.id_ ?_); (refine W.sreg ?_) | (with_reducible refine RK.id_ ?_); (first | refine RK.cons_ ?_; (first | refine RK.k_ 0 rfl ?_; refine .p rfl rfl rfl (by exact trivial) ?_ | refine RK.k_ 5 rfl ?_; (first | refine .ldl rfl rfl rfl rfl rfl rfl rfl (by rfl) (by rfl) ?_ | refine .ldla rfl rfl rfl rfl rfl rfl rfl (by rfl) rfl ?_) | refine RK.k_ 6 rfl ?_; (first | refine .alloc _ rfl rfl rfl rfl rfl rfl rfl ?_ | refine .store rfl rfl rfl rfl rfl rfl rfl (by rfl) (by rfl) (by rfl) ?_)) | refine RK.nilT rfl ?_ rfl))
  refine W.ret ⟨_, rfl, .eq (by repeat (first | exact trivial | exact .bool _ | exact eN_pure _ | refine .agg (PureL.mem ?_) | refine ⟨?_, ?_⟩)) ?_, rfl⟩
  rw [qcan, hmn, hmd]
  rfl

/- The parts of a fraction. -/
def pn (q : Q) : Z := if nv q.2 = 0 then (false, []) else q.1
def pd (q : Q) : Z := if nv q.2 = 0 then zcan 1 else (false, q.2)
theorem zcan_1 : zcan 1 = (false, [1]) := by
  unfold zcan
  rw [show (1 : Int).natAbs = 1 from rfl, dig_1]; rfl
structure Pt (k : Nat) (q : Q) : Prop where
  on : okN (pn q).2
  ln : (pn q).2.length ≤ k
  od : okN (pd q).2
  ld : (pd q).2.length ≤ k
  dv : zv (pd q) = nv (pd q).2
  d0 : nv (pd q).2 ≠ 0
  v : mkRat (zv (pn q)) (nv (pd q).2) = qv q
theorem Pt.of {k : Nat} {q : Q} (h : Qk k q) (hk : 1 ≤ k) : Pt k q := by
  by_cases h0 : nv q.2 = 0
  · have e1 : pn q = (false, []) := if_pos h0
    have e2 : pd q = (false, [1]) := by rw [← zcan_1]; exact if_pos h0
    refine ⟨by rw [e1]; exact okN.nil, by rw [e1]; exact Nat.zero_le _, by rw [e2]; exact okN.cons (by omega) okN.nil, by rw [e2]; exact hk, by rw [e2]; rfl, by rw [e2, nv_one]; decide, ?_⟩
    rw [e1, qv, h0, Rat.mkRat_zero]
    exact Rat.zero_mkRat _
  · have e1 : pn q = q.1 := if_neg h0
    have e2 : pd q = (false, q.2) := if_neg h0
    exact ⟨by rw [e1]; exact h.o, by rw [e1]; exact h.l, by rw [e2]; exact h.d, by rw [e2]; exact h.dl, by rw [e2]; rfl, by rw [e2]; exact h0, by rw [e1, e2]; rfl⟩
/- rational.parts -/
theorem parts_spec {q : Q} (h : okN q.2) (hl : q.2.length ≤ 1000000000) : PureFn Try.prog 86 [eQ q] (.tup [eZ (pn q), eZ (pd q)]) := by
  refine .of_W (fn := Try.f86) (by repeat (first | exact trivial | refine ⟨(by repeat (exact eQ_pure _)), ?_⟩)) Try.call86 Try.func86 rfl rfl ?_
  repeat (first | (with_reducible refine W.id_ ?_); (first | refine W.sreg ?_ | refine W.seq ?_) | (with_reducible refine RK.id_ ?_); (first | refine RK.cons_ ?_; (first | refine RK.k_ 0 rfl ?_; refine .p rfl rfl rfl (by exact trivial) ?_ | refine RK.k_ 5 rfl ?_; (refine .ldl rfl rfl rfl rfl rfl rfl rfl (by rfl) (by rfl) ?_) | refine RK.k_ 6 rfl ?_; (first | refine .box _ rfl rfl rfl rfl rfl rfl rfl ?_ | refine .alloc _ rfl rfl rfl rfl rfl rfl rfl ?_)) | refine RK.nilT rfl ?_ rfl))
  refine .call (IsZero_spec h (by omega)) rfl rfl rfl rfl ?_
  repeat ((with_reducible refine RK.id_ ?_); (refine RK.nilT rfl ?_ rfl))
  refine W.cond_dec rfl (fun h1 => ?_) (fun h1 => ?_)
  · repeat (first | (with_reducible refine W.id_ ?_); (refine W.sreg ?_) | (with_reducible refine RK.id_ ?_); (refine RK.cons_ ?_; (refine RK.k_ 0 rfl ?_; refine .p rfl rfl rfl (by exact trivial) ?_)))
    refine .call (Of_spec (n := 1) (by decide) (by decide)) rfl rfl rfl rfl ?_
    repeat ((with_reducible refine RK.id_ ?_); (first | refine RK.cons_ ?_; (refine RK.k_ 6 rfl ?_; (refine .store rfl rfl rfl rfl rfl rfl rfl (by rfl) (by rfl) (by rfl) ?_)) | refine RK.nilT rfl ?_ rfl))
    refine .ret ⟨_, rfl, ?_, rfl⟩
    rw [pn, pd, if_pos h1, if_pos h1]
    exact .tupL (.cons (.aggL (.cons (.pure (.bool _) (.refl _)) (.cons (.pure .snil (.snil _)) .nil))) (.cons (.pure (eZ_pure _) (.refl _)) .nil))
  · repeat (first | (with_reducible refine W.id_ ?_); (first | refine W.sdraw mixed (by kernel_rfl) (by kernel_rfl) ?_ | refine W.skipT rfl ?_) | (with_reducible refine RK.id_ ?_); (first | refine RK.cons_ ?_; (first | refine RK.k_ 0 rfl ?_; refine .p rfl rfl rfl (by exact trivial) ?_ | refine RK.k_ 5 rfl ?_; (first | refine .ldl rfl rfl rfl rfl rfl rfl rfl (by rfl) (by rfl) ?_ | refine .ldla rfl rfl rfl rfl rfl rfl rfl (by rfl) rfl ?_) | refine RK.k_ 6 rfl ?_; (refine .store rfl rfl rfl rfl rfl rfl rfl (by rfl) (by rfl) (by rfl) ?_)) | refine RK.nilT rfl ?_ rfl))
    refine .ret ⟨_, rfl, ?_, rfl⟩
    rw [pn, pd, if_neg h1, if_neg h1]
    exact .pure (.tup (PureL.mem ⟨eZ_pure q.1, eZ_pure (false, q.2), trivial⟩)) (.refl _)

/- rational.Of -/
theorem QOf_spec {n : Int} (h1 : -9223372036854775808 ≤ n) (h2 : n ≤ 9223372036854775807) : PureFn Try.prog 57 [I n] (eQ (qcan (n : Rat))) := by
  refine .of_W (fn := Try.f57) (by repeat (first | exact trivial | refine ⟨(by repeat (exact .int _ _)), ?_⟩)) Try.call57 Try.func57 rfl rfl ?_
  repeat (first | (with_reducible refine W.id_ ?_); (refine W.sreg ?_) | (with_reducible refine RK.id_ ?_); (first | refine RK.cons_ ?_; (first | refine RK.k_ 0 rfl ?_; refine .p rfl rfl rfl (by exact trivial) ?_ | refine RK.k_ 6 rfl ?_; (refine .alloc _ rfl rfl rfl rfl rfl rfl rfl ?_)) | refine RK.nilT rfl ?_ rfl))
  refine .call (Of_spec h1 h2) rfl rfl rfl rfl ?_
  skip
  refine .call (one_spec) rfl rfl rfl rfl ?_
  repeat ((with_reducible refine RK.id_ ?_); (first | refine RK.cons_ ?_; (first | refine RK.k_ 0 rfl ?_; refine .p rfl rfl rfl (by exact trivial) ?_ | refine RK.k_ 6 rfl ?_; (refine .store rfl rfl rfl rfl rfl rfl rfl (by rfl) (by rfl) (by rfl) ?_)) | refine RK.nilT rfl ?_ rfl))
  refine W.ret ⟨_, rfl, .eq (by repeat (first | exact trivial | exact .bool _ | exact eN_pure _ | refine .agg (PureL.mem ?_) | refine ⟨?_, ?_⟩)) ?_, rfl⟩
  rfl

/- rational.From -/
theorem QFrom_spec {z : Z} (h : okZ z) : PureFn Try.prog 83 [eZ z] (eQ (qcan (zv z : Rat))) := by
  refine .of_W (fn := Try.f83) (by repeat (first | exact trivial | refine ⟨(by repeat (exact eZ_pure _)), ?_⟩)) Try.call83 Try.func83 rfl rfl ?_
  repeat (first | (with_reducible refine W.id_ ?_); (refine W.sreg ?_) | (with_reducible refine RK.id_ ?_); (first | refine RK.cons_ ?_; (first | refine RK.k_ 5 rfl ?_; (refine .ldla rfl rfl rfl rfl rfl rfl rfl (by rfl) rfl ?_) | refine RK.k_ 6 rfl ?_; (first | refine .box _ rfl rfl rfl rfl rfl rfl rfl ?_ | refine .alloc _ rfl rfl rfl rfl rfl rfl rfl ?_)) | refine RK.nilT rfl ?_ rfl))
  refine .call (Znormal_spec h) rfl rfl rfl rfl ?_
  skip
  refine .call (one_spec) rfl rfl rfl rfl ?_
  repeat ((with_reducible refine RK.id_ ?_); (first | refine RK.cons_ ?_; (first | refine RK.k_ 0 rfl ?_; refine .p rfl rfl rfl (by exact trivial) ?_ | refine RK.k_ 6 rfl ?_; (refine .store rfl rfl rfl rfl rfl rfl rfl (by rfl) (by rfl) (by rfl) ?_)) | refine RK.nilT rfl ?_ rfl))
  refine W.ret ⟨_, rfl, .eq (by repeat (first | exact trivial | exact .bool _ | exact eN_pure _ | refine .agg (PureL.mem ?_) | refine ⟨?_, ?_⟩)) ?_, rfl⟩
  rfl

theorem zn_lt {z : Z} {k : Nat} (h : okN z.2) (hl : z.2.length ≤ k) : (zv z).natAbs < B32 ^ k := by rw [← nv_abs]; exact lt_pw (nv_lt h) hl
theorem zsm_mul {a b : Int} {k l : Nat} (h : a.natAbs < B32 ^ k) (h' : b.natAbs < B32 ^ l) (hk : k + l ≤ 1000000000) : zsm (a * b) := by
  unfold zsm
  rw [Int.natAbs_mul]
  refine lt_pw (K := 1000000000) (k := k + l) ?_ hk
  rw [Nat.pow_add]; exact Nat.mul_lt_mul'' h h'

/- rational.Mul -/
theorem Qmul_spec {p q : Q} {k l : Nat} (h : Qk k p) (h' : Qk l q) (hk : 1 ≤ k) (hl : 1 ≤ l) (hkl : k + l ≤ 1000000000) : PureFn Try.prog 54 [eQ p, eQ q] (eQ (qcan (qv p * qv q))) := by
  have P := Pt.of h hk
  have P' := Pt.of h' hl
  have h1 := P.ln
  have h2 := P.ld
  have h3 := P'.ln
  have h4 := P'.ld
  have zs : zsm (zv (pn p) * zv (pn q)) := zsm_mul (zn_lt P.on h1) (zn_lt P'.on h3) hkl
  have hd : (dig (nv (pd p).2 * nv (pd q).2)).length ≤ 1000000000 := Nat.le_trans (dig_len (k := k + l) (by rw [Nat.pow_add]; exact Nat.mul_lt_mul'' (lt_pw (nv_lt P.od) h2) (lt_pw (nv_lt P'.od) h4))) hkl
  have hM := qmade_spec (okZ.can zs) (okN_dig (nv (pd p).2 * nv (pd q).2)) hd
  rw [zv_can, nv_dig, ← Rat.mkRat_mul_mkRat, P.v, P'.v] at hM
  refine .of_W (fn := Try.f54) (by repeat (first | exact trivial | refine ⟨(by repeat (exact eQ_pure _)), ?_⟩)) Try.call54 Try.func54 rfl rfl ?_
  repeat (first | (with_reducible refine W.id_ ?_); (refine W.sreg ?_) | (with_reducible refine RK.id_ ?_); (first | refine RK.cons_ ?_; (first | refine RK.k_ 5 rfl ?_; (refine .ldla rfl rfl rfl rfl rfl rfl rfl (by rfl) rfl ?_) | refine RK.k_ 6 rfl ?_; (first | refine .box _ rfl rfl rfl rfl rfl rfl rfl ?_ | refine .alloc _ rfl rfl rfl rfl rfl rfl rfl ?_)) | refine RK.nilT rfl ?_ rfl))
  refine .call (parts_spec h.d (Nat.le_trans h.dl (by omega))) rfl rfl rfl rfl ?_
  repeat (first | (with_reducible refine W.id_ ?_); (refine W.sreg ?_) | (with_reducible refine RK.id_ ?_); (first | refine RK.cons_ ?_; (first | refine RK.k_ 0 rfl ?_; refine .p rfl rfl rfl (by exact trivial) ?_ | refine RK.k_ 5 rfl ?_; (refine .ldla rfl rfl rfl rfl rfl rfl rfl (by rfl) rfl ?_) | refine RK.k_ 6 rfl ?_; (first | refine .alloc _ rfl rfl rfl rfl rfl rfl rfl ?_ | refine .store rfl rfl rfl rfl rfl rfl rfl (by rfl) (by rfl) (by rfl) ?_)) | refine RK.nilT rfl ?_ rfl))
  refine .call (parts_spec h'.d (Nat.le_trans h'.dl (by omega))) rfl rfl rfl rfl ?_
  repeat (first | (with_reducible refine W.id_ ?_); (refine W.sdraw mixed (by kernel_rfl) (by kernel_rfl) ?_) | (with_reducible refine RK.id_ ?_); (first | refine RK.cons_ ?_; (first | refine RK.k_ 0 rfl ?_; refine .p rfl rfl rfl (by exact trivial) ?_ | refine RK.k_ 5 rfl ?_; (refine .ldla rfl rfl rfl rfl rfl rfl rfl (by rfl) rfl ?_) | refine RK.k_ 6 rfl ?_; (first | refine .alloc _ rfl rfl rfl rfl rfl rfl rfl ?_ | refine .store rfl rfl rfl rfl rfl rfl rfl (by rfl) (by rfl) (by rfl) ?_)) | refine RK.nilT rfl ?_ rfl))
  refine .call (Zmul_spec (z := pn p) (w := pn q) ⟨P.on, by omega⟩ ⟨P'.on, by omega⟩) rfl rfl rfl rfl ?_
  repeat ((with_reducible refine RK.id_ ?_); (refine RK.cons_ ?_; (first | refine RK.k_ 0 rfl ?_; refine .p rfl rfl rfl (by exact trivial) ?_ | refine RK.k_ 5 rfl ?_; (refine .ldl rfl rfl rfl rfl rfl rfl rfl (by rfl) (by rfl) ?_))))
  refine .call (Nmul_spec P.od P'.od (by omega) (by omega)) rfl rfl rfl rfl ?_
  skip
  refine .call (hM) rfl rfl rfl rfl ?_
  repeat ((with_reducible refine RK.id_ ?_); (first | refine RK.cons_ ?_; (refine RK.k_ 6 rfl ?_; (refine .store rfl rfl rfl rfl rfl rfl rfl (by rfl) (by rfl) (by rfl) ?_)) | refine RK.nilT rfl ?_ rfl))
  refine W.ret ⟨_, rfl, .eq (by repeat (exact eQ_pure _)) ?_, rfl⟩
  rfl

/- rational.Add -/
theorem Qadd_spec {p q : Q} {k l : Nat} (h : Qk k p) (h' : Qk l q) (hk : 1 ≤ k) (hl : 1 ≤ l) (hkl : k + l + 1 ≤ 1000000000) : PureFn Try.prog 53 [eQ p, eQ q] (eQ (qcan (qv p + qv q))) := by
  have P := Pt.of h hk
  have P' := Pt.of h' hl
  have h1 := P.ln
  have h2 := P.ld
  have h3 := P'.ln
  have h4 := P'.ld
  have n1 : (zv (pn p) * zv (pd q)).natAbs < B32 ^ (k + l) := by rw [Int.natAbs_mul, Nat.pow_add]; exact Nat.mul_lt_mul'' (zn_lt P.on h1) (zn_lt P'.od h4)
  have n2 : (zv (pn q) * zv (pd p)).natAbs < B32 ^ (k + l) := by rw [Int.natAbs_mul, Nat.pow_add, Nat.mul_comm (B32 ^ k)]; exact Nat.mul_lt_mul'' (zn_lt P'.on h3) (zn_lt P.od h2)
  have z1 : zsm (zv (pn p) * zv (pd q)) := lt_pw (K := 1000000000) n1 (by omega)
  have z2 : zsm (zv (pn q) * zv (pd p)) := lt_pw (K := 1000000000) n2 (by omega)
  have z3 : zsm (zv (pn p) * zv (pd q) + zv (pn q) * zv (pd p)) := by
    refine lt_pw (K := 1000000000) (k := k + l + 1) ?_ hkl
    have e3 := Int.natAbs_add_le (zv (pn p) * zv (pd q)) (zv (pn q) * zv (pd p))
    have h5 : B32 ^ (k + l + 1) = B32 ^ (k + l) * B32 := Nat.pow_succ ..
    have h6 : B32 ^ (k + l) * 2 ≤ B32 ^ (k + l) * B32 := Nat.mul_le_mul_left _ (by decide)
    omega
  have hd : (dig (nv (pd p).2 * nv (pd q).2)).length ≤ 1000000000 := Nat.le_trans (dig_len (k := k + l) (by rw [Nat.pow_add]; exact Nat.mul_lt_mul'' (lt_pw (nv_lt P.od) h2) (lt_pw (nv_lt P'.od) h4))) (by omega)
  have hM := qmade_spec (okZ.can z3) (okN_dig (nv (pd p).2 * nv (pd q).2)) hd
  have hA := Zadd_spec (okZ.can z1) (okZ.can z2)
  rw [zv_can, zv_can] at hA
  rw [zv_can, nv_dig, P.dv, P'.dv, ← Rat.mkRat_add_mkRat _ _ P.d0 P'.d0, P.v, P'.v, ← P.dv, ← P'.dv] at hM
  refine .of_W (fn := Try.f53) (by repeat (first | exact trivial | refine ⟨(by repeat (exact eQ_pure _)), ?_⟩)) Try.call53 Try.func53 rfl rfl ?_
  repeat (first | (with_reducible refine W.id_ ?_); (refine W.sreg ?_) | (with_reducible refine RK.id_ ?_); (first | refine RK.cons_ ?_; (first | refine RK.k_ 5 rfl ?_; (refine .ldla rfl rfl rfl rfl rfl rfl rfl (by rfl) rfl ?_) | refine RK.k_ 6 rfl ?_; (first | refine .box _ rfl rfl rfl rfl rfl rfl rfl ?_ | refine .alloc _ rfl rfl rfl rfl rfl rfl rfl ?_)) | refine RK.nilT rfl ?_ rfl))
  refine .call (parts_spec h.d (Nat.le_trans h.dl (by omega))) rfl rfl rfl rfl ?_
  repeat (first | (with_reducible refine W.id_ ?_); (refine W.sreg ?_) | (with_reducible refine RK.id_ ?_); (first | refine RK.cons_ ?_; (first | refine RK.k_ 0 rfl ?_; refine .p rfl rfl rfl (by exact trivial) ?_ | refine RK.k_ 5 rfl ?_; (refine .ldla rfl rfl rfl rfl rfl rfl rfl (by rfl) rfl ?_) | refine RK.k_ 6 rfl ?_; (first | refine .alloc _ rfl rfl rfl rfl rfl rfl rfl ?_ | refine .store rfl rfl rfl rfl rfl rfl rfl (by rfl) (by rfl) (by rfl) ?_)) | refine RK.nilT rfl ?_ rfl))
  refine .call (parts_spec h'.d (Nat.le_trans h'.dl (by omega))) rfl rfl rfl rfl ?_
  repeat (first | (with_reducible refine W.id_ ?_); (refine W.sdraw mixed (by kernel_rfl) (by kernel_rfl) ?_) | (with_reducible refine RK.id_ ?_); (first | refine RK.cons_ ?_; (first | refine RK.k_ 0 rfl ?_; refine .p rfl rfl rfl (by exact trivial) ?_ | refine RK.k_ 5 rfl ?_; (refine .ldla rfl rfl rfl rfl rfl rfl rfl (by rfl) rfl ?_) | refine RK.k_ 6 rfl ?_; (first | refine .alloc _ rfl rfl rfl rfl rfl rfl rfl ?_ | refine .store rfl rfl rfl rfl rfl rfl rfl (by rfl) (by rfl) (by rfl) ?_)) | refine RK.nilT rfl ?_ rfl))
  refine .call (Zmul_spec (z := pn p) (w := pd q) ⟨P.on, by omega⟩ ⟨P'.od, by omega⟩) rfl rfl rfl rfl ?_
  repeat ((with_reducible refine RK.id_ ?_); (refine RK.cons_ ?_; (refine RK.k_ 5 rfl ?_; (refine .ldla rfl rfl rfl rfl rfl rfl rfl (by rfl) rfl ?_))))
  refine .call (Zmul_spec (z := pn q) (w := pd p) ⟨P'.on, by omega⟩ ⟨P.od, by omega⟩) rfl rfl rfl rfl ?_
  skip
  refine .call (hA) rfl rfl rfl rfl ?_
  repeat ((with_reducible refine RK.id_ ?_); (refine RK.cons_ ?_; (first | refine RK.k_ 0 rfl ?_; refine .p rfl rfl rfl (by exact trivial) ?_ | refine RK.k_ 5 rfl ?_; (refine .ldl rfl rfl rfl rfl rfl rfl rfl (by rfl) (by rfl) ?_))))
  refine .call (Nmul_spec P.od P'.od (by omega) (by omega)) rfl rfl rfl rfl ?_
  skip
  refine .call (hM) rfl rfl rfl rfl ?_
  repeat ((with_reducible refine RK.id_ ?_); (first | refine RK.cons_ ?_; (refine RK.k_ 6 rfl ?_; (refine .store rfl rfl rfl rfl rfl rfl rfl (by rfl) (by rfl) (by rfl) ?_)) | refine RK.nilT rfl ?_ rfl))
  refine W.ret ⟨_, rfl, .eq (by repeat (exact eQ_pure _)) ?_, rfl⟩
  rfl

theorem sgI_mul {a b : Int} (hb : 0 < b) : sgI (a * b) = sgI a := by
  unfold sgI
  rcases Int.lt_trichotomy a 0 with h | h | h
  · have := Int.mul_neg_of_neg_of_pos h hb
    rw [if_neg (by omega), if_pos this, if_neg (by omega), if_pos h]
  · subst h
    rw [Int.zero_mul]
  · have := Int.mul_pos h hb
    rw [if_neg (by omega), if_neg (by omega), if_neg (by omega), if_neg (by omega)]

/- rational.Cmp -/
theorem Qcmp_spec {p q : Q} {k l : Nat} (h : Qk k p) (h' : Qk l q) (hk : 1 ≤ k) (hl : 1 ≤ l) (hkl : k + l ≤ 1000000000) : PureFn Try.prog 85 [eQ p, eQ q] (I (cmpR (qv p) (qv q))) := by
  have P := Pt.of h hk
  have P' := Pt.of h' hl
  have h1 := P.ln
  have h2 := P.ld
  have h3 := P'.ln
  have h4 := P'.ld
  have n1 : (zv (pn p) * zv (pd q)).natAbs < B32 ^ (k + l) := by rw [Int.natAbs_mul, Nat.pow_add]; exact Nat.mul_lt_mul'' (zn_lt P.on h1) (zn_lt P'.od h4)
  have n2 : (zv (pn q) * zv (pd p)).natAbs < B32 ^ (k + l) := by rw [Int.natAbs_mul, Nat.pow_add, Nat.mul_comm (B32 ^ k)]; exact Nat.mul_lt_mul'' (zn_lt P'.on h3) (zn_lt P.od h2)
  have z1 : zsm (zv (pn p) * zv (pd q)) := lt_pw (K := 1000000000) n1 (by omega)
  have z2 : zsm (zv (pn q) * zv (pd p)) := lt_pw (K := 1000000000) n2 (by omega)
  have hc : cmpI (zv (pn p) * zv (pd q)) (zv (pn q) * zv (pd p)) = cmpR (qv p) (qv q) := by
    rw [← P.v, ← P'.v, ← cmp_mk P.d0 P'.d0, P.dv, P'.dv]; rfl
  have hs := @cmp_sign (zv (pn p) * zv (pd q)) (zv (pn q) * zv (pd p))
  have d1 := P.d0
  have d2 := P'.d0
  have d3 := P.dv
  have d4 := P'.dv
  rw [sgI_mul (by omega), sgI_mul (by omega), hc] at hs
  have hC := Zcmp_spec (okZ.can z1) (okZ.can z2)
  rw [zv_can, zv_can, hc] at hC
  refine .of_W (fn := Try.f85) (by repeat (first | exact trivial | refine ⟨(by repeat (exact eQ_pure _)), ?_⟩)) Try.call85 Try.func85 rfl rfl ?_
  repeat (first | (with_reducible refine W.id_ ?_); (refine W.sreg ?_) | (with_reducible refine RK.id_ ?_); (first | refine RK.cons_ ?_; (first | refine RK.k_ 0 rfl ?_; refine .p rfl rfl rfl (by exact trivial) ?_ | refine RK.k_ 5 rfl ?_; (refine .ldla rfl rfl rfl rfl rfl rfl rfl (by rfl) rfl ?_) | refine RK.k_ 6 rfl ?_; (refine .box _ rfl rfl rfl rfl rfl rfl rfl ?_)) | refine RK.nilT rfl ?_ rfl))
  refine .call (parts_spec h.d (Nat.le_trans h.dl (by omega))) rfl rfl rfl rfl ?_
  repeat (first | (with_reducible refine W.id_ ?_); (refine W.sreg ?_) | (with_reducible refine RK.id_ ?_); (first | refine RK.cons_ ?_; (first | refine RK.k_ 0 rfl ?_; refine .p rfl rfl rfl (by exact trivial) ?_ | refine RK.k_ 5 rfl ?_; (refine .ldla rfl rfl rfl rfl rfl rfl rfl (by rfl) rfl ?_) | refine RK.k_ 6 rfl ?_; (first | refine .alloc _ rfl rfl rfl rfl rfl rfl rfl ?_ | refine .store rfl rfl rfl rfl rfl rfl rfl (by rfl) (by rfl) (by rfl) ?_)) | refine RK.nilT rfl ?_ rfl))
  refine .call (parts_spec h'.d (Nat.le_trans h'.dl (by omega))) rfl rfl rfl rfl ?_
  repeat (first | (with_reducible refine W.id_ ?_); (first | refine W.sdraw mixed (by kernel_rfl) (by kernel_rfl) ?_ | refine W.seq ?_) | (with_reducible refine RK.id_ ?_); (first | refine RK.cons_ ?_; (first | refine RK.k_ 0 rfl ?_; refine .p rfl rfl rfl (by exact trivial) ?_ | refine RK.k_ 5 rfl ?_; (refine .ldla rfl rfl rfl rfl rfl rfl rfl (by rfl) rfl ?_) | refine RK.k_ 6 rfl ?_; (first | refine .alloc _ rfl rfl rfl rfl rfl rfl rfl ?_ | refine .store rfl rfl rfl rfl rfl rfl rfl (by rfl) (by rfl) (by rfl) ?_)) | refine RK.nilT rfl ?_ rfl))
  refine .call (Sign_spec (z := pn p) ⟨P.on, by omega⟩) rfl rfl rfl rfl ?_
  repeat ((with_reducible refine RK.id_ ?_); (refine RK.cons_ ?_; (refine RK.k_ 5 rfl ?_; (refine .ldla rfl rfl rfl rfl rfl rfl rfl (by rfl) rfl ?_))))
  refine .call (Sign_spec (z := pn q) ⟨P'.on, by omega⟩) rfl rfl rfl rfl ?_
  repeat (first | (with_reducible refine W.id_ ?_); (refine W.sreg ?_) | (with_reducible refine RK.id_ ?_); (first | refine RK.cons_ ?_; (refine RK.k_ 0 rfl ?_; refine .p rfl rfl rfl (by exact trivial) ?_) | refine RK.nilT rfl ?_ rfl))
  refine W.cond_ndec rfl (fun g1 => ?_) (fun g1 => ?_)
  · repeat (first | (with_reducible refine W.id_ ?_); (first | refine W.sreg ?_ | refine W.seq ?_) | (with_reducible refine RK.id_ ?_); (first | refine RK.cons_ ?_; (refine RK.k_ 0 rfl ?_; refine .p rfl rfl rfl (by exact trivial) ?_) | refine RK.nilT rfl ?_ rfl))
    refine W.cond_dec rfl (fun g2 => ?_) (fun g2 => ?_)
    · repeat (first | (with_reducible refine W.id_ ?_); (refine W.sreg ?_) | (with_reducible refine RK.id_ ?_); (first | refine RK.cons_ ?_; (refine RK.k_ 0 rfl ?_; refine .p rfl rfl rfl (by exact trivial) ?_) | refine RK.nilT rfl ?_ rfl))
      refine W.ret ⟨_, rfl, .eq (by repeat (exact .int _ _)) ?_, rfl⟩
      rw [hs.1 g2]
    · repeat (first | (with_reducible refine W.id_ ?_); (first | refine W.sreg ?_ | refine W.skipT rfl ?_) | (with_reducible refine RK.id_ ?_); (first | refine RK.cons_ ?_; (refine RK.k_ 0 rfl ?_; refine .p rfl rfl rfl (by exact trivial) ?_) | refine RK.nilT rfl ?_ rfl))
      refine W.ret ⟨_, rfl, .eq (by repeat (exact .int _ _)) ?_, rfl⟩
      rw [hs.2 (by omega)]
  repeat (first | (with_reducible refine W.id_ ?_); (first | refine W.sdraw mixed (by kernel_rfl) (by kernel_rfl) ?_ | refine W.skipT rfl ?_) | (with_reducible refine RK.id_ ?_); (refine RK.cons_ ?_; (refine RK.k_ 5 rfl ?_; (refine .ldla rfl rfl rfl rfl rfl rfl rfl (by rfl) rfl ?_))))
  refine .call (Zmul_spec (z := pn p) (w := pd q) ⟨P.on, by omega⟩ ⟨P'.od, by omega⟩) rfl rfl rfl rfl ?_
  repeat ((with_reducible refine RK.id_ ?_); (refine RK.cons_ ?_; (refine RK.k_ 5 rfl ?_; (refine .ldla rfl rfl rfl rfl rfl rfl rfl (by rfl) rfl ?_))))
  refine .call (Zmul_spec (z := pn q) (w := pd p) ⟨P'.on, by omega⟩ ⟨P.od, by omega⟩) rfl rfl rfl rfl ?_
  skip
  refine .call (hC) rfl rfl rfl rfl ?_
  repeat ((with_reducible refine RK.id_ ?_); (first | refine RK.cons_ ?_; (refine RK.k_ 0 rfl ?_; refine .p rfl rfl rfl (by exact trivial) ?_) | refine RK.nilT rfl ?_ rfl))
  refine W.ret ⟨_, rfl, .eq (by repeat (exact .int _ _)) ?_, rfl⟩
  rfl
end Go.Proofs.Ytbdefjbekbbldaa

namespace Go.Proofs.Ytbdefjbekbbldaa
open Go.V Go.N
set_option maxHeartbeats 8000000
set_option maxRecDepth 20000

abbrev zQ : Q := ((false, []), [])
abbrev eV (a : List Q) : D := encS qc a
theorem eV_pure (a : List Q) : Pure (eV a) := encS_pure fun q _ => qc_pure q
def fewQ (d : Nat) (q : Q) : Prop := q.1.2.length ≤ d ∧ q.2.length ≤ d
instance (d : Nat) (q : Q) : Decidable (fewQ d q) := inferInstanceAs (Decidable (_ ∧ _))
def fewV (a : List Q) (n d : Nat) : Prop := a.length ≤ n ∧ ∀ q ∈ a, fewQ d q
instance (a : List Q) (n d : Nat) : Decidable (fewV a n d) := inferInstanceAs (Decidable (_ ∧ _))

/- cylinderref20.FewValues -/
theorem FewValues_spec {a : List Q} {n d : Nat} (hn : n ≤ 1000) (hd : d ≤ 1000) (ha : a.length ≤ 9223372036854775807) (hz : ∀ q ∈ a, q.1.2.length ≤ 9223372036854775807 ∧ q.2.length ≤ 9223372036854775807) : PureFn Try.prog 82 [eV a, I n, I d] (.bool (decide (fewV a n d))) := by
  refine .of_W (fn := Try.f82) (by repeat (first | exact trivial | refine ⟨(by repeat (first | exact .int _ _ | exact eV_pure _)), ?_⟩)) Try.call82 Try.func82 rfl rfl ?_
  repeat (first | (with_reducible refine W.id_ ?_); (first | refine W.sreg ?_ | refine W.seq ?_) | (with_reducible refine RK.id_ ?_); (first | refine RK.cons_ ?_; (refine RK.k_ 0 rfl ?_; refine .p rfl rfl rfl (by exact trivial) ?_) | refine RK.nilT rfl ?_ rfl))
  refine W.cond_dec rfl (fun h => ?_) (fun h => ?_)
  · repeat (first | (with_reducible refine W.id_ ?_); (refine W.sreg ?_) | (with_reducible refine RK.id_ ?_); (first | refine RK.cons_ ?_; (refine RK.k_ 0 rfl ?_; refine .p rfl rfl rfl (by exact trivial) ?_) | refine RK.nilT rfl ?_ rfl))
    refine W.ret ⟨_, rfl, .eq (by repeat (exact .bool _)) ?_, rfl⟩
    rw [decide_eq_false (fun hf => by have := hf.1; omega)]
  repeat (first | (with_reducible refine W.id_ ?_); (first | refine W.sreg ?_ | refine W.seq ?_ | refine W.skipT rfl ?_) | (with_reducible refine RK.id_ ?_); (first | refine RK.cons_ ?_; (refine RK.k_ 0 rfl ?_; refine .p rfl rfl rfl (by exact trivial) ?_) | refine RK.nilT rfl ?_ rfl))
  refine W.loopE (fun i => i ≤ a.length ∧ ∀ k, k < i → fewQ d (a.getD k zQ)) (fun i => ∀ k, k < a.length → fewQ d (a.getD k zQ)) (fun i => a.length - i) (fun i => [(7, I (i : Int)), (0, eV a), (1, I n), (2, I d)]) (fun i => []) (0) rfl ?_ ?_ ?_ ?_
  · exact ⟨Nat.zero_le _, fun k hk => absurd hk (Nat.not_lt_zero k)⟩
  · refine .heap ?_ rfl
    repeat (first | exact trivial | refine ⟨⟨_, rfl, .refl _⟩, ?_⟩)
  · rintro i ⟨hi, hall⟩
    repeat (first | (with_reducible refine W.id_ ?_); (first | refine W.sreg ?_ | refine W.seq ?_) | (with_reducible refine RK.id_ ?_); (first | refine RK.cons_ ?_; (refine RK.k_ 0 rfl ?_; refine .p rfl rfl rfl (by exact trivial) ?_) | refine RK.nilT rfl ?_ rfl))
    refine W.cond_dec rfl (fun h2 => ?_) (fun h2 => ?_)
    · have hi' : i < a.length := by omega
      have hm : a.getD i zQ ∈ a := getD_mem hi'
      have hzi := hz _ hm
      repeat (first | (with_reducible refine W.id_ ?_); (first | refine W.sreg ?_ | refine W.seq ?_ | refine W.blockS ?_ | refine W.skipT rfl ?_) | (with_reducible refine RK.id_ ?_); (refine RK.cons_ ?_; (first | refine RK.k_ 0 rfl ?_; refine .p rfl rfl rfl (by exact trivial) ?_ | refine RK.k_ 4 rfl ?_; (refine .ix _ (s := 3) rfl rfl rfl rfl rfl rfl rfl (by rfl) (by omega) ?_) | refine RK.k_ 5 rfl ?_; (refine .ld _ rfl rfl rfl rfl rfl rfl (by exact get_flat qc_len (z := zQ) (j := 1) (by omega) (Nat.le_of_ble_eq_true rfl) rfl rfl) ?_))))
      refine .dsplit (fun h3 => ?_) (fun h3 => ?_)
      · repeat (first | (with_reducible refine W.id_ ?_); (first | refine W.sreg ?_ | refine W.condT rfl ?_) | (with_reducible refine RK.id_ ?_); (first | refine RK.cons_ ?_; (first | refine .skip rfl rfl ?_ | refine RK.k_ 0 rfl ?_; refine .p rfl rfl rfl (by exact trivial) ?_) | refine RK.nilT rfl ?_ rfl))
        refine W.ret ⟨_, rfl, .eq (by repeat (exact .bool _)) ?_, rfl⟩
        rw [decide_eq_false (fun hf => by have := (hf.2 _ hm).1; omega)]
      · repeat ((with_reducible refine RK.id_ ?_); (first | refine RK.cons_ ?_; (first | refine RK.k_ 0 rfl ?_; refine .p rfl rfl rfl (by exact trivial) ?_ | refine RK.k_ 4 rfl ?_; (refine .ix _ (s := 3) rfl rfl rfl rfl rfl rfl rfl (by rfl) (by omega) ?_) | refine RK.k_ 5 rfl ?_; (refine .ld _ rfl rfl rfl rfl rfl rfl (by exact get_flat qc_len (z := zQ) (j := 2) (by omega) (Nat.le_of_ble_eq_true rfl) rfl rfl) ?_)) | refine RK.nilT rfl ?_ rfl))
        refine W.cond_dec rfl (fun h4 => ?_) (fun h4 => ?_)
        · repeat (first | (with_reducible refine W.id_ ?_); (refine W.sreg ?_) | (with_reducible refine RK.id_ ?_); (first | refine RK.cons_ ?_; (refine RK.k_ 0 rfl ?_; refine .p rfl rfl rfl (by exact trivial) ?_) | refine RK.nilT rfl ?_ rfl))
          refine W.ret ⟨_, rfl, .eq (by repeat (exact .bool _)) ?_, rfl⟩
          rw [decide_eq_false (fun hf => by have := (hf.2 _ hm).2; omega)]
        repeat (first | (with_reducible refine W.id_ ?_); (first | refine W.reg ?_ | refine W.skipT rfl ?_) | (with_reducible refine RK.id_ ?_); (refine RK.cons_ ?_; (first | refine RK.k_ 0 rfl ?_; refine .p rfl rfl rfl (by exact trivial) ?_ | refine RK.k_ 1 rfl ?_; (refine .pa rfl rfl rfl rfl rfl rfl (by omega) (by omega) ?_))))
        refine .nil ?_ rfl
        refine ⟨i + 1, by show a.length - (i + 1) < a.length - i; omega, ⟨by show i + 1 ≤ _; omega, fun k hk => ?_⟩, .heap ?_ rfl⟩
        · rcases Nat.lt_succ_iff_lt_or_eq.1 hk with h7 | rfl
          · exact hall k h7
          · exact ⟨by omega, by omega⟩
        · repeat (first | exact trivial | refine ⟨⟨_, rfl, .refl _⟩, ?_⟩)
    · refine W.exit ⟨i, fun k hk => hall k (by omega), .heap ?_ rfl⟩
      repeat (first | exact trivial | refine ⟨⟨_, rfl, .refl _⟩, ?_⟩)
  · intro i hall
    have hf : fewV a n d := ⟨by omega, fun t ht => by
      obtain ⟨k, hk, rfl⟩ := List.mem_iff_getElem.1 ht
      have := hall k hk
      rwa [show a.getD k zQ = a[k] by simp [hk]] at this⟩
    repeat (first | (with_reducible refine W.id_ ?_); (refine W.sreg ?_) | (with_reducible refine RK.id_ ?_); (first | refine RK.cons_ ?_; (refine RK.k_ 0 rfl ?_; refine .p rfl rfl rfl (by exact trivial) ?_) | refine RK.nilT rfl ?_ rfl))
    refine W.ret ⟨_, rfl, .eq (by repeat (exact .bool _)) ?_, rfl⟩
    rw [decide_eq_true hf]

/- cylinderlaw20.values -/
theorem values_spec {a : List Q} (ha : a.length ≤ 9223372036854775807) (hz : ∀ q ∈ a, q.1.2.length ≤ 9223372036854775807 ∧ q.2.length ≤ 9223372036854775807) : PureFn Try.prog 49 [eV a] (.bool (decide (fewV a 6 2))) := by
  refine .of_W (fn := Try.f49) (by repeat (first | exact trivial | refine ⟨(by repeat (exact eV_pure _)), ?_⟩)) Try.call49 Try.func49 rfl rfl ?_
  repeat (first | (with_reducible refine W.id_ ?_); (refine W.sreg ?_) | (with_reducible refine RK.id_ ?_); (first | refine RK.cons_ ?_; (refine RK.k_ 0 rfl ?_; refine .p rfl rfl rfl (by exact trivial) ?_) | refine RK.nilT rfl ?_ rfl))
  refine .call (FewValues_spec (n := 6) (d := 2) (by decide) (by decide) ha hz) rfl rfl rfl rfl ?_
  repeat ((with_reducible refine RK.id_ ?_); (first | refine RK.cons_ ?_; (refine RK.k_ 0 rfl ?_; refine .p rfl rfl rfl (by exact trivial) ?_) | refine RK.nilT rfl ?_ rfl))
  refine W.ret ⟨_, rfl, .eq (by repeat (exact .bool _)) ?_, rfl⟩
  rfl

/- cylinderlaw20.same -/
theorem qsame_spec {p q : Q} {k l : Nat} (h : Qk k p) (h' : Qk l q) (hk : 1 ≤ k) (hl : 1 ≤ l) (hkl : k + l ≤ 1000000000) : PureFn Try.prog 51 [eQ p, eQ q] (.bool (decide (qv p = qv q))) := by
  refine .of_W (fn := Try.f51) (by repeat (first | exact trivial | refine ⟨(by repeat (exact eQ_pure _)), ?_⟩)) Try.call51 Try.func51 rfl rfl ?_
  repeat (first | (with_reducible refine W.id_ ?_); (refine W.sreg ?_) | (with_reducible refine RK.id_ ?_); (first | refine RK.cons_ ?_; (first | refine RK.k_ 0 rfl ?_; refine .p rfl rfl rfl (by exact trivial) ?_ | refine RK.k_ 5 rfl ?_; (refine .ldla rfl rfl rfl rfl rfl rfl rfl (by rfl) rfl ?_) | refine RK.k_ 6 rfl ?_; (refine .box _ rfl rfl rfl rfl rfl rfl rfl ?_)) | refine RK.nilT rfl ?_ rfl))
  refine .call (Qcmp_spec h h' hk hl hkl) rfl rfl rfl rfl ?_
  repeat ((with_reducible refine RK.id_ ?_); (first | refine RK.cons_ ?_; (refine RK.k_ 0 rfl ?_; refine .p rfl rfl rfl (by exact trivial) ?_) | refine RK.nilT rfl ?_ rfl))
  refine W.ret ⟨_, rfl, .eq (by repeat (exact .bool _)) ?_, rfl⟩
  exact congrArg D.bool (decide_eq_decide.2 cmpR_zero)

theorem qv_zQ : qv zQ = 0 := Rat.zero_mkRat _
abbrev zeroQ : List D := [.bool false, .snil, .snil]

/- sparse.power -/
theorem power_spec {x : Q} {e : Int} {k : Nat} (h : Qk k x) (hk : 1 ≤ k) (h1 : 0 ≤ e) (h2 : e ≤ 1000000) (hb : k * e.toNat + 2 ≤ 1000000000) : PureFn Try.prog 84 [eQ x, I e] (eQ (qcan (qv x ^ e.toNat))) := by
  have hX := h.qb hk
  have hbd : ∀ u, u ≤ e.toNat → k * u ≤ k * e.toNat := fun u hu => Nat.mul_le_mul_left _ hu
  have hM : ∀ (y : Q) (u w : Nat), u + w ≤ e.toNat → Qk (k * w + 1) y → qv y = qv x ^ w → PureFn Try.prog 54 [eQ (qcan (qv x ^ u)), eQ y] (eQ (qcan (qv x ^ (u + w)))) := fun y u w huw hy hyv => by
    have := hbd _ huw
    rw [Nat.mul_add] at this
    have hm := Qmul_spec (Qk.can (hX.pow u)) hy (by omega) (by omega) (by omega)
    rw [qv_can, hyv, ← rat_pow_add] at hm
    exact hm
  have hS : ∀ (y : Q) (w : Nat), w + w ≤ e.toNat → Qk (k * w + 1) y → qv y = qv x ^ w → PureFn Try.prog 54 [eQ y, eQ y] (eQ (qcan (qv x ^ (w + w)))) := fun y w hw hy hyv => by
    have := hbd _ hw
    rw [Nat.mul_add] at this
    have hm := Qmul_spec hy hy (by omega) (by omega) (by omega)
    rw [hyv, ← rat_pow_add] at hm
    exact hm
  have hO := QOf_spec (n := 1) (by decide) (by decide)
  rw [Rat.intCast_one, ← Rat.pow_zero (qv x)] at hO
  refine .of_W (fn := Try.f84) (by repeat (first | exact trivial | refine ⟨(by repeat (first | exact .int _ _ | exact eQ_pure _)), ?_⟩)) Try.call84 Try.func84 rfl rfl ?_
  repeat (first | (with_reducible refine W.id_ ?_); (refine W.sreg ?_) | (with_reducible refine RK.id_ ?_); (first | refine RK.cons_ ?_; (refine RK.k_ 6 rfl ?_; (first | refine .box _ rfl rfl rfl rfl rfl rfl rfl ?_ | refine .alloc _ rfl rfl rfl rfl rfl rfl rfl ?_)) | refine RK.nilT rfl ?_ rfl))
  refine .call (hO) rfl rfl rfl rfl ?_
  repeat (first | (with_reducible refine W.id_ ?_); (refine W.seq ?_) | (with_reducible refine RK.id_ ?_); (first | refine RK.cons_ ?_; (refine RK.k_ 6 rfl ?_; (first | refine .alloc _ rfl rfl rfl rfl rfl rfl rfl ?_ | refine .store rfl rfl rfl rfl rfl rfl rfl (by rfl) (by rfl) (by rfl) ?_)) | refine RK.nilT rfl ?_ rfl))
  refine W.loopE (fun (s : Nat × Nat × Int × Q) => s.1 + s.2.1 * s.2.2.1.toNat = e.toNat ∧ s.2.2.1 ≤ 1000000 ∧ Qk (k * s.2.1 + 1) s.2.2.2 ∧ qv s.2.2.2 = qv x ^ s.2.1) (fun (s : Nat × Nat × Int × Q) => s.1 = e.toNat) (fun (s : Nat × Nat × Int × Q) => s.2.2.1.toNat) (fun (s : Nat × Nat × Int × Q) => [(1, I s.2.2.1), (2, .ptr 0 0), (4, .ptr 1 0), (5, .ptr 2 0)]) (fun (s : Nat × Nat × Int × Q) => [some (.cells (qc s.2.2.2)), some (.cells zeroQ), some (.cells (qc (qcan (qv x ^ s.1))))]) ((0, 1, e, x)) rfl ?_ ?_ ?_ ?_
  · exact ⟨by simp, h2, h.mono (by show k ≤ k * 1 + 1; omega), (Rat.pow_one _).symm⟩
  · refine .heap ?_ rfl
    repeat (first | exact trivial | refine ⟨⟨_, rfl, .refl _⟩, ?_⟩)
  · rintro ⟨u, w, r, y⟩ ⟨k1, k2, k3, k4⟩
    dsimp only at k1 k2 k3 k4 ⊢
    repeat (first | (with_reducible refine W.id_ ?_); (first | refine W.sreg ?_ | refine W.seq ?_) | (with_reducible refine RK.id_ ?_); (first | refine RK.cons_ ?_; (refine RK.k_ 0 rfl ?_; refine .p rfl rfl rfl (by exact trivial) ?_) | refine RK.nilT rfl ?_ rfl))
    refine W.cond_dec rfl (fun h3 => ?_) (fun h3 => ?_)
    · obtain ⟨m, rfl⟩ : ∃ m : Nat, r = m := ⟨r.toNat, by omega⟩
      repeat (first | (with_reducible refine W.id_ ?_); (first | refine W.sreg ?_ | refine W.seq ?_ | refine W.blockS ?_ | refine W.skipT rfl ?_) | (with_reducible refine RK.id_ ?_); (first | refine RK.cons_ ?_; (first | refine RK.k_ 0 rfl ?_; refine .p rfl rfl rfl (by exact trivial) ?_ | refine RK.k_ 3 rfl ?_; (refine .and1 rfl rfl rfl rfl rfl (by omega) (by omega) ?_)) | refine RK.nilT rfl ?_ rfl))
      refine W.cond_dec rfl (fun h4 => ?_) (fun h4 => ?_)
      · obtain ⟨q, rfl⟩ : ∃ q, m = 2 * q + 1 := ⟨m / 2, by omega⟩
        have e1 : w * (2 * q + 1) = 2 * (w * q) + w := by rw [Nat.mul_add, Nat.mul_one, Nat.mul_left_comm]
        rw [Int.toNat_natCast, e1] at k1
        repeat (first | (with_reducible refine W.id_ ?_); (refine W.reg ?_) | (with_reducible refine RK.id_ ?_); (refine RK.cons_ ?_; (refine RK.k_ 5 rfl ?_; (refine .ldla rfl rfl rfl rfl rfl rfl rfl (by rfl) rfl ?_))))
        refine .call (hM y u w (by omega) k3 k4) rfl rfl rfl rfl ?_
        repeat (first | (with_reducible refine W.id_ ?_); (refine W.sreg ?_) | (with_reducible refine RK.id_ ?_); (first | refine RK.cons_ ?_; (first | refine RK.k_ 0 rfl ?_; refine .p rfl rfl rfl (by exact trivial) ?_ | refine RK.k_ 6 rfl ?_; (refine .store rfl rfl rfl rfl rfl rfl rfl (by rfl) (by rfl) (by rfl) ?_)) | refine RK.nilT rfl ?_ rfl))
        refine W.cond_dec rfl (fun h5 => ?_) (fun h5 => ?_)
        · obtain ⟨q', rfl⟩ : ∃ q', q = q' + 1 := ⟨q - 1, by omega⟩
          rw [Nat.mul_add, Nat.mul_one] at k1
          repeat (first | (with_reducible refine W.id_ ?_); (refine W.reg ?_) | (with_reducible refine RK.id_ ?_); (refine RK.cons_ ?_; (refine RK.k_ 5 rfl ?_; (refine .ldla rfl rfl rfl rfl rfl rfl rfl (by rfl) rfl ?_))))
          refine .call (hS y w (by omega) k3 k4) rfl rfl rfl rfl ?_
          repeat (first | (with_reducible refine W.id_ ?_); (refine W.reg ?_) | (with_reducible refine RK.id_ ?_); (first | refine RK.cons_ ?_; (first | refine RK.k_ 0 rfl ?_; refine .p rfl rfl rfl (by exact trivial) ?_ | refine RK.k_ 6 rfl ?_; (refine .store rfl rfl rfl rfl rfl rfl rfl (by rfl) (by rfl) (by rfl) ?_) | refine RK.k_ 3 rfl ?_; (refine .shr 2 rfl rfl rfl rfl rfl (by omega) rfl ?_)) | refine RK.nilT rfl ?_ rfl))
          refine .nil ?_ rfl
          refine ⟨(u + w, w + w, ((q' + 1 : Nat) : Int), qcan (qv x ^ (w + w))), by show (((q' + 1 : Nat) : Int)).toNat < ((2 * (q' + 1) + 1 : Nat) : Int).toNat; omega, ⟨?_, by show ((q' + 1 : Nat) : Int) ≤ _; omega, .can (hX.pow _), qv_can _⟩, .heap ?_ rfl⟩
          · show u + w + (w + w) * (((q' + 1 : Nat) : Int)).toNat = e.toNat
            rw [Int.toNat_natCast, Nat.add_mul, Nat.mul_add, Nat.mul_one]; omega
          · repeat (first | exact trivial | refine ⟨⟨_, rfl, .refl _⟩, ?_⟩ | refine ⟨⟨_, rfl, .of_eq (congrArg (D.int _) (by (dsimp only; omega)))⟩, ?_⟩)
        · have hq0 : q = 0 := by omega
          subst hq0
          repeat (first | (with_reducible refine W.id_ ?_); (first | refine W.reg ?_ | refine W.skipT rfl ?_) | (with_reducible refine RK.id_ ?_); (refine RK.cons_ ?_; (first | refine RK.k_ 0 rfl ?_; refine .p rfl rfl rfl (by exact trivial) ?_ | refine RK.k_ 3 rfl ?_; (refine .shr 2 rfl rfl rfl rfl rfl (by omega) rfl ?_))))
          refine .nil ?_ rfl
          refine ⟨(u + w, w, 0, y), by show (0 : Int).toNat < ((2 * 0 + 1 : Nat) : Int).toNat; omega, ⟨?_, by show (0 : Int) ≤ _; omega, k3, k4⟩, .heap ?_ rfl⟩
          · show u + w + w * 0 = e.toNat
            omega
          · repeat (first | exact trivial | refine ⟨⟨_, rfl, .refl _⟩, ?_⟩)
      · obtain ⟨q, rfl⟩ : ∃ q, m = 2 * q := ⟨m / 2, by omega⟩
        have e1 : w * (2 * q) = 2 * (w * q) := Nat.mul_left_comm ..
        rw [Int.toNat_natCast, e1] at k1
        repeat (first | (with_reducible refine W.id_ ?_); (first | refine W.sreg ?_ | refine W.skipT rfl ?_) | (with_reducible refine RK.id_ ?_); (first | refine RK.cons_ ?_; (refine RK.k_ 0 rfl ?_; refine .p rfl rfl rfl (by exact trivial) ?_) | refine RK.nilT rfl ?_ rfl))
        refine W.cond_dec rfl (fun h5 => ?_) (fun h5 => ?_)
        · obtain ⟨q', rfl⟩ : ∃ q', q = q' + 1 := ⟨q - 1, by omega⟩
          rw [Nat.mul_add, Nat.mul_one] at k1
          repeat (first | (with_reducible refine W.id_ ?_); (refine W.reg ?_) | (with_reducible refine RK.id_ ?_); (refine RK.cons_ ?_; (refine RK.k_ 5 rfl ?_; (refine .ldla rfl rfl rfl rfl rfl rfl rfl (by rfl) rfl ?_))))
          refine .call (hS y w (by omega) k3 k4) rfl rfl rfl rfl ?_
          repeat (first | (with_reducible refine W.id_ ?_); (refine W.reg ?_) | (with_reducible refine RK.id_ ?_); (first | refine RK.cons_ ?_; (first | refine RK.k_ 0 rfl ?_; refine .p rfl rfl rfl (by exact trivial) ?_ | refine RK.k_ 6 rfl ?_; (refine .store rfl rfl rfl rfl rfl rfl rfl (by rfl) (by rfl) (by rfl) ?_) | refine RK.k_ 3 rfl ?_; (refine .shr 2 rfl rfl rfl rfl rfl (by omega) rfl ?_)) | refine RK.nilT rfl ?_ rfl))
          refine .nil ?_ rfl
          refine ⟨(u, w + w, ((q' + 1 : Nat) : Int), qcan (qv x ^ (w + w))), by show (((q' + 1 : Nat) : Int)).toNat < ((2 * (q' + 1) : Nat) : Int).toNat; omega, ⟨?_, by show ((q' + 1 : Nat) : Int) ≤ _; omega, .can (hX.pow _), qv_can _⟩, .heap ?_ rfl⟩
          · show u + (w + w) * (((q' + 1 : Nat) : Int)).toNat = e.toNat
            rw [Int.toNat_natCast, Nat.add_mul, Nat.mul_add, Nat.mul_one]; omega
          · repeat (first | exact trivial | refine ⟨⟨_, rfl, .refl _⟩, ?_⟩ | refine ⟨⟨_, rfl, .of_eq (congrArg (D.int _) (by (dsimp only; omega)))⟩, ?_⟩)
        · omega
    · refine W.exit ⟨(u, w, r, y), ?_, .heap ?_ rfl⟩
      · dsimp only
        have : r.toNat = 0 := by omega
        rw [this] at k1
        omega
      · repeat (first | exact trivial | refine ⟨⟨_, rfl, .refl _⟩, ?_⟩)
  · rintro ⟨u, w, r, y⟩ hu
    dsimp only at hu ⊢
    subst hu
    repeat (first | (with_reducible refine W.id_ ?_); (refine W.sreg ?_) | (with_reducible refine RK.id_ ?_); (first | refine RK.cons_ ?_; (first | refine RK.k_ 5 rfl ?_; (refine .ldla rfl rfl rfl rfl rfl rfl rfl (by rfl) rfl ?_) | refine RK.k_ 6 rfl ?_; (refine .store rfl rfl rfl rfl rfl rfl rfl (by rfl) (by rfl) (by rfl) ?_)) | refine RK.nilT rfl ?_ rfl))
    refine W.ret ⟨_, rfl, .eq (by repeat (exact eQ_pure _)) ?_, rfl⟩
    rfl
end Go.Proofs.Ytbdefjbekbbldaa
