import Derived.Test.YtbdefjbekbbldaaB2
set_option linter.unusedVariables false
set_option linter.unusedSimpArgs false
set_option linter.unnecessarySimpa false

namespace Go.Proofs.Ytbdefjbekbbldaa
open Go.V Go.N
set_option maxHeartbeats 8000000
set_option maxRecDepth 20000

/-- The coordinates of a point; 0 where there are none. -/
def xs (a : List Q) (i : Nat) : Rat := qv (a.getD i zQ)
theorem xs_out {a : List Q} {i : Nat} (h : a.length ≤ i) : xs a i = 0 := by
  unfold xs
  rw [List.getD_eq_getElem?_getD, List.getElem?_eq_none h]; exact qv_zQ
theorem Qk.zero {k : Nat} (hk : 1 ≤ k) : Qk k (qcan 0) := (Qk.can Qb.zero).mono hk
structure Vk (k : Nat) (a : List Q) : Prop where
  q : ∀ r ∈ a, Qk k r
  n : a.length ≤ 1000
theorem Vk.at {k : Nat} {a : List Q} (h : Vk k a) {i : Nat} (hi : i < a.length) : Qk k (a.getD i zQ) := h.q _ (getD_mem hi)
theorem Vk.xb {k : Nat} {a : List Q} (h : Vk k a) (hk : 1 ≤ k) (i : Nat) : Qb k (xs a i) := by
  rcases Nat.lt_or_ge i a.length with hi | hi
  · exact (h.at hi).qb hk
  · rw [xs_out hi]; exact Qb.zero.mono hk

theorem clq (n : Nat) (q : Q) : ClL n (qc q) := ⟨.pure (.bool _), .pure (eN_pure _), .pure (eN_pure _), trivial⟩
theorem clm (n : Nat) (m : M) : ClL n (mc m) := ⟨.pure (.int _ _), .pure (.int _ _), .pure (.int _ _), .pure (.int _ _), trivial⟩
theorem clz (n : Nat) (z : Z) : ClL n (zc z) := ⟨.pure (.bool _), .pure (eN_pure _), trivial⟩
theorem cl0 (n : Nat) : ClL n zeroQ := ⟨.pure (.bool _), .pure .snil, .pure .snil, trivial⟩

/- sparse.Eval -/
theorem Eval_spec {p : List RT} {q : P} {a : List Q} {kc kx : Nat} {e : Int} (hp : Pok p) (eq : q = nrm (vals p)) (ha : Vk kx a) (hkx : 1 ≤ kx) (hkc : 1 ≤ kc) (hc : N.l1 q < B32 ^ kc) (he : Eb e q) (he1 : e ≤ 1000000)
    (hb : (q.length + 2) * (kc + 4 * (kx * e.toNat + 1) + 1) + 2 ≤ 1000000000) : PureFn Try.prog 50 [eP p, eV a] (eQ (qcan (ev (xs a) q))) := by
  have hq : Pok (can q) := by rw [eq]; exact can_pok' (Nat.lt_of_le_of_lt (l1_nrm _) hp.l) (Nat.le_trans (nrm_len _) (by rw [vals_len]; exact hp.n))
  have hO := QOf_spec (n := 0) (by decide) (by decide)
  rw [Rat.intCast_zero] at hO
  have han := ha.n
  have hX := ha.xb hkx
  obtain ⟨K, hK⟩ : ∃ K, K = kc + 4 * (kx * e.toNat + 1) + 1 := ⟨_, rfl⟩
  rw [← hK, Nat.add_mul] at hb
  refine .of_W (fn := Try.f50) (by repeat (first | exact trivial | refine ⟨(by repeat (first | exact eP_pure _ | exact eV_pure _)), ?_⟩)) Try.call50 Try.func50 rfl rfl ?_
  repeat (first | (with_reducible refine W.id_ ?_); (refine W.sreg ?_) | (with_reducible refine RK.id_ ?_); (first | refine RK.cons_ ?_; (refine RK.k_ 6 rfl ?_; (first | refine .box _ rfl rfl rfl rfl rfl rfl rfl ?_ | refine .alloc _ rfl rfl rfl rfl rfl rfl rfl ?_)) | refine RK.nilT rfl ?_ rfl))
  refine .call (hO) rfl rfl rfl rfl ?_
  repeat (first | (with_reducible refine W.id_ ?_); (first | refine W.sreg ?_ | refine W.seq ?_) | (with_reducible refine RK.id_ ?_); (first | refine RK.cons_ ?_; (first | refine RK.k_ 0 rfl ?_; refine .p rfl rfl rfl (by exact trivial) ?_ | refine RK.k_ 6 rfl ?_; (first | refine .alloc _ rfl rfl rfl rfl rfl rfl rfl ?_ | refine .store rfl rfl rfl rfl rfl rfl rfl (by rfl) (by rfl) (by rfl) ?_)) | refine RK.nilT rfl ?_ rfl))
  refine .call (Terms_spec hp eq) rfl rfl rfl rfl ?_
  repeat ((with_reducible refine RK.id_ ?_); (refine RK.nilT rfl ?_ rfl))
  refine W.block ?_
  refine W.to (F' := [(3, .ptr 0 0), (4, .ptr 1 0), (5, .ptr 2 0), (14, itP q)]) (H' := [some (.cells [eV a]), some (.cells zeroQ), some (.cells (qc (qcan (ev (xs a) (q.take 0)))))]) (.heap ?_ rfl) ?_
  · repeat (first | exact trivial | refine ⟨⟨_, rfl, .refl _⟩, ?_⟩)
  refine W.iter (Terms_iter hq) (fun i => [some (.cells [eV a]), some (.cells zeroQ), some (.cells (qc (qcan (ev (xs a) (q.take i)))))]) (fun _ => true) .ret 3 (by simp) rfl (fun _ => rfl) (fun i => ⟨⟨.pure (eV_pure _), trivial⟩, cl0 _, clq _ _, trivial⟩) ⟨.ptr (by decide), .ptr (by decide), .ptr (by decide), .pure (itP_pure _), trivial⟩ (by simp) (fun _ => rfl) (by decide) rfl rfl (fun r i hi _ => ?_) (fun _ => ?_) (fun i _ h => absurd h (by simp))
  · have hm := getD_mem (z := tz) hi
    have hbm := he _ hm
    have hcz : okZ (zcan (q.getD i tz).1) := by
      have := hq.z _ (getD_mem (z := zT) (show i < (can q).length by rw [can_len]; exact hi))
      rw [getD_can hi] at this
      exact this
    have hcb : (q.getD i tz).1.natAbs < B32 ^ kc := Nat.lt_of_le_of_lt (l1_mem hm) hc
    have hF := QFrom_spec hcz
    rw [zv_can] at hF
    have hvb : ∀ k, Qb (kc + 4 * (kx * e.toNat + 1)) (ev1k (xs a) ((q.getD i tz).1 : Rat) (q.getD i tz).2 k) := Qb.ev1k (Qb.int hcb hkc) hX hbm
    have hsb : Qb (q.length * K + 1) (ev (xs a) (q.take i)) := (Qb.ev (q := q.take i) (Nat.lt_of_le_of_lt (l1_take _ _) hc) hkc hX (fun t ht => he t (List.mem_of_mem_take ht))).mono (by
      rw [← hK, List.length_take]
      have : min i q.length * K ≤ q.length * K := Nat.mul_le_mul_right _ (by omega)
      omega)
    have hA := Qadd_spec (Qk.can hsb) (Qk.can (hvb 4)) (by omega) (by omega) (by omega)
    rw [qv_can, qv_can, show ev (xs a) (q.take i) + ev1k (xs a) ((q.getD i tz).1 : Rat) (q.getD i tz).2 4 = ev (xs a) (q.take (i + 1)) by rw [ev1k_4, ← ev_take (z := tz) (xs a) hi]] at hA
    have hM : ∀ (k : Nat) (y : Q) (u : Int), Qk kx y → 0 ≤ u → u ≤ e → PureFn Try.prog 84 [eQ y, I u] (eQ (qcan (qv y ^ u.toNat))) ∧ PureFn Try.prog 54 [eQ (qcan (ev1k (xs a) ((q.getD i tz).1 : Rat) (q.getD i tz).2 k)), eQ (qcan (qv y ^ u.toNat))] (eQ (qcan (ev1k (xs a) ((q.getD i tz).1 : Rat) (q.getD i tz).2 k * qv y ^ u.toNat))) := fun k y u hy h0 hu => by
      have h1 : kx * u.toNat ≤ kx * e.toNat := Nat.mul_le_mul_left _ (by omega)
      refine ⟨power_spec hy hkx h0 (by omega) (by omega), ?_⟩
      have hm := Qmul_spec (Qk.can (hvb k)) (Qk.can ((hy.qb hkx).pow u.toNat)) (by omega) (by omega) (by omega)
      rw [qv_can, qv_can] at hm
      exact hm
    unfold Mb at hbm
    repeat (first | (with_reducible refine W.id_ ?_); (first | refine W.sreg ?_ | refine W.reg ?_) | (with_reducible refine RK.id_ ?_); (first | refine RK.cons_ ?_; (refine RK.k_ 6 rfl ?_; (first | refine .alloc _ rfl rfl rfl rfl rfl rfl rfl ?_ | refine .store rfl rfl rfl rfl rfl rfl rfl (by rfl) (by rfl) (by rfl) ?_)) | refine RK.nilT rfl ?_ rfl))
    refine .nil ⟨rfl, rfl, ?_⟩ rfl
    repeat (first | (with_reducible refine W.id_ ?_); (first | refine W.sreg ?_ | refine W.blockS ?_) | (with_reducible refine RK.id_ ?_); (refine RK.cons_ ?_; (refine RK.k_ 5 rfl ?_; (refine .ldla rfl rfl rfl rfl rfl rfl rfl (by rfl) rfl ?_))))
    refine .call (hF) rfl rfl rfl rfl ?_
    repeat (first | (with_reducible refine W.id_ ?_); (first | refine W.sreg ?_ | refine W.seq ?_) | (with_reducible refine RK.id_ ?_); (first | refine RK.cons_ ?_; (first | refine RK.k_ 0 rfl ?_; refine .p rfl rfl rfl (by exact trivial) ?_ | refine RK.k_ 5 rfl ?_; (refine .ldla rfl rfl rfl rfl rfl rfl rfl (by rfl) rfl ?_) | refine RK.k_ 6 rfl ?_; (first | refine .alloc _ rfl rfl rfl rfl rfl rfl rfl ?_ | refine .store rfl rfl rfl rfl rfl rfl rfl (by rfl) (by rfl) (by rfl) ?_)) | refine RK.nilT rfl ?_ rfl))
    generalize hmm : (q.getD i tz).2 = m at *
    generalize hcc : ((q.getD i tz).1 : Rat) = c at *
    have hrec : ClH 7 [some (.cells [eV a]), some (.cells zeroQ), some (.cells (qc (qcan (ev (xs a) (q.take i))))), some (.loop (busy r) [(3, .ptr 0 0), (4, .ptr 1 0), (5, .ptr 2 0), (14, itP q)]), some (.cells (mc m)), some (.cells (zc (zcan (q.getD i tz).1)))] := ⟨⟨.pure (eV_pure _), trivial⟩, cl0 _, clq _ _, ⟨⟨.ptr (by decide), .ptr (by decide), .ptr (by decide), .pure (itP_pure _), trivial⟩, by simp⟩, clm _ _, clz _ _, trivial⟩
    refine W.loopE (fun k => k ≤ 4) (fun k => k = 4) (fun k => 4 - k) (fun k => [(20, I (k : Int)), (19, eM m), (8, .ptr 6 0), (3, .ptr 0 0), (5, .ptr 2 0)]) (fun k => [some (.cells [eV a]), some (.cells zeroQ), some (.cells (qc (qcan (ev (xs a) (q.take i))))), some (.loop (busy r) [(3, .ptr 0 0), (4, .ptr 1 0), (5, .ptr 2 0), (14, itP q)]), some (.cells (mc m)), some (.cells (zc (zcan (q.getD i tz).1))), some (.cells (qc (qcan (ev1k (xs a) c m k))))]) (0) rfl ?_ ?_ ?_ ?_
    · exact Nat.zero_le _
    · refine .heap ?_ rfl
      repeat (first | exact trivial | refine ⟨⟨_, rfl, .refl _⟩, ?_⟩)
    · intro k hk
      obtain rfl | rfl | rfl | rfl | rfl : k = 0 ∨ k = 1 ∨ k = 2 ∨ k = 3 ∨ k = 4 := by omega
      · repeat (first | (with_reducible refine W.id_ ?_); (first | refine W.sreg ?_ | refine W.seq ?_ | refine W.blockS ?_ | refine W.skipT rfl ?_ | refine W.condT rfl ?_) | (with_reducible refine RK.id_ ?_); (first | refine RK.cons_ ?_; (refine RK.k_ 0 rfl ?_; refine .p rfl rfl rfl (by first | exact trivial | exact ⟨⟨by decide, by decide⟩, Nat.le_of_ble_eq_true rfl⟩) ?_) | refine RK.nilT rfl ?_ rfl))
        refine W.cond_dec rfl (fun h0 => ?_) (fun h0 => ?_)
        · refine W.exitT rfl ?_
          repeat (first | (with_reducible refine W.id_ ?_); (refine W.reg ?_) | (with_reducible refine RK.id_ ?_); (refine RK.cons_ ?_; (first | refine RK.k_ 0 rfl ?_; refine .p rfl rfl rfl (by exact trivial) ?_ | refine RK.k_ 1 rfl ?_; (refine .pa rfl rfl rfl rfl rfl rfl (by omega) (by omega) ?_))))
          refine .nil ?_ rfl
          refine ⟨1, by show 4 - 1 < 4 - 0; omega, by show 1 ≤ 4; omega, .heap ?_ ?_⟩
          · repeat (first | exact trivial | refine ⟨⟨_, rfl, .refl _⟩, ?_⟩)
          · dsimp only
            rw [show ev1k (xs a) c m 1 = ev1k (xs a) c m 0 * xs a 0 ^ m.x0.toNat from rfl, h0, show (0 : Int).toNat = 0 from rfl, Rat.pow_zero, Rat.mul_one]
        repeat ((with_reducible refine W.id_ ?_); (first | refine W.sreg ?_ | refine W.skipT rfl ?_))
        refine .call (hO) rfl rfl rfl rfl ?_
        repeat (first | (with_reducible refine W.id_ ?_); (first | refine W.sreg ?_ | refine W.seq ?_) | (with_reducible refine RK.id_ ?_); (first | refine RK.cons_ ?_; (first | refine RK.k_ 0 rfl ?_; refine .p rfl rfl rfl (by exact trivial) ?_ | refine RK.k_ 5 rfl ?_; (refine .ldl rfl rfl rfl rfl rfl rfl rfl (by rfl) (by rfl) ?_) | refine RK.k_ 6 rfl ?_; (first | refine .alloc _ rfl rfl rfl rfl rfl rfl rfl ?_ | refine .store rfl rfl rfl rfl rfl rfl rfl (by rfl) (by rfl) (by rfl) ?_)) | refine RK.nilT rfl ?_ rfl))
        refine .joinS (fun (y : Q) => Qk kx y ∧ qv y = xs a 0) (fun _ => [(20, I 0), (19, eM m), (9, I 0), (10, I m.x0), (8, .ptr 6 0), (3, .ptr 0 0), (5, .ptr 2 0), (11, .ptr 7 0)]) (fun y => [some (.cells [eV a]), some (.cells zeroQ), some (.cells (qc (qcan (ev (xs a) (q.take i))))), some (.loop (busy r) [(3, .ptr 0 0), (4, .ptr 1 0), (5, .ptr 2 0), (14, itP q)]), some (.cells (mc m)), some (.cells (zc (zcan (q.getD i tz).1))), some (.cells (qc (qcan (ev1k (xs a) c m 0)))), some (.cells (qc y))]) ?_ ?_
        · refine W.cond_dec rfl (fun h5 => ?_) (fun h5 => ?_)
          · have h6 : 0 < a.length := by omega
            repeat (first | (with_reducible refine W.id_ ?_); (refine W.reg ?_) | (with_reducible refine RK.id_ ?_); (refine RK.cons_ ?_; (first | refine RK.k_ 0 rfl ?_; refine .p rfl rfl rfl (by exact trivial) ?_ | refine RK.k_ 4 rfl ?_; (refine .ix _ (s := 3) rfl rfl rfl rfl rfl rfl rfl (by rfl) (by omega) ?_) | refine RK.k_ 5 rfl ?_; (first | refine .ldl rfl rfl rfl rfl rfl rfl rfl (by rfl) (by rfl) ?_ | refine .lda _ rfl rfl rfl rfl rfl rfl rfl (by exact take_flat (z := zQ) qc_len (by omega) (by omega) rfl) ?_) | refine RK.k_ 6 rfl ?_; (refine .store rfl rfl rfl rfl rfl rfl rfl (by rfl) (by rfl) (by rfl) ?_))))
            refine .nil ?_ rfl
            refine ⟨a.getD 0 zQ, ⟨ha.at h6, rfl⟩, .heap ?_ rfl⟩
            repeat (first | exact trivial | refine ⟨⟨_, rfl, .refl _⟩, ?_⟩)
          · refine .skip ⟨qcan 0, ⟨.zero hkx, ?_⟩, .heap ?_ rfl⟩
            · rw [qv_can, xs_out (by omega)]
            · repeat (first | exact trivial | refine ⟨⟨_, rfl, .refl _⟩, ?_⟩)
        rintro y ⟨hy1, hy2⟩
        obtain ⟨w1, w2⟩ := hM 0 y m.x0 hy1 (by omega) (by omega)
        rw [hy2] at w1 w2
        repeat (first | (with_reducible refine W.id_ ?_); (refine W.draw mixed (by kernel_rfl) (by kernel_rfl) ?_) | (with_reducible refine RK.id_ ?_); (refine RK.cons_ ?_; (first | refine RK.k_ 0 rfl ?_; refine .p rfl rfl rfl (by exact trivial) ?_ | refine RK.k_ 5 rfl ?_; (refine .ldla rfl rfl rfl rfl rfl rfl rfl (by rfl) rfl ?_))))
        refine .call (w1) rfl rfl rfl rfl ?_
        skip
        refine .call (w2) rfl rfl rfl rfl ?_
        repeat (first | (with_reducible refine W.id_ ?_); (refine W.reg ?_) | (with_reducible refine RK.id_ ?_); (first | refine RK.cons_ ?_; (first | refine RK.k_ 0 rfl ?_; refine .p rfl rfl rfl (by exact trivial) ?_ | refine RK.k_ 1 rfl ?_; (refine .pa rfl rfl rfl rfl rfl rfl (by omega) (by omega) ?_) | refine RK.k_ 6 rfl ?_; (refine .store rfl rfl rfl rfl rfl rfl rfl (by rfl) (by rfl) (by rfl) ?_)) | refine RK.nilT rfl ?_ rfl))
        refine .nil ?_ rfl
        refine ⟨1, by show 4 - 1 < 4 - 0; omega, by show 1 ≤ 4; omega, .cut (Y := [some (.cells [eV a]), some (.cells zeroQ), some (.cells (qc (qcan (ev (xs a) (q.take i))))), some (.loop (busy r) [(3, .ptr 0 0), (4, .ptr 1 0), (5, .ptr 2 0), (14, itP q)]), some (.cells (mc m)), some (.cells (zc (zcan (q.getD i tz).1))), some (.cells (qc (qcan (ev1k (xs a) c m 1))))]) [some (.cells (qc y))] (Nat.le_of_ble_eq_true rfl) ⟨⟨.pure (eV_pure _), trivial⟩, cl0 _, clq _ _, ⟨⟨.ptr (by simp), .ptr (by simp), .ptr (by simp), .pure (itP_pure _), trivial⟩, by simp⟩, clm _ _, clz _ _, clq _ _, trivial⟩ ?_⟩
        repeat (first | exact trivial | refine ⟨⟨_, rfl, .ptr rfl⟩, ?_⟩ | refine ⟨⟨_, rfl, .wk (by repeat (first | exact .int _ _ | exact eM_pure _)) (by exact .refl _)⟩, ?_⟩)
      · repeat (first | (with_reducible refine W.id_ ?_); (first | refine W.sreg ?_ | refine W.seq ?_ | refine W.blockS ?_ | refine W.skipT rfl ?_ | refine W.condT rfl ?_) | (with_reducible refine RK.id_ ?_); (first | refine RK.cons_ ?_; (refine RK.k_ 0 rfl ?_; refine .p rfl rfl rfl (by first | exact trivial | exact ⟨⟨by decide, by decide⟩, Nat.le_of_ble_eq_true rfl⟩) ?_) | refine RK.nilT rfl ?_ rfl))
        refine W.cond_dec rfl (fun h0 => ?_) (fun h0 => ?_)
        · refine W.exitT rfl ?_
          repeat (first | (with_reducible refine W.id_ ?_); (refine W.reg ?_) | (with_reducible refine RK.id_ ?_); (refine RK.cons_ ?_; (first | refine RK.k_ 0 rfl ?_; refine .p rfl rfl rfl (by exact trivial) ?_ | refine RK.k_ 1 rfl ?_; (refine .pa rfl rfl rfl rfl rfl rfl (by omega) (by omega) ?_))))
          refine .nil ?_ rfl
          refine ⟨2, by show 4 - 2 < 4 - 1; omega, by show 2 ≤ 4; omega, .heap ?_ ?_⟩
          · repeat (first | exact trivial | refine ⟨⟨_, rfl, .refl _⟩, ?_⟩)
          · dsimp only
            rw [show ev1k (xs a) c m 2 = ev1k (xs a) c m 1 * xs a 1 ^ m.x1.toNat from rfl, h0, show (0 : Int).toNat = 0 from rfl, Rat.pow_zero, Rat.mul_one]
        repeat ((with_reducible refine W.id_ ?_); (first | refine W.sreg ?_ | refine W.skipT rfl ?_))
        refine .call (hO) rfl rfl rfl rfl ?_
        repeat (first | (with_reducible refine W.id_ ?_); (first | refine W.sreg ?_ | refine W.seq ?_) | (with_reducible refine RK.id_ ?_); (first | refine RK.cons_ ?_; (first | refine RK.k_ 0 rfl ?_; refine .p rfl rfl rfl (by exact trivial) ?_ | refine RK.k_ 5 rfl ?_; (refine .ldl rfl rfl rfl rfl rfl rfl rfl (by rfl) (by rfl) ?_) | refine RK.k_ 6 rfl ?_; (first | refine .alloc _ rfl rfl rfl rfl rfl rfl rfl ?_ | refine .store rfl rfl rfl rfl rfl rfl rfl (by rfl) (by rfl) (by rfl) ?_)) | refine RK.nilT rfl ?_ rfl))
        refine .joinS (fun (y : Q) => Qk kx y ∧ qv y = xs a 1) (fun _ => [(20, I 1), (19, eM m), (9, I 1), (10, I m.x1), (8, .ptr 6 0), (3, .ptr 0 0), (5, .ptr 2 0), (11, .ptr 7 0)]) (fun y => [some (.cells [eV a]), some (.cells zeroQ), some (.cells (qc (qcan (ev (xs a) (q.take i))))), some (.loop (busy r) [(3, .ptr 0 0), (4, .ptr 1 0), (5, .ptr 2 0), (14, itP q)]), some (.cells (mc m)), some (.cells (zc (zcan (q.getD i tz).1))), some (.cells (qc (qcan (ev1k (xs a) c m 1)))), some (.cells (qc y))]) ?_ ?_
        · refine W.cond_dec rfl (fun h5 => ?_) (fun h5 => ?_)
          · have h6 : 1 < a.length := by omega
            repeat (first | (with_reducible refine W.id_ ?_); (refine W.reg ?_) | (with_reducible refine RK.id_ ?_); (refine RK.cons_ ?_; (first | refine RK.k_ 0 rfl ?_; refine .p rfl rfl rfl (by exact trivial) ?_ | refine RK.k_ 4 rfl ?_; (refine .ix _ (s := 3) rfl rfl rfl rfl rfl rfl rfl (by rfl) (by omega) ?_) | refine RK.k_ 5 rfl ?_; (first | refine .ldl rfl rfl rfl rfl rfl rfl rfl (by rfl) (by rfl) ?_ | refine .lda _ rfl rfl rfl rfl rfl rfl rfl (by exact take_flat (z := zQ) qc_len (by omega) (by omega) rfl) ?_) | refine RK.k_ 6 rfl ?_; (refine .store rfl rfl rfl rfl rfl rfl rfl (by rfl) (by rfl) (by rfl) ?_))))
            refine .nil ?_ rfl
            refine ⟨a.getD 1 zQ, ⟨ha.at h6, rfl⟩, .heap ?_ rfl⟩
            repeat (first | exact trivial | refine ⟨⟨_, rfl, .refl _⟩, ?_⟩)
          · refine .skip ⟨qcan 0, ⟨.zero hkx, ?_⟩, .heap ?_ rfl⟩
            · rw [qv_can, xs_out (by omega)]
            · repeat (first | exact trivial | refine ⟨⟨_, rfl, .refl _⟩, ?_⟩)
        rintro y ⟨hy1, hy2⟩
        obtain ⟨w1, w2⟩ := hM 1 y m.x1 hy1 (by omega) (by omega)
        rw [hy2] at w1 w2
        repeat (first | (with_reducible refine W.id_ ?_); (refine W.draw mixed (by kernel_rfl) (by kernel_rfl) ?_) | (with_reducible refine RK.id_ ?_); (refine RK.cons_ ?_; (first | refine RK.k_ 0 rfl ?_; refine .p rfl rfl rfl (by exact trivial) ?_ | refine RK.k_ 5 rfl ?_; (refine .ldla rfl rfl rfl rfl rfl rfl rfl (by rfl) rfl ?_))))
        refine .call (w1) rfl rfl rfl rfl ?_
        skip
        refine .call (w2) rfl rfl rfl rfl ?_
        repeat (first | (with_reducible refine W.id_ ?_); (refine W.reg ?_) | (with_reducible refine RK.id_ ?_); (first | refine RK.cons_ ?_; (first | refine RK.k_ 0 rfl ?_; refine .p rfl rfl rfl (by exact trivial) ?_ | refine RK.k_ 1 rfl ?_; (refine .pa rfl rfl rfl rfl rfl rfl (by omega) (by omega) ?_) | refine RK.k_ 6 rfl ?_; (refine .store rfl rfl rfl rfl rfl rfl rfl (by rfl) (by rfl) (by rfl) ?_)) | refine RK.nilT rfl ?_ rfl))
        refine .nil ?_ rfl
        refine ⟨2, by show 4 - 2 < 4 - 1; omega, by show 2 ≤ 4; omega, .cut (Y := [some (.cells [eV a]), some (.cells zeroQ), some (.cells (qc (qcan (ev (xs a) (q.take i))))), some (.loop (busy r) [(3, .ptr 0 0), (4, .ptr 1 0), (5, .ptr 2 0), (14, itP q)]), some (.cells (mc m)), some (.cells (zc (zcan (q.getD i tz).1))), some (.cells (qc (qcan (ev1k (xs a) c m 2))))]) [some (.cells (qc y))] (Nat.le_of_ble_eq_true rfl) ⟨⟨.pure (eV_pure _), trivial⟩, cl0 _, clq _ _, ⟨⟨.ptr (by simp), .ptr (by simp), .ptr (by simp), .pure (itP_pure _), trivial⟩, by simp⟩, clm _ _, clz _ _, clq _ _, trivial⟩ ?_⟩
        repeat (first | exact trivial | refine ⟨⟨_, rfl, .ptr rfl⟩, ?_⟩ | refine ⟨⟨_, rfl, .wk (by repeat (first | exact .int _ _ | exact eM_pure _)) (by exact .refl _)⟩, ?_⟩)
      · repeat (first | (with_reducible refine W.id_ ?_); (first | refine W.sreg ?_ | refine W.seq ?_ | refine W.blockS ?_ | refine W.skipT rfl ?_ | refine W.condT rfl ?_) | (with_reducible refine RK.id_ ?_); (first | refine RK.cons_ ?_; (refine RK.k_ 0 rfl ?_; refine .p rfl rfl rfl (by first | exact trivial | exact ⟨⟨by decide, by decide⟩, Nat.le_of_ble_eq_true rfl⟩) ?_) | refine RK.nilT rfl ?_ rfl))
        refine W.cond_dec rfl (fun h0 => ?_) (fun h0 => ?_)
        · refine W.exitT rfl ?_
          repeat (first | (with_reducible refine W.id_ ?_); (refine W.reg ?_) | (with_reducible refine RK.id_ ?_); (refine RK.cons_ ?_; (first | refine RK.k_ 0 rfl ?_; refine .p rfl rfl rfl (by exact trivial) ?_ | refine RK.k_ 1 rfl ?_; (refine .pa rfl rfl rfl rfl rfl rfl (by omega) (by omega) ?_))))
          refine .nil ?_ rfl
          refine ⟨3, by show 4 - 3 < 4 - 2; omega, by show 3 ≤ 4; omega, .heap ?_ ?_⟩
          · repeat (first | exact trivial | refine ⟨⟨_, rfl, .refl _⟩, ?_⟩)
          · dsimp only
            rw [show ev1k (xs a) c m 3 = ev1k (xs a) c m 2 * xs a 2 ^ m.x2.toNat from rfl, h0, show (0 : Int).toNat = 0 from rfl, Rat.pow_zero, Rat.mul_one]
        repeat ((with_reducible refine W.id_ ?_); (first | refine W.sreg ?_ | refine W.skipT rfl ?_))
        refine .call (hO) rfl rfl rfl rfl ?_
        repeat (first | (with_reducible refine W.id_ ?_); (first | refine W.sreg ?_ | refine W.seq ?_) | (with_reducible refine RK.id_ ?_); (first | refine RK.cons_ ?_; (first | refine RK.k_ 0 rfl ?_; refine .p rfl rfl rfl (by exact trivial) ?_ | refine RK.k_ 5 rfl ?_; (refine .ldl rfl rfl rfl rfl rfl rfl rfl (by rfl) (by rfl) ?_) | refine RK.k_ 6 rfl ?_; (first | refine .alloc _ rfl rfl rfl rfl rfl rfl rfl ?_ | refine .store rfl rfl rfl rfl rfl rfl rfl (by rfl) (by rfl) (by rfl) ?_)) | refine RK.nilT rfl ?_ rfl))
        refine .joinS (fun (y : Q) => Qk kx y ∧ qv y = xs a 2) (fun _ => [(20, I 2), (19, eM m), (9, I 2), (10, I m.x2), (8, .ptr 6 0), (3, .ptr 0 0), (5, .ptr 2 0), (11, .ptr 7 0)]) (fun y => [some (.cells [eV a]), some (.cells zeroQ), some (.cells (qc (qcan (ev (xs a) (q.take i))))), some (.loop (busy r) [(3, .ptr 0 0), (4, .ptr 1 0), (5, .ptr 2 0), (14, itP q)]), some (.cells (mc m)), some (.cells (zc (zcan (q.getD i tz).1))), some (.cells (qc (qcan (ev1k (xs a) c m 2)))), some (.cells (qc y))]) ?_ ?_
        · refine W.cond_dec rfl (fun h5 => ?_) (fun h5 => ?_)
          · have h6 : 2 < a.length := by omega
            repeat (first | (with_reducible refine W.id_ ?_); (refine W.reg ?_) | (with_reducible refine RK.id_ ?_); (refine RK.cons_ ?_; (first | refine RK.k_ 0 rfl ?_; refine .p rfl rfl rfl (by exact trivial) ?_ | refine RK.k_ 4 rfl ?_; (refine .ix _ (s := 3) rfl rfl rfl rfl rfl rfl rfl (by rfl) (by omega) ?_) | refine RK.k_ 5 rfl ?_; (first | refine .ldl rfl rfl rfl rfl rfl rfl rfl (by rfl) (by rfl) ?_ | refine .lda _ rfl rfl rfl rfl rfl rfl rfl (by exact take_flat (z := zQ) qc_len (by omega) (by omega) rfl) ?_) | refine RK.k_ 6 rfl ?_; (refine .store rfl rfl rfl rfl rfl rfl rfl (by rfl) (by rfl) (by rfl) ?_))))
            refine .nil ?_ rfl
            refine ⟨a.getD 2 zQ, ⟨ha.at h6, rfl⟩, .heap ?_ rfl⟩
            repeat (first | exact trivial | refine ⟨⟨_, rfl, .refl _⟩, ?_⟩)
          · refine .skip ⟨qcan 0, ⟨.zero hkx, ?_⟩, .heap ?_ rfl⟩
            · rw [qv_can, xs_out (by omega)]
            · repeat (first | exact trivial | refine ⟨⟨_, rfl, .refl _⟩, ?_⟩)
        rintro y ⟨hy1, hy2⟩
        obtain ⟨w1, w2⟩ := hM 2 y m.x2 hy1 (by omega) (by omega)
        rw [hy2] at w1 w2
        repeat (first | (with_reducible refine W.id_ ?_); (refine W.draw mixed (by kernel_rfl) (by kernel_rfl) ?_) | (with_reducible refine RK.id_ ?_); (refine RK.cons_ ?_; (first | refine RK.k_ 0 rfl ?_; refine .p rfl rfl rfl (by exact trivial) ?_ | refine RK.k_ 5 rfl ?_; (refine .ldla rfl rfl rfl rfl rfl rfl rfl (by rfl) rfl ?_))))
        refine .call (w1) rfl rfl rfl rfl ?_
        skip
        refine .call (w2) rfl rfl rfl rfl ?_
        repeat (first | (with_reducible refine W.id_ ?_); (refine W.reg ?_) | (with_reducible refine RK.id_ ?_); (first | refine RK.cons_ ?_; (first | refine RK.k_ 0 rfl ?_; refine .p rfl rfl rfl (by exact trivial) ?_ | refine RK.k_ 1 rfl ?_; (refine .pa rfl rfl rfl rfl rfl rfl (by omega) (by omega) ?_) | refine RK.k_ 6 rfl ?_; (refine .store rfl rfl rfl rfl rfl rfl rfl (by rfl) (by rfl) (by rfl) ?_)) | refine RK.nilT rfl ?_ rfl))
        refine .nil ?_ rfl
        refine ⟨3, by show 4 - 3 < 4 - 2; omega, by show 3 ≤ 4; omega, .cut (Y := [some (.cells [eV a]), some (.cells zeroQ), some (.cells (qc (qcan (ev (xs a) (q.take i))))), some (.loop (busy r) [(3, .ptr 0 0), (4, .ptr 1 0), (5, .ptr 2 0), (14, itP q)]), some (.cells (mc m)), some (.cells (zc (zcan (q.getD i tz).1))), some (.cells (qc (qcan (ev1k (xs a) c m 3))))]) [some (.cells (qc y))] (Nat.le_of_ble_eq_true rfl) ⟨⟨.pure (eV_pure _), trivial⟩, cl0 _, clq _ _, ⟨⟨.ptr (by simp), .ptr (by simp), .ptr (by simp), .pure (itP_pure _), trivial⟩, by simp⟩, clm _ _, clz _ _, clq _ _, trivial⟩ ?_⟩
        repeat (first | exact trivial | refine ⟨⟨_, rfl, .ptr rfl⟩, ?_⟩ | refine ⟨⟨_, rfl, .wk (by repeat (first | exact .int _ _ | exact eM_pure _)) (by exact .refl _)⟩, ?_⟩)
      · repeat (first | (with_reducible refine W.id_ ?_); (first | refine W.sreg ?_ | refine W.seq ?_ | refine W.blockS ?_ | refine W.skipT rfl ?_ | refine W.condT rfl ?_) | (with_reducible refine RK.id_ ?_); (first | refine RK.cons_ ?_; (refine RK.k_ 0 rfl ?_; refine .p rfl rfl rfl (by first | exact trivial | exact ⟨⟨by decide, by decide⟩, Nat.le_of_ble_eq_true rfl⟩) ?_) | refine RK.nilT rfl ?_ rfl))
        refine W.cond_dec rfl (fun h0 => ?_) (fun h0 => ?_)
        · refine W.exitT rfl ?_
          repeat (first | (with_reducible refine W.id_ ?_); (refine W.reg ?_) | (with_reducible refine RK.id_ ?_); (refine RK.cons_ ?_; (first | refine RK.k_ 0 rfl ?_; refine .p rfl rfl rfl (by exact trivial) ?_ | refine RK.k_ 1 rfl ?_; (refine .pa rfl rfl rfl rfl rfl rfl (by omega) (by omega) ?_))))
          refine .nil ?_ rfl
          refine ⟨4, by show 4 - 4 < 4 - 3; omega, by show 4 ≤ 4; omega, .heap ?_ ?_⟩
          · repeat (first | exact trivial | refine ⟨⟨_, rfl, .refl _⟩, ?_⟩)
          · dsimp only
            rw [show ev1k (xs a) c m 4 = ev1k (xs a) c m 3 * xs a 3 ^ m.x3.toNat from rfl, h0, show (0 : Int).toNat = 0 from rfl, Rat.pow_zero, Rat.mul_one]
        repeat ((with_reducible refine W.id_ ?_); (first | refine W.sreg ?_ | refine W.skipT rfl ?_))
        refine .call (hO) rfl rfl rfl rfl ?_
        repeat (first | (with_reducible refine W.id_ ?_); (first | refine W.sreg ?_ | refine W.seq ?_) | (with_reducible refine RK.id_ ?_); (first | refine RK.cons_ ?_; (first | refine RK.k_ 0 rfl ?_; refine .p rfl rfl rfl (by exact trivial) ?_ | refine RK.k_ 5 rfl ?_; (refine .ldl rfl rfl rfl rfl rfl rfl rfl (by rfl) (by rfl) ?_) | refine RK.k_ 6 rfl ?_; (first | refine .alloc _ rfl rfl rfl rfl rfl rfl rfl ?_ | refine .store rfl rfl rfl rfl rfl rfl rfl (by rfl) (by rfl) (by rfl) ?_)) | refine RK.nilT rfl ?_ rfl))
        refine .joinS (fun (y : Q) => Qk kx y ∧ qv y = xs a 3) (fun _ => [(20, I 3), (19, eM m), (9, I 3), (10, I m.x3), (8, .ptr 6 0), (3, .ptr 0 0), (5, .ptr 2 0), (11, .ptr 7 0)]) (fun y => [some (.cells [eV a]), some (.cells zeroQ), some (.cells (qc (qcan (ev (xs a) (q.take i))))), some (.loop (busy r) [(3, .ptr 0 0), (4, .ptr 1 0), (5, .ptr 2 0), (14, itP q)]), some (.cells (mc m)), some (.cells (zc (zcan (q.getD i tz).1))), some (.cells (qc (qcan (ev1k (xs a) c m 3)))), some (.cells (qc y))]) ?_ ?_
        · refine W.cond_dec rfl (fun h5 => ?_) (fun h5 => ?_)
          · have h6 : 3 < a.length := by omega
            repeat (first | (with_reducible refine W.id_ ?_); (refine W.reg ?_) | (with_reducible refine RK.id_ ?_); (refine RK.cons_ ?_; (first | refine RK.k_ 0 rfl ?_; refine .p rfl rfl rfl (by exact trivial) ?_ | refine RK.k_ 4 rfl ?_; (refine .ix _ (s := 3) rfl rfl rfl rfl rfl rfl rfl (by rfl) (by omega) ?_) | refine RK.k_ 5 rfl ?_; (first | refine .ldl rfl rfl rfl rfl rfl rfl rfl (by rfl) (by rfl) ?_ | refine .lda _ rfl rfl rfl rfl rfl rfl rfl (by exact take_flat (z := zQ) qc_len (by omega) (by omega) rfl) ?_) | refine RK.k_ 6 rfl ?_; (refine .store rfl rfl rfl rfl rfl rfl rfl (by rfl) (by rfl) (by rfl) ?_))))
            refine .nil ?_ rfl
            refine ⟨a.getD 3 zQ, ⟨ha.at h6, rfl⟩, .heap ?_ rfl⟩
            repeat (first | exact trivial | refine ⟨⟨_, rfl, .refl _⟩, ?_⟩)
          · refine .skip ⟨qcan 0, ⟨.zero hkx, ?_⟩, .heap ?_ rfl⟩
            · rw [qv_can, xs_out (by omega)]
            · repeat (first | exact trivial | refine ⟨⟨_, rfl, .refl _⟩, ?_⟩)
        rintro y ⟨hy1, hy2⟩
        obtain ⟨w1, w2⟩ := hM 3 y m.x3 hy1 (by omega) (by omega)
        rw [hy2] at w1 w2
        repeat (first | (with_reducible refine W.id_ ?_); (refine W.draw mixed (by kernel_rfl) (by kernel_rfl) ?_) | (with_reducible refine RK.id_ ?_); (refine RK.cons_ ?_; (first | refine RK.k_ 0 rfl ?_; refine .p rfl rfl rfl (by exact trivial) ?_ | refine RK.k_ 5 rfl ?_; (refine .ldla rfl rfl rfl rfl rfl rfl rfl (by rfl) rfl ?_))))
        refine .call (w1) rfl rfl rfl rfl ?_
        skip
        refine .call (w2) rfl rfl rfl rfl ?_
        repeat (first | (with_reducible refine W.id_ ?_); (refine W.reg ?_) | (with_reducible refine RK.id_ ?_); (first | refine RK.cons_ ?_; (first | refine RK.k_ 0 rfl ?_; refine .p rfl rfl rfl (by exact trivial) ?_ | refine RK.k_ 1 rfl ?_; (refine .pa rfl rfl rfl rfl rfl rfl (by omega) (by omega) ?_) | refine RK.k_ 6 rfl ?_; (refine .store rfl rfl rfl rfl rfl rfl rfl (by rfl) (by rfl) (by rfl) ?_)) | refine RK.nilT rfl ?_ rfl))
        refine .nil ?_ rfl
        refine ⟨4, by show 4 - 4 < 4 - 3; omega, by show 4 ≤ 4; omega, .cut (Y := [some (.cells [eV a]), some (.cells zeroQ), some (.cells (qc (qcan (ev (xs a) (q.take i))))), some (.loop (busy r) [(3, .ptr 0 0), (4, .ptr 1 0), (5, .ptr 2 0), (14, itP q)]), some (.cells (mc m)), some (.cells (zc (zcan (q.getD i tz).1))), some (.cells (qc (qcan (ev1k (xs a) c m 4))))]) [some (.cells (qc y))] (Nat.le_of_ble_eq_true rfl) ⟨⟨.pure (eV_pure _), trivial⟩, cl0 _, clq _ _, ⟨⟨.ptr (by simp), .ptr (by simp), .ptr (by simp), .pure (itP_pure _), trivial⟩, by simp⟩, clm _ _, clz _ _, clq _ _, trivial⟩ ?_⟩
        repeat (first | exact trivial | refine ⟨⟨_, rfl, .ptr rfl⟩, ?_⟩ | refine ⟨⟨_, rfl, .wk (by repeat (first | exact .int _ _ | exact eM_pure _)) (by exact .refl _)⟩, ?_⟩)
      · repeat (first | (with_reducible refine W.id_ ?_); (first | refine W.sreg ?_ | refine W.seq ?_ | refine W.condF rfl ?_) | (with_reducible refine RK.id_ ?_); (first | refine RK.cons_ ?_; (refine RK.k_ 0 rfl ?_; refine .p rfl rfl rfl (by exact trivial) ?_) | refine RK.nilT rfl ?_ rfl))
        refine W.exit ⟨4, rfl, .heap ?_ rfl⟩
        repeat (first | exact trivial | refine ⟨⟨_, rfl, .refl _⟩, ?_⟩)
    · rintro k rfl
      repeat (first | (with_reducible refine W.id_ ?_); (refine W.reg ?_) | (with_reducible refine RK.id_ ?_); (refine RK.cons_ ?_; (refine RK.k_ 5 rfl ?_; (refine .ldla rfl rfl rfl rfl rfl rfl rfl (by rfl) rfl ?_))))
      refine .call (hA) rfl rfl rfl rfl ?_
      repeat ((with_reducible refine RK.id_ ?_); (refine RK.cons_ ?_; (refine RK.k_ 6 rfl ?_; (refine .store rfl rfl rfl rfl rfl rfl rfl (by rfl) (by rfl) (by rfl) ?_))))
      refine .nil ?_ rfl
      exact ⟨.dropTail (Y := [some (.cells [eV a]), some (.cells zeroQ), some (.cells (qc (qcan (ev (xs a) (q.take (i + 1)))))), some (.loop (busy r) [(3, .ptr 0 0), (4, .ptr 1 0), (5, .ptr 2 0), (14, itP q)])]) (T := [some (.cells (mc m)), some (.cells (zc (zcan (q.getD i tz).1))), some (.cells (qc (qcan (ev1k (xs a) c m 4))))]) (Nat.le_refl 4) ⟨⟨.pure (eV_pure _), trivial⟩, cl0 _, clq _ _, ⟨⟨.ptr (by simp), .ptr (by simp), .ptr (by simp), .pure (itP_pure _), trivial⟩, by simp⟩, trivial⟩, rfl⟩
  · rw [List.take_of_length_le (Nat.le_refl _)]
    show W _ _ _ _ _ _ _
    repeat (first | (with_reducible refine W.id_ ?_); (refine W.sreg ?_) | (with_reducible refine RK.id_ ?_); (first | refine RK.cons_ ?_; (first | refine RK.k_ 5 rfl ?_; (refine .ldla rfl rfl rfl rfl rfl rfl rfl (by rfl) rfl ?_) | refine RK.k_ 6 rfl ?_; (refine .store rfl rfl rfl rfl rfl rfl rfl (by rfl) (by rfl) (by rfl) ?_)) | refine RK.nilT rfl ?_ rfl))
    refine W.ret ⟨_, rfl, .eq (by repeat (exact eQ_pure _)) ?_, rfl⟩
    rfl
end Go.Proofs.Ytbdefjbekbbldaa

namespace Go.Proofs.Ytbdefjbekbbldaa
open Go.V Go.N
set_option maxHeartbeats 8000000
set_option maxRecDepth 20000

theorem getD_vals {p : List RT} {i : Nat} (h : i < p.length) : (vals p).getD i tz = (zv (p.getD i zT).1, (p.getD i zT).2) := by
  unfold vals
  rw [List.getD_eq_getElem?_getD, List.getElem?_map, List.getElem?_eq_getElem h, List.getD_eq_getElem?_getD, List.getElem?_eq_getElem h]; rfl
theorem vf_mem {p : P} {t : Int × M} (h : t ∈ vf p) : V t.2 ∧ t ∈ p := vf_V h
/-- The value of the terms that count. -/
def evv (x : Nat → Rat) (p : List RT) : Rat := ev x (vf (vals p))
theorem evv_next (x : Nat → Rat) {p : List RT} {i : Nat} (h : i < p.length) : evv x (p.take (i + 1)) = evv x (p.take i) + (if V (p.getD i zT).2 then ((zv (p.getD i zT).1 : Int) : Rat) * ev1 x (p.getD i zT).2 else 0) := by
  unfold evv
  rw [vals_take, vals_take, take_nx (z := tz) (by rw [vals_len]; exact h), vf_append, ev_append, vf_one, getD_vals h]
  split
  · rw [ev, ev, Rat.add_zero]
  · rfl
theorem evv_qb {x : Nat → Rat} {p : List RT} {kc kx L : Nat} {e : Int} (hl : N.l1 (vals p) < B32 ^ kc) (hk : 1 ≤ kc) (hx : ∀ i, Qb kx (x i)) (he : ∀ t ∈ p, V t.2 → Mb e t.2) (hn : p.length ≤ L) : Qb (L * (kc + 4 * (kx * e.toNat + 1) + 1) + 1) (evv x p) := by
  have h1 : N.l1 (vf (vals p)) < B32 ^ kc := Nat.lt_of_le_of_lt (l1_vf _) hl
  have h2 : Eb e (vf (vals p)) := fun t ht => by
    obtain ⟨hv, hm⟩ := vf_mem ht
    obtain ⟨u, hu, rfl⟩ := List.mem_map.1 hm
    exact he u hu hv
  refine (Qb.ev h1 hk hx h2).mono (Nat.add_le_add_right (Nat.mul_le_mul_right _ ?_) 1)
  exact Nat.le_trans (vf_len _) (by rw [vals_len]; exact hn)

/- cylinderref20.Value -/
theorem Value_spec {p : List RT} {a : List Q} {kc kx L : Nat} {e : Int} (hz : ∀ t ∈ p, okZ t.1) (hl : N.l1 (vals p) < B32 ^ kc) (hkc : 1 ≤ kc) (hn : p.length ≤ L) (hL : L ≤ 1000) (he : ∀ t ∈ p, V t.2 → Mb e t.2) (he1 : e ≤ 1000000) (ha : Vk kx a) (hkx : 1 ≤ kx)
    (hb : (L + 4) * (kc + kx + 5 * (kx * e.toNat + 1) + 1) + 2 ≤ 1000000000) : PureFn Try.prog 52 [eP p, eV a] (eQ (qcan (evv (xs a) p))) := by
  have hO := QOf_spec (n := 0) (by decide) (by decide)
  rw [Rat.intCast_zero] at hO
  have han := ha.n
  have hX := ha.xb hkx
  obtain ⟨K, hK⟩ : ∃ K, K = kc + kx + 5 * (kx * e.toNat + 1) + 1 := ⟨_, rfl⟩
  rw [← hK, Nat.add_mul] at hb
  have hQs : ∀ i, Qb (L * K + 1) (evv (xs a) (p.take i)) := fun i => by
    have h1 : N.l1 (vals (p.take i)) < B32 ^ kc := by rw [vals_take]; exact Nat.lt_of_le_of_lt (l1_take _ _) hl
    refine (evv_qb (L := L) h1 hkc hX (fun t ht => he t (List.mem_of_mem_take ht)) (by rw [List.length_take]; omega)).mono (Nat.add_le_add_right (Nat.mul_le_mul_left _ (by omega)) 1)
  refine .of_W (fn := Try.f52) (by repeat (first | exact trivial | refine ⟨(by repeat (first | exact eP_pure _ | exact eV_pure _)), ?_⟩)) Try.call52 Try.func52 rfl rfl ?_
  repeat (first | (with_reducible refine W.id_ ?_); (refine W.sreg ?_) | (with_reducible refine RK.id_ ?_); (first | refine RK.cons_ ?_; (refine RK.k_ 6 rfl ?_; (refine .alloc _ rfl rfl rfl rfl rfl rfl rfl ?_)) | refine RK.nilT rfl ?_ rfl))
  refine .call (hO) rfl rfl rfl rfl ?_
  repeat (first | (with_reducible refine W.id_ ?_); (first | refine W.sreg ?_ | refine W.seq ?_) | (with_reducible refine RK.id_ ?_); (first | refine RK.cons_ ?_; (first | refine RK.k_ 0 rfl ?_; refine .p rfl rfl rfl (by exact trivial) ?_ | refine RK.k_ 6 rfl ?_; (first | refine .alloc _ rfl rfl rfl rfl rfl rfl rfl ?_ | refine .store rfl rfl rfl rfl rfl rfl rfl (by rfl) (by rfl) (by rfl) ?_)) | refine RK.nilT rfl ?_ rfl))
  refine W.loopE (fun i => i ≤ p.length) (fun i => i = p.length) (fun i => p.length - i) (fun i => [(6, I (i : Int)), (5, .ptr 1 0), (4, .ptr 0 0), (0, eP p), (1, eV a)]) (fun i => [some (.cells zeroQ), some (.cells (qc (qcan (evv (xs a) (p.take i)))))]) (0) rfl ?_ ?_ ?_ ?_
  · exact Nat.zero_le _
  · refine .heap ?_ rfl
    repeat (first | exact trivial | refine ⟨⟨_, rfl, .refl _⟩, ?_⟩)
  · intro i hi0
    repeat (first | (with_reducible refine W.id_ ?_); (first | refine W.sreg ?_ | refine W.seq ?_) | (with_reducible refine RK.id_ ?_); (first | refine RK.cons_ ?_; (refine RK.k_ 0 rfl ?_; refine .p rfl rfl rfl (by exact trivial) ?_) | refine RK.nilT rfl ?_ rfl))
    refine W.cond_dec rfl (fun h1 => ?_) (fun h1 => ?_)
    · have hi : i < p.length := by omega
      have hm : p.getD i zT ∈ p := getD_mem hi
      have hzi := hz _ hm
      have hnx := evv_next (xs a) hi
      repeat (first | (with_reducible refine W.id_ ?_); (first | refine W.sreg ?_ | refine W.seq ?_ | refine W.blockS ?_ | refine W.skipT rfl ?_) | (with_reducible refine RK.id_ ?_); (refine RK.cons_ ?_; (first | refine RK.k_ 0 rfl ?_; refine .p rfl rfl rfl (by exact trivial) ?_ | refine RK.k_ 4 rfl ?_; (refine .ix _ (s := 6) rfl rfl rfl rfl rfl rfl rfl (by rfl) (by omega) ?_) | refine RK.k_ 5 rfl ?_; (refine .lda _ rfl rfl rfl rfl rfl rfl rfl (by exact take_part (z := zT) tc_len (by omega) (Nat.le_of_ble_eq_true rfl) (Nat.le_of_ble_eq_true rfl) rfl rfl) ?_))))
      refine .call (Valid_spec (p.getD i zT).2) rfl rfl rfl rfl ?_
      repeat ((with_reducible refine RK.id_ ?_); (first | refine RK.cons_ ?_; (refine RK.k_ 0 rfl ?_; refine .p rfl rfl rfl (by exact trivial) ?_) | refine RK.nilT rfl ?_ rfl))
      refine W.cond_ndec rfl (fun h2 => ?_) (fun h2 => ?_)
      · rw [if_neg h2, Rat.add_zero] at hnx
        refine W.exitT rfl ?_
        repeat (first | (with_reducible refine W.id_ ?_); (refine W.reg ?_) | (with_reducible refine RK.id_ ?_); (refine RK.cons_ ?_; (first | refine RK.k_ 0 rfl ?_; refine .p rfl rfl rfl (by exact trivial) ?_ | refine RK.k_ 1 rfl ?_; (refine .pa rfl rfl rfl rfl rfl rfl (by omega) (by omega) ?_))))
        refine .nil ?_ rfl
        refine ⟨i + 1, by show p.length - (i + 1) < p.length - i; omega, by show i + 1 ≤ _; omega, .heap ?_ ?_⟩
        · repeat (first | exact trivial | refine ⟨⟨_, rfl, .refl _⟩, ?_⟩)
        · dsimp only
          rw [hnx]
      rw [if_pos h2] at hnx
      have hbm := he _ hm h2
      have hcb : (zv (p.getD i zT).1).natAbs < B32 ^ kc := Nat.lt_of_le_of_lt (l1_mem (p := vals p) (t := (zv (p.getD i zT).1, (p.getD i zT).2)) (List.mem_map.2 ⟨_, hm, rfl⟩)) hl
      have hvb : ∀ k, Qb (kc + 4 * (kx * e.toNat + 1)) (ev1k (xs a) ((zv (p.getD i zT).1 : Int) : Rat) (p.getD i zT).2 k) := Qb.ev1k (Qb.int hcb hkc) hX hbm
      have hA := Qadd_spec (Qk.can (hQs i)) (Qk.can (hvb 4)) (by omega) (by omega) (by omega)
      rw [qv_can, qv_can, show evv (xs a) (p.take i) + ev1k (xs a) ((zv (p.getD i zT).1 : Int) : Rat) (p.getD i zT).2 4 = evv (xs a) (p.take (i + 1)) by rw [hnx, ev1k_4]] at hA
      have hM : ∀ (k : Nat) (y : Q) (n : Nat), Qk kx y → (n : Int) ≤ e → PureFn Try.prog 54 [eQ (qcan (ev1k (xs a) ((zv (p.getD i zT).1 : Int) : Rat) (p.getD i zT).2 k * qv y ^ n)), eQ y] (eQ (qcan (ev1k (xs a) ((zv (p.getD i zT).1 : Int) : Rat) (p.getD i zT).2 k * qv y ^ (n + 1)))) := fun k y n hy hn => by
        have h3 : kx * n ≤ kx * e.toNat := Nat.mul_le_mul_left _ (by omega)
        have hm := Qmul_spec (Qk.can ((hvb k).mul ((hy.qb hkx).pow n))) hy (by omega) hkx (by omega)
        rw [qv_can, Rat.mul_assoc, ← Rat.pow_succ] at hm
        exact hm
      unfold Mb at hbm
      repeat (first | (with_reducible refine W.id_ ?_); (first | refine W.sreg ?_ | refine W.skipT rfl ?_) | (with_reducible refine RK.id_ ?_); (refine RK.cons_ ?_; (first | refine RK.k_ 0 rfl ?_; refine .p rfl rfl rfl (by exact trivial) ?_ | refine RK.k_ 4 rfl ?_; (refine .ix _ (s := 6) rfl rfl rfl rfl rfl rfl rfl (by rfl) (by omega) ?_) | refine RK.k_ 5 rfl ?_; (refine .lda _ rfl rfl rfl rfl rfl rfl rfl (by exact take_part (z := zT) tc_len (by omega) (Nat.le_of_ble_eq_true rfl) (Nat.le_of_ble_eq_true rfl) rfl rfl) ?_))))
      refine .call (QFrom_spec hzi) rfl rfl rfl rfl ?_
      repeat (first | (with_reducible refine W.id_ ?_); (first | refine W.sreg ?_ | refine W.seq ?_) | (with_reducible refine RK.id_ ?_); (first | refine RK.cons_ ?_; (first | refine RK.k_ 0 rfl ?_; refine .p rfl rfl rfl (by exact trivial) ?_ | refine RK.k_ 6 rfl ?_; (first | refine .alloc _ rfl rfl rfl rfl rfl rfl rfl ?_ | refine .store rfl rfl rfl rfl rfl rfl rfl (by rfl) (by rfl) (by rfl) ?_)) | refine RK.nilT rfl ?_ rfl))
      generalize hmm : (p.getD i zT).2 = m at *
      generalize hcc : ((zv (p.getD i zT).1 : Int) : Rat) = c at *
      refine W.loopE (fun k => k ≤ 4) (fun k => k = 4) (fun k => 4 - k) (fun k => [(8, I (k : Int)), (7, .ptr 2 0), (6, I (i : Int)), (5, .ptr 1 0), (4, .ptr 0 0), (0, eP p), (1, eV a)]) (fun k => [some (.cells zeroQ), some (.cells (qc (qcan (evv (xs a) (p.take i))))), some (.cells (qc (qcan (ev1k (xs a) c m k))))]) (0) rfl ?_ ?_ ?_ ?_
      · exact Nat.zero_le _
      · refine .heap ?_ rfl
        repeat (first | exact trivial | refine ⟨⟨_, rfl, .refl _⟩, ?_⟩)
      · intro k hk
        obtain rfl | rfl | rfl | rfl | rfl : k = 0 ∨ k = 1 ∨ k = 2 ∨ k = 3 ∨ k = 4 := by omega
        · have hgx : (p.getD i zT).2.x0 = m.x0 := by rw [hmm]
          repeat (first | (with_reducible refine W.id_ ?_); (first | refine W.sreg ?_ | refine W.seq ?_ | refine W.blockS ?_ | refine W.skipT rfl ?_ | refine W.condT rfl ?_) | (with_reducible refine RK.id_ ?_); (first | refine RK.cons_ ?_; (refine RK.k_ 0 rfl ?_; refine .p rfl rfl rfl (by exact trivial) ?_) | refine RK.nilT rfl ?_ rfl))
          refine .call (hO) rfl rfl rfl rfl ?_
          repeat (first | (with_reducible refine W.id_ ?_); (first | refine W.sreg ?_ | refine W.seq ?_) | (with_reducible refine RK.id_ ?_); (first | refine RK.cons_ ?_; (first | refine RK.k_ 0 rfl ?_; refine .p rfl rfl rfl (by exact trivial) ?_ | refine RK.k_ 6 rfl ?_; (first | refine .alloc _ rfl rfl rfl rfl rfl rfl rfl ?_ | refine .store rfl rfl rfl rfl rfl rfl rfl (by rfl) (by rfl) (by rfl) ?_)) | refine RK.nilT rfl ?_ rfl))
          refine .joinS (fun (y : Q) => Qk kx y ∧ qv y = xs a 0) (fun _ => [(8, I 0), (9, .ptr 3 0), (7, .ptr 2 0), (6, I (i : Int)), (5, .ptr 1 0), (4, .ptr 0 0), (0, eP p), (1, eV a)]) (fun y => [some (.cells zeroQ), some (.cells (qc (qcan (evv (xs a) (p.take i))))), some (.cells (qc (qcan (ev1k (xs a) c m 0)))), some (.cells (qc y))]) ?_ ?_
          · refine W.cond_dec rfl (fun h5 => ?_) (fun h5 => ?_)
            · have h6 : 0 < a.length := by omega
              repeat (first | (with_reducible refine W.id_ ?_); (refine W.reg ?_) | (with_reducible refine RK.id_ ?_); (refine RK.cons_ ?_; (first | refine RK.k_ 0 rfl ?_; refine .p rfl rfl rfl (by exact trivial) ?_ | refine RK.k_ 4 rfl ?_; (refine .ix _ (s := 3) rfl rfl rfl rfl rfl rfl rfl (by rfl) (by omega) ?_) | refine RK.k_ 5 rfl ?_; (refine .lda _ rfl rfl rfl rfl rfl rfl rfl (by exact take_flat (z := zQ) qc_len (by omega) (by omega) rfl) ?_) | refine RK.k_ 6 rfl ?_; (refine .store rfl rfl rfl rfl rfl rfl rfl (by rfl) (by rfl) (by rfl) ?_))))
              refine .nil ?_ rfl
              refine ⟨a.getD 0 zQ, ⟨ha.at h6, rfl⟩, .heap ?_ rfl⟩
              repeat (first | exact trivial | refine ⟨⟨_, rfl, .refl _⟩, ?_⟩)
            · refine .skip ⟨qcan 0, ⟨.zero hkx, ?_⟩, .heap ?_ rfl⟩
              · rw [qv_can, xs_out (by omega)]
              · repeat (first | exact trivial | refine ⟨⟨_, rfl, .refl _⟩, ?_⟩)
          rintro y ⟨hy1, hy2⟩
          repeat (first | (with_reducible refine W.id_ ?_); (refine W.sreg ?_) | (with_reducible refine RK.id_ ?_); (first | refine RK.cons_ ?_; (refine RK.k_ 0 rfl ?_; refine .p rfl rfl rfl (by exact trivial) ?_) | refine RK.nilT rfl ?_ rfl))
          refine W.loopE (fun n => n ≤ m.x0.toNat) (fun n => n = m.x0.toNat) (fun n => m.x0.toNat - n) (fun n => [(10, I (n : Int)), (8, I 0), (9, .ptr 3 0), (7, .ptr 2 0), (6, I (i : Int)), (5, .ptr 1 0), (4, .ptr 0 0), (0, eP p), (1, eV a)]) (fun n => [some (.cells zeroQ), some (.cells (qc (qcan (evv (xs a) (p.take i))))), some (.cells (qc (qcan (ev1k (xs a) c m 0 * qv y ^ n)))), some (.cells (qc y))]) (0) rfl ?_ ?_ ?_ ?_
          · exact Nat.zero_le _
          · refine .heap ?_ ?_
            · repeat (first | exact trivial | refine ⟨⟨_, rfl, .refl _⟩, ?_⟩)
            · rw [Rat.pow_zero, Rat.mul_one]
          · intro n hn
            repeat (first | (with_reducible refine W.id_ ?_); (first | refine W.sreg ?_ | refine W.seq ?_) | (with_reducible refine RK.id_ ?_); (first | refine RK.cons_ ?_; (first | refine RK.k_ 0 rfl ?_; refine .p rfl rfl rfl (by exact trivial) ?_ | refine RK.k_ 4 rfl ?_; (first | refine .ix _ (s := 6) rfl rfl rfl rfl rfl rfl rfl (by rfl) (by omega) ?_ | refine .p rfl rfl rfl (by omega) ?_) | refine RK.k_ 5 rfl ?_; (refine .ld _ rfl rfl rfl rfl rfl rfl (by exact get_flat tc_len (z := zT) (j := 2) (by omega) (Nat.le_of_ble_eq_true rfl) rfl rfl) ?_)) | refine RK.nilT rfl ?_ rfl))
            refine W.cond_dec rfl (fun h6 => ?_) (fun h6 => ?_)
            · rw [hgx] at h6
              repeat (first | (with_reducible refine W.id_ ?_); (first | refine W.reg ?_ | refine W.seq ?_ | refine W.blockR ?_ | refine W.skipT rfl ?_) | (with_reducible refine RK.id_ ?_); (refine RK.cons_ ?_; (refine RK.k_ 5 rfl ?_; (refine .ldla rfl rfl rfl rfl rfl rfl rfl (by rfl) rfl ?_))))
              refine .call (hM 0 y n hy1 (by omega)) rfl rfl rfl rfl ?_
              repeat (first | (with_reducible refine W.id_ ?_); (refine W.reg ?_) | (with_reducible refine RK.id_ ?_); (first | refine RK.cons_ ?_; (first | refine RK.k_ 0 rfl ?_; refine .p rfl rfl rfl (by exact trivial) ?_ | refine RK.k_ 1 rfl ?_; (refine .pa rfl rfl rfl rfl rfl rfl (by omega) (by omega) ?_) | refine RK.k_ 6 rfl ?_; (refine .store rfl rfl rfl rfl rfl rfl rfl (by rfl) (by rfl) (by rfl) ?_)) | refine RK.nilT rfl ?_ rfl))
              refine .nil ?_ rfl
              refine ⟨n + 1, by show m.x0.toNat - (n + 1) < m.x0.toNat - n; omega, by show n + 1 ≤ _; omega, .heap ?_ rfl⟩
              repeat (first | exact trivial | refine ⟨⟨_, rfl, .refl _⟩, ?_⟩)
            · rw [hgx] at h6
              refine W.exit ⟨n, by show n = _; omega, .heap ?_ rfl⟩
              repeat (first | exact trivial | refine ⟨⟨_, rfl, .refl _⟩, ?_⟩)
          · rintro n rfl
            rw [hy2, show ev1k (xs a) c m 0 * xs a 0 ^ m.x0.toNat = ev1k (xs a) c m 1 from rfl]
            repeat (first | (with_reducible refine W.id_ ?_); (refine W.reg ?_) | (with_reducible refine RK.id_ ?_); (refine RK.cons_ ?_; (first | refine RK.k_ 0 rfl ?_; refine .p rfl rfl rfl (by exact trivial) ?_ | refine RK.k_ 1 rfl ?_; (refine .pa rfl rfl rfl rfl rfl rfl (by omega) (by omega) ?_))))
            refine .nil ?_ rfl
            refine ⟨1, by show 4 - 1 < 4 - 0; omega, by show 1 ≤ 4; omega, .cut (Y := [some (.cells zeroQ), some (.cells (qc (qcan (evv (xs a) (p.take i))))), some (.cells (qc (qcan (ev1k (xs a) c m 1))))]) [some (.cells (qc y))] (Nat.zero_le _) ⟨cl0 _, clq _ _, clq _ _, trivial⟩ ?_⟩
            repeat (first | exact trivial | refine ⟨⟨_, rfl, .ptr rfl⟩, ?_⟩ | refine ⟨⟨_, rfl, .wk (by repeat (first | exact .int _ _ | exact eP_pure _ | exact eV_pure _)) (by exact .refl _)⟩, ?_⟩)
        · have hgx : (p.getD i zT).2.x1 = m.x1 := by rw [hmm]
          repeat (first | (with_reducible refine W.id_ ?_); (first | refine W.sreg ?_ | refine W.seq ?_ | refine W.blockS ?_ | refine W.skipT rfl ?_ | refine W.condT rfl ?_) | (with_reducible refine RK.id_ ?_); (first | refine RK.cons_ ?_; (refine RK.k_ 0 rfl ?_; refine .p rfl rfl rfl (by exact trivial) ?_) | refine RK.nilT rfl ?_ rfl))
          refine .call (hO) rfl rfl rfl rfl ?_
          repeat (first | (with_reducible refine W.id_ ?_); (first | refine W.sreg ?_ | refine W.seq ?_) | (with_reducible refine RK.id_ ?_); (first | refine RK.cons_ ?_; (first | refine RK.k_ 0 rfl ?_; refine .p rfl rfl rfl (by exact trivial) ?_ | refine RK.k_ 6 rfl ?_; (first | refine .alloc _ rfl rfl rfl rfl rfl rfl rfl ?_ | refine .store rfl rfl rfl rfl rfl rfl rfl (by rfl) (by rfl) (by rfl) ?_)) | refine RK.nilT rfl ?_ rfl))
          refine .joinS (fun (y : Q) => Qk kx y ∧ qv y = xs a 1) (fun _ => [(8, I 1), (9, .ptr 3 0), (7, .ptr 2 0), (6, I (i : Int)), (5, .ptr 1 0), (4, .ptr 0 0), (0, eP p), (1, eV a)]) (fun y => [some (.cells zeroQ), some (.cells (qc (qcan (evv (xs a) (p.take i))))), some (.cells (qc (qcan (ev1k (xs a) c m 1)))), some (.cells (qc y))]) ?_ ?_
          · refine W.cond_dec rfl (fun h5 => ?_) (fun h5 => ?_)
            · have h6 : 1 < a.length := by omega
              repeat (first | (with_reducible refine W.id_ ?_); (refine W.reg ?_) | (with_reducible refine RK.id_ ?_); (refine RK.cons_ ?_; (first | refine RK.k_ 0 rfl ?_; refine .p rfl rfl rfl (by exact trivial) ?_ | refine RK.k_ 4 rfl ?_; (refine .ix _ (s := 3) rfl rfl rfl rfl rfl rfl rfl (by rfl) (by omega) ?_) | refine RK.k_ 5 rfl ?_; (refine .lda _ rfl rfl rfl rfl rfl rfl rfl (by exact take_flat (z := zQ) qc_len (by omega) (by omega) rfl) ?_) | refine RK.k_ 6 rfl ?_; (refine .store rfl rfl rfl rfl rfl rfl rfl (by rfl) (by rfl) (by rfl) ?_))))
              refine .nil ?_ rfl
              refine ⟨a.getD 1 zQ, ⟨ha.at h6, rfl⟩, .heap ?_ rfl⟩
              repeat (first | exact trivial | refine ⟨⟨_, rfl, .refl _⟩, ?_⟩)
            · refine .skip ⟨qcan 0, ⟨.zero hkx, ?_⟩, .heap ?_ rfl⟩
              · rw [qv_can, xs_out (by omega)]
              · repeat (first | exact trivial | refine ⟨⟨_, rfl, .refl _⟩, ?_⟩)
          rintro y ⟨hy1, hy2⟩
          repeat (first | (with_reducible refine W.id_ ?_); (refine W.sreg ?_) | (with_reducible refine RK.id_ ?_); (first | refine RK.cons_ ?_; (refine RK.k_ 0 rfl ?_; refine .p rfl rfl rfl (by exact trivial) ?_) | refine RK.nilT rfl ?_ rfl))
          refine W.loopE (fun n => n ≤ m.x1.toNat) (fun n => n = m.x1.toNat) (fun n => m.x1.toNat - n) (fun n => [(10, I (n : Int)), (8, I 1), (9, .ptr 3 0), (7, .ptr 2 0), (6, I (i : Int)), (5, .ptr 1 0), (4, .ptr 0 0), (0, eP p), (1, eV a)]) (fun n => [some (.cells zeroQ), some (.cells (qc (qcan (evv (xs a) (p.take i))))), some (.cells (qc (qcan (ev1k (xs a) c m 1 * qv y ^ n)))), some (.cells (qc y))]) (0) rfl ?_ ?_ ?_ ?_
          · exact Nat.zero_le _
          · refine .heap ?_ ?_
            · repeat (first | exact trivial | refine ⟨⟨_, rfl, .refl _⟩, ?_⟩)
            · rw [Rat.pow_zero, Rat.mul_one]
          · intro n hn
            repeat (first | (with_reducible refine W.id_ ?_); (first | refine W.sreg ?_ | refine W.seq ?_) | (with_reducible refine RK.id_ ?_); (first | refine RK.cons_ ?_; (first | refine RK.k_ 0 rfl ?_; refine .p rfl rfl rfl (by exact trivial) ?_ | refine RK.k_ 4 rfl ?_; (first | refine .ix _ (s := 6) rfl rfl rfl rfl rfl rfl rfl (by rfl) (by omega) ?_ | refine .p rfl rfl rfl (by omega) ?_) | refine RK.k_ 5 rfl ?_; (refine .ld _ rfl rfl rfl rfl rfl rfl (by exact get_flat tc_len (z := zT) (j := 3) (by omega) (Nat.le_of_ble_eq_true rfl) rfl rfl) ?_)) | refine RK.nilT rfl ?_ rfl))
            refine W.cond_dec rfl (fun h6 => ?_) (fun h6 => ?_)
            · rw [hgx] at h6
              repeat (first | (with_reducible refine W.id_ ?_); (first | refine W.reg ?_ | refine W.seq ?_ | refine W.blockR ?_ | refine W.skipT rfl ?_) | (with_reducible refine RK.id_ ?_); (refine RK.cons_ ?_; (refine RK.k_ 5 rfl ?_; (refine .ldla rfl rfl rfl rfl rfl rfl rfl (by rfl) rfl ?_))))
              refine .call (hM 1 y n hy1 (by omega)) rfl rfl rfl rfl ?_
              repeat (first | (with_reducible refine W.id_ ?_); (refine W.reg ?_) | (with_reducible refine RK.id_ ?_); (first | refine RK.cons_ ?_; (first | refine RK.k_ 0 rfl ?_; refine .p rfl rfl rfl (by exact trivial) ?_ | refine RK.k_ 1 rfl ?_; (refine .pa rfl rfl rfl rfl rfl rfl (by omega) (by omega) ?_) | refine RK.k_ 6 rfl ?_; (refine .store rfl rfl rfl rfl rfl rfl rfl (by rfl) (by rfl) (by rfl) ?_)) | refine RK.nilT rfl ?_ rfl))
              refine .nil ?_ rfl
              refine ⟨n + 1, by show m.x1.toNat - (n + 1) < m.x1.toNat - n; omega, by show n + 1 ≤ _; omega, .heap ?_ rfl⟩
              repeat (first | exact trivial | refine ⟨⟨_, rfl, .refl _⟩, ?_⟩)
            · rw [hgx] at h6
              refine W.exit ⟨n, by show n = _; omega, .heap ?_ rfl⟩
              repeat (first | exact trivial | refine ⟨⟨_, rfl, .refl _⟩, ?_⟩)
          · rintro n rfl
            rw [hy2, show ev1k (xs a) c m 1 * xs a 1 ^ m.x1.toNat = ev1k (xs a) c m 2 from rfl]
            repeat (first | (with_reducible refine W.id_ ?_); (refine W.reg ?_) | (with_reducible refine RK.id_ ?_); (refine RK.cons_ ?_; (first | refine RK.k_ 0 rfl ?_; refine .p rfl rfl rfl (by exact trivial) ?_ | refine RK.k_ 1 rfl ?_; (refine .pa rfl rfl rfl rfl rfl rfl (by omega) (by omega) ?_))))
            refine .nil ?_ rfl
            refine ⟨2, by show 4 - 2 < 4 - 1; omega, by show 2 ≤ 4; omega, .cut (Y := [some (.cells zeroQ), some (.cells (qc (qcan (evv (xs a) (p.take i))))), some (.cells (qc (qcan (ev1k (xs a) c m 2))))]) [some (.cells (qc y))] (Nat.zero_le _) ⟨cl0 _, clq _ _, clq _ _, trivial⟩ ?_⟩
            repeat (first | exact trivial | refine ⟨⟨_, rfl, .ptr rfl⟩, ?_⟩ | refine ⟨⟨_, rfl, .wk (by repeat (first | exact .int _ _ | exact eP_pure _ | exact eV_pure _)) (by exact .refl _)⟩, ?_⟩)
        · have hgx : (p.getD i zT).2.x2 = m.x2 := by rw [hmm]
          repeat (first | (with_reducible refine W.id_ ?_); (first | refine W.sreg ?_ | refine W.seq ?_ | refine W.blockS ?_ | refine W.skipT rfl ?_ | refine W.condT rfl ?_) | (with_reducible refine RK.id_ ?_); (first | refine RK.cons_ ?_; (refine RK.k_ 0 rfl ?_; refine .p rfl rfl rfl (by exact trivial) ?_) | refine RK.nilT rfl ?_ rfl))
          refine .call (hO) rfl rfl rfl rfl ?_
          repeat (first | (with_reducible refine W.id_ ?_); (first | refine W.sreg ?_ | refine W.seq ?_) | (with_reducible refine RK.id_ ?_); (first | refine RK.cons_ ?_; (first | refine RK.k_ 0 rfl ?_; refine .p rfl rfl rfl (by exact trivial) ?_ | refine RK.k_ 6 rfl ?_; (first | refine .alloc _ rfl rfl rfl rfl rfl rfl rfl ?_ | refine .store rfl rfl rfl rfl rfl rfl rfl (by rfl) (by rfl) (by rfl) ?_)) | refine RK.nilT rfl ?_ rfl))
          refine .joinS (fun (y : Q) => Qk kx y ∧ qv y = xs a 2) (fun _ => [(8, I 2), (9, .ptr 3 0), (7, .ptr 2 0), (6, I (i : Int)), (5, .ptr 1 0), (4, .ptr 0 0), (0, eP p), (1, eV a)]) (fun y => [some (.cells zeroQ), some (.cells (qc (qcan (evv (xs a) (p.take i))))), some (.cells (qc (qcan (ev1k (xs a) c m 2)))), some (.cells (qc y))]) ?_ ?_
          · refine W.cond_dec rfl (fun h5 => ?_) (fun h5 => ?_)
            · have h6 : 2 < a.length := by omega
              repeat (first | (with_reducible refine W.id_ ?_); (refine W.reg ?_) | (with_reducible refine RK.id_ ?_); (refine RK.cons_ ?_; (first | refine RK.k_ 0 rfl ?_; refine .p rfl rfl rfl (by exact trivial) ?_ | refine RK.k_ 4 rfl ?_; (refine .ix _ (s := 3) rfl rfl rfl rfl rfl rfl rfl (by rfl) (by omega) ?_) | refine RK.k_ 5 rfl ?_; (refine .lda _ rfl rfl rfl rfl rfl rfl rfl (by exact take_flat (z := zQ) qc_len (by omega) (by omega) rfl) ?_) | refine RK.k_ 6 rfl ?_; (refine .store rfl rfl rfl rfl rfl rfl rfl (by rfl) (by rfl) (by rfl) ?_))))
              refine .nil ?_ rfl
              refine ⟨a.getD 2 zQ, ⟨ha.at h6, rfl⟩, .heap ?_ rfl⟩
              repeat (first | exact trivial | refine ⟨⟨_, rfl, .refl _⟩, ?_⟩)
            · refine .skip ⟨qcan 0, ⟨.zero hkx, ?_⟩, .heap ?_ rfl⟩
              · rw [qv_can, xs_out (by omega)]
              · repeat (first | exact trivial | refine ⟨⟨_, rfl, .refl _⟩, ?_⟩)
          rintro y ⟨hy1, hy2⟩
          repeat (first | (with_reducible refine W.id_ ?_); (refine W.sreg ?_) | (with_reducible refine RK.id_ ?_); (first | refine RK.cons_ ?_; (refine RK.k_ 0 rfl ?_; refine .p rfl rfl rfl (by exact trivial) ?_) | refine RK.nilT rfl ?_ rfl))
          refine W.loopE (fun n => n ≤ m.x2.toNat) (fun n => n = m.x2.toNat) (fun n => m.x2.toNat - n) (fun n => [(10, I (n : Int)), (8, I 2), (9, .ptr 3 0), (7, .ptr 2 0), (6, I (i : Int)), (5, .ptr 1 0), (4, .ptr 0 0), (0, eP p), (1, eV a)]) (fun n => [some (.cells zeroQ), some (.cells (qc (qcan (evv (xs a) (p.take i))))), some (.cells (qc (qcan (ev1k (xs a) c m 2 * qv y ^ n)))), some (.cells (qc y))]) (0) rfl ?_ ?_ ?_ ?_
          · exact Nat.zero_le _
          · refine .heap ?_ ?_
            · repeat (first | exact trivial | refine ⟨⟨_, rfl, .refl _⟩, ?_⟩)
            · rw [Rat.pow_zero, Rat.mul_one]
          · intro n hn
            repeat (first | (with_reducible refine W.id_ ?_); (first | refine W.sreg ?_ | refine W.seq ?_) | (with_reducible refine RK.id_ ?_); (first | refine RK.cons_ ?_; (first | refine RK.k_ 0 rfl ?_; refine .p rfl rfl rfl (by exact trivial) ?_ | refine RK.k_ 4 rfl ?_; (first | refine .ix _ (s := 6) rfl rfl rfl rfl rfl rfl rfl (by rfl) (by omega) ?_ | refine .p rfl rfl rfl (by omega) ?_) | refine RK.k_ 5 rfl ?_; (refine .ld _ rfl rfl rfl rfl rfl rfl (by exact get_flat tc_len (z := zT) (j := 4) (by omega) (Nat.le_of_ble_eq_true rfl) rfl rfl) ?_)) | refine RK.nilT rfl ?_ rfl))
            refine W.cond_dec rfl (fun h6 => ?_) (fun h6 => ?_)
            · rw [hgx] at h6
              repeat (first | (with_reducible refine W.id_ ?_); (first | refine W.reg ?_ | refine W.seq ?_ | refine W.blockR ?_ | refine W.skipT rfl ?_) | (with_reducible refine RK.id_ ?_); (refine RK.cons_ ?_; (refine RK.k_ 5 rfl ?_; (refine .ldla rfl rfl rfl rfl rfl rfl rfl (by rfl) rfl ?_))))
              refine .call (hM 2 y n hy1 (by omega)) rfl rfl rfl rfl ?_
              repeat (first | (with_reducible refine W.id_ ?_); (refine W.reg ?_) | (with_reducible refine RK.id_ ?_); (first | refine RK.cons_ ?_; (first | refine RK.k_ 0 rfl ?_; refine .p rfl rfl rfl (by exact trivial) ?_ | refine RK.k_ 1 rfl ?_; (refine .pa rfl rfl rfl rfl rfl rfl (by omega) (by omega) ?_) | refine RK.k_ 6 rfl ?_; (refine .store rfl rfl rfl rfl rfl rfl rfl (by rfl) (by rfl) (by rfl) ?_)) | refine RK.nilT rfl ?_ rfl))
              refine .nil ?_ rfl
              refine ⟨n + 1, by show m.x2.toNat - (n + 1) < m.x2.toNat - n; omega, by show n + 1 ≤ _; omega, .heap ?_ rfl⟩
              repeat (first | exact trivial | refine ⟨⟨_, rfl, .refl _⟩, ?_⟩)
            · rw [hgx] at h6
              refine W.exit ⟨n, by show n = _; omega, .heap ?_ rfl⟩
              repeat (first | exact trivial | refine ⟨⟨_, rfl, .refl _⟩, ?_⟩)
          · rintro n rfl
            rw [hy2, show ev1k (xs a) c m 2 * xs a 2 ^ m.x2.toNat = ev1k (xs a) c m 3 from rfl]
            repeat (first | (with_reducible refine W.id_ ?_); (refine W.reg ?_) | (with_reducible refine RK.id_ ?_); (refine RK.cons_ ?_; (first | refine RK.k_ 0 rfl ?_; refine .p rfl rfl rfl (by exact trivial) ?_ | refine RK.k_ 1 rfl ?_; (refine .pa rfl rfl rfl rfl rfl rfl (by omega) (by omega) ?_))))
            refine .nil ?_ rfl
            refine ⟨3, by show 4 - 3 < 4 - 2; omega, by show 3 ≤ 4; omega, .cut (Y := [some (.cells zeroQ), some (.cells (qc (qcan (evv (xs a) (p.take i))))), some (.cells (qc (qcan (ev1k (xs a) c m 3))))]) [some (.cells (qc y))] (Nat.zero_le _) ⟨cl0 _, clq _ _, clq _ _, trivial⟩ ?_⟩
            repeat (first | exact trivial | refine ⟨⟨_, rfl, .ptr rfl⟩, ?_⟩ | refine ⟨⟨_, rfl, .wk (by repeat (first | exact .int _ _ | exact eP_pure _ | exact eV_pure _)) (by exact .refl _)⟩, ?_⟩)
        · have hgx : (p.getD i zT).2.x3 = m.x3 := by rw [hmm]
          repeat (first | (with_reducible refine W.id_ ?_); (first | refine W.sreg ?_ | refine W.seq ?_ | refine W.blockS ?_ | refine W.skipT rfl ?_ | refine W.condT rfl ?_) | (with_reducible refine RK.id_ ?_); (first | refine RK.cons_ ?_; (refine RK.k_ 0 rfl ?_; refine .p rfl rfl rfl (by exact trivial) ?_) | refine RK.nilT rfl ?_ rfl))
          refine .call (hO) rfl rfl rfl rfl ?_
          repeat (first | (with_reducible refine W.id_ ?_); (first | refine W.sreg ?_ | refine W.seq ?_) | (with_reducible refine RK.id_ ?_); (first | refine RK.cons_ ?_; (first | refine RK.k_ 0 rfl ?_; refine .p rfl rfl rfl (by exact trivial) ?_ | refine RK.k_ 6 rfl ?_; (first | refine .alloc _ rfl rfl rfl rfl rfl rfl rfl ?_ | refine .store rfl rfl rfl rfl rfl rfl rfl (by rfl) (by rfl) (by rfl) ?_)) | refine RK.nilT rfl ?_ rfl))
          refine .joinS (fun (y : Q) => Qk kx y ∧ qv y = xs a 3) (fun _ => [(8, I 3), (9, .ptr 3 0), (7, .ptr 2 0), (6, I (i : Int)), (5, .ptr 1 0), (4, .ptr 0 0), (0, eP p), (1, eV a)]) (fun y => [some (.cells zeroQ), some (.cells (qc (qcan (evv (xs a) (p.take i))))), some (.cells (qc (qcan (ev1k (xs a) c m 3)))), some (.cells (qc y))]) ?_ ?_
          · refine W.cond_dec rfl (fun h5 => ?_) (fun h5 => ?_)
            · have h6 : 3 < a.length := by omega
              repeat (first | (with_reducible refine W.id_ ?_); (refine W.reg ?_) | (with_reducible refine RK.id_ ?_); (refine RK.cons_ ?_; (first | refine RK.k_ 0 rfl ?_; refine .p rfl rfl rfl (by exact trivial) ?_ | refine RK.k_ 4 rfl ?_; (refine .ix _ (s := 3) rfl rfl rfl rfl rfl rfl rfl (by rfl) (by omega) ?_) | refine RK.k_ 5 rfl ?_; (refine .lda _ rfl rfl rfl rfl rfl rfl rfl (by exact take_flat (z := zQ) qc_len (by omega) (by omega) rfl) ?_) | refine RK.k_ 6 rfl ?_; (refine .store rfl rfl rfl rfl rfl rfl rfl (by rfl) (by rfl) (by rfl) ?_))))
              refine .nil ?_ rfl
              refine ⟨a.getD 3 zQ, ⟨ha.at h6, rfl⟩, .heap ?_ rfl⟩
              repeat (first | exact trivial | refine ⟨⟨_, rfl, .refl _⟩, ?_⟩)
            · refine .skip ⟨qcan 0, ⟨.zero hkx, ?_⟩, .heap ?_ rfl⟩
              · rw [qv_can, xs_out (by omega)]
              · repeat (first | exact trivial | refine ⟨⟨_, rfl, .refl _⟩, ?_⟩)
          rintro y ⟨hy1, hy2⟩
          repeat (first | (with_reducible refine W.id_ ?_); (refine W.sreg ?_) | (with_reducible refine RK.id_ ?_); (first | refine RK.cons_ ?_; (refine RK.k_ 0 rfl ?_; refine .p rfl rfl rfl (by exact trivial) ?_) | refine RK.nilT rfl ?_ rfl))
          refine W.loopE (fun n => n ≤ m.x3.toNat) (fun n => n = m.x3.toNat) (fun n => m.x3.toNat - n) (fun n => [(10, I (n : Int)), (8, I 3), (9, .ptr 3 0), (7, .ptr 2 0), (6, I (i : Int)), (5, .ptr 1 0), (4, .ptr 0 0), (0, eP p), (1, eV a)]) (fun n => [some (.cells zeroQ), some (.cells (qc (qcan (evv (xs a) (p.take i))))), some (.cells (qc (qcan (ev1k (xs a) c m 3 * qv y ^ n)))), some (.cells (qc y))]) (0) rfl ?_ ?_ ?_ ?_
          · exact Nat.zero_le _
          · refine .heap ?_ ?_
            · repeat (first | exact trivial | refine ⟨⟨_, rfl, .refl _⟩, ?_⟩)
            · rw [Rat.pow_zero, Rat.mul_one]
          · intro n hn
            repeat (first | (with_reducible refine W.id_ ?_); (first | refine W.sreg ?_ | refine W.seq ?_) | (with_reducible refine RK.id_ ?_); (first | refine RK.cons_ ?_; (first | refine RK.k_ 0 rfl ?_; refine .p rfl rfl rfl (by exact trivial) ?_ | refine RK.k_ 4 rfl ?_; (first | refine .ix _ (s := 6) rfl rfl rfl rfl rfl rfl rfl (by rfl) (by omega) ?_ | refine .p rfl rfl rfl (by omega) ?_) | refine RK.k_ 5 rfl ?_; (refine .ld _ rfl rfl rfl rfl rfl rfl (by exact get_flat tc_len (z := zT) (j := 5) (by omega) (Nat.le_of_ble_eq_true rfl) rfl rfl) ?_)) | refine RK.nilT rfl ?_ rfl))
            refine W.cond_dec rfl (fun h6 => ?_) (fun h6 => ?_)
            · rw [hgx] at h6
              repeat (first | (with_reducible refine W.id_ ?_); (first | refine W.reg ?_ | refine W.seq ?_ | refine W.blockR ?_ | refine W.skipT rfl ?_) | (with_reducible refine RK.id_ ?_); (refine RK.cons_ ?_; (refine RK.k_ 5 rfl ?_; (refine .ldla rfl rfl rfl rfl rfl rfl rfl (by rfl) rfl ?_))))
              refine .call (hM 3 y n hy1 (by omega)) rfl rfl rfl rfl ?_
              repeat (first | (with_reducible refine W.id_ ?_); (refine W.reg ?_) | (with_reducible refine RK.id_ ?_); (first | refine RK.cons_ ?_; (first | refine RK.k_ 0 rfl ?_; refine .p rfl rfl rfl (by exact trivial) ?_ | refine RK.k_ 1 rfl ?_; (refine .pa rfl rfl rfl rfl rfl rfl (by omega) (by omega) ?_) | refine RK.k_ 6 rfl ?_; (refine .store rfl rfl rfl rfl rfl rfl rfl (by rfl) (by rfl) (by rfl) ?_)) | refine RK.nilT rfl ?_ rfl))
              refine .nil ?_ rfl
              refine ⟨n + 1, by show m.x3.toNat - (n + 1) < m.x3.toNat - n; omega, by show n + 1 ≤ _; omega, .heap ?_ rfl⟩
              repeat (first | exact trivial | refine ⟨⟨_, rfl, .refl _⟩, ?_⟩)
            · rw [hgx] at h6
              refine W.exit ⟨n, by show n = _; omega, .heap ?_ rfl⟩
              repeat (first | exact trivial | refine ⟨⟨_, rfl, .refl _⟩, ?_⟩)
          · rintro n rfl
            rw [hy2, show ev1k (xs a) c m 3 * xs a 3 ^ m.x3.toNat = ev1k (xs a) c m 4 from rfl]
            repeat (first | (with_reducible refine W.id_ ?_); (refine W.reg ?_) | (with_reducible refine RK.id_ ?_); (refine RK.cons_ ?_; (first | refine RK.k_ 0 rfl ?_; refine .p rfl rfl rfl (by exact trivial) ?_ | refine RK.k_ 1 rfl ?_; (refine .pa rfl rfl rfl rfl rfl rfl (by omega) (by omega) ?_))))
            refine .nil ?_ rfl
            refine ⟨4, by show 4 - 4 < 4 - 3; omega, by show 4 ≤ 4; omega, .cut (Y := [some (.cells zeroQ), some (.cells (qc (qcan (evv (xs a) (p.take i))))), some (.cells (qc (qcan (ev1k (xs a) c m 4))))]) [some (.cells (qc y))] (Nat.zero_le _) ⟨cl0 _, clq _ _, clq _ _, trivial⟩ ?_⟩
            repeat (first | exact trivial | refine ⟨⟨_, rfl, .ptr rfl⟩, ?_⟩ | refine ⟨⟨_, rfl, .wk (by repeat (first | exact .int _ _ | exact eP_pure _ | exact eV_pure _)) (by exact .refl _)⟩, ?_⟩)
        · repeat (first | (with_reducible refine W.id_ ?_); (first | refine W.sreg ?_ | refine W.seq ?_ | refine W.condF rfl ?_) | (with_reducible refine RK.id_ ?_); (first | refine RK.cons_ ?_; (refine RK.k_ 0 rfl ?_; refine .p rfl rfl rfl (by exact trivial) ?_) | refine RK.nilT rfl ?_ rfl))
          refine W.exit ⟨4, rfl, .heap ?_ rfl⟩
          repeat (first | exact trivial | refine ⟨⟨_, rfl, .refl _⟩, ?_⟩)
      · rintro k rfl
        repeat (first | (with_reducible refine W.id_ ?_); (refine W.reg ?_) | (with_reducible refine RK.id_ ?_); (refine RK.cons_ ?_; (refine RK.k_ 5 rfl ?_; (refine .ldla rfl rfl rfl rfl rfl rfl rfl (by rfl) rfl ?_))))
        refine .call (hA) rfl rfl rfl rfl ?_
        repeat (first | (with_reducible refine W.id_ ?_); (refine W.reg ?_) | (with_reducible refine RK.id_ ?_); (first | refine RK.cons_ ?_; (first | refine RK.k_ 0 rfl ?_; refine .p rfl rfl rfl (by exact trivial) ?_ | refine RK.k_ 1 rfl ?_; (refine .pa rfl rfl rfl rfl rfl rfl (by omega) (by omega) ?_) | refine RK.k_ 6 rfl ?_; (refine .store rfl rfl rfl rfl rfl rfl rfl (by rfl) (by rfl) (by rfl) ?_)) | refine RK.nilT rfl ?_ rfl))
        refine .nil ?_ rfl
        refine ⟨i + 1, by show p.length - (i + 1) < p.length - i; omega, by show i + 1 ≤ _; omega, .cut (Y := [some (.cells zeroQ), some (.cells (qc (qcan (evv (xs a) (p.take (i + 1))))))]) [some (.cells (qc (qcan (ev1k (xs a) c m 4))))] (Nat.zero_le _) ⟨cl0 _, clq _ _, trivial⟩ ?_⟩
        repeat (first | exact trivial | refine ⟨⟨_, rfl, .ptr rfl⟩, ?_⟩ | refine ⟨⟨_, rfl, .wk (by repeat (first | exact .int _ _ | exact eP_pure _ | exact eV_pure _)) (by exact .refl _)⟩, ?_⟩)
    · refine W.exit ⟨i, by show i = _; omega, .heap ?_ rfl⟩
      repeat (first | exact trivial | refine ⟨⟨_, rfl, .refl _⟩, ?_⟩)
  · rintro i rfl
    rw [List.take_of_length_le (Nat.le_refl _)]
    repeat (first | (with_reducible refine W.id_ ?_); (refine W.sreg ?_) | (with_reducible refine RK.id_ ?_); (first | refine RK.cons_ ?_; (first | refine RK.k_ 5 rfl ?_; (refine .ldla rfl rfl rfl rfl rfl rfl rfl (by rfl) rfl ?_) | refine RK.k_ 6 rfl ?_; (refine .store rfl rfl rfl rfl rfl rfl rfl (by rfl) (by rfl) (by rfl) ?_)) | refine RK.nilT rfl ?_ rfl))
    refine W.ret ⟨_, rfl, .eq (by repeat (exact eQ_pure _)) ?_, rfl⟩
    rfl
end Go.Proofs.Ytbdefjbekbbldaa

namespace Go.Proofs.Ytbdefjbekbbldaa
open Go.V Go.N
set_option maxHeartbeats 8000000
set_option maxRecDepth 20000

theorem Rp.eval {k n kx : Nat} {e : Int} {p : List RT} {a : P} {v : List Q} (h : Rp k n e p a) (hv : Vk kx v) (hkx : 1 ≤ kx) (hk : 1 ≤ k) (hk9 : k ≤ 1000000000) (hn : n ≤ 1000000) (he : e ≤ 1000000)
    (hb : (n + 2) * (k + 4 * (kx * e.toNat + 1) + 1) + 2 ≤ 1000000000) : PureFn Try.prog 50 [eP p, eV v] (eQ (qcan (ev (xs v) a))) ∧ Qb (n * (k + 4 * (kx * e.toNat + 1) + 1) + 1) (ev (xs v) a) := by
  have h1 : a.length * (k + 4 * (kx * e.toNat + 1) + 1) ≤ n * (k + 4 * (kx * e.toNat + 1) + 1) := Nat.mul_le_mul_right _ h.len
  refine ⟨Eval_spec (h.pok hk9 hn) h.eqn hv hkx hk h.l1 h.eb he ?_, (Qb.ev h.l1 hk (hv.xb hkx) h.eb).mono (Nat.add_le_add_right h1 1)⟩
  rw [Nat.add_mul] at hb ⊢
  omega
/-- A power of a small row. -/
theorem Rp.pw {k n : Nat} {e : Int} {p : List RT} {a : P} (h : Rp k n e p a) (m : Nat) (hk : k * m + 1 ≤ 1000000000) (hk1 : k ≤ 1000000000) (hn0 : 1 ≤ n) (hn : n ^ m ≤ 1000000) (hn1 : n ≤ 1000000) (hm : m ≤ 1000) (h0 : 0 ≤ e) (he : e ≤ 1000000) :
    PureFn Try.prog 36 [eP p, I (m : Int)] (eP (can (powc a m))) ∧ Rp (k * m + 1) (n ^ m) (e * m) (can (powc a m)) (powc a m) := by
  have hpw : ∀ j, j ≤ m → (B32 ^ k) ^ j < B32 ^ (k * m + 1) := fun j hj => by
    rw [← Nat.pow_mul]
    exact Nat.pow_lt_pow_right (by decide) (by have := Nat.mul_le_mul_left k hj; omega)
  refine ⟨?_, .cn (powc_canon _ _) (Nat.lt_of_le_of_lt (l1_powc (Nat.le_of_lt h.l1) m) (hpw m (Nat.le_refl _))) (powc_len h.len m) (Eb.pow h0 h.eb m) hk⟩
  refine Pow_spec (e := e) (L := B32 ^ k) (N := n) (h.pok hk1 hn1) h.eqn (by omega) (by omega) (Nat.le_of_lt h.l1) h.len h.eb h0 (fun j hj => small_lt (hpw j (by rw [Int.toNat_natCast] at hj; exact hj)) hk) (fun j hj => ?_) ?_
  · rw [Int.toNat_natCast] at hj
    exact Nat.le_trans (Nat.pow_le_pow_right hn0 hj) hn
  · rw [Int.toNat_natCast]
    calc e * (m : Int) ≤ 1000000 * (m : Int) := Int.mul_le_mul_of_nonneg_right he (by omega)
      _ ≤ _ := by omega
/-- A power with an exponent that is not positive. -/
theorem Rp.pw0 {k n : Nat} {e : Int} {p : List RT} {a : P} (h : Rp k n e p a) (m : Int) (hm : m ≤ 0) (hm1 : -1000 ≤ m) (hk1 : k ≤ 1000000000) (hn1 : n ≤ 1000000) (h0 : 0 ≤ e) :
    PureFn Try.prog 36 [eP p, I m] (eP (can (con 1))) := by
  have e0 : m.toNat = 0 := by omega
  have := Pow_spec (n := m) (e := e) (L := B32 ^ k) (N := n) (h.pok hk1 hn1) h.eqn (by omega) (by omega) (Nat.le_of_lt h.l1) h.len h.eb h0 (fun j hj => by
    rw [e0] at hj
    obtain rfl : j = 0 := by omega
    rw [Nat.pow_zero]
    exact small_lt (k := 1) (by decide) (by decide)) (fun j hj => by
    rw [e0] at hj
    obtain rfl : j = 0 := by omega
    rw [Nat.pow_zero]; decide) (by rw [e0]; simp)
  rw [e0] at this
  exact this
theorem Const1 : PureFn Try.prog 35 [eZ (zcan 1)] (eP (can (con 1))) := by
  have h := Const_spec (c := zcan 1) (.can one_small)
  rw [zv_can] at h
  exact h
theorem Rp.one : Rp 1 1 0 (can (con 1)) (con 1) := .cn (con_canon 1) (by decide) (by decide) (Eb.con (by decide) 1) (by omega)

/- Points in an input. -/
structure inQ (q : Q) : Prop where
  o : okN q.1.2
  l : q.1.2.length ≤ 9223372036854775807
  d : okN q.2
  dl : q.2.length ≤ 9223372036854775807
theorem few_Vk {a : List Q} (h : fewV a 6 2) (hz : ∀ q ∈ a, inQ q) : Vk 2 a := ⟨fun q hq => ⟨(hz q hq).o, (h.2 q hq).1, (hz q hq).d, (h.2 q hq).2⟩, Nat.le_trans h.1 (by decide)⟩
theorem values_in {a : List Q} (ha : a.length ≤ 9223372036854775807) (hz : ∀ q ∈ a, inQ q) : PureFn Try.prog 49 [eV a] (.bool (decide (fewV a 6 2))) := values_spec ha fun q hq => ⟨(hz q hq).l, (hz q hq).dl⟩
theorem qsame_can {x y : Rat} {k l : Nat} (h : Qb k x) (h' : Qb l y) (hk : k + l ≤ 1000000000) (e : x = y) : PureFn Try.prog 51 [eQ (qcan x), eQ (qcan y)] (.bool true) := by
  have := qsame_spec (Qk.can h) (Qk.can h') h.pos h'.pos hk
  rw [qv_can, qv_can, decide_eq_true e] at this
  exact this
theorem qadd_can {x y : Rat} {k l : Nat} (h : Qb k x) (h' : Qb l y) (hk : k + l + 1 ≤ 1000000000) : PureFn Try.prog 53 [eQ (qcan x), eQ (qcan y)] (eQ (qcan (x + y))) := by
  have := Qadd_spec (Qk.can h) (Qk.can h') h.pos h'.pos hk
  rw [qv_can, qv_can] at this
  exact this
theorem qmul_can {x y : Rat} {k l : Nat} (h : Qb k x) (h' : Qb l y) (hk : k + l ≤ 1000000000) : PureFn Try.prog 54 [eQ (qcan x), eQ (qcan y)] (eQ (qcan (x * y))) := by
  have := Qmul_spec (Qk.can h) (Qk.can h') h.pos h'.pos hk
  rw [qv_can, qv_can] at this
  exact this
theorem Rp.value {p : List RT} {v : List Q} (hf : few p 8 6 9) (hP : Rp 7 8 9 p (nrm (vals p))) (hv : Vk 2 v) : PureFn Try.prog 52 [eP p, eV v] (eQ (qcan (ev (xs v) (nrm (vals p))))) := by
  have h := Value_spec (L := 8) (kc := 7) (kx := 2) (e := 9) hP.z hP.hl (by decide) hf.1 (by decide) (fun t ht hvt => by
    have h1 := (hf.2 t ht).2
    unfold xok at h1
    unfold V at hvt
    unfold Mb
    omega) (by decide) hv (by decide) (by decide)
  rw [evv, ← ev_nrm] at h
  exact h
end Go.Proofs.Ytbdefjbekbbldaa
