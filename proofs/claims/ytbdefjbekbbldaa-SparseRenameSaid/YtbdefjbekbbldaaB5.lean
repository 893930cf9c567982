import Derived.Test.YtbdefjbekbbldaaB3
import Derived.Test.YtbdefjbekbbldaaNE
import Derived.Test.YtbdefjbekbbldaaB8
set_option linter.unusedVariables false
set_option linter.unusedSimpArgs false
set_option linter.unnecessarySimpa false
namespace Go.Proofs.Ytbdefjbekbbldaa
open Go.V Go.N
set_option maxHeartbeats 8000000
set_option maxRecDepth 20000

/- Small inputs of any bounds. -/
theorem l1_fewG {d : Nat} : ∀ {p : List RT}, (∀ t ∈ p, okN t.1.2 ∧ t.1.2.length ≤ d) → l1 (vals p) ≤ p.length * B32 ^ d
  | [], _ => Nat.zero_le _
  | t :: p, h => by
    have h1 := l1_fewG (p := p) fun u hu => h u (by simp [hu])
    have h2 := h t (by simp)
    have h3 : (zv t.1).natAbs < B32 ^ d := zn_lt h2.1 h2.2
    show (zv t.1).natAbs + l1 (vals p) ≤ (p.length + 1) * B32 ^ d
    rw [Nat.succ_mul]; omega
theorem few_RpG {p : List RT} {n d e : Nat} (h : few p n d e) (hz : ∀ t ∈ p, okN t.1.2) (hn : n ≤ 1000) (hd : d ≤ 1000) (hn0 : 1 ≤ n) : Rp (d + 1) n e p (nrm (vals p)) :=
  ⟨fun t ht => ⟨hz t ht, Nat.le_trans (h.2 t ht).1 (by omega)⟩, by
    have h1 := l1_fewG (p := p) fun t ht => ⟨hz t ht, (h.2 t ht).1⟩
    have h2 : p.length * B32 ^ d ≤ 1000 * B32 ^ d := Nat.mul_le_mul_right _ (by have := h.1; omega)
    have h3 : 1000 * B32 ^ d < B32 * B32 ^ d := Nat.mul_lt_mul_of_pos_right (by decide) (pw_pos d)
    rw [Nat.pow_succ, Nat.mul_comm]
    omega, h.1, rfl, fun t ht => by
    obtain ⟨hv, u, hu, e⟩ := nrm_mem ht
    obtain ⟨x, hx, rfl⟩ := List.mem_map.1 hu
    have hf := (h.2 x hx).2
    have e' : x.2 = t.2 := e
    rw [← e'] at hv ⊢
    unfold xok at hf; unfold V at hv; unfold Mb; omega⟩

/-- One term, as a row. -/
theorem Rp.term {k : Nat} {e : Int} {c : Int} {m : M} (hc : c.natAbs < B32 ^ k) (h0 : c ≠ 0) (hm : Mb e m) (hk : k ≤ 1000000000) : Rp k 1 e [(zcan c, m)] [(c, m)] :=
  .cn (one_canon h0 hm.V) (by show c.natAbs + 0 < _; omega) (Nat.le_refl 1) (fun t ht => by obtain rfl := List.mem_singleton.1 ht; exact hm) hk
theorem ex_Mb {l : Nat} (hl : Lv l) {e : Int} {m : M} (h : Mb e m) : 0 ≤ ex l m ∧ ex l m ≤ e := by
  obtain ⟨h0, h1, h2, h3⟩ := h
  rcases hl with rfl | rfl | rfl | rfl
  · exact h0
  · exact h1
  · exact h2
  · exact h3
theorem sx_Mb {l : Nat} (hl : Lv l) {e : Int} {m : M} (h : Mb e m) : Mb e (sx l m 0) := by
  obtain ⟨h0, h1, h2, h3⟩ := h
  unfold Mb
  rcases hl with rfl | rfl | rfl | rfl <;> (unfold sx; simp only; omega)
theorem powc_Rp {k n : Nat} {e : Int} {q : List RT} {b : P} (hQ : Rp k n e q b) {E : Nat} (hk : k * E + 1 ≤ 1000000000) (hk1 : k ≤ 1000000000) (hn0 : 1 ≤ n) (hn : n ^ E ≤ 1000000) (hn1 : n ≤ 1000000) (hE : E ≤ 1000) (h0 : 0 ≤ e) (he : e ≤ 1000000) {u : Int} (hu : 0 ≤ u) (hu1 : u ≤ E) :
    PureFn Try.prog 36 [eP q, I u] (eP (can (powc b u.toNat))) ∧ Rp (k * E + 1) (n ^ E) (e * E) (can (powc b u.toNat)) (powc b u.toNat) := by
  have h1 : k * u.toNat ≤ k * E := Nat.mul_le_mul_left _ (by omega)
  have h2 : n ^ u.toNat ≤ n ^ E := Nat.pow_le_pow_right hn0 (by omega)
  obtain ⟨w, W⟩ := hQ.pw u.toNat (by omega) hk1 hn0 (by omega) hn1 (by omega) h0 he
  rw [Int.toNat_of_nonneg hu] at w
  refine ⟨w, W.mono (by omega) h2 ?_⟩
  exact Int.mul_le_mul_of_nonneg_left (by omega) h0

/- sparse.Substitute -/
theorem Substitute_out {p : List RT} {a : P} {q : List RT} {l : Int} (hp : Pok p) (ea : a = nrm (vals p)) (h : ¬ (1 ≤ l ∧ l ≤ 4)) : PureFn Try.prog 56 [eP p, I l, eP q] (eP (can a)) := by
  have hN := Normal_spec hp
  rw [← ea] at hN
  refine .of_W (fn := Try.f56) (by repeat (first | exact trivial | refine ⟨(by repeat (first | exact .int _ _ | exact eP_pure _)), ?_⟩)) Try.call56 Try.func56 rfl rfl ?_
  repeat (first | (with_reducible refine W.id_ ?_); (refine W.sreg ?_) | (with_reducible refine RK.id_ ?_); (first | refine RK.cons_ ?_; (refine RK.k_ 0 rfl ?_; refine .p rfl rfl rfl (by exact trivial) ?_) | refine RK.nilT rfl ?_ rfl))
  refine .call (hN) rfl rfl rfl rfl ?_
  repeat (first | (with_reducible refine W.id_ ?_); (first | refine W.sreg ?_ | refine W.seq ?_) | (with_reducible refine RK.id_ ?_); (first | refine RK.cons_ ?_; (refine RK.k_ 0 rfl ?_; refine .p rfl rfl rfl (by exact trivial) ?_) | refine RK.nilT rfl ?_ rfl))
  refine .dsplit (fun h1 => ?_) (fun h1 => ?_)
  · repeat (first | (with_reducible refine W.id_ ?_); (first | refine W.sreg ?_ | refine W.condT rfl ?_) | (with_reducible refine RK.id_ ?_); (first | refine RK.cons_ ?_; (first | refine .skip rfl rfl ?_ | refine RK.k_ 0 rfl ?_; refine .p rfl rfl rfl (by exact trivial) ?_) | refine RK.nilT rfl ?_ rfl))
    refine W.ret ⟨_, rfl, .eq (by repeat (exact eP_pure _)) ?_, rfl⟩
    rfl
  · repeat ((with_reducible refine RK.id_ ?_); (first | refine RK.cons_ ?_; (refine RK.k_ 0 rfl ?_; refine .p rfl rfl rfl (by exact trivial) ?_) | refine RK.nilT rfl ?_ rfl))
    refine W.cond_dec rfl (fun h2 => ?_) (fun h2 => ?_)
    · repeat (first | (with_reducible refine W.id_ ?_); (refine W.sreg ?_) | (with_reducible refine RK.id_ ?_); (first | refine RK.cons_ ?_; (refine RK.k_ 0 rfl ?_; refine .p rfl rfl rfl (by exact trivial) ?_) | refine RK.nilT rfl ?_ rfl))
      refine W.ret ⟨_, rfl, .eq (by repeat (exact eP_pure _)) ?_, rfl⟩
      rfl
    · omega
theorem Substitute_1 {p q : List RT} {a b : P} (hP : Rp 4 6 4 p a) (hQ : Rp 4 5 4 q b) : PureFn Try.prog 56 [eP p, I 1, eP q] (eP (can (subP 1 b a))) ∧ Rp 27 3750 20 (can (subP 1 b a)) (subP 1 b a) := by
  have hl : Lv 1 := by unfold Lv; omega
  have hpk := hP.pok (by omega) (by omega)
  have hN := Normal_spec hpk
  rw [← hP.eqn] at hN
  have hal := hP.len
  have hst : ∀ i, i < a.length → ∀ s : P, ∀ w, w ≤ 6 → Rp (21 + w) (625 * w) 20 (can s) s → ∃ T R, PureFn Try.prog 36 [eP q, I (ex 1 (a.getD i tz).2)] (eP (can T)) ∧ PureFn Try.prog 14 [eP [(zcan (a.getD i tz).1, sx 1 (a.getD i tz).2 0)], eP (can T)] (eP (can (sub1 1 b (a.getD i tz)))) ∧ PureFn Try.prog 17 [eP (can s), eP (can (sub1 1 b (a.getD i tz)))] (eP (can R)) ∧ R = nrm (s ++ sub1 1 b (a.getD i tz)) ∧ (w < 6 → Rp (21 + (w + 1)) (625 * (w + 1)) 20 (can R) R) := fun i hi s w hw hS => by
    have hm := getD_mem (z := tz) hi
    have hmb := hP.eb _ hm
    have he := ex_Mb hl hmb
    obtain ⟨w1, W1⟩ := powc_Rp (E := 4) hQ (by omega) (by omega) (by omega) (by decide) (by omega) (by omega) (by omega) (by omega) he.1 he.2
    have hT := Rp.term (k := 4) (e := 4) (c := (a.getD i tz).1) (m := sx 1 (a.getD i tz).2 0) (Nat.lt_of_le_of_lt (l1_mem hm) hP.l1) (hP.canon.nz _ hm) (sx_Mb hl hmb) (by omega)
    obtain ⟨w2, W2⟩ := hT.mul W1 (by omega) (by decide) (by omega) (by decide) (by omega) (by omega) (by omega)
    obtain ⟨w3, W3⟩ := hS.add (W2.mono (k' := 21 + w) (n' := 625) (e' := 20) (by omega) (by decide) (by omega)) (by omega) (by omega)
    exact ⟨_, _, w1, w2, w3, rfl, fun h => W3.mono (by omega) (by omega) (by omega)⟩
  have hRp : ∀ i, i ≤ a.length → Rp (21 + i) (625 * i) 20 (can (subP 1 b (a.take i))) (subP 1 b (a.take i)) := fun i => by
    induction i with
    | zero => intro _; exact .cn .nil (by show 0 < _; exact pw_pos _) (Nat.zero_le _) (fun t ht => by cases ht) (by omega)
    | succ i ih =>
      intro hi
      obtain ⟨T, R, _, _, _, hR, hRR⟩ := hst i (by omega) _ i (by omega) (ih (by omega))
      rw [subP_take 1 b (z := tz) (by omega), ← hR]
      exact hRR (by omega)
  have hfin := hRp a.length (Nat.le_refl _)
  rw [List.take_of_length_le (Nat.le_refl _)] at hfin
  refine ⟨?_, hfin.mono (by omega) (by omega) (by omega)⟩
  refine .of_W (fn := Try.f56) (by repeat (first | exact trivial | refine ⟨(by repeat (first | exact .int _ _ | exact eP_pure _)), ?_⟩)) Try.call56 Try.func56 rfl rfl ?_
  repeat (first | (with_reducible refine W.id_ ?_); (refine W.sreg ?_) | (with_reducible refine RK.id_ ?_); (first | refine RK.cons_ ?_; (refine RK.k_ 0 rfl ?_; refine .p rfl rfl rfl (by exact trivial) ?_) | refine RK.nilT rfl ?_ rfl))
  refine .call (hN) rfl rfl rfl rfl ?_
  repeat (first | (with_reducible refine W.id_ ?_); (first | refine W.sreg ?_ | refine W.seq ?_ | refine W.skipT rfl ?_ | refine W.condF rfl ?_) | (with_reducible refine RK.id_ ?_); (first | refine RK.cons_ ?_; (refine RK.k_ 0 rfl ?_; refine .p rfl rfl rfl (by exact trivial) ?_) | refine RK.nilT rfl ?_ rfl))
  refine .rangeS ((can a).length) (fun i s => [(8, eP (can (subP 1 b (a.take i)))), (21, eP (can a)), (1, I 1), (2, eP q)]) (fun i s => []) (fun i s => s = ()) (()) rfl rfl rfl rfl rfl rfl rfl rfl rfl rfl ((by rw [can_len]; omega)) ?_ ?_ (fun _ _ => rfl) (fun i s hi Ci => ?_) (fun s Ci => ?_)
  · rfl
  · refine .heap ?_ rfl
    repeat (first | exact trivial | refine ⟨⟨_, rfl, .refl _⟩, ?_⟩ | refine ⟨⟨_, rfl, .snil _⟩, ?_⟩)
  · have hi' : i < a.length := by rw [can_len] at hi; exact hi
    obtain ⟨T, R, w1, w2, w3, hR, _⟩ := hst i hi' _ i (by omega) (hRp i (by omega))
    rw [← show ((can a).getD i zT).2 = (a.getD i tz).2 by rw [getD_can hi']] at w1
    rw [← show (((can a).getD i zT).1, sx 1 ((can a).getD i zT).2 0) = (zcan (a.getD i tz).1, sx 1 (a.getD i tz).2 0) by rw [getD_can hi']] at w2
    rw [hR, ← subP_take 1 b (z := tz) hi'] at w3
    repeat (first | (with_reducible refine W.id_ ?_); (first | refine W.sreg ?_ | refine W.draw mixed (by kernel_rfl) (by kernel_rfl) ?_) | (with_reducible refine RK.id_ ?_); (first | refine RK.cons_ ?_; (first | refine RK.k_ 0 rfl ?_; refine .p rfl rfl rfl (by exact trivial) ?_ | refine RK.k_ 1 rfl ?_; (refine .pa rfl rfl rfl rfl rfl rfl (by omega) (by omega) ?_) | refine RK.k_ 4 rfl ?_; (first | refine .ix _ (s := 6) rfl rfl rfl rfl rfl rfl rfl (by rfl) (by omega) ?_ | refine .p rfl rfl rfl (by omega) ?_) | refine RK.k_ 5 rfl ?_; (first | refine .ldl rfl rfl rfl rfl rfl rfl rfl (by rfl) (by rfl) ?_ | refine .ldla rfl rfl rfl rfl rfl rfl rfl (by rfl) rfl ?_ | refine .lda _ rfl rfl rfl rfl rfl rfl rfl (by exact take_flat (z := zT) tc_len (by omega) (by omega) rfl) ?_) | refine RK.k_ 6 rfl ?_; (first | refine .alloc _ rfl rfl rfl rfl rfl rfl rfl ?_ | refine .store rfl rfl rfl rfl rfl rfl rfl (by rfl) (by rfl) (by rfl) ?_)) | refine RK.nilT rfl ?_ rfl))
    refine .call (w1) rfl rfl rfl rfl ?_
    skip
    refine .call ((w2).args (.cons .tight (.cons (.refl _) .nil))) rfl rfl rfl rfl ?_
    skip
    refine .call (w3) rfl rfl rfl rfl ?_
    repeat ((with_reducible refine RK.id_ ?_); (refine RK.cons_ ?_; (refine RK.k_ 0 rfl ?_; refine .p rfl rfl rfl (by exact trivial) ?_)))
    refine .nil ?_ rfl
    refine ⟨(), rfl, .pure ?_⟩
    exact ⟨⟨rfl, .int _ _⟩, ⟨rfl, .int _ _⟩, ⟨rfl, eP_pure _⟩, ⟨rfl, eP_pure _⟩, ⟨rfl, .int _ _⟩, ⟨rfl, eP_pure _⟩, trivial⟩
  rw [show (can a).length = a.length from can_len a, List.take_of_length_le (Nat.le_refl _)]
  show W _ _ _ _ _ _ _
  repeat (first | (with_reducible refine W.id_ ?_); (refine W.sreg ?_) | (with_reducible refine RK.id_ ?_); (first | refine RK.cons_ ?_; (refine RK.k_ 0 rfl ?_; refine .p rfl rfl rfl (by exact trivial) ?_) | refine RK.nilT rfl ?_ rfl))
  refine W.ret ⟨_, rfl, .eq (by repeat (exact eP_pure _)) ?_, rfl⟩
  rfl
theorem Substitute_2 {p q : List RT} {a b : P} (hP : Rp 4 6 4 p a) (hQ : Rp 4 5 4 q b) : PureFn Try.prog 56 [eP p, I 2, eP q] (eP (can (subP 2 b a))) ∧ Rp 27 3750 20 (can (subP 2 b a)) (subP 2 b a) := by
  have hl : Lv 2 := by unfold Lv; omega
  have hpk := hP.pok (by omega) (by omega)
  have hN := Normal_spec hpk
  rw [← hP.eqn] at hN
  have hal := hP.len
  have hst : ∀ i, i < a.length → ∀ s : P, ∀ w, w ≤ 6 → Rp (21 + w) (625 * w) 20 (can s) s → ∃ T R, PureFn Try.prog 36 [eP q, I (ex 2 (a.getD i tz).2)] (eP (can T)) ∧ PureFn Try.prog 14 [eP [(zcan (a.getD i tz).1, sx 2 (a.getD i tz).2 0)], eP (can T)] (eP (can (sub1 2 b (a.getD i tz)))) ∧ PureFn Try.prog 17 [eP (can s), eP (can (sub1 2 b (a.getD i tz)))] (eP (can R)) ∧ R = nrm (s ++ sub1 2 b (a.getD i tz)) ∧ (w < 6 → Rp (21 + (w + 1)) (625 * (w + 1)) 20 (can R) R) := fun i hi s w hw hS => by
    have hm := getD_mem (z := tz) hi
    have hmb := hP.eb _ hm
    have he := ex_Mb hl hmb
    obtain ⟨w1, W1⟩ := powc_Rp (E := 4) hQ (by omega) (by omega) (by omega) (by decide) (by omega) (by omega) (by omega) (by omega) he.1 he.2
    have hT := Rp.term (k := 4) (e := 4) (c := (a.getD i tz).1) (m := sx 2 (a.getD i tz).2 0) (Nat.lt_of_le_of_lt (l1_mem hm) hP.l1) (hP.canon.nz _ hm) (sx_Mb hl hmb) (by omega)
    obtain ⟨w2, W2⟩ := hT.mul W1 (by omega) (by decide) (by omega) (by decide) (by omega) (by omega) (by omega)
    obtain ⟨w3, W3⟩ := hS.add (W2.mono (k' := 21 + w) (n' := 625) (e' := 20) (by omega) (by decide) (by omega)) (by omega) (by omega)
    exact ⟨_, _, w1, w2, w3, rfl, fun h => W3.mono (by omega) (by omega) (by omega)⟩
  have hRp : ∀ i, i ≤ a.length → Rp (21 + i) (625 * i) 20 (can (subP 2 b (a.take i))) (subP 2 b (a.take i)) := fun i => by
    induction i with
    | zero => intro _; exact .cn .nil (by show 0 < _; exact pw_pos _) (Nat.zero_le _) (fun t ht => by cases ht) (by omega)
    | succ i ih =>
      intro hi
      obtain ⟨T, R, _, _, _, hR, hRR⟩ := hst i (by omega) _ i (by omega) (ih (by omega))
      rw [subP_take 2 b (z := tz) (by omega), ← hR]
      exact hRR (by omega)
  have hfin := hRp a.length (Nat.le_refl _)
  rw [List.take_of_length_le (Nat.le_refl _)] at hfin
  refine ⟨?_, hfin.mono (by omega) (by omega) (by omega)⟩
  refine .of_W (fn := Try.f56) (by repeat (first | exact trivial | refine ⟨(by repeat (first | exact .int _ _ | exact eP_pure _)), ?_⟩)) Try.call56 Try.func56 rfl rfl ?_
  repeat (first | (with_reducible refine W.id_ ?_); (refine W.sreg ?_) | (with_reducible refine RK.id_ ?_); (first | refine RK.cons_ ?_; (refine RK.k_ 0 rfl ?_; refine .p rfl rfl rfl (by exact trivial) ?_) | refine RK.nilT rfl ?_ rfl))
  refine .call (hN) rfl rfl rfl rfl ?_
  repeat (first | (with_reducible refine W.id_ ?_); (first | refine W.sreg ?_ | refine W.seq ?_ | refine W.skipT rfl ?_ | refine W.condF rfl ?_) | (with_reducible refine RK.id_ ?_); (first | refine RK.cons_ ?_; (refine RK.k_ 0 rfl ?_; refine .p rfl rfl rfl (by exact trivial) ?_) | refine RK.nilT rfl ?_ rfl))
  refine .rangeS ((can a).length) (fun i s => [(8, eP (can (subP 2 b (a.take i)))), (21, eP (can a)), (1, I 2), (2, eP q)]) (fun i s => []) (fun i s => s = ()) (()) rfl rfl rfl rfl rfl rfl rfl rfl rfl rfl ((by rw [can_len]; omega)) ?_ ?_ (fun _ _ => rfl) (fun i s hi Ci => ?_) (fun s Ci => ?_)
  · rfl
  · refine .heap ?_ rfl
    repeat (first | exact trivial | refine ⟨⟨_, rfl, .refl _⟩, ?_⟩ | refine ⟨⟨_, rfl, .snil _⟩, ?_⟩)
  · have hi' : i < a.length := by rw [can_len] at hi; exact hi
    obtain ⟨T, R, w1, w2, w3, hR, _⟩ := hst i hi' _ i (by omega) (hRp i (by omega))
    rw [← show ((can a).getD i zT).2 = (a.getD i tz).2 by rw [getD_can hi']] at w1
    rw [← show (((can a).getD i zT).1, sx 2 ((can a).getD i zT).2 0) = (zcan (a.getD i tz).1, sx 2 (a.getD i tz).2 0) by rw [getD_can hi']] at w2
    rw [hR, ← subP_take 2 b (z := tz) hi'] at w3
    repeat (first | (with_reducible refine W.id_ ?_); (first | refine W.sreg ?_ | refine W.draw mixed (by kernel_rfl) (by kernel_rfl) ?_) | (with_reducible refine RK.id_ ?_); (first | refine RK.cons_ ?_; (first | refine RK.k_ 0 rfl ?_; refine .p rfl rfl rfl (by exact trivial) ?_ | refine RK.k_ 1 rfl ?_; (refine .pa rfl rfl rfl rfl rfl rfl (by omega) (by omega) ?_) | refine RK.k_ 4 rfl ?_; (first | refine .ix _ (s := 6) rfl rfl rfl rfl rfl rfl rfl (by rfl) (by omega) ?_ | refine .p rfl rfl rfl (by omega) ?_) | refine RK.k_ 5 rfl ?_; (first | refine .ldl rfl rfl rfl rfl rfl rfl rfl (by rfl) (by rfl) ?_ | refine .ldla rfl rfl rfl rfl rfl rfl rfl (by rfl) rfl ?_ | refine .lda _ rfl rfl rfl rfl rfl rfl rfl (by exact take_flat (z := zT) tc_len (by omega) (by omega) rfl) ?_) | refine RK.k_ 6 rfl ?_; (first | refine .alloc _ rfl rfl rfl rfl rfl rfl rfl ?_ | refine .store rfl rfl rfl rfl rfl rfl rfl (by rfl) (by rfl) (by rfl) ?_)) | refine RK.nilT rfl ?_ rfl))
    refine .call (w1) rfl rfl rfl rfl ?_
    skip
    refine .call ((w2).args (.cons .tight (.cons (.refl _) .nil))) rfl rfl rfl rfl ?_
    skip
    refine .call (w3) rfl rfl rfl rfl ?_
    repeat ((with_reducible refine RK.id_ ?_); (refine RK.cons_ ?_; (refine RK.k_ 0 rfl ?_; refine .p rfl rfl rfl (by exact trivial) ?_)))
    refine .nil ?_ rfl
    refine ⟨(), rfl, .pure ?_⟩
    exact ⟨⟨rfl, .int _ _⟩, ⟨rfl, .int _ _⟩, ⟨rfl, eP_pure _⟩, ⟨rfl, eP_pure _⟩, ⟨rfl, .int _ _⟩, ⟨rfl, eP_pure _⟩, trivial⟩
  rw [show (can a).length = a.length from can_len a, List.take_of_length_le (Nat.le_refl _)]
  show W _ _ _ _ _ _ _
  repeat (first | (with_reducible refine W.id_ ?_); (refine W.sreg ?_) | (with_reducible refine RK.id_ ?_); (first | refine RK.cons_ ?_; (refine RK.k_ 0 rfl ?_; refine .p rfl rfl rfl (by exact trivial) ?_) | refine RK.nilT rfl ?_ rfl))
  refine W.ret ⟨_, rfl, .eq (by repeat (exact eP_pure _)) ?_, rfl⟩
  rfl
theorem Substitute_3 {p q : List RT} {a b : P} (hP : Rp 4 6 4 p a) (hQ : Rp 4 5 4 q b) : PureFn Try.prog 56 [eP p, I 3, eP q] (eP (can (subP 3 b a))) ∧ Rp 27 3750 20 (can (subP 3 b a)) (subP 3 b a) := by
  have hl : Lv 3 := by unfold Lv; omega
  have hpk := hP.pok (by omega) (by omega)
  have hN := Normal_spec hpk
  rw [← hP.eqn] at hN
  have hal := hP.len
  have hst : ∀ i, i < a.length → ∀ s : P, ∀ w, w ≤ 6 → Rp (21 + w) (625 * w) 20 (can s) s → ∃ T R, PureFn Try.prog 36 [eP q, I (ex 3 (a.getD i tz).2)] (eP (can T)) ∧ PureFn Try.prog 14 [eP [(zcan (a.getD i tz).1, sx 3 (a.getD i tz).2 0)], eP (can T)] (eP (can (sub1 3 b (a.getD i tz)))) ∧ PureFn Try.prog 17 [eP (can s), eP (can (sub1 3 b (a.getD i tz)))] (eP (can R)) ∧ R = nrm (s ++ sub1 3 b (a.getD i tz)) ∧ (w < 6 → Rp (21 + (w + 1)) (625 * (w + 1)) 20 (can R) R) := fun i hi s w hw hS => by
    have hm := getD_mem (z := tz) hi
    have hmb := hP.eb _ hm
    have he := ex_Mb hl hmb
    obtain ⟨w1, W1⟩ := powc_Rp (E := 4) hQ (by omega) (by omega) (by omega) (by decide) (by omega) (by omega) (by omega) (by omega) he.1 he.2
    have hT := Rp.term (k := 4) (e := 4) (c := (a.getD i tz).1) (m := sx 3 (a.getD i tz).2 0) (Nat.lt_of_le_of_lt (l1_mem hm) hP.l1) (hP.canon.nz _ hm) (sx_Mb hl hmb) (by omega)
    obtain ⟨w2, W2⟩ := hT.mul W1 (by omega) (by decide) (by omega) (by decide) (by omega) (by omega) (by omega)
    obtain ⟨w3, W3⟩ := hS.add (W2.mono (k' := 21 + w) (n' := 625) (e' := 20) (by omega) (by decide) (by omega)) (by omega) (by omega)
    exact ⟨_, _, w1, w2, w3, rfl, fun h => W3.mono (by omega) (by omega) (by omega)⟩
  have hRp : ∀ i, i ≤ a.length → Rp (21 + i) (625 * i) 20 (can (subP 3 b (a.take i))) (subP 3 b (a.take i)) := fun i => by
    induction i with
    | zero => intro _; exact .cn .nil (by show 0 < _; exact pw_pos _) (Nat.zero_le _) (fun t ht => by cases ht) (by omega)
    | succ i ih =>
      intro hi
      obtain ⟨T, R, _, _, _, hR, hRR⟩ := hst i (by omega) _ i (by omega) (ih (by omega))
      rw [subP_take 3 b (z := tz) (by omega), ← hR]
      exact hRR (by omega)
  have hfin := hRp a.length (Nat.le_refl _)
  rw [List.take_of_length_le (Nat.le_refl _)] at hfin
  refine ⟨?_, hfin.mono (by omega) (by omega) (by omega)⟩
  refine .of_W (fn := Try.f56) (by repeat (first | exact trivial | refine ⟨(by repeat (first | exact .int _ _ | exact eP_pure _)), ?_⟩)) Try.call56 Try.func56 rfl rfl ?_
  repeat (first | (with_reducible refine W.id_ ?_); (refine W.sreg ?_) | (with_reducible refine RK.id_ ?_); (first | refine RK.cons_ ?_; (refine RK.k_ 0 rfl ?_; refine .p rfl rfl rfl (by exact trivial) ?_) | refine RK.nilT rfl ?_ rfl))
  refine .call (hN) rfl rfl rfl rfl ?_
  repeat (first | (with_reducible refine W.id_ ?_); (first | refine W.sreg ?_ | refine W.seq ?_ | refine W.skipT rfl ?_ | refine W.condF rfl ?_) | (with_reducible refine RK.id_ ?_); (first | refine RK.cons_ ?_; (refine RK.k_ 0 rfl ?_; refine .p rfl rfl rfl (by exact trivial) ?_) | refine RK.nilT rfl ?_ rfl))
  refine .rangeS ((can a).length) (fun i s => [(8, eP (can (subP 3 b (a.take i)))), (21, eP (can a)), (1, I 3), (2, eP q)]) (fun i s => []) (fun i s => s = ()) (()) rfl rfl rfl rfl rfl rfl rfl rfl rfl rfl ((by rw [can_len]; omega)) ?_ ?_ (fun _ _ => rfl) (fun i s hi Ci => ?_) (fun s Ci => ?_)
  · rfl
  · refine .heap ?_ rfl
    repeat (first | exact trivial | refine ⟨⟨_, rfl, .refl _⟩, ?_⟩ | refine ⟨⟨_, rfl, .snil _⟩, ?_⟩)
  · have hi' : i < a.length := by rw [can_len] at hi; exact hi
    obtain ⟨T, R, w1, w2, w3, hR, _⟩ := hst i hi' _ i (by omega) (hRp i (by omega))
    rw [← show ((can a).getD i zT).2 = (a.getD i tz).2 by rw [getD_can hi']] at w1
    rw [← show (((can a).getD i zT).1, sx 3 ((can a).getD i zT).2 0) = (zcan (a.getD i tz).1, sx 3 (a.getD i tz).2 0) by rw [getD_can hi']] at w2
    rw [hR, ← subP_take 3 b (z := tz) hi'] at w3
    repeat (first | (with_reducible refine W.id_ ?_); (first | refine W.sreg ?_ | refine W.draw mixed (by kernel_rfl) (by kernel_rfl) ?_) | (with_reducible refine RK.id_ ?_); (first | refine RK.cons_ ?_; (first | refine RK.k_ 0 rfl ?_; refine .p rfl rfl rfl (by exact trivial) ?_ | refine RK.k_ 1 rfl ?_; (refine .pa rfl rfl rfl rfl rfl rfl (by omega) (by omega) ?_) | refine RK.k_ 4 rfl ?_; (first | refine .ix _ (s := 6) rfl rfl rfl rfl rfl rfl rfl (by rfl) (by omega) ?_ | refine .p rfl rfl rfl (by omega) ?_) | refine RK.k_ 5 rfl ?_; (first | refine .ldl rfl rfl rfl rfl rfl rfl rfl (by rfl) (by rfl) ?_ | refine .ldla rfl rfl rfl rfl rfl rfl rfl (by rfl) rfl ?_ | refine .lda _ rfl rfl rfl rfl rfl rfl rfl (by exact take_flat (z := zT) tc_len (by omega) (by omega) rfl) ?_) | refine RK.k_ 6 rfl ?_; (first | refine .alloc _ rfl rfl rfl rfl rfl rfl rfl ?_ | refine .store rfl rfl rfl rfl rfl rfl rfl (by rfl) (by rfl) (by rfl) ?_)) | refine RK.nilT rfl ?_ rfl))
    refine .call (w1) rfl rfl rfl rfl ?_
    skip
    refine .call ((w2).args (.cons .tight (.cons (.refl _) .nil))) rfl rfl rfl rfl ?_
    skip
    refine .call (w3) rfl rfl rfl rfl ?_
    repeat ((with_reducible refine RK.id_ ?_); (refine RK.cons_ ?_; (refine RK.k_ 0 rfl ?_; refine .p rfl rfl rfl (by exact trivial) ?_)))
    refine .nil ?_ rfl
    refine ⟨(), rfl, .pure ?_⟩
    exact ⟨⟨rfl, .int _ _⟩, ⟨rfl, .int _ _⟩, ⟨rfl, eP_pure _⟩, ⟨rfl, eP_pure _⟩, ⟨rfl, .int _ _⟩, ⟨rfl, eP_pure _⟩, trivial⟩
  rw [show (can a).length = a.length from can_len a, List.take_of_length_le (Nat.le_refl _)]
  show W _ _ _ _ _ _ _
  repeat (first | (with_reducible refine W.id_ ?_); (refine W.sreg ?_) | (with_reducible refine RK.id_ ?_); (first | refine RK.cons_ ?_; (refine RK.k_ 0 rfl ?_; refine .p rfl rfl rfl (by exact trivial) ?_) | refine RK.nilT rfl ?_ rfl))
  refine W.ret ⟨_, rfl, .eq (by repeat (exact eP_pure _)) ?_, rfl⟩
  rfl
theorem Substitute_4 {p q : List RT} {a b : P} (hP : Rp 4 6 4 p a) (hQ : Rp 4 5 4 q b) : PureFn Try.prog 56 [eP p, I 4, eP q] (eP (can (subP 4 b a))) ∧ Rp 27 3750 20 (can (subP 4 b a)) (subP 4 b a) := by
  have hl : Lv 4 := by unfold Lv; omega
  have hpk := hP.pok (by omega) (by omega)
  have hN := Normal_spec hpk
  rw [← hP.eqn] at hN
  have hal := hP.len
  have hst : ∀ i, i < a.length → ∀ s : P, ∀ w, w ≤ 6 → Rp (21 + w) (625 * w) 20 (can s) s → ∃ T R, PureFn Try.prog 36 [eP q, I (ex 4 (a.getD i tz).2)] (eP (can T)) ∧ PureFn Try.prog 14 [eP [(zcan (a.getD i tz).1, sx 4 (a.getD i tz).2 0)], eP (can T)] (eP (can (sub1 4 b (a.getD i tz)))) ∧ PureFn Try.prog 17 [eP (can s), eP (can (sub1 4 b (a.getD i tz)))] (eP (can R)) ∧ R = nrm (s ++ sub1 4 b (a.getD i tz)) ∧ (w < 6 → Rp (21 + (w + 1)) (625 * (w + 1)) 20 (can R) R) := fun i hi s w hw hS => by
    have hm := getD_mem (z := tz) hi
    have hmb := hP.eb _ hm
    have he := ex_Mb hl hmb
    obtain ⟨w1, W1⟩ := powc_Rp (E := 4) hQ (by omega) (by omega) (by omega) (by decide) (by omega) (by omega) (by omega) (by omega) he.1 he.2
    have hT := Rp.term (k := 4) (e := 4) (c := (a.getD i tz).1) (m := sx 4 (a.getD i tz).2 0) (Nat.lt_of_le_of_lt (l1_mem hm) hP.l1) (hP.canon.nz _ hm) (sx_Mb hl hmb) (by omega)
    obtain ⟨w2, W2⟩ := hT.mul W1 (by omega) (by decide) (by omega) (by decide) (by omega) (by omega) (by omega)
    obtain ⟨w3, W3⟩ := hS.add (W2.mono (k' := 21 + w) (n' := 625) (e' := 20) (by omega) (by decide) (by omega)) (by omega) (by omega)
    exact ⟨_, _, w1, w2, w3, rfl, fun h => W3.mono (by omega) (by omega) (by omega)⟩
  have hRp : ∀ i, i ≤ a.length → Rp (21 + i) (625 * i) 20 (can (subP 4 b (a.take i))) (subP 4 b (a.take i)) := fun i => by
    induction i with
    | zero => intro _; exact .cn .nil (by show 0 < _; exact pw_pos _) (Nat.zero_le _) (fun t ht => by cases ht) (by omega)
    | succ i ih =>
      intro hi
      obtain ⟨T, R, _, _, _, hR, hRR⟩ := hst i (by omega) _ i (by omega) (ih (by omega))
      rw [subP_take 4 b (z := tz) (by omega), ← hR]
      exact hRR (by omega)
  have hfin := hRp a.length (Nat.le_refl _)
  rw [List.take_of_length_le (Nat.le_refl _)] at hfin
  refine ⟨?_, hfin.mono (by omega) (by omega) (by omega)⟩
  refine .of_W (fn := Try.f56) (by repeat (first | exact trivial | refine ⟨(by repeat (first | exact .int _ _ | exact eP_pure _)), ?_⟩)) Try.call56 Try.func56 rfl rfl ?_
  repeat (first | (with_reducible refine W.id_ ?_); (refine W.sreg ?_) | (with_reducible refine RK.id_ ?_); (first | refine RK.cons_ ?_; (refine RK.k_ 0 rfl ?_; refine .p rfl rfl rfl (by exact trivial) ?_) | refine RK.nilT rfl ?_ rfl))
  refine .call (hN) rfl rfl rfl rfl ?_
  repeat (first | (with_reducible refine W.id_ ?_); (first | refine W.sreg ?_ | refine W.seq ?_ | refine W.skipT rfl ?_ | refine W.condF rfl ?_) | (with_reducible refine RK.id_ ?_); (first | refine RK.cons_ ?_; (refine RK.k_ 0 rfl ?_; refine .p rfl rfl rfl (by exact trivial) ?_) | refine RK.nilT rfl ?_ rfl))
  refine .rangeS ((can a).length) (fun i s => [(8, eP (can (subP 4 b (a.take i)))), (21, eP (can a)), (1, I 4), (2, eP q)]) (fun i s => []) (fun i s => s = ()) (()) rfl rfl rfl rfl rfl rfl rfl rfl rfl rfl ((by rw [can_len]; omega)) ?_ ?_ (fun _ _ => rfl) (fun i s hi Ci => ?_) (fun s Ci => ?_)
  · rfl
  · refine .heap ?_ rfl
    repeat (first | exact trivial | refine ⟨⟨_, rfl, .refl _⟩, ?_⟩ | refine ⟨⟨_, rfl, .snil _⟩, ?_⟩)
  · have hi' : i < a.length := by rw [can_len] at hi; exact hi
    obtain ⟨T, R, w1, w2, w3, hR, _⟩ := hst i hi' _ i (by omega) (hRp i (by omega))
    rw [← show ((can a).getD i zT).2 = (a.getD i tz).2 by rw [getD_can hi']] at w1
    rw [← show (((can a).getD i zT).1, sx 4 ((can a).getD i zT).2 0) = (zcan (a.getD i tz).1, sx 4 (a.getD i tz).2 0) by rw [getD_can hi']] at w2
    rw [hR, ← subP_take 4 b (z := tz) hi'] at w3
    repeat (first | (with_reducible refine W.id_ ?_); (first | refine W.sreg ?_ | refine W.draw mixed (by kernel_rfl) (by kernel_rfl) ?_) | (with_reducible refine RK.id_ ?_); (first | refine RK.cons_ ?_; (first | refine RK.k_ 0 rfl ?_; refine .p rfl rfl rfl (by exact trivial) ?_ | refine RK.k_ 1 rfl ?_; (refine .pa rfl rfl rfl rfl rfl rfl (by omega) (by omega) ?_) | refine RK.k_ 4 rfl ?_; (first | refine .ix _ (s := 6) rfl rfl rfl rfl rfl rfl rfl (by rfl) (by omega) ?_ | refine .p rfl rfl rfl (by omega) ?_) | refine RK.k_ 5 rfl ?_; (first | refine .ldl rfl rfl rfl rfl rfl rfl rfl (by rfl) (by rfl) ?_ | refine .ldla rfl rfl rfl rfl rfl rfl rfl (by rfl) rfl ?_ | refine .lda _ rfl rfl rfl rfl rfl rfl rfl (by exact take_flat (z := zT) tc_len (by omega) (by omega) rfl) ?_) | refine RK.k_ 6 rfl ?_; (first | refine .alloc _ rfl rfl rfl rfl rfl rfl rfl ?_ | refine .store rfl rfl rfl rfl rfl rfl rfl (by rfl) (by rfl) (by rfl) ?_)) | refine RK.nilT rfl ?_ rfl))
    refine .call (w1) rfl rfl rfl rfl ?_
    skip
    refine .call ((w2).args (.cons .tight (.cons (.refl _) .nil))) rfl rfl rfl rfl ?_
    skip
    refine .call (w3) rfl rfl rfl rfl ?_
    repeat ((with_reducible refine RK.id_ ?_); (refine RK.cons_ ?_; (refine RK.k_ 0 rfl ?_; refine .p rfl rfl rfl (by exact trivial) ?_)))
    refine .nil ?_ rfl
    refine ⟨(), rfl, .pure ?_⟩
    exact ⟨⟨rfl, .int _ _⟩, ⟨rfl, .int _ _⟩, ⟨rfl, eP_pure _⟩, ⟨rfl, eP_pure _⟩, ⟨rfl, .int _ _⟩, ⟨rfl, eP_pure _⟩, trivial⟩
  rw [show (can a).length = a.length from can_len a, List.take_of_length_le (Nat.le_refl _)]
  show W _ _ _ _ _ _ _
  repeat (first | (with_reducible refine W.id_ ?_); (refine W.sreg ?_) | (with_reducible refine RK.id_ ?_); (first | refine RK.cons_ ?_; (refine RK.k_ 0 rfl ?_; refine .p rfl rfl rfl (by exact trivial) ?_) | refine RK.nilT rfl ?_ rfl))
  refine W.ret ⟨_, rfl, .eq (by repeat (exact eP_pure _)) ?_, rfl⟩
  rfl
end Go.Proofs.Ytbdefjbekbbldaa

namespace Go.Proofs.Ytbdefjbekbbldaa
open Go.V Go.N
set_option maxHeartbeats 8000000
set_option maxRecDepth 20000

theorem mc_get {m : M} {j : Nat} (h : j < 4) : (mc m)[0 + j * 1]? = some (I (gM m j)) := by
  obtain rfl | rfl | rfl | rfl : j = 0 ∨ j = 1 ∨ j = 2 ∨ j = 3 := by omega
  all_goals rfl
theorem mc_over {m : M} {j : Nat} {v : Int} (h : j < 4) : overR (mc m) (0 + j * 1) [I v] = some (mc (sM m j v)) := by
  obtain rfl | rfl | rfl | rfl : j = 0 ∨ j = 1 ∨ j = 2 ∨ j = 3 := by omega
  all_goals rfl
/- sparse.Rename -/
theorem Rename_spec {p : List RT} {a : P} {to : M} {k n : Nat} {e : Int} (hP : Rp k n e p a) (hk : k ≤ 1000000000) (hn : n ≤ 1000000) (h0 : 0 ≤ e) (he1 : e ≤ 1000000) : PureFn Try.prog 58 [eP p, eM to] (eP (can (nrm (ren to a)))) ∧ Rp k n (e * 4) (can (nrm (ren to a))) (nrm (ren to a)) := by
  have hp := hP.pok hk hn
  have hla : a.length ≤ 1000000 := Nat.le_trans hP.len hn
  have hl1 : N.l1 (ren to a) < B32 ^ k := by rw [l1_ren]; exact hP.l1
  refine ⟨?_, .cn (nrm_canon _) (Nat.lt_of_le_of_lt (l1_nrm _) hl1) (Nat.le_trans (nrm_len _) (by rw [ren_len]; exact hP.len)) (ren_Eb to h0 hP.eb).nrm hk⟩
  have hN := Normal_spec (can_pok' (small_lt hl1 hk) (by rw [ren_len]; exact hla))
  rw [vals_can] at hN
  refine .of_W (fn := Try.f58) (by repeat (first | exact trivial | refine ⟨(by repeat (first | exact eP_pure _ | exact eM_pure _)), ?_⟩)) Try.call58 Try.func58 rfl rfl ?_
  repeat (first | (with_reducible refine W.id_ ?_); (refine W.sreg ?_) | (with_reducible refine RK.id_ ?_); (first | refine RK.cons_ ?_; (first | refine RK.k_ 0 rfl ?_; refine .p rfl rfl rfl (by exact trivial) ?_ | refine RK.k_ 6 rfl ?_; (refine .box _ rfl rfl rfl rfl rfl rfl rfl ?_)) | refine RK.nilT rfl ?_ rfl))
  refine .callF (Normal_live hp _) rfl rfl rfl rfl ?_; rintro _ _ ⟨rfl, rfl⟩
  rw [← hP.eqn]
  cases hd : can a with
  | nil =>
    have ha : a = [] := by cases a with | nil => rfl | cons t a => cases hd
    subst ha
    repeat (first | (with_reducible refine W.id_ ?_); (first | refine W.sreg ?_ | refine W.seq ?_) | (with_reducible refine RK.id_ ?_); (first | refine RK.cons_ ?_; (refine RK.k_ 0 rfl ?_; refine .p rfl rfl rfl (by exact trivial) ?_) | refine RK.nilT rfl ?_ rfl))
    refine W.block (.loop1 ?_)
    repeat (first | (with_reducible refine W.id_ ?_); (first | refine W.sreg ?_ | refine W.seq ?_ | refine W.condF rfl ?_) | (with_reducible refine RK.id_ ?_); (first | refine RK.cons_ ?_; (refine RK.k_ 0 rfl ?_; refine .p rfl rfl rfl (by exact trivial) ?_) | refine RK.nilT rfl ?_ rfl))
    refine W.exitT rfl ?_
    refine W.to (F' := [(5, eP (can (ren to [])))]) (H' := []) (.frz ⟨⟨_, rfl, .pure .snil (.snil _)⟩, trivial⟩) ?_
    repeat (first | (with_reducible refine W.id_ ?_); (refine W.sreg ?_) | (with_reducible refine RK.id_ ?_); (refine RK.cons_ ?_; (refine RK.k_ 0 rfl ?_; refine .p rfl rfl rfl (by exact trivial) ?_)))
    refine .call (hN) rfl rfl rfl rfl ?_
    repeat ((with_reducible refine RK.id_ ?_); (first | refine RK.cons_ ?_; (refine RK.k_ 0 rfl ?_; refine .p rfl rfl rfl (by exact trivial) ?_) | refine RK.nilT rfl ?_ rfl))
    refine W.ret ⟨_, rfl, .eq (by repeat (exact eP_pure _)) ?_, rfl⟩
    rfl
  | cons t r =>
    have hlen : r.length + 1 = a.length := by rw [← can_len a, hd]; rfl
    repeat (first | (with_reducible refine W.id_ ?_); (first | refine W.sreg ?_ | refine W.seq ?_) | (with_reducible refine RK.id_ ?_); (first | refine RK.cons_ ?_; (refine RK.k_ 0 rfl ?_; refine .p rfl rfl rfl (by exact trivial) ?_) | refine RK.nilT rfl ?_ rfl))
    refine .rangeS (r.length + 1) (fun i s => [(5, .live 1 0 (r.length + 1) (r.length + 1) 6), (13, .live 1 0 (r.length + 1) (r.length + 1) 6), (3, .ptr 0 0)]) (fun i s => [some (.cells (mc to)), some (.cells (s.flatMap tc))]) (fun i s => s = mpR (fun t => (t.1, renM to t.2)) a i) (t :: r) rfl rfl rfl rfl rfl rfl rfl rfl rfl rfl (by omega) ?_ ?_ (fun _ _ => rfl) (fun i s hi Ci => ?_) (fun s Ci => ?_)
    · rw [← hd]; rfl
    · refine .heap ?_ rfl
      repeat (first | exact trivial | refine ⟨⟨_, rfl, .refl _⟩, ?_⟩)
    · have hi : i < a.length := by omega
      have hsl : s.length = a.length := by rw [Ci, mpR_len]
      have hgt : s.getD i zT = (zcan (a.getD i tz).1, (a.getD i tz).2) := by rw [Ci, mpR_get hi]
      have hmb := hP.eb _ (getD_mem (z := tz) hi)
      rw [← show (s.getD i zT).2 = (a.getD i tz).2 by rw [hgt]] at hmb
      have hrk := rnk_Mb to hmb h0
      have hg0 := hrk 0
      have hmg := hmb
      unfold Mb at hmg
      obtain ⟨m, hm⟩ : ∃ m, m = (s.getD i zT).2 := ⟨_, rfl⟩
      repeat (first | (with_reducible refine W.id_ ?_); (first | refine W.sreg ?_ | refine W.seq ?_) | (with_reducible refine RK.id_ ?_); (first | refine RK.cons_ ?_; (first | refine RK.k_ 0 rfl ?_; refine .p rfl rfl rfl (by exact trivial) ?_ | refine RK.k_ 4 rfl ?_; (refine .ixl _ _ (s := 6) rfl rfl rfl rfl rfl rfl rfl (by rfl) (by omega) rfl ?_) | refine RK.k_ 5 rfl ?_; (first | refine .ldla rfl rfl rfl rfl rfl rfl rfl (by rfl) rfl ?_ | refine .ldla rfl rfl rfl rfl rfl rfl rfl (by rfl) (by exact take_flat0 (z := zT) tc_len (by omega) (by omega)) ?_) | refine RK.k_ 6 rfl ?_; (first | refine .alloc _ rfl rfl rfl rfl rfl rfl rfl ?_ | refine .store rfl rfl rfl rfl rfl rfl rfl (by rfl) (by rfl) (by rfl) ?_)) | refine RK.nilT rfl ?_ rfl))
      rw [← hm] at hmb hrk hg0 hmg
      refine W.loopE (fun k => k ≤ 4) (fun k => k = 4) (fun k => 4 - k) (fun k => [(22, I (k : Int)), (21, eM m), (8, .ptr 3 0), (3, .ptr 0 0), (5, .live 1 0 (r.length + 1) (r.length + 1) 6), (13, .live 1 0 (r.length + 1) (r.length + 1) 6), (6, I (i : Int)), (15, I (i : Int)), (14, I ((r.length + 1 : Nat) : Int))]) (fun k => [some (.cells (mc to)), some (.cells (s.flatMap tc)), some (.cells (tc (s.getD i zT))), some (.cells (mc (rnk to m k)))]) (0) rfl ?_ ?_ ?_ ?_
      · exact Nat.zero_le _
      · rw [hm]
        refine .heap ?_ rfl
        repeat (first | exact trivial | refine ⟨⟨_, rfl, .refl _⟩, ?_⟩)
      · intro k hk
        obtain rfl | rfl | rfl | rfl | rfl : k = 0 ∨ k = 1 ∨ k = 2 ∨ k = 3 ∨ k = 4 := by omega
        · have hgj := (hrk 0).gM (to.x0 - 1).toNat
          have hgk : 0 ≤ (rnk to m 0).x0 ∧ (rnk to m 0).x0 ≤ e * (0 : Nat) := (hrk 0).gM 0
          have e0 : rnk to m 1 = sM (rnk to m 0) (tgt to.x0 0) (gM (rnk to m 0) (tgt to.x0 0) + m.x0) := rfl
          repeat (first | (with_reducible refine W.id_ ?_); (first | refine W.sreg ?_ | refine W.seq ?_ | refine W.blockS ?_ | refine W.skipT rfl ?_ | refine W.condT rfl ?_) | (with_reducible refine RK.id_ ?_); (first | refine RK.cons_ ?_; (first | refine RK.k_ 0 rfl ?_; refine .p rfl rfl rfl (by first | exact trivial | exact ⟨⟨by decide, by decide⟩, Nat.le_of_ble_eq_true rfl⟩) ?_ | refine RK.k_ 4 rfl ?_; (refine .p rfl rfl rfl (by omega) ?_) | refine RK.k_ 5 rfl ?_; (refine .ldl rfl rfl rfl rfl rfl rfl rfl (by rfl) (by rfl) ?_)) | refine RK.nilT rfl ?_ rfl))
          refine .dsplit (fun h5 => ?_) (fun h5 => ?_)
          · repeat ((with_reducible refine RK.id_ ?_); (first | refine RK.cons_ ?_; (first | refine RK.k_ 0 rfl ?_; refine .p rfl rfl rfl (by exact trivial) ?_ | refine RK.k_ 4 rfl ?_; (refine .p rfl rfl rfl (by omega) ?_) | refine RK.k_ 5 rfl ?_; (refine .ldl rfl rfl rfl rfl rfl rfl rfl (by rfl) (by rfl) ?_)) | refine RK.nilT rfl ?_ rfl))
            refine W.cond_dec rfl (fun h6 => ?_) (fun h6 => ?_)
            · have e1 : tgt to.x0 0 = (to.x0 - 1).toNat := if_pos ⟨by omega, by omega⟩
              rw [e1] at e0
              repeat (first | (with_reducible refine W.id_ ?_); (refine W.reg ?_) | (with_reducible refine RK.id_ ?_); (first | refine RK.cons_ ?_; (first | refine RK.k_ 0 rfl ?_; refine .p rfl rfl rfl (by exact trivial) ?_ | refine RK.k_ 1 rfl ?_; (refine .pa rfl rfl rfl rfl rfl rfl (by omega) (by omega) ?_) | refine RK.k_ 4 rfl ?_; (refine .p rfl rfl rfl (by omega) ?_) | refine RK.k_ 5 rfl ?_; (refine .ldl rfl rfl rfl rfl rfl rfl rfl (by rfl) (by first | rfl | exact mc_get (by omega)) ?_) | refine RK.k_ 6 rfl ?_; (refine .store rfl rfl rfl rfl rfl rfl rfl (by rfl) (by exact mc_over (by omega)) (by rfl) ?_)) | refine RK.nilT rfl ?_ rfl))
              refine .nil ?_ rfl
              refine ⟨1, by show 4 - 1 < 4 - 0; omega, by show 1 ≤ 4; omega, .heap ?_ ?_⟩
              · repeat (first | exact trivial | refine ⟨⟨_, rfl, .refl _⟩, ?_⟩)
              · dsimp only
                rw [e0]
            · have e1 : tgt to.x0 0 = 0 := if_neg fun h => h6 h.2
              rw [e1] at e0
              repeat (first | (with_reducible refine W.id_ ?_); (refine W.reg ?_) | (with_reducible refine RK.id_ ?_); (first | refine RK.cons_ ?_; (first | refine RK.k_ 0 rfl ?_; refine .p rfl rfl rfl (by exact trivial) ?_ | refine RK.k_ 1 rfl ?_; (refine .pa rfl rfl rfl rfl rfl rfl (by omega) (by omega) ?_) | refine RK.k_ 4 rfl ?_; (refine .p rfl rfl rfl (by omega) ?_) | refine RK.k_ 5 rfl ?_; (refine .ldl rfl rfl rfl rfl rfl rfl rfl (by rfl) (by rfl) ?_) | refine RK.k_ 6 rfl ?_; (refine .store rfl rfl rfl rfl rfl rfl rfl (by rfl) (by rfl) (by rfl) ?_)) | refine RK.nilT rfl ?_ rfl))
              refine .nil ?_ rfl
              refine ⟨1, by show 4 - 1 < 4 - 0; omega, by show 1 ≤ 4; omega, .heap ?_ ?_⟩
              · repeat (first | exact trivial | refine ⟨⟨_, rfl, .refl _⟩, ?_⟩)
              · dsimp only
                rw [e0]; rfl
          · have e1 : tgt to.x0 0 = 0 := if_neg fun h => h5 h.1
            rw [e1] at e0
            repeat (first | (with_reducible refine W.id_ ?_); (first | refine W.reg ?_ | refine W.condF rfl ?_) | (with_reducible refine RK.id_ ?_); (first | refine RK.cons_ ?_; (first | refine .skip rfl rfl ?_ | refine RK.k_ 0 rfl ?_; refine .p rfl rfl rfl (by exact trivial) ?_ | refine RK.k_ 1 rfl ?_; (refine .pa rfl rfl rfl rfl rfl rfl (by omega) (by omega) ?_) | refine RK.k_ 4 rfl ?_; (refine .p rfl rfl rfl (by omega) ?_) | refine RK.k_ 5 rfl ?_; (refine .ldl rfl rfl rfl rfl rfl rfl rfl (by rfl) (by rfl) ?_) | refine RK.k_ 6 rfl ?_; (refine .store rfl rfl rfl rfl rfl rfl rfl (by rfl) (by rfl) (by rfl) ?_)) | refine RK.nilT rfl ?_ rfl))
            refine .nil ?_ rfl
            refine ⟨1, by show 4 - 1 < 4 - 0; omega, by show 1 ≤ 4; omega, .heap ?_ ?_⟩
            · repeat (first | exact trivial | refine ⟨⟨_, rfl, .refl _⟩, ?_⟩)
            · dsimp only
              rw [e0]; rfl
        · have hgj := (hrk 1).gM (to.x1 - 1).toNat
          have hgk : 0 ≤ (rnk to m 1).x1 ∧ (rnk to m 1).x1 ≤ e * (1 : Nat) := (hrk 1).gM 1
          have e0 : rnk to m 2 = sM (rnk to m 1) (tgt to.x1 1) (gM (rnk to m 1) (tgt to.x1 1) + m.x1) := rfl
          repeat (first | (with_reducible refine W.id_ ?_); (first | refine W.sreg ?_ | refine W.seq ?_ | refine W.blockS ?_ | refine W.skipT rfl ?_ | refine W.condT rfl ?_) | (with_reducible refine RK.id_ ?_); (first | refine RK.cons_ ?_; (first | refine RK.k_ 0 rfl ?_; refine .p rfl rfl rfl (by first | exact trivial | exact ⟨⟨by decide, by decide⟩, Nat.le_of_ble_eq_true rfl⟩) ?_ | refine RK.k_ 4 rfl ?_; (refine .p rfl rfl rfl (by omega) ?_) | refine RK.k_ 5 rfl ?_; (refine .ldl rfl rfl rfl rfl rfl rfl rfl (by rfl) (by rfl) ?_)) | refine RK.nilT rfl ?_ rfl))
          refine .dsplit (fun h5 => ?_) (fun h5 => ?_)
          · repeat ((with_reducible refine RK.id_ ?_); (first | refine RK.cons_ ?_; (first | refine RK.k_ 0 rfl ?_; refine .p rfl rfl rfl (by exact trivial) ?_ | refine RK.k_ 4 rfl ?_; (refine .p rfl rfl rfl (by omega) ?_) | refine RK.k_ 5 rfl ?_; (refine .ldl rfl rfl rfl rfl rfl rfl rfl (by rfl) (by rfl) ?_)) | refine RK.nilT rfl ?_ rfl))
            refine W.cond_dec rfl (fun h6 => ?_) (fun h6 => ?_)
            · have e1 : tgt to.x1 1 = (to.x1 - 1).toNat := if_pos ⟨by omega, by omega⟩
              rw [e1] at e0
              repeat (first | (with_reducible refine W.id_ ?_); (refine W.reg ?_) | (with_reducible refine RK.id_ ?_); (first | refine RK.cons_ ?_; (first | refine RK.k_ 0 rfl ?_; refine .p rfl rfl rfl (by exact trivial) ?_ | refine RK.k_ 1 rfl ?_; (refine .pa rfl rfl rfl rfl rfl rfl (by omega) (by omega) ?_) | refine RK.k_ 4 rfl ?_; (refine .p rfl rfl rfl (by omega) ?_) | refine RK.k_ 5 rfl ?_; (refine .ldl rfl rfl rfl rfl rfl rfl rfl (by rfl) (by first | rfl | exact mc_get (by omega)) ?_) | refine RK.k_ 6 rfl ?_; (refine .store rfl rfl rfl rfl rfl rfl rfl (by rfl) (by exact mc_over (by omega)) (by rfl) ?_)) | refine RK.nilT rfl ?_ rfl))
              refine .nil ?_ rfl
              refine ⟨2, by show 4 - 2 < 4 - 1; omega, by show 2 ≤ 4; omega, .heap ?_ ?_⟩
              · repeat (first | exact trivial | refine ⟨⟨_, rfl, .refl _⟩, ?_⟩)
              · dsimp only
                rw [e0]
            · have e1 : tgt to.x1 1 = 1 := if_neg fun h => h6 h.2
              rw [e1] at e0
              repeat (first | (with_reducible refine W.id_ ?_); (refine W.reg ?_) | (with_reducible refine RK.id_ ?_); (first | refine RK.cons_ ?_; (first | refine RK.k_ 0 rfl ?_; refine .p rfl rfl rfl (by exact trivial) ?_ | refine RK.k_ 1 rfl ?_; (refine .pa rfl rfl rfl rfl rfl rfl (by omega) (by omega) ?_) | refine RK.k_ 4 rfl ?_; (refine .p rfl rfl rfl (by omega) ?_) | refine RK.k_ 5 rfl ?_; (refine .ldl rfl rfl rfl rfl rfl rfl rfl (by rfl) (by rfl) ?_) | refine RK.k_ 6 rfl ?_; (refine .store rfl rfl rfl rfl rfl rfl rfl (by rfl) (by rfl) (by rfl) ?_)) | refine RK.nilT rfl ?_ rfl))
              refine .nil ?_ rfl
              refine ⟨2, by show 4 - 2 < 4 - 1; omega, by show 2 ≤ 4; omega, .heap ?_ ?_⟩
              · repeat (first | exact trivial | refine ⟨⟨_, rfl, .refl _⟩, ?_⟩)
              · dsimp only
                rw [e0]; rfl
          · have e1 : tgt to.x1 1 = 1 := if_neg fun h => h5 h.1
            rw [e1] at e0
            repeat (first | (with_reducible refine W.id_ ?_); (first | refine W.reg ?_ | refine W.condF rfl ?_) | (with_reducible refine RK.id_ ?_); (first | refine RK.cons_ ?_; (first | refine .skip rfl rfl ?_ | refine RK.k_ 0 rfl ?_; refine .p rfl rfl rfl (by exact trivial) ?_ | refine RK.k_ 1 rfl ?_; (refine .pa rfl rfl rfl rfl rfl rfl (by omega) (by omega) ?_) | refine RK.k_ 4 rfl ?_; (refine .p rfl rfl rfl (by omega) ?_) | refine RK.k_ 5 rfl ?_; (refine .ldl rfl rfl rfl rfl rfl rfl rfl (by rfl) (by rfl) ?_) | refine RK.k_ 6 rfl ?_; (refine .store rfl rfl rfl rfl rfl rfl rfl (by rfl) (by rfl) (by rfl) ?_)) | refine RK.nilT rfl ?_ rfl))
            refine .nil ?_ rfl
            refine ⟨2, by show 4 - 2 < 4 - 1; omega, by show 2 ≤ 4; omega, .heap ?_ ?_⟩
            · repeat (first | exact trivial | refine ⟨⟨_, rfl, .refl _⟩, ?_⟩)
            · dsimp only
              rw [e0]; rfl
        · have hgj := (hrk 2).gM (to.x2 - 1).toNat
          have hgk : 0 ≤ (rnk to m 2).x2 ∧ (rnk to m 2).x2 ≤ e * (2 : Nat) := (hrk 2).gM 2
          have e0 : rnk to m 3 = sM (rnk to m 2) (tgt to.x2 2) (gM (rnk to m 2) (tgt to.x2 2) + m.x2) := rfl
          repeat (first | (with_reducible refine W.id_ ?_); (first | refine W.sreg ?_ | refine W.seq ?_ | refine W.blockS ?_ | refine W.skipT rfl ?_ | refine W.condT rfl ?_) | (with_reducible refine RK.id_ ?_); (first | refine RK.cons_ ?_; (first | refine RK.k_ 0 rfl ?_; refine .p rfl rfl rfl (by first | exact trivial | exact ⟨⟨by decide, by decide⟩, Nat.le_of_ble_eq_true rfl⟩) ?_ | refine RK.k_ 4 rfl ?_; (refine .p rfl rfl rfl (by omega) ?_) | refine RK.k_ 5 rfl ?_; (refine .ldl rfl rfl rfl rfl rfl rfl rfl (by rfl) (by rfl) ?_)) | refine RK.nilT rfl ?_ rfl))
          refine .dsplit (fun h5 => ?_) (fun h5 => ?_)
          · repeat ((with_reducible refine RK.id_ ?_); (first | refine RK.cons_ ?_; (first | refine RK.k_ 0 rfl ?_; refine .p rfl rfl rfl (by exact trivial) ?_ | refine RK.k_ 4 rfl ?_; (refine .p rfl rfl rfl (by omega) ?_) | refine RK.k_ 5 rfl ?_; (refine .ldl rfl rfl rfl rfl rfl rfl rfl (by rfl) (by rfl) ?_)) | refine RK.nilT rfl ?_ rfl))
            refine W.cond_dec rfl (fun h6 => ?_) (fun h6 => ?_)
            · have e1 : tgt to.x2 2 = (to.x2 - 1).toNat := if_pos ⟨by omega, by omega⟩
              rw [e1] at e0
              repeat (first | (with_reducible refine W.id_ ?_); (refine W.reg ?_) | (with_reducible refine RK.id_ ?_); (first | refine RK.cons_ ?_; (first | refine RK.k_ 0 rfl ?_; refine .p rfl rfl rfl (by exact trivial) ?_ | refine RK.k_ 1 rfl ?_; (refine .pa rfl rfl rfl rfl rfl rfl (by omega) (by omega) ?_) | refine RK.k_ 4 rfl ?_; (refine .p rfl rfl rfl (by omega) ?_) | refine RK.k_ 5 rfl ?_; (refine .ldl rfl rfl rfl rfl rfl rfl rfl (by rfl) (by first | rfl | exact mc_get (by omega)) ?_) | refine RK.k_ 6 rfl ?_; (refine .store rfl rfl rfl rfl rfl rfl rfl (by rfl) (by exact mc_over (by omega)) (by rfl) ?_)) | refine RK.nilT rfl ?_ rfl))
              refine .nil ?_ rfl
              refine ⟨3, by show 4 - 3 < 4 - 2; omega, by show 3 ≤ 4; omega, .heap ?_ ?_⟩
              · repeat (first | exact trivial | refine ⟨⟨_, rfl, .refl _⟩, ?_⟩)
              · dsimp only
                rw [e0]
            · have e1 : tgt to.x2 2 = 2 := if_neg fun h => h6 h.2
              rw [e1] at e0
              repeat (first | (with_reducible refine W.id_ ?_); (refine W.reg ?_) | (with_reducible refine RK.id_ ?_); (first | refine RK.cons_ ?_; (first | refine RK.k_ 0 rfl ?_; refine .p rfl rfl rfl (by exact trivial) ?_ | refine RK.k_ 1 rfl ?_; (refine .pa rfl rfl rfl rfl rfl rfl (by omega) (by omega) ?_) | refine RK.k_ 4 rfl ?_; (refine .p rfl rfl rfl (by omega) ?_) | refine RK.k_ 5 rfl ?_; (refine .ldl rfl rfl rfl rfl rfl rfl rfl (by rfl) (by rfl) ?_) | refine RK.k_ 6 rfl ?_; (refine .store rfl rfl rfl rfl rfl rfl rfl (by rfl) (by rfl) (by rfl) ?_)) | refine RK.nilT rfl ?_ rfl))
              refine .nil ?_ rfl
              refine ⟨3, by show 4 - 3 < 4 - 2; omega, by show 3 ≤ 4; omega, .heap ?_ ?_⟩
              · repeat (first | exact trivial | refine ⟨⟨_, rfl, .refl _⟩, ?_⟩)
              · dsimp only
                rw [e0]; rfl
          · have e1 : tgt to.x2 2 = 2 := if_neg fun h => h5 h.1
            rw [e1] at e0
            repeat (first | (with_reducible refine W.id_ ?_); (first | refine W.reg ?_ | refine W.condF rfl ?_) | (with_reducible refine RK.id_ ?_); (first | refine RK.cons_ ?_; (first | refine .skip rfl rfl ?_ | refine RK.k_ 0 rfl ?_; refine .p rfl rfl rfl (by exact trivial) ?_ | refine RK.k_ 1 rfl ?_; (refine .pa rfl rfl rfl rfl rfl rfl (by omega) (by omega) ?_) | refine RK.k_ 4 rfl ?_; (refine .p rfl rfl rfl (by omega) ?_) | refine RK.k_ 5 rfl ?_; (refine .ldl rfl rfl rfl rfl rfl rfl rfl (by rfl) (by rfl) ?_) | refine RK.k_ 6 rfl ?_; (refine .store rfl rfl rfl rfl rfl rfl rfl (by rfl) (by rfl) (by rfl) ?_)) | refine RK.nilT rfl ?_ rfl))
            refine .nil ?_ rfl
            refine ⟨3, by show 4 - 3 < 4 - 2; omega, by show 3 ≤ 4; omega, .heap ?_ ?_⟩
            · repeat (first | exact trivial | refine ⟨⟨_, rfl, .refl _⟩, ?_⟩)
            · dsimp only
              rw [e0]; rfl
        · have hgj := (hrk 3).gM (to.x3 - 1).toNat
          have hgk : 0 ≤ (rnk to m 3).x3 ∧ (rnk to m 3).x3 ≤ e * (3 : Nat) := (hrk 3).gM 3
          have e0 : rnk to m 4 = sM (rnk to m 3) (tgt to.x3 3) (gM (rnk to m 3) (tgt to.x3 3) + m.x3) := rfl
          repeat (first | (with_reducible refine W.id_ ?_); (first | refine W.sreg ?_ | refine W.seq ?_ | refine W.blockS ?_ | refine W.skipT rfl ?_ | refine W.condT rfl ?_) | (with_reducible refine RK.id_ ?_); (first | refine RK.cons_ ?_; (first | refine RK.k_ 0 rfl ?_; refine .p rfl rfl rfl (by first | exact trivial | exact ⟨⟨by decide, by decide⟩, Nat.le_of_ble_eq_true rfl⟩) ?_ | refine RK.k_ 4 rfl ?_; (refine .p rfl rfl rfl (by omega) ?_) | refine RK.k_ 5 rfl ?_; (refine .ldl rfl rfl rfl rfl rfl rfl rfl (by rfl) (by rfl) ?_)) | refine RK.nilT rfl ?_ rfl))
          refine .dsplit (fun h5 => ?_) (fun h5 => ?_)
          · repeat ((with_reducible refine RK.id_ ?_); (first | refine RK.cons_ ?_; (first | refine RK.k_ 0 rfl ?_; refine .p rfl rfl rfl (by exact trivial) ?_ | refine RK.k_ 4 rfl ?_; (refine .p rfl rfl rfl (by omega) ?_) | refine RK.k_ 5 rfl ?_; (refine .ldl rfl rfl rfl rfl rfl rfl rfl (by rfl) (by rfl) ?_)) | refine RK.nilT rfl ?_ rfl))
            refine W.cond_dec rfl (fun h6 => ?_) (fun h6 => ?_)
            · have e1 : tgt to.x3 3 = (to.x3 - 1).toNat := if_pos ⟨by omega, by omega⟩
              rw [e1] at e0
              repeat (first | (with_reducible refine W.id_ ?_); (refine W.reg ?_) | (with_reducible refine RK.id_ ?_); (first | refine RK.cons_ ?_; (first | refine RK.k_ 0 rfl ?_; refine .p rfl rfl rfl (by exact trivial) ?_ | refine RK.k_ 1 rfl ?_; (refine .pa rfl rfl rfl rfl rfl rfl (by omega) (by omega) ?_) | refine RK.k_ 4 rfl ?_; (refine .p rfl rfl rfl (by omega) ?_) | refine RK.k_ 5 rfl ?_; (refine .ldl rfl rfl rfl rfl rfl rfl rfl (by rfl) (by first | rfl | exact mc_get (by omega)) ?_) | refine RK.k_ 6 rfl ?_; (refine .store rfl rfl rfl rfl rfl rfl rfl (by rfl) (by exact mc_over (by omega)) (by rfl) ?_)) | refine RK.nilT rfl ?_ rfl))
              refine .nil ?_ rfl
              refine ⟨4, by show 4 - 4 < 4 - 3; omega, by show 4 ≤ 4; omega, .heap ?_ ?_⟩
              · repeat (first | exact trivial | refine ⟨⟨_, rfl, .refl _⟩, ?_⟩)
              · dsimp only
                rw [e0]
            · have e1 : tgt to.x3 3 = 3 := if_neg fun h => h6 h.2
              rw [e1] at e0
              repeat (first | (with_reducible refine W.id_ ?_); (refine W.reg ?_) | (with_reducible refine RK.id_ ?_); (first | refine RK.cons_ ?_; (first | refine RK.k_ 0 rfl ?_; refine .p rfl rfl rfl (by exact trivial) ?_ | refine RK.k_ 1 rfl ?_; (refine .pa rfl rfl rfl rfl rfl rfl (by omega) (by omega) ?_) | refine RK.k_ 4 rfl ?_; (refine .p rfl rfl rfl (by omega) ?_) | refine RK.k_ 5 rfl ?_; (refine .ldl rfl rfl rfl rfl rfl rfl rfl (by rfl) (by rfl) ?_) | refine RK.k_ 6 rfl ?_; (refine .store rfl rfl rfl rfl rfl rfl rfl (by rfl) (by rfl) (by rfl) ?_)) | refine RK.nilT rfl ?_ rfl))
              refine .nil ?_ rfl
              refine ⟨4, by show 4 - 4 < 4 - 3; omega, by show 4 ≤ 4; omega, .heap ?_ ?_⟩
              · repeat (first | exact trivial | refine ⟨⟨_, rfl, .refl _⟩, ?_⟩)
              · dsimp only
                rw [e0]; rfl
          · have e1 : tgt to.x3 3 = 3 := if_neg fun h => h5 h.1
            rw [e1] at e0
            repeat (first | (with_reducible refine W.id_ ?_); (first | refine W.reg ?_ | refine W.condF rfl ?_) | (with_reducible refine RK.id_ ?_); (first | refine RK.cons_ ?_; (first | refine .skip rfl rfl ?_ | refine RK.k_ 0 rfl ?_; refine .p rfl rfl rfl (by exact trivial) ?_ | refine RK.k_ 1 rfl ?_; (refine .pa rfl rfl rfl rfl rfl rfl (by omega) (by omega) ?_) | refine RK.k_ 4 rfl ?_; (refine .p rfl rfl rfl (by omega) ?_) | refine RK.k_ 5 rfl ?_; (refine .ldl rfl rfl rfl rfl rfl rfl rfl (by rfl) (by rfl) ?_) | refine RK.k_ 6 rfl ?_; (refine .store rfl rfl rfl rfl rfl rfl rfl (by rfl) (by rfl) (by rfl) ?_)) | refine RK.nilT rfl ?_ rfl))
            refine .nil ?_ rfl
            refine ⟨4, by show 4 - 4 < 4 - 3; omega, by show 4 ≤ 4; omega, .heap ?_ ?_⟩
            · repeat (first | exact trivial | refine ⟨⟨_, rfl, .refl _⟩, ?_⟩)
            · dsimp only
              rw [e0]; rfl
        · repeat (first | (with_reducible refine W.id_ ?_); (first | refine W.sreg ?_ | refine W.seq ?_ | refine W.condF rfl ?_) | (with_reducible refine RK.id_ ?_); (first | refine RK.cons_ ?_; (refine RK.k_ 0 rfl ?_; refine .p rfl rfl rfl (by exact trivial) ?_) | refine RK.nilT rfl ?_ rfl))
          refine W.exit ⟨4, rfl, .heap ?_ rfl⟩
          repeat (first | exact trivial | refine ⟨⟨_, rfl, .refl _⟩, ?_⟩)
      · rintro k rfl
        repeat (first | (with_reducible refine W.id_ ?_); (refine W.reg ?_) | (with_reducible refine RK.id_ ?_); (refine RK.cons_ ?_; (first | refine RK.k_ 0 rfl ?_; refine .p rfl rfl rfl (by exact trivial) ?_ | refine RK.k_ 4 rfl ?_; (refine .ixl _ _ (s := 6) rfl rfl rfl rfl rfl rfl rfl (by rfl) (by omega) rfl ?_) | refine RK.k_ 5 rfl ?_; (refine .ldla rfl rfl rfl rfl rfl rfl rfl (by rfl) rfl ?_))))
        refine .store rfl rfl rfl rfl rfl rfl rfl rfl (overR_part (z := zT) (i := i) (j := 2) (v := ((s.getD i zT).1, renM to m)) tc_len (by omega) (Nat.le_of_ble_eq_true rfl) (show 0 + i * 6 + 2 = i * 6 + 2 by omega) rfl) rfl ?_
        refine .nil ?_ rfl
        refine ⟨s.set i ((s.getD i zT).1, renM to m), ?_, .cut (Y := [some (.cells (mc to)), some (.cells ((s.set i ((s.getD i zT).1, renM to m)).flatMap tc))]) [some (.cells (tc (s.getD i zT))), some (.cells (mc (rnk to m 4)))] (Nat.zero_le _) ⟨clm _ _, clp (encS_cells _), trivial⟩ ?_⟩
        · dsimp only
          rw [mpR_next hi, hm, hgt, ← Ci]
        · repeat (first | exact trivial | refine ⟨⟨_, rfl, .ptr rfl⟩, ?_⟩ | refine ⟨⟨_, rfl, .live rfl⟩, ?_⟩ | refine ⟨⟨_, rfl, .wk (by repeat (exact .int _ _)) (by exact .refl _)⟩, ?_⟩)
    rw [hlen, mpR_end] at Ci
    refine W.to (F' := [(5, eP (can (ren to a)))]) (H' := []) (.frz ⟨⟨_, rfl, frz_flat (by rw [← show s = can (ren to a) from Ci]; rfl) (by rw [can_len, ren_len, hlen])⟩, trivial⟩) ?_
    repeat (first | (with_reducible refine W.id_ ?_); (refine W.sreg ?_) | (with_reducible refine RK.id_ ?_); (refine RK.cons_ ?_; (refine RK.k_ 0 rfl ?_; refine .p rfl rfl rfl (by exact trivial) ?_)))
    refine .call (hN) rfl rfl rfl rfl ?_
    repeat ((with_reducible refine RK.id_ ?_); (first | refine RK.cons_ ?_; (refine RK.k_ 0 rfl ?_; refine .p rfl rfl rfl (by exact trivial) ?_) | refine RK.nilT rfl ?_ rfl))
    refine W.ret ⟨_, rfl, .eq (by repeat (exact eP_pure _)) ?_, rfl⟩
    rfl
end Go.Proofs.Ytbdefjbekbbldaa

namespace Go.Proofs.Ytbdefjbekbbldaa
open Go.V Go.N
set_option maxHeartbeats 8000000
set_option maxRecDepth 20000

/- Rows of fractions that are made. -/
theorem frz_rows {H : Hp} {b c n : Nat} {d : List Q} (hb : H[b]? = some (some (.cells (d.flatMap qc)))) (hn : n = d.length) : Frz H (.live b 0 n c 3) (eV d) := by
  subst hn
  refine .live hb (by rw [flatMap_len qc_len]; omega) (flatMap_len qc_len d) fun i u v hu hv => ?_
  rw [Nat.zero_add] at hu
  have e := Option.some.inj (hu.symm.trans hv)
  subst e
  refine .pure ?_ (.refl _)
  obtain ⟨x, _, hx⟩ := List.mem_flatMap.1 (List.mem_of_getElem? hu)
  exact qc_pure x _ hx
theorem wk_zeroQ : WkL zeroQ (qc zQ) := .cons (.refl _) (.cons (.snil _) (.cons (.snil _) .nil))
theorem WkL.append {a b c d : List D} (h : WkL a b) (k : WkL c d) : WkL (a ++ c) (b ++ d) := by
  refine ⟨by rw [List.length_append, List.length_append, h.1, k.1], fun i x y hx hy => ?_⟩
  rcases Nat.lt_or_ge i a.length with hi | hi
  · rw [List.getElem?_append_left hi] at hx
    rw [List.getElem?_append_left (by rw [h.1]; exact hi)] at hy
    exact h.2 i x y hx hy
  · rw [List.getElem?_append_right hi] at hx
    rw [List.getElem?_append_right (by rw [h.1]; exact hi), h.1] at hy
    exact k.2 _ x y hx hy
theorem wk_zeros : ∀ n : Nat, WkL (repR n zeroQ) ((List.replicate n zQ).flatMap qc)
  | 0 => .nil
  | n + 1 => by
    rw [List.replicate_succ, List.flatMap_cons]
    exact WkL.append wk_zeroQ (wk_zeros n)
theorem zeros_pure : ∀ n : Nat, ∀ d ∈ repR n zeroQ, Pure d
  | 0, d, h => by cases h
  | n + 1, d, h => by
    rcases List.mem_append.1 h with h | h
    · exact PureL.mem (ds := zeroQ) ⟨.bool _, .snil, .snil, trivial⟩ d h
    · exact zeros_pure n d h
theorem getD_setQ {s : List Q} {i j : Nat} {v : Q} : (s.set i v).getD j zQ = if i = j ∧ i < s.length then v else s.getD j zQ := by
  rw [List.getD_eq_getElem?_getD, List.getElem?_set]
  split
  · rename_i h
    subst h
    split
    · rename_i h; rw [if_pos ⟨rfl, h⟩]; rfl
    · rename_i h
      rw [if_neg (fun hh => h hh.2), List.getD_eq_getElem?_getD, List.getElem?_eq_none (by omega)]
  · rename_i h
    rw [if_neg (fun hh => h hh.1), List.getD_eq_getElem?_getD]
/-- So many coordinates are set. -/
structure PtS (k : Nat) (f : Nat → Rat) (s : List Q) (i : Nat) : Prop where
  len : s.length = 4
  q : ∀ j, j < i → Qk k (s.getD j zQ) ∧ qv (s.getD j zQ) = f j
theorem PtS.next {k : Nat} {f : Nat → Rat} {s : List Q} {i : Nat} (h : PtS k f s i) (hi : i < 4) {v : Q} (hv : Qk k v) (he : qv v = f i) : PtS k f (s.set i v) (i + 1) := by
  refine ⟨by rw [List.length_set]; exact h.len, fun j hj => ?_⟩
  rw [getD_setQ]
  by_cases hij : i = j
  · subst hij
    rw [if_pos ⟨rfl, by rw [h.len]; exact hi⟩]
    exact ⟨hv, he⟩
  · rw [if_neg fun hh => hij hh.1]
    exact h.q j (by omega)
theorem PtS.set {k : Nat} {f : Nat → Rat} {s : List Q} (h : PtS k f s 4) {i : Nat} (hi : i < 4) {v : Q} (hv : Qk k v) : PtS k (fun j => if j = i then qv v else f j) (s.set i v) 4 := by
  refine ⟨by rw [List.length_set]; exact h.len, fun j hj => ?_⟩
  rw [getD_setQ]
  by_cases hij : i = j
  · subst hij
    rw [if_pos ⟨rfl, by rw [h.len]; exact hi⟩, if_pos rfl]
    exact ⟨hv, rfl⟩
  · rw [if_neg fun hh => hij hh.1, if_neg fun hh => hij hh.symm]
    exact h.q j hj
theorem PtS.vk {k : Nat} {f : Nat → Rat} {s : List Q} (h : PtS k f s 4) : Vk k s := ⟨fun r hr => by
    obtain ⟨j, hj, rfl⟩ := List.mem_iff_getElem.1 hr
    have := (h.q j (by have := h.len; omega)).1
    rwa [show s.getD j zQ = s[j] by simp [hj]] at this, by have := h.len; omega⟩
theorem PtS.xs {k : Nat} {f : Nat → Rat} {s : List Q} (h : PtS k f s 4) : ∀ j, j < 4 → xs s j = f j := fun j hj => (h.q j hj).2
theorem PtS.mono {k l : Nat} {f : Nat → Rat} {s : List Q} {i : Nat} (h : PtS k f s i) (hk : k ≤ l) : PtS l f s i := ⟨h.len, fun j hj => ⟨(h.q j hj).1.mono hk, (h.q j hj).2⟩⟩
theorem PtS.zero {k : Nat} {f : Nat → Rat} : PtS k f (List.replicate 4 zQ) 0 := ⟨rfl, fun j hj => absurd hj (Nat.not_lt_zero j)⟩
end Go.Proofs.Ytbdefjbekbbldaa
