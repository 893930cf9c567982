import Derived.Test.YtbdefjbekbbldaaA4
import Derived.Test.YtbdefjbekbbldaaNC
set_option linter.unusedVariables false
set_option linter.unusedSimpArgs false
set_option linter.unnecessarySimpa false
namespace Go.Proofs.Ytbdefjbekbbldaa
open Go.V Go.N
set_option maxHeartbeats 8000000
set_option maxRecDepth 20000

/-- A row of terms whose first terms are derived. -/
def derR (l : Nat) (a : P) (i : Nat) : List RT := can (der l (a.take i) ++ a.drop i)
theorem derR_len {l : Nat} {a : P} {i : Nat} : (derR l a i).length = a.length := by
  unfold derR
  rw [can_len, List.length_append, der_len, ← List.length_append, List.take_append_drop]
theorem derR_end {l : Nat} {a : P} : derR l a a.length = can (der l a) := by
  unfold derR
  rw [List.take_of_length_le (Nat.le_refl _), List.drop_eq_nil_of_le (Nat.le_refl _), List.append_nil]
theorem derR_get {l : Nat} {a : P} {i : Nat} (h : i < a.length) : (derR l a i).getD i zT = (zcan (a.getD i tz).1, (a.getD i tz).2) := by
  have hm : min i a.length = i := Nat.min_eq_left (Nat.le_of_lt h)
  unfold derR
  rw [getD_can (by simp [der, hm]; omega)]
  have : (der l (a.take i) ++ a.drop i).getD i (0, ⟨0, 0, 0, 0⟩) = a.getD i tz := by
    simp [der, List.getElem?_append_right, hm]
  rw [this]
theorem derR_next {l : Nat} {a : P} {i : Nat} (h : i < a.length) : derR l a (i + 1) = (derR l a i).set i (zcan ((a.getD i tz).1 * ex l (a.getD i tz).2), sx l (a.getD i tz).2 (pr (ex l (a.getD i tz).2))) := by
  have hm : min i a.length = i := Nat.min_eq_left (Nat.le_of_lt h)
  unfold derR
  have e1 : a.drop i = a.getD i tz :: a.drop (i + 1) := by rw [List.drop_eq_getElem_cons h]; simp [h]
  rw [take_next (z := tz) h, e1]
  unfold can der
  rw [List.map_append, List.map_append, List.map_append, List.map_cons, List.map_append, List.map_map]
  rw [List.set_append_right _ _ (by simp [hm])]
  simp [hm, der1]

/- sparse.Derivative -/
theorem Derivative_out {p : List RT} {l : Int} (h : ¬ (1 ≤ l ∧ l ≤ 4)) : PureFn Try.prog 37 [eP p, I l] (eP []) := by
  refine .of_W (fn := Try.f37) (by repeat (first | exact trivial | refine ⟨(by repeat (first | exact .int _ _ | exact eP_pure _)), ?_⟩)) Try.call37 Try.func37 rfl rfl ?_
  repeat (first | (with_reducible refine W.id_ ?_); (first | refine W.sreg ?_ | refine W.seq ?_) | (with_reducible refine RK.id_ ?_); (first | refine RK.cons_ ?_; (refine RK.k_ 0 rfl ?_; refine .p rfl rfl rfl (by exact trivial) ?_) | refine RK.nilT rfl ?_ rfl))
  refine .dsplit (fun h1 => ?_) (fun h1 => ?_)
  · repeat (first | (with_reducible refine W.id_ ?_); (first | refine W.sreg ?_ | refine W.condT rfl ?_) | (with_reducible refine RK.id_ ?_); (first | refine RK.cons_ ?_; (first | refine .skip rfl rfl ?_ | refine RK.k_ 0 rfl ?_; refine .p rfl rfl rfl (by exact trivial) ?_) | refine RK.nilT rfl ?_ rfl))
    exact W.ret ⟨_, rfl, .pure .snil (.snil _), rfl⟩
  · repeat ((with_reducible refine RK.id_ ?_); (first | refine RK.cons_ ?_; (refine RK.k_ 0 rfl ?_; refine .p rfl rfl rfl (by exact trivial) ?_) | refine RK.nilT rfl ?_ rfl))
    refine W.cond_dec rfl (fun h2 => ?_) (fun h2 => ?_)
    · repeat (first | (with_reducible refine W.id_ ?_); (refine W.sreg ?_) | (with_reducible refine RK.id_ ?_); (first | refine RK.cons_ ?_; (refine RK.k_ 0 rfl ?_; refine .p rfl rfl rfl (by exact trivial) ?_) | refine RK.nilT rfl ?_ rfl))
      exact W.ret ⟨_, rfl, .pure .snil (.snil _), rfl⟩
    · omega
theorem Derivative_1 {p : List RT} {a : P} (hp : Pok p) (ea : a = nrm (vals p)) (he : Eb 1000000 a) (hl : l1 (der 1 a) < B32 ^ 1000000000) : PureFn Try.prog 37 [eP p, I 1] (eP (can (derc 1 a))) := by
  have hla : a.length ≤ 1000000 := by rw [ea]; exact Nat.le_trans (nrm_len _) (by rw [vals_len]; exact hp.n)
  have hN := Normal_spec (can_pok' hl (by rw [der_len]; exact hla))
  rw [vals_can] at hN
  have hz : ∀ i, i < a.length → okZ (zcan (a.getD i tz).1) := fun i hi => .can (Nat.lt_of_le_of_lt (l1_mem (getD_mem hi)) (by rw [ea]; exact Nat.lt_of_le_of_lt (l1_nrm _) hp.l))
  refine .of_W (fn := Try.f37) (by repeat (first | exact trivial | refine ⟨(by repeat (first | exact .int _ _ | exact eP_pure _)), ?_⟩)) Try.call37 Try.func37 rfl rfl ?_
  repeat (first | (with_reducible refine W.id_ ?_); (first | refine W.sreg ?_ | refine W.seq ?_ | refine W.skipT rfl ?_ | refine W.condF rfl ?_) | (with_reducible refine RK.id_ ?_); (first | refine RK.cons_ ?_; (refine RK.k_ 0 rfl ?_; refine .p rfl rfl rfl (by exact trivial) ?_) | refine RK.nilT rfl ?_ rfl))
  refine .callF (Normal_live0 hp) rfl rfl rfl rfl ?_; rintro _ _ ⟨rfl, rfl⟩
  rw [← ea]
  cases hd : can a with
  | nil =>
    have ha : a = [] := by cases a with | nil => rfl | cons t a => cases hd
    subst ha
    repeat (first | (with_reducible refine W.id_ ?_); (first | refine W.sreg ?_ | refine W.seq ?_) | (with_reducible refine RK.id_ ?_); (first | refine RK.cons_ ?_; (refine RK.k_ 0 rfl ?_; refine .p rfl rfl rfl (by exact trivial) ?_) | refine RK.nilT rfl ?_ rfl))
    refine W.block (.loop1 ?_)
    repeat (first | (with_reducible refine W.id_ ?_); (first | refine W.sreg ?_ | refine W.seq ?_ | refine W.condF rfl ?_) | (with_reducible refine RK.id_ ?_); (first | refine RK.cons_ ?_; (refine RK.k_ 0 rfl ?_; refine .p rfl rfl rfl (by exact trivial) ?_) | refine RK.nilT rfl ?_ rfl))
    refine W.exitT rfl ?_
    refine W.to (F' := [(5, eP (can (der 1 [])))]) (H' := []) (.frz ⟨⟨_, rfl, .pure .snil (.snil _)⟩, trivial⟩) ?_
    repeat (first | (with_reducible refine W.id_ ?_); (refine W.sreg ?_) | (with_reducible refine RK.id_ ?_); (refine RK.cons_ ?_; (refine RK.k_ 0 rfl ?_; refine .p rfl rfl rfl (by exact trivial) ?_)))
    refine .call (hN) rfl rfl rfl rfl ?_
    repeat ((with_reducible refine RK.id_ ?_); (first | refine RK.cons_ ?_; (refine RK.k_ 0 rfl ?_; refine .p rfl rfl rfl (by exact trivial) ?_) | refine RK.nilT rfl ?_ rfl))
    refine W.ret ⟨_, rfl, .eq (by repeat (exact eP_pure _)) ?_, rfl⟩
    rfl
  | cons t r =>
    have hlen : r.length + 1 = a.length := by rw [← can_len a, hd]; rfl
    repeat (first | (with_reducible refine W.id_ ?_); (first | refine W.sreg ?_ | refine W.seq ?_) | (with_reducible refine RK.id_ ?_); (first | refine RK.cons_ ?_; (refine RK.k_ 0 rfl ?_; refine .p rfl rfl rfl (by exact trivial) ?_) | refine RK.nilT rfl ?_ rfl))
    refine .rangeS (r.length + 1) (fun i s => [(5, .live 0 0 (r.length + 1) (r.length + 1) 6), (1, I 1)]) (fun i s => [some (.cells (s.flatMap tc))]) (fun i s => s = derR 1 a i) (t :: r) rfl rfl rfl rfl rfl rfl rfl rfl rfl rfl (by omega) ?_ ?_ (fun _ _ => rfl) (fun i s hi Ci => ?_) (fun s Ci => ?_)
    · rw [← hd]; rfl
    · refine .heap ?_ rfl
      repeat (first | exact trivial | refine ⟨⟨_, rfl, .refl _⟩, ?_⟩)
    · have hi : i < a.length := by omega
      have hsl : s.length = a.length := by rw [Ci, derR_len]
      have hgt : s.getD i zT = (zcan (a.getD i tz).1, (a.getD i tz).2) := by rw [Ci, derR_get hi]
      have hgz : okZ (s.getD i zT).1 := by rw [hgt]; exact hz i hi
      have hb := he _ (getD_mem (z := tz) hi)
      rw [← show (s.getD i zT).2 = (a.getD i tz).2 by rw [hgt]] at hb
      unfold Mb at hb
      repeat (first | (with_reducible refine W.id_ ?_); (refine W.sreg ?_) | (with_reducible refine RK.id_ ?_); (first | refine RK.cons_ ?_; (first | refine RK.k_ 0 rfl ?_; refine .p rfl rfl rfl (by exact trivial) ?_ | refine RK.k_ 1 rfl ?_; (refine .pa rfl rfl rfl rfl rfl rfl (by omega) (by omega) ?_) | refine RK.k_ 4 rfl ?_; (first | refine .ixl _ _ (s := 6) rfl rfl rfl rfl rfl rfl rfl (by rfl) (by omega) rfl ?_ | refine .p rfl rfl rfl (by omega) ?_)) | refine RK.nilT rfl ?_ rfl))
      refine .ldl rfl rfl rfl rfl rfl rfl rfl rfl (get_flat tc_len (z := zT) (i := i) (j := 2) (by omega) (Nat.le_of_ble_eq_true rfl) (show 0 + i * 6 + 2 + 0 = i * 6 + 2 by omega) rfl) ?_
      repeat (first | (with_reducible refine W.id_ ?_); (refine W.sdraw mixed (by kernel_rfl) (by kernel_rfl) ?_) | (with_reducible refine RK.id_ ?_); (first | refine RK.cons_ ?_; (first | refine RK.k_ 0 rfl ?_; refine .p rfl rfl rfl (by exact trivial) ?_ | refine RK.k_ 4 rfl ?_; (refine .ixl _ _ (s := 6) rfl rfl rfl rfl rfl rfl rfl (by rfl) (by omega) rfl ?_)) | refine RK.nilT rfl ?_ rfl))
      refine .ldla rfl rfl rfl rfl rfl rfl rfl rfl (take_part (z := zT) tc_len (by omega) (Nat.le_of_ble_eq_true rfl) (Nat.le_of_ble_eq_true rfl) (show 0 + i * 6 + 0 = i * 6 + 0 by omega) rfl) ?_
      have hO := Of_spec (n := (s.getD i zT).2.x0) (by omega) (by omega)
      have hM := Zmul_spec hgz (.can (n := (s.getD i zT).2.x0) (tiny (by omega)))
      rw [zv_can] at hM
      repeat ((with_reducible refine RK.id_ ?_); (refine RK.cons_ ?_; (refine RK.k_ 0 rfl ?_; refine .p rfl rfl rfl (by exact trivial) ?_)))
      refine .call (hO) rfl rfl rfl rfl ?_
      skip
      refine .call (hM) rfl rfl rfl rfl ?_
      repeat ((with_reducible refine RK.id_ ?_); (refine RK.cons_ ?_; (first | refine RK.k_ 0 rfl ?_; refine .p rfl rfl rfl (by exact trivial) ?_ | refine RK.k_ 4 rfl ?_; (refine .ixl _ _ (s := 6) rfl rfl rfl rfl rfl rfl rfl (by rfl) (by omega) rfl ?_))))
      refine .store rfl rfl rfl rfl rfl rfl rfl rfl (overR_part (z := zT) (i := i) (j := 0) (v := (zcan (zv (s.getD i zT).1 * (s.getD i zT).2.x0), (s.getD i zT).2)) tc_len (by omega) (Nat.le_of_ble_eq_true rfl) (show 0 + i * 6 + 0 = i * 6 + 0 by omega) rfl) rfl ?_
      have hs1 : (s.set i (zcan (zv (s.getD i zT).1 * (s.getD i zT).2.x0), (s.getD i zT).2)).getD i zT = (zcan (zv (s.getD i zT).1 * (s.getD i zT).2.x0), (s.getD i zT).2) := by simp [hsl, hi]
      repeat (first | (with_reducible refine W.id_ ?_); (refine W.reg ?_) | (with_reducible refine RK.id_ ?_); (first | refine RK.cons_ ?_; (first | refine RK.k_ 0 rfl ?_; refine .p rfl rfl rfl (by exact trivial) ?_ | refine RK.k_ 1 rfl ?_; (refine .pa rfl rfl rfl rfl rfl rfl (by omega) (by omega) ?_) | refine RK.k_ 4 rfl ?_; (first | refine .ixl _ _ (s := 6) rfl rfl rfl rfl rfl rfl rfl (by rfl) (by omega) rfl ?_ | refine .p rfl rfl rfl (by omega) ?_)) | refine RK.nilT rfl ?_ rfl))
      refine .store rfl rfl rfl rfl rfl rfl rfl rfl (overR_part (z := zT) (i := i) (j := 2) (v := (zcan (zv (s.getD i zT).1 * (s.getD i zT).2.x0), sx 1 (s.getD i zT).2 (pr ((s.getD i zT).2.x0)))) tc_len (by rw [List.length_set]; omega) (Nat.le_of_ble_eq_true rfl) (show 0 + i * 6 + 2 + 0 = i * 6 + 2 by omega) (by rw [hs1]; rfl)) rfl ?_
      refine .nil ?_ rfl
      refine ⟨(s.set i (zcan (zv (s.getD i zT).1 * (s.getD i zT).2.x0), (s.getD i zT).2)).set i (zcan (zv (s.getD i zT).1 * (s.getD i zT).2.x0), sx 1 (s.getD i zT).2 (pr ((s.getD i zT).2.x0))), ?_, .heap ?_ rfl⟩
      · dsimp only
        rw [List.set_set, derR_next hi, hgt, zv_can, ← Ci]; rfl
      · repeat (first | exact trivial | refine ⟨⟨_, rfl, .refl _⟩, ?_⟩)
    rw [hlen, derR_end] at Ci
    refine W.to (F' := [(5, eP (can (der 1 a)))]) (H' := []) (.frz ⟨⟨_, rfl, frz_flat (by rw [← Ci]; rfl) (by rw [can_len, der_len, hlen])⟩, trivial⟩) ?_
    repeat (first | (with_reducible refine W.id_ ?_); (refine W.sreg ?_) | (with_reducible refine RK.id_ ?_); (refine RK.cons_ ?_; (refine RK.k_ 0 rfl ?_; refine .p rfl rfl rfl (by exact trivial) ?_)))
    refine .call (hN) rfl rfl rfl rfl ?_
    repeat ((with_reducible refine RK.id_ ?_); (first | refine RK.cons_ ?_; (refine RK.k_ 0 rfl ?_; refine .p rfl rfl rfl (by exact trivial) ?_) | refine RK.nilT rfl ?_ rfl))
    refine W.ret ⟨_, rfl, .eq (by repeat (exact eP_pure _)) ?_, rfl⟩
    rfl
theorem Derivative_2 {p : List RT} {a : P} (hp : Pok p) (ea : a = nrm (vals p)) (he : Eb 1000000 a) (hl : l1 (der 2 a) < B32 ^ 1000000000) : PureFn Try.prog 37 [eP p, I 2] (eP (can (derc 2 a))) := by
  have hla : a.length ≤ 1000000 := by rw [ea]; exact Nat.le_trans (nrm_len _) (by rw [vals_len]; exact hp.n)
  have hN := Normal_spec (can_pok' hl (by rw [der_len]; exact hla))
  rw [vals_can] at hN
  have hz : ∀ i, i < a.length → okZ (zcan (a.getD i tz).1) := fun i hi => .can (Nat.lt_of_le_of_lt (l1_mem (getD_mem hi)) (by rw [ea]; exact Nat.lt_of_le_of_lt (l1_nrm _) hp.l))
  refine .of_W (fn := Try.f37) (by repeat (first | exact trivial | refine ⟨(by repeat (first | exact .int _ _ | exact eP_pure _)), ?_⟩)) Try.call37 Try.func37 rfl rfl ?_
  repeat (first | (with_reducible refine W.id_ ?_); (first | refine W.sreg ?_ | refine W.seq ?_ | refine W.skipT rfl ?_ | refine W.condF rfl ?_) | (with_reducible refine RK.id_ ?_); (first | refine RK.cons_ ?_; (refine RK.k_ 0 rfl ?_; refine .p rfl rfl rfl (by exact trivial) ?_) | refine RK.nilT rfl ?_ rfl))
  refine .callF (Normal_live0 hp) rfl rfl rfl rfl ?_; rintro _ _ ⟨rfl, rfl⟩
  rw [← ea]
  cases hd : can a with
  | nil =>
    have ha : a = [] := by cases a with | nil => rfl | cons t a => cases hd
    subst ha
    repeat (first | (with_reducible refine W.id_ ?_); (first | refine W.sreg ?_ | refine W.seq ?_) | (with_reducible refine RK.id_ ?_); (first | refine RK.cons_ ?_; (refine RK.k_ 0 rfl ?_; refine .p rfl rfl rfl (by exact trivial) ?_) | refine RK.nilT rfl ?_ rfl))
    refine W.block (.loop1 ?_)
    repeat (first | (with_reducible refine W.id_ ?_); (first | refine W.sreg ?_ | refine W.seq ?_ | refine W.condF rfl ?_) | (with_reducible refine RK.id_ ?_); (first | refine RK.cons_ ?_; (refine RK.k_ 0 rfl ?_; refine .p rfl rfl rfl (by exact trivial) ?_) | refine RK.nilT rfl ?_ rfl))
    refine W.exitT rfl ?_
    refine W.to (F' := [(5, eP (can (der 2 [])))]) (H' := []) (.frz ⟨⟨_, rfl, .pure .snil (.snil _)⟩, trivial⟩) ?_
    repeat (first | (with_reducible refine W.id_ ?_); (refine W.sreg ?_) | (with_reducible refine RK.id_ ?_); (refine RK.cons_ ?_; (refine RK.k_ 0 rfl ?_; refine .p rfl rfl rfl (by exact trivial) ?_)))
    refine .call (hN) rfl rfl rfl rfl ?_
    repeat ((with_reducible refine RK.id_ ?_); (first | refine RK.cons_ ?_; (refine RK.k_ 0 rfl ?_; refine .p rfl rfl rfl (by exact trivial) ?_) | refine RK.nilT rfl ?_ rfl))
    refine W.ret ⟨_, rfl, .eq (by repeat (exact eP_pure _)) ?_, rfl⟩
    rfl
  | cons t r =>
    have hlen : r.length + 1 = a.length := by rw [← can_len a, hd]; rfl
    repeat (first | (with_reducible refine W.id_ ?_); (first | refine W.sreg ?_ | refine W.seq ?_) | (with_reducible refine RK.id_ ?_); (first | refine RK.cons_ ?_; (refine RK.k_ 0 rfl ?_; refine .p rfl rfl rfl (by exact trivial) ?_) | refine RK.nilT rfl ?_ rfl))
    refine .rangeS (r.length + 1) (fun i s => [(5, .live 0 0 (r.length + 1) (r.length + 1) 6), (1, I 2)]) (fun i s => [some (.cells (s.flatMap tc))]) (fun i s => s = derR 2 a i) (t :: r) rfl rfl rfl rfl rfl rfl rfl rfl rfl rfl (by omega) ?_ ?_ (fun _ _ => rfl) (fun i s hi Ci => ?_) (fun s Ci => ?_)
    · rw [← hd]; rfl
    · refine .heap ?_ rfl
      repeat (first | exact trivial | refine ⟨⟨_, rfl, .refl _⟩, ?_⟩)
    · have hi : i < a.length := by omega
      have hsl : s.length = a.length := by rw [Ci, derR_len]
      have hgt : s.getD i zT = (zcan (a.getD i tz).1, (a.getD i tz).2) := by rw [Ci, derR_get hi]
      have hgz : okZ (s.getD i zT).1 := by rw [hgt]; exact hz i hi
      have hb := he _ (getD_mem (z := tz) hi)
      rw [← show (s.getD i zT).2 = (a.getD i tz).2 by rw [hgt]] at hb
      unfold Mb at hb
      repeat (first | (with_reducible refine W.id_ ?_); (refine W.sreg ?_) | (with_reducible refine RK.id_ ?_); (first | refine RK.cons_ ?_; (first | refine RK.k_ 0 rfl ?_; refine .p rfl rfl rfl (by exact trivial) ?_ | refine RK.k_ 1 rfl ?_; (refine .pa rfl rfl rfl rfl rfl rfl (by omega) (by omega) ?_) | refine RK.k_ 4 rfl ?_; (first | refine .ixl _ _ (s := 6) rfl rfl rfl rfl rfl rfl rfl (by rfl) (by omega) rfl ?_ | refine .p rfl rfl rfl (by omega) ?_)) | refine RK.nilT rfl ?_ rfl))
      refine .ldl rfl rfl rfl rfl rfl rfl rfl rfl (get_flat tc_len (z := zT) (i := i) (j := 3) (by omega) (Nat.le_of_ble_eq_true rfl) (show 0 + i * 6 + 2 + 1 = i * 6 + 3 by omega) rfl) ?_
      repeat (first | (with_reducible refine W.id_ ?_); (refine W.sdraw mixed (by kernel_rfl) (by kernel_rfl) ?_) | (with_reducible refine RK.id_ ?_); (first | refine RK.cons_ ?_; (first | refine RK.k_ 0 rfl ?_; refine .p rfl rfl rfl (by exact trivial) ?_ | refine RK.k_ 4 rfl ?_; (refine .ixl _ _ (s := 6) rfl rfl rfl rfl rfl rfl rfl (by rfl) (by omega) rfl ?_)) | refine RK.nilT rfl ?_ rfl))
      refine .ldla rfl rfl rfl rfl rfl rfl rfl rfl (take_part (z := zT) tc_len (by omega) (Nat.le_of_ble_eq_true rfl) (Nat.le_of_ble_eq_true rfl) (show 0 + i * 6 + 0 = i * 6 + 0 by omega) rfl) ?_
      have hO := Of_spec (n := (s.getD i zT).2.x1) (by omega) (by omega)
      have hM := Zmul_spec hgz (.can (n := (s.getD i zT).2.x1) (tiny (by omega)))
      rw [zv_can] at hM
      repeat ((with_reducible refine RK.id_ ?_); (refine RK.cons_ ?_; (refine RK.k_ 0 rfl ?_; refine .p rfl rfl rfl (by exact trivial) ?_)))
      refine .call (hO) rfl rfl rfl rfl ?_
      skip
      refine .call (hM) rfl rfl rfl rfl ?_
      repeat ((with_reducible refine RK.id_ ?_); (refine RK.cons_ ?_; (first | refine RK.k_ 0 rfl ?_; refine .p rfl rfl rfl (by exact trivial) ?_ | refine RK.k_ 4 rfl ?_; (refine .ixl _ _ (s := 6) rfl rfl rfl rfl rfl rfl rfl (by rfl) (by omega) rfl ?_))))
      refine .store rfl rfl rfl rfl rfl rfl rfl rfl (overR_part (z := zT) (i := i) (j := 0) (v := (zcan (zv (s.getD i zT).1 * (s.getD i zT).2.x1), (s.getD i zT).2)) tc_len (by omega) (Nat.le_of_ble_eq_true rfl) (show 0 + i * 6 + 0 = i * 6 + 0 by omega) rfl) rfl ?_
      have hs1 : (s.set i (zcan (zv (s.getD i zT).1 * (s.getD i zT).2.x1), (s.getD i zT).2)).getD i zT = (zcan (zv (s.getD i zT).1 * (s.getD i zT).2.x1), (s.getD i zT).2) := by simp [hsl, hi]
      repeat (first | (with_reducible refine W.id_ ?_); (refine W.reg ?_) | (with_reducible refine RK.id_ ?_); (first | refine RK.cons_ ?_; (first | refine RK.k_ 0 rfl ?_; refine .p rfl rfl rfl (by exact trivial) ?_ | refine RK.k_ 1 rfl ?_; (refine .pa rfl rfl rfl rfl rfl rfl (by omega) (by omega) ?_) | refine RK.k_ 4 rfl ?_; (first | refine .ixl _ _ (s := 6) rfl rfl rfl rfl rfl rfl rfl (by rfl) (by omega) rfl ?_ | refine .p rfl rfl rfl (by omega) ?_)) | refine RK.nilT rfl ?_ rfl))
      refine .store rfl rfl rfl rfl rfl rfl rfl rfl (overR_part (z := zT) (i := i) (j := 3) (v := (zcan (zv (s.getD i zT).1 * (s.getD i zT).2.x1), sx 2 (s.getD i zT).2 (pr ((s.getD i zT).2.x1)))) tc_len (by rw [List.length_set]; omega) (Nat.le_of_ble_eq_true rfl) (show 0 + i * 6 + 2 + 1 = i * 6 + 3 by omega) (by rw [hs1]; rfl)) rfl ?_
      refine .nil ?_ rfl
      refine ⟨(s.set i (zcan (zv (s.getD i zT).1 * (s.getD i zT).2.x1), (s.getD i zT).2)).set i (zcan (zv (s.getD i zT).1 * (s.getD i zT).2.x1), sx 2 (s.getD i zT).2 (pr ((s.getD i zT).2.x1))), ?_, .heap ?_ rfl⟩
      · dsimp only
        rw [List.set_set, derR_next hi, hgt, zv_can, ← Ci]; rfl
      · repeat (first | exact trivial | refine ⟨⟨_, rfl, .refl _⟩, ?_⟩)
    rw [hlen, derR_end] at Ci
    refine W.to (F' := [(5, eP (can (der 2 a)))]) (H' := []) (.frz ⟨⟨_, rfl, frz_flat (by rw [← Ci]; rfl) (by rw [can_len, der_len, hlen])⟩, trivial⟩) ?_
    repeat (first | (with_reducible refine W.id_ ?_); (refine W.sreg ?_) | (with_reducible refine RK.id_ ?_); (refine RK.cons_ ?_; (refine RK.k_ 0 rfl ?_; refine .p rfl rfl rfl (by exact trivial) ?_)))
    refine .call (hN) rfl rfl rfl rfl ?_
    repeat ((with_reducible refine RK.id_ ?_); (first | refine RK.cons_ ?_; (refine RK.k_ 0 rfl ?_; refine .p rfl rfl rfl (by exact trivial) ?_) | refine RK.nilT rfl ?_ rfl))
    refine W.ret ⟨_, rfl, .eq (by repeat (exact eP_pure _)) ?_, rfl⟩
    rfl
theorem Derivative_3 {p : List RT} {a : P} (hp : Pok p) (ea : a = nrm (vals p)) (he : Eb 1000000 a) (hl : l1 (der 3 a) < B32 ^ 1000000000) : PureFn Try.prog 37 [eP p, I 3] (eP (can (derc 3 a))) := by
  have hla : a.length ≤ 1000000 := by rw [ea]; exact Nat.le_trans (nrm_len _) (by rw [vals_len]; exact hp.n)
  have hN := Normal_spec (can_pok' hl (by rw [der_len]; exact hla))
  rw [vals_can] at hN
  have hz : ∀ i, i < a.length → okZ (zcan (a.getD i tz).1) := fun i hi => .can (Nat.lt_of_le_of_lt (l1_mem (getD_mem hi)) (by rw [ea]; exact Nat.lt_of_le_of_lt (l1_nrm _) hp.l))
  refine .of_W (fn := Try.f37) (by repeat (first | exact trivial | refine ⟨(by repeat (first | exact .int _ _ | exact eP_pure _)), ?_⟩)) Try.call37 Try.func37 rfl rfl ?_
  repeat (first | (with_reducible refine W.id_ ?_); (first | refine W.sreg ?_ | refine W.seq ?_ | refine W.skipT rfl ?_ | refine W.condF rfl ?_) | (with_reducible refine RK.id_ ?_); (first | refine RK.cons_ ?_; (refine RK.k_ 0 rfl ?_; refine .p rfl rfl rfl (by exact trivial) ?_) | refine RK.nilT rfl ?_ rfl))
  refine .callF (Normal_live0 hp) rfl rfl rfl rfl ?_; rintro _ _ ⟨rfl, rfl⟩
  rw [← ea]
  cases hd : can a with
  | nil =>
    have ha : a = [] := by cases a with | nil => rfl | cons t a => cases hd
    subst ha
    repeat (first | (with_reducible refine W.id_ ?_); (first | refine W.sreg ?_ | refine W.seq ?_) | (with_reducible refine RK.id_ ?_); (first | refine RK.cons_ ?_; (refine RK.k_ 0 rfl ?_; refine .p rfl rfl rfl (by exact trivial) ?_) | refine RK.nilT rfl ?_ rfl))
    refine W.block (.loop1 ?_)
    repeat (first | (with_reducible refine W.id_ ?_); (first | refine W.sreg ?_ | refine W.seq ?_ | refine W.condF rfl ?_) | (with_reducible refine RK.id_ ?_); (first | refine RK.cons_ ?_; (refine RK.k_ 0 rfl ?_; refine .p rfl rfl rfl (by exact trivial) ?_) | refine RK.nilT rfl ?_ rfl))
    refine W.exitT rfl ?_
    refine W.to (F' := [(5, eP (can (der 3 [])))]) (H' := []) (.frz ⟨⟨_, rfl, .pure .snil (.snil _)⟩, trivial⟩) ?_
    repeat (first | (with_reducible refine W.id_ ?_); (refine W.sreg ?_) | (with_reducible refine RK.id_ ?_); (refine RK.cons_ ?_; (refine RK.k_ 0 rfl ?_; refine .p rfl rfl rfl (by exact trivial) ?_)))
    refine .call (hN) rfl rfl rfl rfl ?_
    repeat ((with_reducible refine RK.id_ ?_); (first | refine RK.cons_ ?_; (refine RK.k_ 0 rfl ?_; refine .p rfl rfl rfl (by exact trivial) ?_) | refine RK.nilT rfl ?_ rfl))
    refine W.ret ⟨_, rfl, .eq (by repeat (exact eP_pure _)) ?_, rfl⟩
    rfl
  | cons t r =>
    have hlen : r.length + 1 = a.length := by rw [← can_len a, hd]; rfl
    repeat (first | (with_reducible refine W.id_ ?_); (first | refine W.sreg ?_ | refine W.seq ?_) | (with_reducible refine RK.id_ ?_); (first | refine RK.cons_ ?_; (refine RK.k_ 0 rfl ?_; refine .p rfl rfl rfl (by exact trivial) ?_) | refine RK.nilT rfl ?_ rfl))
    refine .rangeS (r.length + 1) (fun i s => [(5, .live 0 0 (r.length + 1) (r.length + 1) 6), (1, I 3)]) (fun i s => [some (.cells (s.flatMap tc))]) (fun i s => s = derR 3 a i) (t :: r) rfl rfl rfl rfl rfl rfl rfl rfl rfl rfl (by omega) ?_ ?_ (fun _ _ => rfl) (fun i s hi Ci => ?_) (fun s Ci => ?_)
    · rw [← hd]; rfl
    · refine .heap ?_ rfl
      repeat (first | exact trivial | refine ⟨⟨_, rfl, .refl _⟩, ?_⟩)
    · have hi : i < a.length := by omega
      have hsl : s.length = a.length := by rw [Ci, derR_len]
      have hgt : s.getD i zT = (zcan (a.getD i tz).1, (a.getD i tz).2) := by rw [Ci, derR_get hi]
      have hgz : okZ (s.getD i zT).1 := by rw [hgt]; exact hz i hi
      have hb := he _ (getD_mem (z := tz) hi)
      rw [← show (s.getD i zT).2 = (a.getD i tz).2 by rw [hgt]] at hb
      unfold Mb at hb
      repeat (first | (with_reducible refine W.id_ ?_); (refine W.sreg ?_) | (with_reducible refine RK.id_ ?_); (first | refine RK.cons_ ?_; (first | refine RK.k_ 0 rfl ?_; refine .p rfl rfl rfl (by exact trivial) ?_ | refine RK.k_ 1 rfl ?_; (refine .pa rfl rfl rfl rfl rfl rfl (by omega) (by omega) ?_) | refine RK.k_ 4 rfl ?_; (first | refine .ixl _ _ (s := 6) rfl rfl rfl rfl rfl rfl rfl (by rfl) (by omega) rfl ?_ | refine .p rfl rfl rfl (by omega) ?_)) | refine RK.nilT rfl ?_ rfl))
      refine .ldl rfl rfl rfl rfl rfl rfl rfl rfl (get_flat tc_len (z := zT) (i := i) (j := 4) (by omega) (Nat.le_of_ble_eq_true rfl) (show 0 + i * 6 + 2 + 2 = i * 6 + 4 by omega) rfl) ?_
      repeat (first | (with_reducible refine W.id_ ?_); (refine W.sdraw mixed (by kernel_rfl) (by kernel_rfl) ?_) | (with_reducible refine RK.id_ ?_); (first | refine RK.cons_ ?_; (first | refine RK.k_ 0 rfl ?_; refine .p rfl rfl rfl (by exact trivial) ?_ | refine RK.k_ 4 rfl ?_; (refine .ixl _ _ (s := 6) rfl rfl rfl rfl rfl rfl rfl (by rfl) (by omega) rfl ?_)) | refine RK.nilT rfl ?_ rfl))
      refine .ldla rfl rfl rfl rfl rfl rfl rfl rfl (take_part (z := zT) tc_len (by omega) (Nat.le_of_ble_eq_true rfl) (Nat.le_of_ble_eq_true rfl) (show 0 + i * 6 + 0 = i * 6 + 0 by omega) rfl) ?_
      have hO := Of_spec (n := (s.getD i zT).2.x2) (by omega) (by omega)
      have hM := Zmul_spec hgz (.can (n := (s.getD i zT).2.x2) (tiny (by omega)))
      rw [zv_can] at hM
      repeat ((with_reducible refine RK.id_ ?_); (refine RK.cons_ ?_; (refine RK.k_ 0 rfl ?_; refine .p rfl rfl rfl (by exact trivial) ?_)))
      refine .call (hO) rfl rfl rfl rfl ?_
      skip
      refine .call (hM) rfl rfl rfl rfl ?_
      repeat ((with_reducible refine RK.id_ ?_); (refine RK.cons_ ?_; (first | refine RK.k_ 0 rfl ?_; refine .p rfl rfl rfl (by exact trivial) ?_ | refine RK.k_ 4 rfl ?_; (refine .ixl _ _ (s := 6) rfl rfl rfl rfl rfl rfl rfl (by rfl) (by omega) rfl ?_))))
      refine .store rfl rfl rfl rfl rfl rfl rfl rfl (overR_part (z := zT) (i := i) (j := 0) (v := (zcan (zv (s.getD i zT).1 * (s.getD i zT).2.x2), (s.getD i zT).2)) tc_len (by omega) (Nat.le_of_ble_eq_true rfl) (show 0 + i * 6 + 0 = i * 6 + 0 by omega) rfl) rfl ?_
      have hs1 : (s.set i (zcan (zv (s.getD i zT).1 * (s.getD i zT).2.x2), (s.getD i zT).2)).getD i zT = (zcan (zv (s.getD i zT).1 * (s.getD i zT).2.x2), (s.getD i zT).2) := by simp [hsl, hi]
      repeat (first | (with_reducible refine W.id_ ?_); (refine W.reg ?_) | (with_reducible refine RK.id_ ?_); (first | refine RK.cons_ ?_; (first | refine RK.k_ 0 rfl ?_; refine .p rfl rfl rfl (by exact trivial) ?_ | refine RK.k_ 1 rfl ?_; (refine .pa rfl rfl rfl rfl rfl rfl (by omega) (by omega) ?_) | refine RK.k_ 4 rfl ?_; (first | refine .ixl _ _ (s := 6) rfl rfl rfl rfl rfl rfl rfl (by rfl) (by omega) rfl ?_ | refine .p rfl rfl rfl (by omega) ?_)) | refine RK.nilT rfl ?_ rfl))
      refine .store rfl rfl rfl rfl rfl rfl rfl rfl (overR_part (z := zT) (i := i) (j := 4) (v := (zcan (zv (s.getD i zT).1 * (s.getD i zT).2.x2), sx 3 (s.getD i zT).2 (pr ((s.getD i zT).2.x2)))) tc_len (by rw [List.length_set]; omega) (Nat.le_of_ble_eq_true rfl) (show 0 + i * 6 + 2 + 2 = i * 6 + 4 by omega) (by rw [hs1]; rfl)) rfl ?_
      refine .nil ?_ rfl
      refine ⟨(s.set i (zcan (zv (s.getD i zT).1 * (s.getD i zT).2.x2), (s.getD i zT).2)).set i (zcan (zv (s.getD i zT).1 * (s.getD i zT).2.x2), sx 3 (s.getD i zT).2 (pr ((s.getD i zT).2.x2))), ?_, .heap ?_ rfl⟩
      · dsimp only
        rw [List.set_set, derR_next hi, hgt, zv_can, ← Ci]; rfl
      · repeat (first | exact trivial | refine ⟨⟨_, rfl, .refl _⟩, ?_⟩)
    rw [hlen, derR_end] at Ci
    refine W.to (F' := [(5, eP (can (der 3 a)))]) (H' := []) (.frz ⟨⟨_, rfl, frz_flat (by rw [← Ci]; rfl) (by rw [can_len, der_len, hlen])⟩, trivial⟩) ?_
    repeat (first | (with_reducible refine W.id_ ?_); (refine W.sreg ?_) | (with_reducible refine RK.id_ ?_); (refine RK.cons_ ?_; (refine RK.k_ 0 rfl ?_; refine .p rfl rfl rfl (by exact trivial) ?_)))
    refine .call (hN) rfl rfl rfl rfl ?_
    repeat ((with_reducible refine RK.id_ ?_); (first | refine RK.cons_ ?_; (refine RK.k_ 0 rfl ?_; refine .p rfl rfl rfl (by exact trivial) ?_) | refine RK.nilT rfl ?_ rfl))
    refine W.ret ⟨_, rfl, .eq (by repeat (exact eP_pure _)) ?_, rfl⟩
    rfl
theorem Derivative_4 {p : List RT} {a : P} (hp : Pok p) (ea : a = nrm (vals p)) (he : Eb 1000000 a) (hl : l1 (der 4 a) < B32 ^ 1000000000) : PureFn Try.prog 37 [eP p, I 4] (eP (can (derc 4 a))) := by
  have hla : a.length ≤ 1000000 := by rw [ea]; exact Nat.le_trans (nrm_len _) (by rw [vals_len]; exact hp.n)
  have hN := Normal_spec (can_pok' hl (by rw [der_len]; exact hla))
  rw [vals_can] at hN
  have hz : ∀ i, i < a.length → okZ (zcan (a.getD i tz).1) := fun i hi => .can (Nat.lt_of_le_of_lt (l1_mem (getD_mem hi)) (by rw [ea]; exact Nat.lt_of_le_of_lt (l1_nrm _) hp.l))
  refine .of_W (fn := Try.f37) (by repeat (first | exact trivial | refine ⟨(by repeat (first | exact .int _ _ | exact eP_pure _)), ?_⟩)) Try.call37 Try.func37 rfl rfl ?_
  repeat (first | (with_reducible refine W.id_ ?_); (first | refine W.sreg ?_ | refine W.seq ?_ | refine W.skipT rfl ?_ | refine W.condF rfl ?_) | (with_reducible refine RK.id_ ?_); (first | refine RK.cons_ ?_; (refine RK.k_ 0 rfl ?_; refine .p rfl rfl rfl (by exact trivial) ?_) | refine RK.nilT rfl ?_ rfl))
  refine .callF (Normal_live0 hp) rfl rfl rfl rfl ?_; rintro _ _ ⟨rfl, rfl⟩
  rw [← ea]
  cases hd : can a with
  | nil =>
    have ha : a = [] := by cases a with | nil => rfl | cons t a => cases hd
    subst ha
    repeat (first | (with_reducible refine W.id_ ?_); (first | refine W.sreg ?_ | refine W.seq ?_) | (with_reducible refine RK.id_ ?_); (first | refine RK.cons_ ?_; (refine RK.k_ 0 rfl ?_; refine .p rfl rfl rfl (by exact trivial) ?_) | refine RK.nilT rfl ?_ rfl))
    refine W.block (.loop1 ?_)
    repeat (first | (with_reducible refine W.id_ ?_); (first | refine W.sreg ?_ | refine W.seq ?_ | refine W.condF rfl ?_) | (with_reducible refine RK.id_ ?_); (first | refine RK.cons_ ?_; (refine RK.k_ 0 rfl ?_; refine .p rfl rfl rfl (by exact trivial) ?_) | refine RK.nilT rfl ?_ rfl))
    refine W.exitT rfl ?_
    refine W.to (F' := [(5, eP (can (der 4 [])))]) (H' := []) (.frz ⟨⟨_, rfl, .pure .snil (.snil _)⟩, trivial⟩) ?_
    repeat (first | (with_reducible refine W.id_ ?_); (refine W.sreg ?_) | (with_reducible refine RK.id_ ?_); (refine RK.cons_ ?_; (refine RK.k_ 0 rfl ?_; refine .p rfl rfl rfl (by exact trivial) ?_)))
    refine .call (hN) rfl rfl rfl rfl ?_
    repeat ((with_reducible refine RK.id_ ?_); (first | refine RK.cons_ ?_; (refine RK.k_ 0 rfl ?_; refine .p rfl rfl rfl (by exact trivial) ?_) | refine RK.nilT rfl ?_ rfl))
    refine W.ret ⟨_, rfl, .eq (by repeat (exact eP_pure _)) ?_, rfl⟩
    rfl
  | cons t r =>
    have hlen : r.length + 1 = a.length := by rw [← can_len a, hd]; rfl
    repeat (first | (with_reducible refine W.id_ ?_); (first | refine W.sreg ?_ | refine W.seq ?_) | (with_reducible refine RK.id_ ?_); (first | refine RK.cons_ ?_; (refine RK.k_ 0 rfl ?_; refine .p rfl rfl rfl (by exact trivial) ?_) | refine RK.nilT rfl ?_ rfl))
    refine .rangeS (r.length + 1) (fun i s => [(5, .live 0 0 (r.length + 1) (r.length + 1) 6), (1, I 4)]) (fun i s => [some (.cells (s.flatMap tc))]) (fun i s => s = derR 4 a i) (t :: r) rfl rfl rfl rfl rfl rfl rfl rfl rfl rfl (by omega) ?_ ?_ (fun _ _ => rfl) (fun i s hi Ci => ?_) (fun s Ci => ?_)
    · rw [← hd]; rfl
    · refine .heap ?_ rfl
      repeat (first | exact trivial | refine ⟨⟨_, rfl, .refl _⟩, ?_⟩)
    · have hi : i < a.length := by omega
      have hsl : s.length = a.length := by rw [Ci, derR_len]
      have hgt : s.getD i zT = (zcan (a.getD i tz).1, (a.getD i tz).2) := by rw [Ci, derR_get hi]
      have hgz : okZ (s.getD i zT).1 := by rw [hgt]; exact hz i hi
      have hb := he _ (getD_mem (z := tz) hi)
      rw [← show (s.getD i zT).2 = (a.getD i tz).2 by rw [hgt]] at hb
      unfold Mb at hb
      repeat (first | (with_reducible refine W.id_ ?_); (refine W.sreg ?_) | (with_reducible refine RK.id_ ?_); (first | refine RK.cons_ ?_; (first | refine RK.k_ 0 rfl ?_; refine .p rfl rfl rfl (by exact trivial) ?_ | refine RK.k_ 1 rfl ?_; (refine .pa rfl rfl rfl rfl rfl rfl (by omega) (by omega) ?_) | refine RK.k_ 4 rfl ?_; (first | refine .ixl _ _ (s := 6) rfl rfl rfl rfl rfl rfl rfl (by rfl) (by omega) rfl ?_ | refine .p rfl rfl rfl (by omega) ?_)) | refine RK.nilT rfl ?_ rfl))
      refine .ldl rfl rfl rfl rfl rfl rfl rfl rfl (get_flat tc_len (z := zT) (i := i) (j := 5) (by omega) (Nat.le_of_ble_eq_true rfl) (show 0 + i * 6 + 2 + 3 = i * 6 + 5 by omega) rfl) ?_
      repeat (first | (with_reducible refine W.id_ ?_); (refine W.sdraw mixed (by kernel_rfl) (by kernel_rfl) ?_) | (with_reducible refine RK.id_ ?_); (first | refine RK.cons_ ?_; (first | refine RK.k_ 0 rfl ?_; refine .p rfl rfl rfl (by exact trivial) ?_ | refine RK.k_ 4 rfl ?_; (refine .ixl _ _ (s := 6) rfl rfl rfl rfl rfl rfl rfl (by rfl) (by omega) rfl ?_)) | refine RK.nilT rfl ?_ rfl))
      refine .ldla rfl rfl rfl rfl rfl rfl rfl rfl (take_part (z := zT) tc_len (by omega) (Nat.le_of_ble_eq_true rfl) (Nat.le_of_ble_eq_true rfl) (show 0 + i * 6 + 0 = i * 6 + 0 by omega) rfl) ?_
      have hO := Of_spec (n := (s.getD i zT).2.x3) (by omega) (by omega)
      have hM := Zmul_spec hgz (.can (n := (s.getD i zT).2.x3) (tiny (by omega)))
      rw [zv_can] at hM
      repeat ((with_reducible refine RK.id_ ?_); (refine RK.cons_ ?_; (refine RK.k_ 0 rfl ?_; refine .p rfl rfl rfl (by exact trivial) ?_)))
      refine .call (hO) rfl rfl rfl rfl ?_
      skip
      refine .call (hM) rfl rfl rfl rfl ?_
      repeat ((with_reducible refine RK.id_ ?_); (refine RK.cons_ ?_; (first | refine RK.k_ 0 rfl ?_; refine .p rfl rfl rfl (by exact trivial) ?_ | refine RK.k_ 4 rfl ?_; (refine .ixl _ _ (s := 6) rfl rfl rfl rfl rfl rfl rfl (by rfl) (by omega) rfl ?_))))
      refine .store rfl rfl rfl rfl rfl rfl rfl rfl (overR_part (z := zT) (i := i) (j := 0) (v := (zcan (zv (s.getD i zT).1 * (s.getD i zT).2.x3), (s.getD i zT).2)) tc_len (by omega) (Nat.le_of_ble_eq_true rfl) (show 0 + i * 6 + 0 = i * 6 + 0 by omega) rfl) rfl ?_
      have hs1 : (s.set i (zcan (zv (s.getD i zT).1 * (s.getD i zT).2.x3), (s.getD i zT).2)).getD i zT = (zcan (zv (s.getD i zT).1 * (s.getD i zT).2.x3), (s.getD i zT).2) := by simp [hsl, hi]
      repeat (first | (with_reducible refine W.id_ ?_); (refine W.reg ?_) | (with_reducible refine RK.id_ ?_); (first | refine RK.cons_ ?_; (first | refine RK.k_ 0 rfl ?_; refine .p rfl rfl rfl (by exact trivial) ?_ | refine RK.k_ 1 rfl ?_; (refine .pa rfl rfl rfl rfl rfl rfl (by omega) (by omega) ?_) | refine RK.k_ 4 rfl ?_; (first | refine .ixl _ _ (s := 6) rfl rfl rfl rfl rfl rfl rfl (by rfl) (by omega) rfl ?_ | refine .p rfl rfl rfl (by omega) ?_)) | refine RK.nilT rfl ?_ rfl))
      refine .store rfl rfl rfl rfl rfl rfl rfl rfl (overR_part (z := zT) (i := i) (j := 5) (v := (zcan (zv (s.getD i zT).1 * (s.getD i zT).2.x3), sx 4 (s.getD i zT).2 (pr ((s.getD i zT).2.x3)))) tc_len (by rw [List.length_set]; omega) (Nat.le_of_ble_eq_true rfl) (show 0 + i * 6 + 2 + 3 = i * 6 + 5 by omega) (by rw [hs1]; rfl)) rfl ?_
      refine .nil ?_ rfl
      refine ⟨(s.set i (zcan (zv (s.getD i zT).1 * (s.getD i zT).2.x3), (s.getD i zT).2)).set i (zcan (zv (s.getD i zT).1 * (s.getD i zT).2.x3), sx 4 (s.getD i zT).2 (pr ((s.getD i zT).2.x3))), ?_, .heap ?_ rfl⟩
      · dsimp only
        rw [List.set_set, derR_next hi, hgt, zv_can, ← Ci]; rfl
      · repeat (first | exact trivial | refine ⟨⟨_, rfl, .refl _⟩, ?_⟩)
    rw [hlen, derR_end] at Ci
    refine W.to (F' := [(5, eP (can (der 4 a)))]) (H' := []) (.frz ⟨⟨_, rfl, frz_flat (by rw [← Ci]; rfl) (by rw [can_len, der_len, hlen])⟩, trivial⟩) ?_
    repeat (first | (with_reducible refine W.id_ ?_); (refine W.sreg ?_) | (with_reducible refine RK.id_ ?_); (refine RK.cons_ ?_; (refine RK.k_ 0 rfl ?_; refine .p rfl rfl rfl (by exact trivial) ?_)))
    refine .call (hN) rfl rfl rfl rfl ?_
    repeat ((with_reducible refine RK.id_ ?_); (first | refine RK.cons_ ?_; (refine RK.k_ 0 rfl ?_; refine .p rfl rfl rfl (by exact trivial) ?_) | refine RK.nilT rfl ?_ rfl))
    refine W.ret ⟨_, rfl, .eq (by repeat (exact eP_pure _)) ?_, rfl⟩
    rfl
end Go.Proofs.Ytbdefjbekbbldaa

namespace Go.Proofs.Ytbdefjbekbbldaa
open Go.V Go.N
set_option maxHeartbeats 8000000
set_option maxRecDepth 20000

/-- The derivative with respect to any level. -/
def dv (l : Int) (a : P) : P := if 1 ≤ l ∧ l ≤ 4 then derc l.toNat a else []
theorem dv_out {l : Int} (h : ¬ (1 ≤ l ∧ l ≤ 4)) (a : P) : dv l a = [] := if_neg h
theorem dv_canon (l : Int) (a : P) : Canon (dv l a) := by
  unfold dv
  split
  · exact nrm_canon _
  · exact .nil
theorem lv_of {l : Int} (h : 1 ≤ l ∧ l ≤ 4) : Lv l.toNat := by unfold Lv; omega
theorem mulL_nil_r (a : P) : mulL a [] = [] := by
  induction a with
  | nil => rfl
  | cons s a ih => rw [mulL_cons, ih]; rfl
theorem dv_add {l : Int} {a b : P} (ha : Canon a) (hb : Canon b) : dv l (addc a b) = addc (dv l a) (dv l b) := by
  unfold dv
  split
  · exact derc_add (lv_of (by assumption)) ha hb
  · rfl
theorem dv_mul {l : Int} {a b : P} (ha : Canon a) (hb : Canon b) : dv l (mulc a b) = addc (mulc (dv l a) b) (mulc a (dv l b)) := by
  unfold dv
  split
  · exact derc_mul (lv_of (by assumption)) ha hb
  · show [] = addc (nrm (mulL [] b)) (nrm (mulL a []))
    rw [mulL_nil, mulL_nil_r]; rfl
theorem dv_var {l i : Int} (h : 1 ≤ i ∧ i ≤ 4) : dv l (var' i) = con 1 ↔ i = l := by
  by_cases hl : 1 ≤ l ∧ l ≤ 4
  · obtain rfl | rfl | rfl | rfl : i = 1 ∨ i = 2 ∨ i = 3 ∨ i = 4 := by omega
    all_goals (obtain rfl | rfl | rfl | rfl : l = 1 ∨ l = 2 ∨ l = 3 ∨ l = 4 := by omega) <;> decide
  · rw [dv_out hl]
    constructor
    · intro h; cases h
    · rintro rfl; exact absurd h hl
theorem dv_con {l : Int} : dv l (con 7) = [] := by
  by_cases hl : 1 ≤ l ∧ l ≤ 4
  · obtain rfl | rfl | rfl | rfl : l = 1 ∨ l = 2 ∨ l = 3 ∨ l = 4 := by omega
    all_goals decide
  · exact dv_out hl _

theorem Rp.deriv {k n : Nat} {e : Int} {p : List RT} {a : P} (h : Rp k n e p a) (l : Int) (hk : k + 1 ≤ 1000000000) (hn : n ≤ 1000000) (h0 : 0 ≤ e) (he : e ≤ 1000000) :
    PureFn Try.prog 37 [eP p, I l] (eP (can (dv l a))) ∧ Rp (k + 1) n e (can (dv l a)) (dv l a) := by
  by_cases hl : 1 ≤ l ∧ l ≤ 4
  · have hL := lv_of hl
    have h1 : N.l1 (der l.toNat a) < B32 ^ (k + 1) := by
      refine Nat.lt_of_le_of_lt (l1_der hL h.eb h0) ?_
      rw [Nat.pow_succ]
      refine Nat.lt_of_le_of_lt (Nat.mul_le_mul_left _ (show e.toNat ≤ B32 by unfold B32; omega)) ?_
      exact Nat.mul_lt_mul_of_pos_right h.l1 (by decide)
    have hs := small_lt h1 hk
    have e1 : dv l a = derc l.toNat a := if_pos hl
    rw [e1]
    refine ⟨?_, .cn (nrm_canon _) (Nat.lt_of_le_of_lt (l1_nrm _) h1) (Nat.le_trans (nrm_len _) (by rw [der_len]; exact h.len)) (Eb.der hL h.eb).nrm hk⟩
    have hp := h.pok (by omega) hn
    have eb := h.eb.mono he
    obtain rfl | rfl | rfl | rfl : l = 1 ∨ l = 2 ∨ l = 3 ∨ l = 4 := by omega
    · exact Derivative_1 hp h.eqn eb hs
    · exact Derivative_2 hp h.eqn eb hs
    · exact Derivative_3 hp h.eqn eb hs
    · exact Derivative_4 hp h.eqn eb hs
  · rw [dv_out hl]
    exact ⟨Derivative_out hl, .cn .nil (by show 0 < _; exact Nat.pow_pos (by decide)) (Nat.zero_le _) (fun t ht => by cases ht) hk⟩

/- cylinderlaw20.inner -/
theorem inner_spec (l : Int) : PureFn Try.prog 23 [I l] (.bool (decide (1 ≤ l ∧ l ≤ 4))) := by
  refine .of_W (fn := Try.f23) (by repeat (first | exact trivial | refine ⟨(by repeat (exact .int _ _)), ?_⟩)) Try.call23 Try.func23 rfl rfl ?_
  repeat (first | (with_reducible refine W.id_ ?_); (refine W.sreg ?_) | (with_reducible refine RK.id_ ?_); (first | refine RK.cons_ ?_; (refine RK.k_ 0 rfl ?_; refine .p rfl rfl rfl (by exact trivial) ?_) | refine RK.nilT rfl ?_ rfl))
  refine .dsplit (fun h => ?_) (fun h => ?_)
  · repeat ((with_reducible refine RK.id_ ?_); (first | refine RK.cons_ ?_; (refine RK.k_ 0 rfl ?_; refine .p rfl rfl rfl (by exact trivial) ?_) | refine RK.nilT rfl ?_ rfl))
    refine W.ret ⟨_, rfl, .eq (by repeat (exact .bool _)) ?_, rfl⟩
    have h' : 1 ≤ l := h
    simp [h']
  · repeat ((with_reducible refine RK.id_ ?_); (first | refine RK.cons_ ?_; (first | refine .skip rfl rfl ?_ | refine RK.k_ 0 rfl ?_; refine .p rfl rfl rfl (by exact trivial) ?_) | refine RK.nilT rfl ?_ rfl))
    refine W.ret ⟨_, rfl, .eq (by repeat (exact .bool _)) ?_, rfl⟩
    have h' : ¬ 1 ≤ l := h
    simp [h']
theorem Rp.var (l : Int) : Rp 1 1 1 (can (var' l)) (var' l) := .cn (var_canon l) (by
    unfold var'
    split
    · show 1 + 0 < B32 ^ 1; decide
    · show 0 < B32 ^ 1; decide) (by
    unfold var'
    split
    · exact Nat.le_refl 1
    · exact Nat.zero_le _) (fun t ht => by
    unfold var' at ht
    split at ht
    · obtain rfl := List.mem_singleton.1 ht
      unfold Mb unit
      simp only
      refine ⟨?_, ?_, ?_, ?_⟩ <;> split <;> omega
    · cases ht) (by omega)
end Go.Proofs.Ytbdefjbekbbldaa
