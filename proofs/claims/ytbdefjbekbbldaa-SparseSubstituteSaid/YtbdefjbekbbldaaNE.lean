/- Replacing variables: plain law. -/
import Derived.Test.YtbdefjbekbbldaaNC
import Derived.Test.YtbdefjbekbbldaaND
set_option linter.unusedVariables false
set_option linter.unusedSimpArgs false
set_option linter.unnecessarySimpa false
namespace Go.N

theorem ev1_congr {x y : Nat → Rat} (h : ∀ i, i < 4 → x i = y i) (m : M) : ev1 x m = ev1 y m := by
  unfold ev1
  rw [h 0 (by omega), h 1 (by omega), h 2 (by omega), h 3 (by omega)]
theorem ev_congr {x y : Nat → Rat} (h : ∀ i, i < 4 → x i = y i) : ∀ a : P, ev x a = ev y a
  | [] => rfl
  | t :: r => by rw [ev, ev, ev1_congr h, ev_congr h r]
/-- A point with another coordinate. -/
def upd (x : Nat → Rat) (l : Nat) (v : Rat) (i : Nat) : Rat := if i + 1 = l then v else x i
theorem ev1_upd {l : Nat} (hl : Lv l) (x : Nat → Rat) (v : Rat) (m : M) : ev1 (upd x l v) m = ev1 x (sx l m 0) * v ^ (ex l m).toNat := by
  rcases hl with rfl | rfl | rfl | rfl
  · show v ^ m.x0.toNat * x 1 ^ m.x1.toNat * x 2 ^ m.x2.toNat * x 3 ^ m.x3.toNat = x 0 ^ 0 * x 1 ^ m.x1.toNat * x 2 ^ m.x2.toNat * x 3 ^ m.x3.toNat * v ^ m.x0.toNat
    rw [Rat.pow_zero]; generalize v ^ m.x0.toNat = a; generalize x 1 ^ m.x1.toNat = b; generalize x 2 ^ m.x2.toNat = c; generalize x 3 ^ m.x3.toNat = d; grind
  · show x 0 ^ m.x0.toNat * v ^ m.x1.toNat * x 2 ^ m.x2.toNat * x 3 ^ m.x3.toNat = x 0 ^ m.x0.toNat * x 1 ^ 0 * x 2 ^ m.x2.toNat * x 3 ^ m.x3.toNat * v ^ m.x1.toNat
    rw [Rat.pow_zero]; generalize x 0 ^ m.x0.toNat = a; generalize v ^ m.x1.toNat = b; generalize x 2 ^ m.x2.toNat = c; generalize x 3 ^ m.x3.toNat = d; grind
  · show x 0 ^ m.x0.toNat * x 1 ^ m.x1.toNat * v ^ m.x2.toNat * x 3 ^ m.x3.toNat = x 0 ^ m.x0.toNat * x 1 ^ m.x1.toNat * x 2 ^ 0 * x 3 ^ m.x3.toNat * v ^ m.x2.toNat
    rw [Rat.pow_zero]; generalize x 0 ^ m.x0.toNat = a; generalize x 1 ^ m.x1.toNat = b; generalize v ^ m.x2.toNat = c; generalize x 3 ^ m.x3.toNat = d; grind
  · show x 0 ^ m.x0.toNat * x 1 ^ m.x1.toNat * x 2 ^ m.x2.toNat * v ^ m.x3.toNat = x 0 ^ m.x0.toNat * x 1 ^ m.x1.toNat * x 2 ^ m.x2.toNat * x 3 ^ 0 * v ^ m.x3.toNat
    rw [Rat.pow_zero]; generalize x 0 ^ m.x0.toNat = a; generalize x 1 ^ m.x1.toNat = b; generalize x 2 ^ m.x2.toNat = c; generalize v ^ m.x3.toNat = d; grind

/-- One term in which a variable is replaced. -/
def sub1 (l : Nat) (b : P) (t : Int × M) : P := mulc [(t.1, sx l t.2 0)] (powc b (ex l t.2).toNat)
def subP (l : Nat) (b a : P) : P := a.foldl (fun s t => nrm (s ++ sub1 l b t)) []
theorem one_canon {c : Int} {m : M} (hc : c ≠ 0) (hm : V m) : Canon [(c, m)] := Canon.nil.cons hc hm fun u hu => by cases hu
theorem subP_take (l : Nat) (b : P) {a : P} {i : Nat} {z : Int × M} (h : i < a.length) : subP l b (a.take (i + 1)) = nrm (subP l b (a.take i) ++ sub1 l b (a.getD i z)) := by
  unfold subP
  rw [take_nx (z := z) h, List.foldl_append]; rfl
theorem sub_fold_canon (l : Nat) (b : P) : ∀ (a s : P), Canon s → Canon (a.foldl (fun s t => nrm (s ++ sub1 l b t)) s)
  | [], s, h => h
  | t :: r, s, h => sub_fold_canon l b r _ (nrm_canon _)
theorem subP_canon (l : Nat) (b a : P) : Canon (subP l b a) := sub_fold_canon l b a [] .nil
theorem ev_sub1 {l : Nat} (hl : Lv l) (x : Nat → Rat) {b : P} (hb : Canon b) {t : Int × M} (h0 : t.1 ≠ 0) (hv : V t.2) : ev x (sub1 l b t) = (t.1 : Rat) * ev1 (upd x l (ev x b)) t.2 := by
  unfold sub1
  rw [ev_mulc x (one_canon h0 (sx_V hl hv (Int.le_refl 0))) (powc_canon b _), ev_powc x hb, ev1_upd hl, ev, ev, Rat.add_zero, Rat.mul_assoc]
theorem ev_sub_fold {l : Nat} (hl : Lv l) (x : Nat → Rat) {b : P} (hb : Canon b) : ∀ (a s : P), Canon s → (∀ t ∈ a, t.1 ≠ 0 ∧ V t.2) → ev x (a.foldl (fun s t => nrm (s ++ sub1 l b t)) s) = ev x s + ev (upd x l (ev x b)) a
  | [], s, _, _ => (Rat.add_zero _).symm
  | t :: r, s, hs, h => by
    rw [List.foldl_cons, ev_sub_fold hl x hb r _ (nrm_canon _) fun u hu => h u (by simp [hu]), ev_addc x hs (b := sub1 l b t) (nrm_canon _), ev_sub1 hl x hb (h t (by simp)).1 (h t (by simp)).2, ev, Rat.add_assoc]
theorem ev_subP {l : Nat} (hl : Lv l) (x : Nat → Rat) {a b : P} (ha : Canon a) (hb : Canon b) : ev x (subP l b a) = ev (upd x l (ev x b)) a := by
  unfold subP
  rw [ev_sub_fold hl x hb a [] .nil fun t ht => ⟨ha.nz t ht, ha.v t ht⟩, ev, Rat.zero_add]

theorem unit_sx {l : Nat} (hl : Lv l) : unit (l : Int) = sx l M0 1 := by
  rcases hl with rfl | rfl | rfl | rfl <;> rfl
theorem var_lv {l : Nat} (hl : Lv l) : var' (l : Int) = [(1, sx l M0 1)] := by
  rcases hl with rfl | rfl | rfl | rfl <;> rfl
theorem sx0_V {l : Nat} (hl : Lv l) {v : Int} (h : 0 ≤ v) : V (sx l M0 v) := sx_V hl V_M0 h
theorem ex_M0 {l : Nat} (hl : Lv l) : ex l M0 = 0 := by
  rcases hl with rfl | rfl | rfl | rfl <;> rfl
theorem add_M0 (m : M) : m.add M0 = m := M.ext' (Int.add_zero _) (Int.add_zero _) (Int.add_zero _) (Int.add_zero _)
theorem powc_var {l : Nat} (hl : Lv l) : ∀ k : Nat, powc (var' (l : Int)) k = [(1, sx l M0 (k : Int))]
  | 0 => by
    have : sx l M0 ((0 : Nat) : Int) = M0 := by
      have := sx_ex hl M0
      rw [ex_M0 hl] at this
      exact this
    rw [this]; rfl
  | k + 1 => by
    rw [powc, powc_var hl k, var_lv hl]
    show nrm [(1 * 1, (sx l M0 (k : Int)).add (sx l M0 1))] = _
    rw [sx_addr hl, ex_sx hl, nrm_self (one_canon (by decide) (sx_V hl (M.add_V (sx0_V hl (Int.natCast_nonneg k)) V_M0) (by omega)))]
    rw [add_M0, sx_sx hl]; rfl
theorem sub1_var {l : Nat} (hl : Lv l) {t : Int × M} (h0 : t.1 ≠ 0) (hv : V t.2) : sub1 l (var' (l : Int)) t = [t] := by
  unfold sub1
  rw [powc_var hl]
  show nrm [(t.1 * 1, (sx l t.2 0).add (sx l M0 ((ex l t.2).toNat : Int)))] = _
  have he := ex_V hl hv
  rw [sx_addr hl, ex_sx hl, add_M0, sx_sx hl, Int.zero_add, Int.toNat_of_nonneg he, sx_ex hl, Int.mul_one]
  exact nrm_self (one_canon h0 hv)
theorem nrm_app_one (s : P) (t : Int × M) (r : P) : nrm (nrm (s ++ [t]) ++ r) = nrm (s ++ t :: r) := by
  refine nrm_eq fun m hm => ?_
  rw [cf_append, cf_nrm, if_pos hm, cf_append, cf_append]
  have : cf (t :: r) m = cf [t] m + cf r m := by rw [← cf_append]; rfl
  rw [this]; omega
theorem sub_fold_var {l : Nat} (hl : Lv l) : ∀ (a s : P), Canon s → (∀ t ∈ a, t.1 ≠ 0 ∧ V t.2) → a.foldl (fun s t => nrm (s ++ sub1 l (var' (l : Int)) t)) s = nrm (s ++ a)
  | [], s, hs, _ => by rw [List.append_nil, nrm_self hs]; rfl
  | t :: r, s, hs, h => by
    rw [List.foldl_cons, sub1_var hl (h t (by simp)).1 (h t (by simp)).2, sub_fold_var hl r _ (nrm_canon _) fun u hu => h u (by simp [hu]), nrm_app_one]
theorem subP_var {l : Nat} (hl : Lv l) {a : P} (ha : Canon a) : subP l (var' (l : Int)) a = a := by
  unfold subP
  rw [sub_fold_var hl a [] .nil fun t ht => ⟨ha.nz t ht, ha.v t ht⟩, List.nil_append, nrm_self ha]

/- Renaming. -/
def gM (m : M) : Nat → Int
  | 0 => m.x0
  | 1 => m.x1
  | 2 => m.x2
  | _ => m.x3
def sM (m : M) : Nat → Int → M
  | 0, v => ⟨v, m.x1, m.x2, m.x3⟩
  | 1, v => ⟨m.x0, v, m.x2, m.x3⟩
  | 2, v => ⟨m.x0, m.x1, v, m.x3⟩
  | _, v => ⟨m.x0, m.x1, m.x2, v⟩
/-- Where a variable goes. -/
def tgt (n : Int) (k : Nat) : Nat := if 1 ≤ n ∧ n ≤ 4 then (n - 1).toNat else k
def rn1 (to : M) (e : Int) (k : Nat) (m : M) : M := sM m (tgt (gM to k) k) (gM m (tgt (gM to k) k) + e)
def rnk (to m : M) : Nat → M
  | 0 => M0
  | k + 1 => rn1 to (gM m k) k (rnk to m k)
def renM (to m : M) : M := rnk to m 4
theorem tgt_lt (n : Int) {k : Nat} (hk : k < 4) : tgt n k < 4 := by
  unfold tgt
  split <;> omega
theorem ev1_sM (x : Nat → Rat) {j : Nat} (hj : j < 4) (m : M) {e : Int} (h0 : 0 ≤ gM m j) (he : 0 ≤ e) : ev1 x (sM m j (gM m j + e)) = ev1 x m * x j ^ e.toNat := by
  obtain rfl | rfl | rfl | rfl : j = 0 ∨ j = 1 ∨ j = 2 ∨ j = 3 := by omega
  all_goals
    unfold ev1 sM gM at *
    simp only at *
    rw [Int.toNat_add h0 he, rat_pow_add]
    generalize x 0 ^ m.x0.toNat = a0
    generalize x 1 ^ m.x1.toNat = a1
    generalize x 2 ^ m.x2.toNat = a2
    generalize x 3 ^ m.x3.toNat = a3
    first
      | (generalize x 0 ^ e.toNat = b; grind)
      | (generalize x 1 ^ e.toNat = b; grind)
      | (generalize x 2 ^ e.toNat = b; grind)
      | (generalize x 3 ^ e.toNat = b; grind)
theorem Mb.gM {e : Int} {m : M} (h : Mb e m) (j : Nat) : 0 ≤ gM m j ∧ gM m j ≤ e := by
  obtain ⟨h0, h1, h2, h3⟩ := h
  rcases j with _ | _ | _ | j
  · exact h0
  · exact h1
  · exact h2
  · exact h3
theorem Mb.sM {e f : Int} {m : M} (h : Mb e m) (hf : 0 ≤ f) (j : Nat) : Mb (e + f) (sM m j (N.gM m j + f)) := by
  have hg := h.gM j
  obtain ⟨h0, h1, h2, h3⟩ := h
  unfold Mb
  rcases j with _ | _ | _ | j <;> (unfold N.sM; simp only; omega)
theorem rnk_Mb {e : Int} (to : M) {m : M} (h : Mb e m) (h0 : 0 ≤ e) : ∀ k : Nat, Mb (e * k) (rnk to m k)
  | 0 => by
    unfold rnk M0 Mb
    simp
  | k + 1 => by
    have h1 := rnk_Mb to h h0 k
    have h2 := h.gM k
    have h3 := h1.sM h2.1 (tgt (N.gM to k) k)
    refine Mb.mono h3 ?_
    rw [Int.natCast_add, Int.mul_add]
    omega
theorem ev1_rnk (x : Nat → Rat) (to : M) {m : M} {e : Int} (h : Mb e m) (h0 : 0 ≤ e) : ∀ k : Nat, k ≤ 4 → ev1 x (rnk to m k) = ev1k (fun i => x (tgt (gM to i) i)) 1 m k
  | 0, _ => ev1_M0 x
  | k + 1, hk => by
    have h1 := (rnk_Mb to h h0 k).gM (tgt (gM to k) k)
    rw [rnk, rn1, ev1_sM x (tgt_lt _ (by omega)) _ h1.1 (h.gM k).1, ev1_rnk x to h h0 k (by omega)]
    obtain rfl | rfl | rfl | rfl : k = 0 ∨ k = 1 ∨ k = 2 ∨ k = 3 := by omega
    all_goals rfl
theorem ev1_ren (x : Nat → Rat) (to : M) {m : M} {e : Int} (h : Mb e m) (h0 : 0 ≤ e) : ev1 x (renM to m) = ev1 (fun i => x (tgt (gM to i) i)) m := by
  unfold renM
  rw [ev1_rnk x to h h0 4 (Nat.le_refl _), ev1k_4, Rat.one_mul]
def ren (to : M) (a : P) : P := a.map fun t => (t.1, renM to t.2)
theorem ev_ren (x : Nat → Rat) (to : M) {e : Int} (h0 : 0 ≤ e) : ∀ {a : P}, Eb e a → ev x (ren to a) = ev (fun i => x (tgt (gM to i) i)) a
  | [], _ => rfl
  | t :: r, h => by
    show ((t.1 : Int) : Rat) * ev1 x (renM to t.2) + ev x (ren to r) = _
    rw [ev1_ren x to (h t (by simp)) h0, ev_ren x to h0 fun u hu => h u (by simp [hu])]; rfl
theorem ren_Eb (to : M) {e : Int} (h0 : 0 ≤ e) {a : P} (h : Eb e a) : Eb (e * 4) (ren to a) := fun t ht => by
  obtain ⟨u, hu, rfl⟩ := List.mem_map.1 ht
  exact rnk_Mb to (h u hu) h0 4
theorem Mb.V {e : Int} {m : M} (h : Mb e m) : V m := ⟨h.1.1, h.2.1.1, h.2.2.1.1, h.2.2.2.1⟩
theorem ren_V (to : M) {e : Int} (h0 : 0 ≤ e) {a : P} (h : Eb e a) : ∀ t ∈ ren to a, N.V t.2 := fun t ht => (ren_Eb to h0 h t ht).V
theorem ev_renc (x : Nat → Rat) (to : M) {e : Int} (h0 : 0 ≤ e) {a : P} (h : Eb e a) : ev x (nrm (ren to a)) = ev (fun i => x (tgt (gM to i) i)) a := by
  rw [ev_nrm_V x (ren_V to h0 h), ev_ren x to h0 h]
theorem l1_ren (to : M) : ∀ a : P, l1 (ren to a) = l1 a
  | [] => rfl
  | t :: r => by show t.1.natAbs + l1 (ren to r) = t.1.natAbs + l1 r; rw [l1_ren to r]
theorem ren_len (to : M) (a : P) : (ren to a).length = a.length := List.length_map _
theorem rn_id {m : M} : renM M0 m = m := by
  have e : ∀ k, tgt (gM M0 k) k = k := fun k => by
    have : gM M0 k = 0 := by rcases k with _ | _ | _ | k <;> rfl
    rw [this]; rfl
  have s : ∀ (k : Nat) (n : M) (v : Int), rn1 M0 v k n = sM n k (gM n k + v) := fun k n v => by unfold rn1; rw [e]
  unfold renM rnk rnk rnk rnk rnk
  rw [s, s, s, s]
  unfold sM gM M0
  simp
theorem ren_id (a : P) : ren M0 a = a := by
  unfold ren
  conv => rhs; rw [← List.map_id a]
  exact List.map_congr_left fun t _ => by rw [rn_id]; rfl
end Go.N
