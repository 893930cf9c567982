/- Derivatives: plain law. -/
import Derived.Test.YtbdefjbekbbldaaN
set_option linter.unusedVariables false
set_option linter.unusedSimpArgs false
set_option linter.unnecessarySimpa false
namespace Go.N

/-- An exponent. -/
def ex : Nat → M → Int
  | 1, m => m.x0
  | 2, m => m.x1
  | 3, m => m.x2
  | _, m => m.x3
def sx : Nat → M → Int → M
  | 1, m, v => ⟨v, m.x1, m.x2, m.x3⟩
  | 2, m, v => ⟨m.x0, v, m.x2, m.x3⟩
  | 3, m, v => ⟨m.x0, m.x1, v, m.x3⟩
  | _, m, v => ⟨m.x0, m.x1, m.x2, v⟩
def pr (e : Int) : Int := if 0 > e - 1 then 0 else e - 1
def der1 (l : Nat) (t : Int × M) : Int × M := (t.1 * ex l t.2, sx l t.2 (pr (ex l t.2)))
def der (l : Nat) (a : P) : P := a.map (der1 l)
theorem der_append (l : Nat) (a b : P) : der l (a ++ b) = der l a ++ der l b := List.map_append
theorem der_cons (l : Nat) (t : Int × M) (a : P) : der l (t :: a) = der1 l t :: der l a := rfl
theorem der_len (l : Nat) (a : P) : (der l a).length = a.length := List.length_map _

theorem ex_1 (m : M) : ex 1 m = m.x0 := rfl
theorem ex_2 (m : M) : ex 2 m = m.x1 := rfl
theorem ex_3 (m : M) : ex 3 m = m.x2 := rfl
theorem ex_4 (m : M) : ex 4 m = m.x3 := rfl
theorem sx_1 (m : M) (v : Int) : sx 1 m v = ⟨v, m.x1, m.x2, m.x3⟩ := rfl
theorem sx_2 (m : M) (v : Int) : sx 2 m v = ⟨m.x0, v, m.x2, m.x3⟩ := rfl
theorem sx_3 (m : M) (v : Int) : sx 3 m v = ⟨m.x0, m.x1, v, m.x3⟩ := rfl
theorem sx_4 (m : M) (v : Int) : sx 4 m v = ⟨m.x0, m.x1, m.x2, v⟩ := rfl
def Lv (l : Nat) : Prop := l = 1 ∨ l = 2 ∨ l = 3 ∨ l = 4

theorem ex_V {l : Nat} (hl : Lv l) {m : M} (h : V m) : 0 ≤ ex l m := by
  unfold V at h
  rcases hl with rfl | rfl | rfl | rfl <;> simp only [ex_1, ex_2, ex_3, ex_4] <;> omega
theorem sx_V {l : Nat} (hl : Lv l) {m : M} {v : Int} (h : V m) (hv : 0 ≤ v) : V (sx l m v) := by
  unfold V at h ⊢
  rcases hl with rfl | rfl | rfl | rfl <;> simp only [sx_1, sx_2, sx_3, sx_4] <;> omega
theorem ex_sx {l : Nat} (hl : Lv l) (m : M) (v : Int) : ex l (sx l m v) = v := by
  rcases hl with rfl | rfl | rfl | rfl <;> rfl
theorem sx_sx {l : Nat} (hl : Lv l) (m : M) (v w : Int) : sx l (sx l m v) w = sx l m w := by
  rcases hl with rfl | rfl | rfl | rfl <;> rfl
theorem sx_ex {l : Nat} (hl : Lv l) (m : M) : sx l m (ex l m) = m := by
  rcases hl with rfl | rfl | rfl | rfl <;> rfl
theorem ex_add {l : Nat} (hl : Lv l) (n k : M) : ex l (n.add k) = ex l n + ex l k := by
  rcases hl with rfl | rfl | rfl | rfl <;> rfl
theorem sx_addl {l : Nat} (hl : Lv l) (n k : M) (v : Int) : (sx l n v).add k = sx l (n.add k) (v + ex l k) := by
  rcases hl with rfl | rfl | rfl | rfl <;> rfl
theorem sx_addr {l : Nat} (hl : Lv l) (n k : M) (v : Int) : n.add (sx l k v) = sx l (n.add k) (ex l n + v) := by
  rcases hl with rfl | rfl | rfl | rfl <;> rfl
theorem pr_nn {e : Int} : 0 ≤ pr e := by unfold pr; split <;> omega
theorem der_V {l : Nat} (hl : Lv l) {a : P} (h : ∀ t ∈ a, V t.2) : ∀ t ∈ der l a, V t.2 := fun t ht => by
  obtain ⟨u, hu, rfl⟩ := List.mem_map.1 ht
  exact sx_V hl (h u hu) pr_nn

/-- The monomial one higher. -/
def up (l : Nat) (m : M) : M := sx l m (ex l m + 1)
theorem der1_eq {l : Nat} (hl : Lv l) {t : Int × M} {m : M} (hv : V t.2) (hm : V m) : (if (der1 l t).2 = m then (der1 l t).1 else 0) = (ex l m + 1) * (if t.2 = up l m then t.1 else 0) := by
  obtain ⟨c, n⟩ := t
  have n0 : 0 ≤ ex l n := ex_V hl hv
  have m0 : 0 ≤ ex l m := ex_V hl hm
  show (if sx l n (pr (ex l n)) = m then c * ex l n else 0) = (ex l m + 1) * (if n = sx l m (ex l m + 1) then c else 0)
  by_cases h0 : ex l n = 0
  · have hne : n ≠ sx l m (ex l m + 1) := by
      intro e
      rw [e, ex_sx hl] at h0
      omega
    rw [if_neg hne, Int.mul_zero, h0, Int.mul_zero]
    split <;> rfl
  · have hp : pr (ex l n) = ex l n - 1 := by
      unfold pr
      rw [if_neg (by omega)]
    rw [hp]
    by_cases e : n = sx l m (ex l m + 1)
    · have e2 : ex l n = ex l m + 1 := by rw [e, ex_sx hl]
      have e3 : sx l n (ex l n - 1) = m := by
        rw [e2, e, sx_sx hl, show ex l m + 1 - 1 = ex l m by omega, sx_ex hl]
      rw [if_pos e3, if_pos e, e2, Int.mul_comm]
    · rw [if_neg e, Int.mul_zero, if_neg]
      intro e3
      refine e ?_
      rw [← e3, ex_sx hl, sx_sx hl, show ex l n - 1 + 1 = ex l n by omega, sx_ex hl]
theorem cf_der {l : Nat} (hl : Lv l) {a : P} (h : ∀ t ∈ a, V t.2) {m : M} (hm : V m) : cf (der l a) m = (ex l m + 1) * cf a (up l m) := by
  induction a with
  | nil => simp [der, cf]
  | cons t a ih =>
    rw [der_cons, cf, der1_eq hl (h t (by simp)) hm, ih fun u hu => h u (by simp [hu]), cf, Int.mul_add]
theorem cf_der_eq {l : Nat} (hl : Lv l) {a b : P} (ha : ∀ t ∈ a, V t.2) (hb : ∀ t ∈ b, V t.2) (h : ∀ m, cf a m = cf b m) (m : M) : cf (der l a) m = cf (der l b) m := by
  by_cases hm : V m
  · rw [cf_der hl ha hm, cf_der hl hb hm, h]
  · rw [cf_inval (der_V hl ha) hm, cf_inval (der_V hl hb) hm]

theorem one_prod {l : Nat} (hl : Lv l) {s t : Int × M} (hs : V s.2) (ht : V t.2) (m : M) :
    cf [der1 l (s.1 * t.1, s.2.add t.2)] m = cf [((der1 l s).1 * t.1, (der1 l s).2.add t.2)] m + cf [(s.1 * (der1 l t).1, s.2.add (der1 l t).2)] m := by
  obtain ⟨c, n⟩ := s
  obtain ⟨d, k⟩ := t
  show (if sx l (n.add k) (pr (ex l (n.add k))) = m then c * d * ex l (n.add k) else 0) + 0 = ((if (sx l n (pr (ex l n))).add k = m then c * ex l n * d else 0) + 0) + ((if n.add (sx l k (pr (ex l k))) = m then c * (d * ex l k) else 0) + 0)
  rw [Int.add_zero, Int.add_zero, Int.add_zero]
  have hn : 0 ≤ ex l n := ex_V hl hs
  have hk : 0 ≤ ex l k := ex_V hl ht
  have hA : 1 ≤ ex l n → (sx l n (pr (ex l n))).add k = sx l (n.add k) (pr (ex l n + ex l k)) := fun h => by
    have e1 : pr (ex l n) = ex l n - 1 := by unfold pr; rw [if_neg (by omega)]
    have e2 : pr (ex l n + ex l k) = ex l n + ex l k - 1 := by unfold pr; rw [if_neg (by omega)]
    rw [e1, e2, sx_addl hl, show ex l n - 1 + ex l k = ex l n + ex l k - 1 by omega]
  have hB : 1 ≤ ex l k → n.add (sx l k (pr (ex l k))) = sx l (n.add k) (pr (ex l n + ex l k)) := fun h => by
    have e1 : pr (ex l k) = ex l k - 1 := by unfold pr; rw [if_neg (by omega)]
    have e2 : pr (ex l n + ex l k) = ex l n + ex l k - 1 := by unfold pr; rw [if_neg (by omega)]
    rw [e1, e2, sx_addr hl, show ex l n + (ex l k - 1) = ex l n + ex l k - 1 by omega]
  rw [ex_add hl]
  have z1 : ∀ {p : Prop} [Decidable p] {x : Int}, x = 0 → (if p then x else 0) = 0 := fun h => by rw [h]; split <;> rfl
  by_cases h1 : ex l n = 0
  · by_cases h2 : ex l k = 0
    · rw [z1 (by rw [h1, h2]; simp), z1 (by rw [h1]; simp), z1 (by rw [h2]; simp)]; rfl
    · rw [hB (by omega), z1 (x := c * ex l n * d) (by rw [h1]; simp), h1]
      simp only [Int.zero_add, Int.mul_assoc]
  · rw [hA (by omega)]
    by_cases h2 : ex l k = 0
    · rw [z1 (x := c * (d * ex l k)) (by rw [h2]; simp), h2]
      simp only [Int.add_zero, Int.mul_assoc, Int.mul_comm, Int.mul_left_comm]
    · rw [hB (by omega)]
      split
      · rw [Int.mul_add]
        simp only [Int.mul_assoc, Int.mul_comm, Int.mul_left_comm]
      · rfl
theorem cf_cons1 (t : Int × M) (a : P) (m : M) : cf (t :: a) m = cf [t] m + cf a m := by simp only [cf]; omega
theorem der_mul1 {l : Nat} (hl : Lv l) {s : Int × M} (hs : V s.2) {b : P} (hb : ∀ t ∈ b, V t.2) (m : M) : cf (der l (mul1 s b)) m = cf (mul1 (der1 l s) b) m + cf (mul1 s (der l b)) m := by
  induction b with
  | nil => simp [mul1, der, cf]
  | cons t b ih =>
    have h1 := one_prod hl hs (hb t (by simp)) m
    have h2 := ih fun u hu => hb u (by simp [hu])
    have h3 := cf_cons1 ((der1 l s).1 * t.1, (der1 l s).2.add t.2) (mul1 (der1 l s) b) m
    have h4 := cf_cons1 (s.1 * (der1 l t).1, s.2.add (der1 l t).2) (mul1 s (der l b)) m
    have h5 := cf_cons1 (der1 l (s.1 * t.1, s.2.add t.2)) (der l (mul1 s b)) m
    rw [mul1_cons, der_cons, mul1_cons, der_cons, mul1_cons]
    omega
theorem der_mulL {l : Nat} (hl : Lv l) {a b : P} (ha : ∀ t ∈ a, V t.2) (hb : ∀ t ∈ b, V t.2) (m : M) : cf (der l (mulL a b)) m = cf (mulL (der l a) b) m + cf (mulL a (der l b)) m := by
  induction a with
  | nil => simp [mulL, der, cf]
  | cons s a ih =>
    rw [mulL_cons, der_append, cf_append, der_mul1 hl (ha s (by simp)) hb, ih fun u hu => ha u (by simp [hu]), der_cons, mulL_cons, mulL_cons, cf_append, cf_append]
    omega

/-- The derivative of a canonical row. -/
abbrev derc (l : Nat) (a : P) : P := nrm (der l a)
theorem derc_add {l : Nat} (hl : Lv l) {a b : P} (ha : Canon a) (hb : Canon b) : derc l (nrm (a ++ b)) = nrm (derc l a ++ derc l b) :=
  canon_ext (nrm_canon _) (nrm_canon _) fun m => by
    rw [cf_nrm_of (der_V hl (nrm_canon _).v), cf_der_eq hl (nrm_canon _).v (app_V ha.v hb.v) (cf_nrm_of (app_V ha.v hb.v)), der_append, cf_append, cf_nrm_of (app_V (nrm_canon _).v (nrm_canon _).v), cf_append, cf_nrm_of (der_V hl ha.v), cf_nrm_of (der_V hl hb.v)]
theorem derc_mul {l : Nat} (hl : Lv l) {a b : P} (ha : Canon a) (hb : Canon b) : derc l (mulc a b) = nrm (mulc (derc l a) b ++ mulc a (derc l b)) :=
  canon_ext (nrm_canon _) (nrm_canon _) fun m => by
    rw [cf_nrm_of (der_V hl (nrm_canon _).v), cf_der_eq hl (nrm_canon _).v (mulL_V ha.v hb.v) (cf_nrm_of (mulL_V ha.v hb.v)), der_mulL hl ha.v hb.v, cf_nrm_of (app_V (nrm_canon _).v (nrm_canon _).v), cf_append, cf_mul_nrm (nrm_canon _) hb, cf_mul_nrm ha (nrm_canon _), cf_mulLeft (cf_nrm_of (der_V hl ha.v)), cf_mulR (cf_nrm_of (der_V hl hb.v))]
theorem l1_der {l : Nat} (hl : Lv l) {a : P} {e : Int} (h : Eb e a) (h0 : 0 ≤ e) : l1 (der l a) ≤ l1 a * e.toNat := by
  induction a with
  | nil => simp [der, l1]
  | cons t a ih =>
    have h1 := ih fun u hu => h u (by simp [hu])
    have h2 : (ex l t.2).natAbs ≤ e.toNat := by
      have := h t (by simp)
      unfold Mb at this
      rcases hl with rfl | rfl | rfl | rfl <;> simp only [ex_1, ex_2, ex_3, ex_4] <;> omega
    rw [der_cons, l1, l1, Nat.add_mul]
    show (t.1 * ex l t.2).natAbs + _ ≤ _
    rw [Int.natAbs_mul]
    have := Nat.mul_le_mul_left t.1.natAbs h2
    omega
theorem Eb.der {l : Nat} (hl : Lv l) {a : P} {e : Int} (h : Eb e a) : Eb e (der l a) := fun t ht => by
  obtain ⟨u, hu, rfl⟩ := List.mem_map.1 ht
  have h1 := h u hu
  have hp : ∀ x : Int, 0 ≤ x → x ≤ e → 0 ≤ pr x ∧ pr x ≤ e := fun x h2 h3 => by unfold pr; split <;> omega
  unfold Mb at h1 ⊢
  show (0 ≤ (sx l u.2 (pr (ex l u.2))).x0 ∧ (sx l u.2 (pr (ex l u.2))).x0 ≤ e) ∧ (0 ≤ (sx l u.2 (pr (ex l u.2))).x1 ∧ (sx l u.2 (pr (ex l u.2))).x1 ≤ e) ∧ (0 ≤ (sx l u.2 (pr (ex l u.2))).x2 ∧ (sx l u.2 (pr (ex l u.2))).x2 ≤ e) ∧ (0 ≤ (sx l u.2 (pr (ex l u.2))).x3 ∧ (sx l u.2 (pr (ex l u.2))).x3 ≤ e)
  have p0 := hp u.2.x0 (by omega) (by omega)
  have p1 := hp u.2.x1 (by omega) (by omega)
  have p2 := hp u.2.x2 (by omega) (by omega)
  have p3 := hp u.2.x3 (by omega) (by omega)
  rcases hl with rfl | rfl | rfl | rfl <;> simp only [ex_1, ex_2, ex_3, ex_4, sx_1, sx_2, sx_3, sx_4] <;> omega
end Go.N
