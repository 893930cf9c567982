import Derived.Test.YtbdefjbekbbldaaN
set_option linter.unusedVariables false
set_option linter.unusedSimpArgs false
set_option linter.unnecessarySimpa false
/- Long division, digit by digit: plain law, no program. -/
namespace Go.N

theorem nv_all0 : ∀ {a : List Int}, (∀ k, a.getD k 0 = 0) → nv a = 0
  | [], _ => rfl
  | x :: a, h => by
    have h0 : x = 0 := h 0
    have h1 : nv a = 0 := nv_all0 fun k => h (k + 1)
    rw [nv, h0, h1]; rfl
theorem pw_mono {m n : Nat} (h : m ≤ n) : B32 ^ m ≤ B32 ^ n := Nat.pow_le_pow_right (by decide) h
theorem pw_pos (n : Nat) : 0 < B32 ^ n := Nat.pow_pos (by decide)
theorem nv_top {a : List Int} (h : okN a) {m : Nat} (hz : ∀ k, m ≤ k → a.getD k 0 = 0) : nv a < B32 ^ m := by
  rcases Nat.lt_or_ge m a.length with hm | hm
  · rw [nv_take_drop a m (by omega), nv_all0 (a := a.drop m) fun k => by
      rw [List.getD_eq_getElem?_getD, List.getElem?_drop, ← List.getD_eq_getElem?_getD]; exact hz _ (by omega)]
    have := nv_lt (h.take m)
    rw [List.length_take, Nat.min_eq_left (by omega)] at this
    omega
  · exact Nat.lt_of_lt_of_le (nv_lt h) (pw_mono hm)
theorem nv_ge {a : List Int} (k : Nat) : B32 ^ k * (a.getD k 0).toNat ≤ nv a := by
  rcases Nat.lt_or_ge k a.length with hk | hk
  · rw [nv_take_drop a k (by omega), nv_drop hk, Nat.mul_add]; omega
  · rw [List.getD_eq_getElem?_getD, List.getElem?_eq_none hk]; simp
theorem top_zero {a : List Int} (h : okN a) {m : Nat} (hl : nv a < B32 ^ m) (k : Nat) (hk : m ≤ k) : a.getD k 0 = 0 := by
  have h1 := h.at k
  have h2 := nv_ge (a := a) k
  rcases Nat.eq_zero_or_pos (a.getD k 0).toNat with h3 | h3
  · omega
  · have h4 := pw_mono hk
    have h5 : B32 ^ k * 1 ≤ B32 ^ k * (a.getD k 0).toNat := Nat.mul_le_mul_left _ h3
    omega

/-- A digit is set. -/
theorem nvI_set {a : List Int} {i : Nat} {v : Int} (h : i < a.length) (ha : okN a) (hv : 0 ≤ v) : (nv (a.set i v) : Int) = nv a + (B32 : Int) ^ i * (v - a.getD i 0) := by
  have h1 := nv_set (v := v) h
  have h2 := ha.at i
  have h3 : ((nv (a.set i v) + B32 ^ i * (a.getD i 0).toNat : Nat) : Int) = ((nv a + B32 ^ i * v.toNat : Nat) : Int) := by rw [h1]
  rw [Int.natCast_add, Int.natCast_add, Int.natCast_mul, Int.natCast_mul, Int.natCast_pow, Int.toNat_of_nonneg h2.1, Int.toNat_of_nonneg hv] at h3
  rw [Int.mul_sub]; omega
theorem nvI_take {a : List Int} {i : Nat} (h : i < a.length) (ha : okN a) : (nv (a.take (i + 1)) : Int) = nv (a.take i) + (B32 : Int) ^ i * a.getD i 0 := by
  have h2 := ha.at i
  rw [nv_take_succ h, Int.natCast_add, Int.natCast_mul, Int.natCast_pow, Int.toNat_of_nonneg h2.1]

/- The trial digit. W = (X B + u) Q + low is divided by D = (top B + next) Q + lv. -/
section
variable {Q W D X u low top next lv g r : Nat}
theorem guess_gt (hW : W = (X * B32 + u) * Q + low) (hl : low < Q) (hD : D = (top * B32 + next) * Q + lv) (hX : g * top + r = X) (h : r * B32 + u < g * next) : W < g * D := by
  have h1 : (r * B32 + u + 1) * Q ≤ g * next * Q := Nat.mul_le_mul_right _ h
  have h2 : g * D = (g * top) * B32 * Q + g * next * Q + g * lv := by rw [hD]; grind
  have h3 : W + Q = (g * top) * B32 * Q + (r * B32 + u + 1) * Q + low := by rw [hW, ← hX]; grind
  have h4 : 0 ≤ g * lv := Nat.zero_le _
  omega
theorem guess_le (hW : W = (X * B32 + u) * Q + low) (hD : D = (top * B32 + next) * Q + lv) (hv : lv < Q) (h1 : 0 < top) (hX : g * top + r = X) (hg : g < B32) (h : g * next ≤ r * B32 + u) : g * D ≤ W + D := by
  have h2 : g * next * Q ≤ (r * B32 + u) * Q := Nat.mul_le_mul_right _ h
  have h3 : g * D = (g * top) * B32 * Q + g * next * Q + g * lv := by rw [hD]; grind
  have h4 : W = (g * top) * B32 * Q + (r * B32 + u) * Q + low := by rw [hW, ← hX]; grind
  have h5 : g * lv ≤ B32 * Q := Nat.mul_le_mul (by omega) (by omega)
  have h6 : 1 * (B32 * Q) ≤ top * (B32 * Q) := Nat.mul_le_mul_right _ h1
  have h7 : D = top * (B32 * Q) + next * Q + lv := by rw [hD]; grind
  omega
theorem guess_top (hW : W = (X * B32 + u) * Q + low) (hD : D = (top * B32 + next) * Q + lv) (hv : lv < Q) (hn : next < B32) (h : W < B32 * D) : X < top * B32 + B32 := by
  refine Nat.lt_of_not_le fun hc => ?_
  have h1 : (top * B32 + B32) * (B32 * Q) ≤ X * (B32 * Q) := Nat.mul_le_mul_right _ hc
  have h2 : W = X * (B32 * Q) + u * Q + low := by rw [hW]; grind
  have h3 : B32 * D = top * B32 * (B32 * Q) + next * (B32 * Q) + B32 * lv := by rw [hD]; grind
  have h4 : B32 * lv ≤ B32 * Q := Nat.mul_le_mul_left _ (by omega)
  have h5 : (next + 1) * (B32 * Q) ≤ B32 * (B32 * Q) := Nat.mul_le_mul_right _ hn
  have h6 : (top * B32 + B32) * (B32 * Q) = top * B32 * (B32 * Q) + B32 * (B32 * Q) := Nat.add_mul ..
  have h7 : (next + 1) * (B32 * Q) = next * (B32 * Q) + B32 * Q := Nat.succ_mul ..
  omega
theorem guess_0 (hW : W = (X * B32 + u) * Q + low) (hl : low < Q) (hu : u < B32) (hD : D = (top * B32 + next) * Q + lv) (h1 : 0 < top) : W < (X / top + 1) * D := by
  have h2 : X + 1 ≤ (X / top + 1) * top := by
    have := Nat.div_add_mod X top
    have := Nat.mod_lt X h1
    rw [Nat.add_mul, Nat.mul_comm (X / top)]; omega
  have h3 : (X + 1) * (B32 * Q) ≤ (X / top + 1) * top * (B32 * Q) := Nat.mul_le_mul_right _ h2
  have h4 : (X / top + 1) * D = (X / top + 1) * top * (B32 * Q) + (X / top + 1) * (next * Q + lv) := by rw [hD]; grind
  have h5 : W = X * (B32 * Q) + u * Q + low := by rw [hW]; grind
  have h6 : (u + 1) * Q ≤ B32 * Q := Nat.mul_le_mul_right _ hu
  have h7 : (X + 1) * (B32 * Q) = X * (B32 * Q) + B32 * Q := Nat.succ_mul ..
  have h8 : (u + 1) * Q = u * Q + Q := Nat.succ_mul ..
  have h9 : 0 ≤ (X / top + 1) * (next * Q + lv) := Nat.zero_le _
  omega
end

/-- A multiple is taken off: so many digits are done. -/
structure MsSt (v us0 us : List Int) (g c bo : Int) (j i m : Nat) : Prop where
  len : us.length = m
  ok : okN us
  cc : 0 ≤ c ∧ c < 4294967296
  bb : bo = 0 ∨ bo = 1
  z : ∀ k, j + i ≤ k → us.getD k 0 = us0.getD k 0
  eq : (nv us : Int) + (B32 : Int) ^ j * (g * nv (v.take i)) = nv us0 + (B32 : Int) ^ (j + i) * (c + bo)

theorem MsSt.step {v us0 us : List Int} {g c bo : Int} {j i m : Nat} (h : MsSt v us0 us g c bo j i m) (hv : okN v) (hi : i < v.length) (hm : j + v.length ≤ m) (hg : 0 ≤ g ∧ g < 4294967296) {u' bo' c' lo : Int}
    (hu : 0 ≤ u' ∧ u' < 4294967296) (hb : bo' = 0 ∨ bo' = 1) (h1 : u' - 4294967296 * bo' = us.getD (j + i) 0 - bo - lo) (hc : 0 ≤ c' ∧ c' < 4294967296) (h2 : lo + 4294967296 * c' = g * v.getD i 0 + c) :
    MsSt v us0 (us.set (j + i) u') g c' bo' j (i + 1) m := by
  have hl := h.len
  refine ⟨by simpa using hl, h.ok.set _ hu, hc, hb, fun k hk => ?_, ?_⟩
  · rw [getD_set, if_neg (by omega)]; exact h.z k (by omega)
  · have e1 := nvI_set (v := u') (i := j + i) (by omega) h.ok hu.1
    have e2 := nvI_take hi hv
    have e3 := h.eq
    have e4 : (B32 : Int) ^ (j + (i + 1)) = (B32 : Int) ^ (j + i) * 4294967296 := by rw [← Nat.add_assoc, Int.pow_succ]; rfl
    have e5 : (B32 : Int) ^ (j + i) = (B32 : Int) ^ j * (B32 : Int) ^ i := Int.pow_add ..
    rw [e1, e2, e4]
    rw [e5] at e3 ⊢
    generalize (nv us : Int) = a1 at *
    generalize (nv us0 : Int) = a2 at *
    generalize (nv (v.take i) : Int) = a3 at *
    generalize us.getD (j + i) 0 = a4 at *
    generalize v.getD i 0 = a5 at *
    generalize (B32 : Int) ^ j = y1 at *
    generalize (B32 : Int) ^ i = y2 at *
    clear e1 e2 e4 e5 h hu hb hc hg hl
    grind

theorem MsSt.top {v us0 us : List Int} {g c bo : Int} {j m : Nat} (h : MsSt v us0 us g c bo j v.length m) (hm : j + v.length < m) {u' f : Int} (hu : 0 ≤ u' ∧ u' < 4294967296) (h1 : u' - 4294967296 * f = us.getD (j + v.length) 0 - bo - c) :
    (nv (us.set (j + v.length) u') : Int) + (B32 : Int) ^ j * (g * nv v) = nv us0 + (B32 : Int) ^ (j + v.length + 1) * f := by
  have hl := h.len
  have e1 := nvI_set (v := u') (i := j + v.length) (by omega) h.ok hu.1
  have e3 := h.eq
  have e4 : (B32 : Int) ^ (j + v.length + 1) = (B32 : Int) ^ (j + v.length) * 4294967296 := by rw [Int.pow_succ]; rfl
  rw [List.take_of_length_le (Nat.le_refl _)] at e3
  rw [e1, e4]
  generalize (B32 : Int) ^ (j + v.length) = y at *
  generalize (B32 : Int) ^ j = y1 at *
  generalize us.getD (j + v.length) 0 = a4 at *
  clear e1 e4 h
  grind

/-- The divisor is added back: so many digits are done. -/
structure AbSt (v us0 us : List Int) (s : Int) (j i m : Nat) : Prop where
  len : us.length = m
  ok : okN us
  ss : s = 0 ∨ s = 1
  z : ∀ k, j + i ≤ k → us.getD k 0 = us0.getD k 0
  eq : (nv us : Int) + (B32 : Int) ^ (j + i) * s = nv us0 + (B32 : Int) ^ j * nv (v.take i)
theorem AbSt.step {v us0 us : List Int} {s : Int} {j i m : Nat} (h : AbSt v us0 us s j i m) (hv : okN v) (hi : i < v.length) (hm : j + v.length ≤ m) {u' s' : Int}
    (hu : 0 ≤ u' ∧ u' < 4294967296) (hs : s' = 0 ∨ s' = 1) (h1 : u' + 4294967296 * s' = us.getD (j + i) 0 + v.getD i 0 + s) : AbSt v us0 (us.set (j + i) u') s' j (i + 1) m := by
  have hl := h.len
  refine ⟨by simpa using hl, h.ok.set _ hu, hs, fun k hk => ?_, ?_⟩
  · rw [getD_set, if_neg (by omega)]; exact h.z k (by omega)
  · have e1 := nvI_set (v := u') (i := j + i) (by omega) h.ok hu.1
    have e2 := nvI_take hi hv
    have e3 := h.eq
    have e4 : (B32 : Int) ^ (j + (i + 1)) = (B32 : Int) ^ (j + i) * 4294967296 := by rw [← Nat.add_assoc, Int.pow_succ]; rfl
    have e5 : (B32 : Int) ^ (j + i) = (B32 : Int) ^ j * (B32 : Int) ^ i := Int.pow_add ..
    rw [e1, e2, e4]
    rw [e5] at e3 ⊢
    generalize (nv us : Int) = a1 at *
    generalize (nv us0 : Int) = a2 at *
    generalize (nv (v.take i) : Int) = a3 at *
    generalize us.getD (j + i) 0 = a4 at *
    generalize v.getD i 0 = a5 at *
    generalize (B32 : Int) ^ j = y1 at *
    generalize (B32 : Int) ^ i = y2 at *
    clear e1 e2 e4 e5 h hu hs hl
    grind
theorem AbSt.top {v us0 us : List Int} {s : Int} {j m : Nat} (h : AbSt v us0 us s j v.length m) (hm : j + v.length < m) {u' f : Int} (hu : 0 ≤ u' ∧ u' < 4294967296) (h1 : u' + 4294967296 * f = us.getD (j + v.length) 0 + s) :
    (nv (us.set (j + v.length) u') : Int) + (B32 : Int) ^ (j + v.length + 1) * f = nv us0 + (B32 : Int) ^ j * nv v := by
  have hl := h.len
  have e1 := nvI_set (v := u') (i := j + v.length) (by omega) h.ok hu.1
  have e3 := h.eq
  have e4 : (B32 : Int) ^ (j + v.length + 1) = (B32 : Int) ^ (j + v.length) * 4294967296 := by rw [Int.pow_succ]; rfl
  rw [List.take_of_length_le (Nat.le_refl _)] at e3
  rw [e1, e4]
  generalize (B32 : Int) ^ (j + v.length) = y at *
  generalize (B32 : Int) ^ j = y1 at *
  generalize us.getD (j + v.length) 0 = a4 at *
  clear e1 e4 h
  grind

/-- So many digits of the quotient are found. -/
structure DvSt (U : Nat) (v us qs : List Int) (j m : Nat) : Prop where
  ul : us.length = m
  uo : okN us
  ql : qs.length + v.length = m
  qo : okN qs
  qz : ∀ k, k < j → qs.getD k 0 = 0
  eq : nv us + nv qs * nv v = U
  lt : nv us < B32 ^ j * nv v
theorem DvSt.hi {U : Nat} {v us qs : List Int} {j m : Nat} (h : DvSt U v us qs j m) (hv : okN v) (k : Nat) (hk : j + v.length ≤ k) : us.getD k 0 = 0 := by
  refine top_zero h.uo (m := j + v.length) ?_ k hk
  refine Nat.lt_of_lt_of_le h.lt ?_
  rw [Nat.pow_add]
  exact Nat.mul_le_mul_left _ (Nat.le_of_lt (nv_lt hv))
/-- What the digits at a place say of the whole. -/
theorem dig_split {us : List Int} {k : Nat} (ho : okN us) (hk : k + 2 < us.length) (hz : ∀ i, k + 2 < i → us.getD i 0 = 0) :
    nv us = (((us.getD (k + 2) 0).toNat * B32 + (us.getD (k + 1) 0).toNat) * B32 + (us.getD k 0).toNat) * B32 ^ k + nv (us.take k) ∧ nv (us.take k) < B32 ^ k := by
  have h1 := nv_take_drop us (k + 3) (by omega)
  have h2 : nv (us.drop (k + 3)) = 0 := nv_all0 fun i => by
    rw [List.getD_eq_getElem?_getD, List.getElem?_drop, ← List.getD_eq_getElem?_getD]; exact hz _ (by omega)
  have h3 := nv_take_succ (a := us) (i := k + 2) (by omega)
  have h4 := nv_take_succ (a := us) (i := k + 1) (by omega)
  have h5 := nv_take_succ (a := us) (i := k) (by omega)
  have h6 := nv_lt (ho.take k)
  rw [List.length_take, Nat.min_eq_left (by omega)] at h6
  refine ⟨?_, h6⟩
  rw [h1, h2, h3, h4, h5]
  have e1 : B32 ^ (k + 1) = B32 ^ k * B32 := Nat.pow_succ ..
  have e2 : B32 ^ (k + 2) = B32 ^ k * B32 * B32 := by rw [Nat.pow_succ, Nat.pow_succ]
  rw [e1, e2]
  generalize B32 ^ k = y
  generalize (us.getD (k + 2) 0).toNat = a
  generalize (us.getD (k + 1) 0).toNat = b
  generalize (us.getD k 0).toNat = c
  grind
theorem div_split {v : List Int} {n : Nat} (ho : okN v) (hn : v.length = n + 2) :
    nv v = ((v.getD (n + 1) 0).toNat * B32 + (v.getD n 0).toNat) * B32 ^ n + nv (v.take n) ∧ nv (v.take n) < B32 ^ n := by
  have h1 : nv (v.take (n + 2)) = nv v := by rw [List.take_of_length_le (by omega)]
  have h4 := nv_take_succ (a := v) (i := n + 1) (by omega)
  have h5 := nv_take_succ (a := v) (i := n) (by omega)
  have h6 := nv_lt (ho.take n)
  rw [List.length_take, Nat.min_eq_left (by omega)] at h6
  refine ⟨?_, h6⟩
  rw [← h1, h4, h5]
  have e1 : B32 ^ (n + 1) = B32 ^ n * B32 := Nat.pow_succ ..
  rw [e1]
  generalize B32 ^ n = y
  generalize (v.getD (n + 1) 0).toNat = a
  generalize (v.getD n 0).toNat = c
  grind
end Go.N

/- Fractions, and the values of polynomials at fractions: plain law, no program. -/
namespace Go.N

/-- A fraction of few digits. -/
structure Qb (k : Nat) (q : Rat) : Prop where
  n : q.num.natAbs < B32 ^ k
  d : q.den < B32 ^ k
theorem Qb.mono {k l : Nat} {q : Rat} (h : Qb k q) (hk : k ≤ l) : Qb l q := ⟨Nat.lt_of_lt_of_le h.n (pw_mono hk), Nat.lt_of_lt_of_le h.d (pw_mono hk)⟩
theorem natAbs_div_le (a : Int) (b : Nat) : (a / (b : Int)).natAbs ≤ a.natAbs := Int.natAbs_ediv_le_natAbs a b
theorem Qb.mk' {k : Nat} {n : Int} {d : Nat} (h1 : n.natAbs < B32 ^ k) (h2 : d < B32 ^ k) (hk : 1 ≤ k) : Qb k (mkRat n d) := by
  have h3 : 1 < B32 ^ k := Nat.lt_of_lt_of_le (by decide : 1 < B32 ^ 1) (pw_mono hk)
  constructor
  · rw [Rat.num_mkRat]
    split
    · show 0 < _; omega
    · exact Nat.lt_of_le_of_lt (natAbs_div_le _ _) h1
  · rw [Rat.den_mkRat]
    split
    · exact h3
    · exact Nat.lt_of_le_of_lt (Nat.div_le_self _ _) h2
theorem Qb.int {k : Nat} {n : Int} (h : n.natAbs < B32 ^ k) (hk : 1 ≤ k) : Qb k (n : Rat) := ⟨h, by
    show 1 < _
    exact Nat.lt_of_lt_of_le (by decide : 1 < B32 ^ 1) (pw_mono hk)⟩
theorem Qb.pos {k : Nat} {q : Rat} (h : Qb k q) : 1 ≤ k := by
  rcases Nat.eq_zero_or_pos k with rfl | h1
  · have := h.d
    have := q.den_pos
    simp at *; omega
  · exact h1
theorem Qb.mul {k l : Nat} {a b : Rat} (h : Qb k a) (h' : Qb l b) : Qb (k + l) (a * b) := by
  have := h.pos
  rw [Rat.mul_def']
  refine .mk' ?_ ?_ (by omega)
  · rw [Int.natAbs_mul, Nat.pow_add]; exact Nat.mul_lt_mul'' h.n h'.n
  · rw [Nat.pow_add]; exact Nat.mul_lt_mul'' h.d h'.d
theorem Qb.add {k l : Nat} {a b : Rat} (h : Qb k a) (h' : Qb l b) : Qb (k + l + 1) (a + b) := by
  have := h.pos
  have h1 : a.num.natAbs * b.den < B32 ^ (k + l) := by rw [Nat.pow_add]; exact Nat.mul_lt_mul'' h.n h'.d
  have h2 : b.num.natAbs * a.den < B32 ^ (k + l) := by rw [Nat.pow_add, Nat.mul_comm (B32 ^ k)]; exact Nat.mul_lt_mul'' h'.n h.d
  have h3 : a.den * b.den < B32 ^ (k + l) := by rw [Nat.pow_add]; exact Nat.mul_lt_mul'' h.d h'.d
  have h4 : B32 ^ (k + l + 1) = B32 ^ (k + l) * B32 := Nat.pow_succ ..
  have h5 : B32 ^ (k + l) * 2 ≤ B32 ^ (k + l) * B32 := Nat.mul_le_mul_left _ (by decide)
  rw [Rat.add_def']
  refine .mk' ?_ ?_ (by omega)
  · have e1 : (a.num * b.den).natAbs = a.num.natAbs * b.den := by rw [Int.natAbs_mul, Int.natAbs_natCast]
    have e2 : (b.num * a.den).natAbs = b.num.natAbs * a.den := by rw [Int.natAbs_mul, Int.natAbs_natCast]
    have e3 := Int.natAbs_add_le (a.num * b.den) (b.num * a.den)
    omega
  · omega
theorem Qb.zero : Qb 1 0 := ⟨by decide, by decide⟩
theorem Qb.one : Qb 1 1 := ⟨by decide, by decide⟩
theorem Qb.neg {k : Nat} {a : Rat} (h : Qb k a) : Qb k (-a) := ⟨by rw [Rat.neg_num, Int.natAbs_neg]; exact h.n, h.d⟩
theorem Qb.pow {k : Nat} {a : Rat} (h : Qb k a) : ∀ e : Nat, Qb (k * e + 1) (a ^ e)
  | 0 => by rw [Rat.pow_zero]; exact Qb.one.mono (by omega)
  | e + 1 => by
    rw [Rat.pow_succ]
    exact ((Qb.pow h e).mul h).mono (by rw [Nat.mul_succ]; omega)

theorem rat_pow_add (a : Rat) (u : Nat) : ∀ w : Nat, a ^ (u + w) = a ^ u * a ^ w
  | 0 => by rw [Nat.add_zero, Rat.pow_zero, Rat.mul_one]
  | w + 1 => by rw [← Nat.add_assoc, Rat.pow_succ, rat_pow_add a u w, Rat.pow_succ, Rat.mul_assoc]

/- Values of polynomials. -/
def ev1 (x : Nat → Rat) (m : M) : Rat := x 0 ^ m.x0.toNat * x 1 ^ m.x1.toNat * x 2 ^ m.x2.toNat * x 3 ^ m.x3.toNat
def ev (x : Nat → Rat) : P → Rat
  | [] => 0
  | t :: r => (t.1 : Rat) * ev1 x t.2 + ev x r
theorem ev_append (x : Nat → Rat) (a b : P) : ev x (a ++ b) = ev x a + ev x b := by
  induction a with
  | nil => rw [List.nil_append, ev, Rat.zero_add]
  | cons t a ih => rw [List.cons_append, ev, ev, ih, Rat.add_assoc]
theorem ev_ins (x : Nat → Rat) (c : Int) (m : M) : ∀ q : P, ev x (ins c m q) = (c : Rat) * ev1 x m + ev x q
  | [] => by
    unfold ins
    split
    · rename_i h; subst h
      simp only [ev, Rat.intCast_zero, Rat.zero_mul, Rat.add_zero]
    · rfl
  | (d, k) :: r => by
    unfold ins
    split
    · split
      · rename_i h; subst h
        rw [Rat.intCast_zero, Rat.zero_mul, Rat.zero_add]
      · rfl
    · split
      · rename_i h; subst h
        split
        · rename_i h
          have h' : d = -c := by omega
          subst h'
          rw [ev, Rat.intCast_neg, Rat.neg_mul, ← Rat.add_assoc, Rat.add_neg_cancel, Rat.zero_add]
        · rw [ev, ev, Rat.intCast_add, Rat.add_mul]
          rw [Rat.add_comm ((d : Rat) * _), Rat.add_assoc]
      · rw [ev, ev, ev_ins x c m r, Rat.add_left_comm]
theorem ev_nrm (x : Nat → Rat) : ∀ p : P, ev x (nrm p) = ev x (vf p)
  | [] => rfl
  | t :: r => by
    unfold nrm vf
    rw [List.filter_cons]
    split
    · rename_i h
      rw [if_pos (by simpa using h), ev_ins, ev_nrm x r]; rfl
    · rename_i h
      rw [if_neg (by simpa using h), ev_nrm x r]; rfl
theorem ev_nrm_V (x : Nat → Rat) {p : P} (h : ∀ t ∈ p, V t.2) : ev x (nrm p) = ev x p := by rw [ev_nrm, vf_self h]
theorem ev1_add (x : Nat → Rat) {m n : M} (hm : V m) (hn : V n) : ev1 x (m.add n) = ev1 x m * ev1 x n := by
  obtain ⟨h0, h1, h2, h3⟩ := hm
  obtain ⟨k0, k1, k2, k3⟩ := hn
  unfold ev1 M.add
  simp only
  rw [Int.toNat_add h0 k0, Int.toNat_add h1 k1, Int.toNat_add h2 k2, Int.toNat_add h3 k3, rat_pow_add, rat_pow_add, rat_pow_add, rat_pow_add]
  generalize x 0 ^ m.x0.toNat = a0
  generalize x 1 ^ m.x1.toNat = a1
  generalize x 2 ^ m.x2.toNat = a2
  generalize x 3 ^ m.x3.toNat = a3
  generalize x 0 ^ n.x0.toNat = b0
  generalize x 1 ^ n.x1.toNat = b1
  generalize x 2 ^ n.x2.toNat = b2
  generalize x 3 ^ n.x3.toNat = b3
  grind
theorem ev_mul1 (x : Nat → Rat) {s : Int × M} (hs : V s.2) : ∀ {b : P}, (∀ t ∈ b, V t.2) → ev x (mul1 s b) = (s.1 : Rat) * ev1 x s.2 * ev x b
  | [], _ => by show (0 : Rat) = _ * 0; rw [Rat.mul_zero]
  | t :: b, h => by
    rw [mul1_cons, ev, ev, ev_mul1 x hs fun u hu => h u (by simp [hu]), ev1_add x hs (h t (by simp)), Rat.intCast_mul, Rat.mul_add]
    congr 1
    grind
theorem ev_mulL (x : Nat → Rat) : ∀ {a b : P}, (∀ t ∈ a, V t.2) → (∀ t ∈ b, V t.2) → ev x (mulL a b) = ev x a * ev x b
  | [], b, _, _ => by rw [mulL_nil, ev, Rat.zero_mul]
  | s :: a, b, ha, hb => by
    rw [mulL_cons, ev_append, ev_mul1 x (ha s (by simp)) hb, ev_mulL x (fun u hu => ha u (by simp [hu])) hb, ev, Rat.add_mul]
theorem ev_mulc (x : Nat → Rat) {a b : P} (ha : Canon a) (hb : Canon b) : ev x (mulc a b) = ev x a * ev x b := by
  rw [ev_nrm_V x (mulL_V ha.v hb.v), ev_mulL x ha.v hb.v]
theorem ev_addc (x : Nat → Rat) {a b : P} (ha : Canon a) (hb : Canon b) : ev x (nrm (a ++ b)) = ev x a + ev x b := by
  rw [ev_nrm_V x (app_V ha.v hb.v), ev_append]
theorem ev1_M0 (x : Nat → Rat) : ev1 x M0 = 1 := by
  show x 0 ^ 0 * x 1 ^ 0 * x 2 ^ 0 * x 3 ^ 0 = 1
  simp only [Rat.pow_zero, Rat.mul_one]
theorem ev_con (x : Nat → Rat) (c : Int) : ev x (con c) = c := by
  unfold con
  split
  · rename_i h; subst h; rfl
  · rw [ev, ev, ev1_M0, Rat.mul_one, Rat.add_zero]
theorem ev_powc (x : Nat → Rat) {a : P} (ha : Canon a) : ∀ k, ev x (powc a k) = ev x a ^ k
  | 0 => by rw [powc, ev_con, Rat.pow_zero]; rfl
  | k + 1 => by rw [powc, ev_mulc x (powc_canon a k) ha, ev_powc x ha k, Rat.pow_succ]

/- One term, variable by variable. -/
def ev1k (x : Nat → Rat) (c : Rat) (m : M) : Nat → Rat
  | 0 => c
  | 1 => c * x 0 ^ m.x0.toNat
  | 2 => c * x 0 ^ m.x0.toNat * x 1 ^ m.x1.toNat
  | 3 => c * x 0 ^ m.x0.toNat * x 1 ^ m.x1.toNat * x 2 ^ m.x2.toNat
  | _ => c * x 0 ^ m.x0.toNat * x 1 ^ m.x1.toNat * x 2 ^ m.x2.toNat * x 3 ^ m.x3.toNat
theorem ev1k_4 (x : Nat → Rat) (c : Rat) (m : M) : ev1k x c m 4 = c * ev1 x m := by
  show c * x 0 ^ m.x0.toNat * x 1 ^ m.x1.toNat * x 2 ^ m.x2.toNat * x 3 ^ m.x3.toNat = _
  rw [ev1, Rat.mul_assoc, Rat.mul_assoc, Rat.mul_assoc, Rat.mul_assoc, Rat.mul_assoc]
theorem ev_take (x : Nat → Rat) {q : P} {i : Nat} {z : Int × M} (h : i < q.length) : ev x (q.take (i + 1)) = ev x (q.take i) + ((q.getD i z).1 : Rat) * ev1 x (q.getD i z).2 := by
  rw [take_nx (z := z) h, ev_append, ev, ev, Rat.add_zero]
theorem Qb.ev1k {x : Nat → Rat} {c : Rat} {m : M} {kc kx : Nat} {e : Int} (hc : Qb kc c) (hx : ∀ i, Qb kx (x i)) (hm : Mb e m) : ∀ k, Qb (kc + 4 * (kx * e.toNat + 1)) (N.ev1k x c m k) := fun k => by
  obtain ⟨h0, h1, h2, h3⟩ := hm
  have hp : ∀ i (u : Int), u ≤ e → Qb (kx * e.toNat + 1) (x i ^ u.toNat) := fun i u hu => ((hx i).pow u.toNat).mono (Nat.add_le_add_right (Nat.mul_le_mul_left _ (by omega)) 1)
  generalize kx * e.toNat + 1 = K at *
  have q0 := hc
  have q1 := q0.mul (hp 0 _ h0.2)
  have q2 := q1.mul (hp 1 _ h1.2)
  have q3 := q2.mul (hp 2 _ h2.2)
  have q4 := q3.mul (hp 3 _ h3.2)
  rcases k with _ | _ | _ | _ | k
  · exact q0.mono (by omega)
  · exact q1.mono (by omega)
  · exact q2.mono (by omega)
  · exact q3.mono (by omega)
  · exact q4.mono (by omega)
/-- The value of so many terms. -/
theorem Qb.ev {x : Nat → Rat} {q : P} {kc kx : Nat} {e : Int} (hc : l1 q < B32 ^ kc) (hk : 1 ≤ kc) (hx : ∀ i, Qb kx (x i)) (he : Eb e q) : Qb (q.length * (kc + 4 * (kx * e.toNat + 1) + 1) + 1) (N.ev x q) := by
  induction q with
  | nil => exact Qb.zero.mono (by omega)
  | cons t r ih =>
    have h1 : t.1.natAbs < B32 ^ kc := Nat.lt_of_le_of_lt (l1_mem (p := t :: r) (by simp)) hc
    have h2 := ih (Nat.lt_of_le_of_lt (by show l1 r ≤ t.1.natAbs + l1 r; omega) hc) fun u hu => he u (by simp [hu])
    have h3 := Qb.ev1k (Qb.int h1 hk) hx (he t (by simp)) 4
    rw [ev1k_4] at h3
    exact (h3.add h2).mono (by rw [List.length_cons, Nat.add_mul r.length 1]; omega)
end Go.N

/- Shifts, and division by one digit: plain law, no program. -/
namespace Go.N

/-- So many digits are shifted to the left by s < 32 places. -/
structure SlSt (os0 os : List Int) (low : Int) (s i : Nat) : Prop where
  len : os.length = os0.length
  ok : okN os
  lo : 0 ≤ low ∧ low < 2 ^ s
  z : ∀ k, i ≤ k → os.getD k 0 = os0.getD k 0
  eq : (nv os : Int) + (B32 : Int) ^ i * low = nv os0 + (2 ^ s - 1) * nv (os0.take i)
theorem two_split {s : Nat} (hs : s ≤ 32) : (2 : Int) ^ s * 2 ^ (32 - s) = 4294967296 := by
  rw [← Int.pow_add, show s + (32 - s) = 32 by omega]; rfl
theorem two_pos (s : Nat) : (0 : Int) < 2 ^ s := Int.pow_pos (by decide)
/-- A digit times a power of two: what stays, and what goes over. -/
theorem shl_parts {x : Int} {s : Nat} (hs : s ≤ 32) (hx : 0 ≤ x ∧ x < 4294967296) : x * 2 ^ s % 4294967296 = x % 2 ^ (32 - s) * 2 ^ s ∧ x * 2 ^ s = x * 2 ^ s % 4294967296 + 4294967296 * (x / 2 ^ (32 - s)) ∧ 0 ≤ x / 2 ^ (32 - s) ∧ x / 2 ^ (32 - s) < 2 ^ s ∧
    0 ≤ x % 2 ^ (32 - s) * 2 ^ s ∧ x % 2 ^ (32 - s) * 2 ^ s + 2 ^ s ≤ 4294967296 := by
  have h1 := two_split hs
  have h2 := two_pos s
  have h3 := two_pos (32 - s)
  have h4 := Int.emod_nonneg x (Int.ne_of_gt h3)
  have h5 := Int.emod_lt_of_pos x h3
  have h6 := Int.mul_ediv_add_emod x (2 ^ (32 - s))
  have h7 : x % 2 ^ (32 - s) * 2 ^ s + 2 ^ s ≤ 4294967296 := by
    have : (x % 2 ^ (32 - s) + 1) * 2 ^ s ≤ 2 ^ (32 - s) * 2 ^ s := Int.mul_le_mul_of_nonneg_right (by omega) (Int.le_of_lt h2)
    rw [Int.add_mul, Int.one_mul, Int.mul_comm (2 ^ (32 - s)), h1] at this
    exact this
  have h8 : 0 ≤ x % 2 ^ (32 - s) * 2 ^ s := Int.mul_nonneg h4 (Int.le_of_lt h2)
  have h9 : x * 2 ^ s = x % 2 ^ (32 - s) * 2 ^ s + 4294967296 * (x / 2 ^ (32 - s)) := by
    rw [← h1]
    generalize x % 2 ^ (32 - s) = r at *
    generalize x / 2 ^ (32 - s) = q at *
    generalize (2 : Int) ^ (32 - s) = u at *
    generalize (2 : Int) ^ s = w at *
    grind
  have h10 : x * 2 ^ s % 4294967296 = x % 2 ^ (32 - s) * 2 ^ s := by
    rw [h9, Int.add_mul_emod_self_left, Int.emod_eq_of_lt h8 (by omega)]
  refine ⟨h10, by rw [h10]; exact h9, Int.ediv_nonneg hx.1 (Int.le_of_lt h3), ?_, h8, h7⟩
  refine Int.ediv_lt_of_lt_mul h3 ?_
  rw [h1]; exact hx.2
theorem SlSt.step {os0 os : List Int} {low : Int} {s i : Nat} (h : SlSt os0 os low s i) (hs : s ≤ 32) (h0 : okN os0) (hi : i < os0.length) :
    SlSt os0 (os.set i (os.getD i 0 * 2 ^ s % 4294967296 + low)) (os.getD i 0 / 2 ^ (32 - s)) s (i + 1) := by
  have hl := h.len
  have hlo := h.lo
  have hx := h0.at i
  rw [h.z i (Nat.le_refl _)]
  obtain ⟨p1, p2, p3, p4, p5, p6⟩ := shl_parts hs hx
  have hy : 0 ≤ os0.getD i 0 * 2 ^ s % 4294967296 + low ∧ os0.getD i 0 * 2 ^ s % 4294967296 + low < 4294967296 := by rw [p1]; omega
  refine ⟨by simpa using hl, h.ok.set _ hy, ⟨p3, p4⟩, fun k hk => ?_, ?_⟩
  · rw [getD_set, if_neg (by omega)]; exact h.z k (by omega)
  · have e1 := nvI_set (v := os0.getD i 0 * 2 ^ s % 4294967296 + low) (i := i) (by omega) h.ok hy.1
    have e2 := nvI_take hi h0
    have e3 := h.eq
    have e4 : (B32 : Int) ^ (i + 1) = (B32 : Int) ^ i * 4294967296 := by rw [Int.pow_succ]; rfl
    rw [h.z i (Nat.le_refl _)] at e1
    rw [e1, e2, e4]
    generalize (nv os : Int) = a1 at *
    generalize (nv os0 : Int) = a2 at *
    generalize (nv (os0.take i) : Int) = a3 at *
    generalize os0.getD i 0 * 2 ^ s % 4294967296 = y at *
    generalize os0.getD i 0 / 2 ^ (32 - s) = q at *
    generalize os0.getD i 0 = x at *
    generalize (2 : Int) ^ s = w at *
    generalize (B32 : Int) ^ i = b at *
    clear e1 e2 e4 h p1 p5 p6 hy hl hx
    grind
theorem SlSt.fin {os0 os : List Int} {low : Int} {s : Nat} (h : SlSt os0 os low s os0.length) (hs : s ≤ 32) (h0 : nv os0 * 2 ^ s < B32 ^ os0.length) : nv os = nv os0 * 2 ^ s := by
  have h1 := h.eq
  have hlo := h.lo
  rw [List.take_of_length_le (Nat.le_refl _)] at h1
  have h2 : (nv os : Int) + (B32 : Int) ^ os0.length * low = nv os0 * 2 ^ s := by rw [h1, Int.sub_mul, Int.one_mul, Int.mul_comm (2 ^ s)]; omega
  have h3 : ((nv os0 * 2 ^ s : Nat) : Int) < ((B32 ^ os0.length : Nat) : Int) := Int.ofNat_lt.2 h0
  rw [Int.natCast_mul, Int.natCast_pow, Int.natCast_pow] at h3
  have h4 : low = 0 := by
    rcases Int.lt_or_le 0 low with h5 | h5
    · have h6 : (B32 : Int) ^ os0.length * 1 ≤ (B32 : Int) ^ os0.length * low := Int.mul_le_mul_of_nonneg_left (by omega) (Int.le_of_lt (Int.pow_pos (by decide)))
      have e : ((2 : Nat) : Int) ^ s = (2 : Int) ^ s := rfl
      rw [e] at h3
      generalize (nv os0 : Int) * 2 ^ s = t at *
      generalize (B32 : Int) ^ os0.length * low = t2 at *
      omega
    · omega
  subst h4
  have h5 : ((nv os : Nat) : Int) = ((nv os0 * 2 ^ s : Nat) : Int) := by rw [Int.natCast_mul, Int.natCast_pow, ← show ((2 : Nat) : Int) ^ s = (2 : Int) ^ s from rfl] at *; omega
  exact Int.ofNat.inj h5

/-- So many digits are shifted to the right by s < 32 places. -/
structure SrSt (os0 os : List Int) (s i : Nat) : Prop where
  len : os.length = os0.length
  ok : okN os
  z : ∀ k, i ≤ k → os.getD k 0 = os0.getD k 0
  eq : (nv (os.take i) : Int) * 2 ^ s + os0.getD 0 0 % 2 ^ s = nv (os0.take i) + (B32 : Int) ^ i * (os0.getD i 0 % 2 ^ s)
theorem SrSt.start {os0 : List Int} {s : Nat} (h : okN os0) : SrSt os0 os0 s 0 := ⟨rfl, h, fun _ _ => rfl, by simp [nv]⟩
theorem shr_parts {x : Int} {s : Nat} (hs : s ≤ 32) (hx : 0 ≤ x ∧ x < 4294967296) : x * 2 ^ (32 - s) % 4294967296 = x % 2 ^ s * 2 ^ (32 - s) ∧ 0 ≤ x % 2 ^ s * 2 ^ (32 - s) ∧ x % 2 ^ s * 2 ^ (32 - s) + 2 ^ (32 - s) ≤ 4294967296 := by
  have := shl_parts (s := 32 - s) (by omega) hx
  rw [show 32 - (32 - s) = s by omega] at this
  exact ⟨this.1, this.2.2.2.2.1, this.2.2.2.2.2⟩
theorem shr_low {x : Int} {s : Nat} (hs : s ≤ 32) (hx : 0 ≤ x ∧ x < 4294967296) : 0 ≤ x / 2 ^ s ∧ x / 2 ^ s < 2 ^ (32 - s) := by
  have := shl_parts (s := 32 - s) (by omega) hx
  rw [show 32 - (32 - s) = s by omega] at this
  exact ⟨this.2.2.1, this.2.2.2.1⟩
theorem SrSt.step {os0 os : List Int} {s i : Nat} (h : SrSt os0 os s i) (hs : s ≤ 32) (h0 : okN os0) (hi : i < os0.length) {y : Int} (hy : y = os0.getD i 0 / 2 ^ s + os0.getD (i + 1) 0 % 2 ^ s * 2 ^ (32 - s)) :
    SrSt os0 (os.set i y) s (i + 1) := by
  have hl := h.len
  have hx := h0.at i
  have hx' := h0.at (i + 1)
  obtain ⟨p1, p2, p3⟩ := shr_parts hs hx'
  have p4 := shr_low hs hx
  have hy' : 0 ≤ y ∧ y < 4294967296 := by rw [hy]; omega
  refine ⟨by simpa using hl, h.ok.set _ hy', fun k hk => ?_, ?_⟩
  · rw [getD_set, if_neg (by omega)]; exact h.z k (by omega)
  · have e0 : (os.set i y).take i = os.take i := List.take_set_of_le (Nat.le_refl i)
    have e1 := nvI_take (a := os.set i y) (i := i) (by simp; omega) (h.ok.set _ hy')
    rw [e0, getD_set, if_pos ⟨rfl, by omega⟩] at e1
    have e2 := nvI_take hi h0
    have e3 := h.eq
    have e4 : (B32 : Int) ^ (i + 1) = (B32 : Int) ^ i * 4294967296 := by rw [Int.pow_succ]; rfl
    have e5 := two_split hs
    have e6 := Int.mul_ediv_add_emod (os0.getD i 0) (2 ^ s)
    rw [e1, e2, e4, hy, ← e5]
    generalize (nv (os.take i) : Int) = a1 at *
    generalize (nv (os0.take i) : Int) = a3 at *
    generalize os0.getD i 0 / 2 ^ s = d at *
    generalize os0.getD i 0 % 2 ^ s = r at *
    generalize os0.getD (i + 1) 0 % 2 ^ s = r' at *
    generalize os0.getD 0 0 % 2 ^ s = r0 at *
    generalize os0.getD i 0 = x at *
    generalize (2 : Int) ^ s = w at *
    generalize (2 : Int) ^ (32 - s) = w' at *
    generalize (B32 : Int) ^ i = b at *
    clear e1 e2 e4 e5 e0 h p1 p2 p3 p4 hy hy' hl hx hx'
    grind
theorem SrSt.fin {os0 os : List Int} {s : Nat} (h : SrSt os0 os s os0.length) (h0 : okN os0) : nv os = nv os0 / 2 ^ s := by
  have h1 := h.eq
  rw [List.take_of_length_le (by rw [h.len]; exact Nat.le_refl _), List.take_of_length_le (Nat.le_refl _)] at h1
  have h2 : os0.getD os0.length 0 = 0 := by rw [List.getD_eq_getElem?_getD, List.getElem?_eq_none (Nat.le_refl _)]; rfl
  rw [h2, Int.zero_emod, Int.mul_zero, Int.add_zero] at h1
  have h3 := two_pos s
  have h4 := Int.emod_nonneg (os0.getD 0 0) (Int.ne_of_gt h3)
  have h5 := Int.emod_lt_of_pos (os0.getD 0 0) h3
  have h6 : ((nv os0 / 2 ^ s : Nat) : Int) = nv os := by
    rw [Int.natCast_ediv, Int.natCast_pow, ← h1]
    show (_ + _) / (2 : Int) ^ s = _
    rw [Int.add_comm, Int.add_mul_ediv_right _ _ (Int.ne_of_gt h3), Int.ediv_eq_zero_of_lt h4 h5, Int.zero_add]
  exact Int.ofNat.inj h6.symm

/-- Division by one digit: the digits from k on are done. -/
structure DsSt (p os : List Int) (rest d : Int) (k : Nat) : Prop where
  len : os.length = p.length
  ok : okN os
  rr : 0 ≤ rest ∧ rest < d
  z : ∀ j, j < k → os.getD j 0 = 0
  eq : (nv os : Int) * d + rest * (B32 : Int) ^ k + nv (p.take k) = nv p
theorem ds_digit {rest x d : Int} (hr : 0 ≤ rest ∧ rest < d) (hx : 0 ≤ x ∧ x < 4294967296) : 0 ≤ rest * 4294967296 + x ∧ 0 ≤ (rest * 4294967296 + x) / d ∧ (rest * 4294967296 + x) / d < 4294967296 ∧ 0 ≤ (rest * 4294967296 + x) % d ∧ (rest * 4294967296 + x) % d < d := by
  refine ⟨by omega, Int.ediv_nonneg (by omega) (by omega), Int.ediv_lt_of_lt_mul (by omega) (by omega), Int.emod_nonneg _ (by omega), Int.emod_lt_of_pos _ (by omega)⟩
theorem DsSt.step {p os : List Int} {rest d : Int} {k : Nat} (h : DsSt p os rest d (k + 1)) (hp : okN p) (hk : k < p.length) :
    DsSt p (os.set k ((rest * 4294967296 + p.getD k 0) / d)) ((rest * 4294967296 + p.getD k 0) % d) d k := by
  have hl := h.len
  have hx := hp.at k
  obtain ⟨q1, q2, q3, q4, q5⟩ := ds_digit h.rr hx
  refine ⟨by simpa using hl, h.ok.set _ ⟨q2, q3⟩, ⟨q4, q5⟩, fun j hj => ?_, ?_⟩
  · rw [getD_set, if_neg (by omega)]; exact h.z j (by omega)
  · have e1 := nvI_set (v := (rest * 4294967296 + p.getD k 0) / d) (i := k) (by omega) h.ok q2
    rw [h.z k (by omega), Int.sub_zero] at e1
    have e2 := nvI_take hk hp
    have e3 := h.eq
    have e4 : (B32 : Int) ^ (k + 1) = (B32 : Int) ^ k * 4294967296 := by rw [Int.pow_succ]; rfl
    have e6 := Int.mul_ediv_add_emod (rest * 4294967296 + p.getD k 0) d
    rw [e2, e4] at e3
    rw [e1]
    generalize (rest * 4294967296 + p.getD k 0) / d = q at *
    generalize (rest * 4294967296 + p.getD k 0) % d = r at *
    generalize p.getD k 0 = x at *
    generalize (B32 : Int) ^ k = b at *
    clear e1 e2 e4 h q1 q2 q3 q4 q5 hl hx
    grind
theorem DsSt.fin {p os : List Int} {rest d : Int} (h : DsSt p os rest d 0) : nv os = nv p / d.toNat ∧ rest = ((nv p % d.toNat : Nat) : Int) := by
  have h1 := h.eq
  have h2 := h.rr
  obtain ⟨m, rfl⟩ : ∃ m : Nat, d = m := ⟨d.toNat, by omega⟩
  obtain ⟨r, rfl⟩ : ∃ r : Nat, rest = r := ⟨rest.toNat, by omega⟩
  rw [List.take_zero, nv, Int.pow_zero, Int.mul_one] at h1
  have h3 : nv os * m + r = nv p := by
    have : ((nv os * m + r : Nat) : Int) = nv p := by rw [Int.natCast_add, Int.natCast_mul]; omega
    exact Int.ofNat.inj this
  rw [Int.toNat_natCast, ← h3]
  constructor
  · rw [Nat.add_comm, Nat.add_mul_div_right _ _ (by omega), Nat.div_eq_of_lt (by omega), Nat.zero_add]
  · congr 1
    rw [Nat.add_comm, Nat.add_mul_mod_self_right, Nat.mod_eq_of_lt (by omega)]
end Go.N

/- Long division: the rounds put together. -/
namespace Go.N

theorem DvSt.start {U : Nat} {v : List Int} (h1 : B32 ^ (v.length - 1) ≤ nv v) (h2 : v.length ≤ (dig U).length) (h0 : 0 < v.length) :
    DvSt U v (dig U ++ [0]) (List.replicate ((dig U).length + 1 - v.length) 0) ((dig U).length + 1 - v.length) ((dig U).length + 1) := by
  have hu : nv (dig U ++ [0]) = U := by rw [nv_app, nv_dig]; simp [nv]
  refine ⟨by simp, (okN_dig U).app (okN.cons (by omega) okN.nil), by rw [List.length_replicate]; omega, fun d hd => by rw [(List.mem_replicate.1 hd).2]; omega, fun k hk => ?_, ?_, ?_⟩
  · rw [List.getD_eq_getElem?_getD, List.getElem?_replicate]
    split <;> rfl
  · rw [hu, nv_zeros]; omega
  · rw [hu]
    refine Nat.lt_of_lt_of_le (dig_lt U) ?_
    have e : (dig U).length = ((dig U).length + 1 - v.length) + (v.length - 1) := by omega
    calc B32 ^ (dig U).length = B32 ^ ((dig U).length + 1 - v.length) * B32 ^ (v.length - 1) := by rw [← Nat.pow_add, ← e]
      _ ≤ _ := Nat.mul_le_mul_left _ h1
theorem DvSt.next {U : Nat} {v us qs us' : List Int} {j m g : Nat} (h : DvSt U v us qs (j + 1) m) (hj : j + v.length < m) (hl : us'.length = m) (ho : okN us') (hg : g < B32) (he : nv us' + B32 ^ j * nv v * g = nv us) (hlt : nv us' < B32 ^ j * nv v) :
    DvSt U v us' (qs.set j (g : Int)) j m := by
  have hq := h.ql
  refine ⟨hl, ho, by rw [List.length_set]; exact hq, h.qo.set _ (by unfold B32 at hg; omega), fun k hk => ?_, ?_, hlt⟩
  · rw [getD_set, if_neg (by omega)]; exact h.qz k (by omega)
  · have e1 := nv_set (a := qs) (i := j) (v := (g : Int)) (by omega)
    rw [h.qz j (by omega), Int.toNat_natCast] at e1
    have e2 : nv (qs.set j (g : Int)) = nv qs + B32 ^ j * g := by simpa using e1
    have e3 := h.eq
    rw [e2, Nat.add_mul, ← e3, ← he]
    generalize nv qs * nv v = a
    have e4 : B32 ^ j * g * nv v = B32 ^ j * nv v * g := Nat.mul_right_comm ..
    rw [e4]
    generalize B32 ^ j * nv v * g = b
    omega
theorem DvSt.fin {U : Nat} {v us qs : List Int} {m : Nat} (h : DvSt U v us qs 0 m) : nv qs = U / nv v ∧ nv us = U % nv v := by
  have h1 := h.eq
  have h2 := h.lt
  rw [Nat.pow_zero, Nat.one_mul] at h2
  rw [← h1]
  constructor
  · rw [Nat.add_mul_div_right _ _ (by omega), Nat.div_eq_of_lt h2, Nat.zero_add]
  · rw [Nat.add_mul_mod_self_right, Nat.mod_eq_of_lt h2]
theorem DvSt.trial {U : Nat} {v us qs : List Int} {i m n : Nat} (h : DvSt U v us qs (i + 1) m) (hv : okN v) (hn : v.length = n + 2) (hi : i + 1 + v.length ≤ m) :
    ∃ low lv, nv us = (((us.getD (i + n + 2) 0).toNat * B32 + (us.getD (i + n + 1) 0).toNat) * B32 + (us.getD (i + n) 0).toNat) * B32 ^ (i + n) + low ∧ low < B32 ^ (i + n) ∧
      B32 ^ i * nv v = ((v.getD (n + 1) 0).toNat * B32 + (v.getD n 0).toNat) * B32 ^ (i + n) + lv ∧ lv < B32 ^ (i + n) ∧ nv us < B32 * (B32 ^ i * nv v) := by
  have hl := h.ul
  obtain ⟨e1, e2⟩ := dig_split (k := i + n) h.uo (by omega) (fun k hk => h.hi hv k (by omega))
  obtain ⟨e3, e4⟩ := div_split hv hn
  refine ⟨_, B32 ^ i * nv (v.take n), e1, e2, ?_, ?_, ?_⟩
  · rw [e3, Nat.mul_add, Nat.pow_add]
    generalize (v.getD (n + 1) 0).toNat * B32 + (v.getD n 0).toNat = x
    congr 1
    rw [Nat.mul_left_comm]
  · rw [Nat.pow_add]; exact Nat.mul_lt_mul_of_pos_left e4 (pw_pos i)
  · have h3 := h.lt
    rw [Nat.pow_succ, Nat.mul_comm (B32 ^ i), Nat.mul_assoc] at h3
    exact h3
theorem dv_a {us us2 v : List Int} {g i : Nat} {f : Int} (e : (nv us2 : Int) + (B32 : Int) ^ i * (g * nv v) = nv us + (B32 : Int) ^ (i + v.length + 1) * f) (hf : f = 0) (hW : nv us < (g + 1) * (B32 ^ i * nv v)) :
    nv us2 + B32 ^ i * nv v * g = nv us ∧ nv us2 < B32 ^ i * nv v := by
  subst hf
  have e1 : ((nv us2 + B32 ^ i * nv v * g : Nat) : Int) = ((nv us : Nat) : Int) := by
    rw [Int.natCast_add, Int.natCast_mul, Int.natCast_mul, Int.natCast_pow, Int.mul_assoc, Int.mul_comm ((nv v : Nat) : Int)]
    rw [Int.mul_zero, Int.add_zero] at e
    exact e
  have e2 := Int.ofNat.inj e1
  refine ⟨e2, ?_⟩
  rw [Nat.add_mul, Nat.one_mul, Nat.mul_comm g] at hW
  omega
theorem dv_b {us us2 us4 v : List Int} {g i : Nat} {f f' : Int} (e : (nv us2 : Int) + (B32 : Int) ^ i * (g * nv v) = nv us + (B32 : Int) ^ (i + v.length + 1) * f) (hf : f = 1)
    (e' : (nv us4 : Int) + (B32 : Int) ^ (i + v.length + 1) * f' = nv us2 + (B32 : Int) ^ i * nv v) (hf' : f' = 0 ∨ f' = 1) (hg : g * (B32 ^ i * nv v) ≤ nv us + B32 ^ i * nv v) (h2 : nv us2 < B32 ^ (i + v.length + 1)) (h4 : nv us4 < B32 ^ (i + v.length + 1)) :
    1 ≤ g ∧ nv us4 + B32 ^ i * nv v * (g - 1) = nv us ∧ nv us4 < B32 ^ i * nv v := by
  subst hf
  have e1 : nv us2 + B32 ^ i * nv v * g = nv us + B32 ^ (i + v.length + 1) := by
    have : ((nv us2 + B32 ^ i * nv v * g : Nat) : Int) = ((nv us + B32 ^ (i + v.length + 1) : Nat) : Int) := by
      rw [Int.natCast_add, Int.natCast_mul, Int.natCast_mul, Int.natCast_pow, Int.mul_assoc, Int.mul_comm ((nv v : Nat) : Int), Int.natCast_add, Int.natCast_pow]
      rw [Int.mul_one] at e
      exact e
    exact Int.ofNat.inj this
  rw [Nat.mul_comm g] at hg
  have hD : B32 ^ i * nv v * g = B32 ^ i * nv v * (g - 1) + (if g = 0 then 0 else B32 ^ i * nv v) := by
    rcases g with _ | g
    · simp
    · rw [if_neg (by omega), Nat.add_sub_cancel, Nat.mul_succ]
  rcases hf' with rfl | rfl
  · have e2 : nv us4 = nv us2 + B32 ^ i * nv v := by
      have : ((nv us4 : Nat) : Int) = ((nv us2 + B32 ^ i * nv v : Nat) : Int) := by
        rw [Int.natCast_add, Int.natCast_mul, Int.natCast_pow]
        rw [Int.mul_zero, Int.add_zero] at e'
        exact e'
      exact Int.ofNat.inj this
    omega
  · have e2 : nv us4 + B32 ^ (i + v.length + 1) = nv us2 + B32 ^ i * nv v := by
      have : ((nv us4 + B32 ^ (i + v.length + 1) : Nat) : Int) = ((nv us2 + B32 ^ i * nv v : Nat) : Int) := by
        rw [Int.natCast_add, Int.natCast_pow, Int.natCast_add, Int.natCast_mul, Int.natCast_pow]
        rw [Int.mul_one] at e'
        exact e'
      exact Int.ofNat.inj this
    have hg1 : 1 ≤ g := by
      rcases Nat.eq_zero_or_pos g with rfl | h
      · rw [Nat.mul_zero] at e1; omega
      · exact h
    rw [if_neg (by omega)] at hD
    refine ⟨hg1, ?_, ?_⟩ <;> omega
theorem dv_g {us us2 v : List Int} {g i : Nat} {f : Int} (e : (nv us2 : Int) + (B32 : Int) ^ i * (g * nv v) = nv us + (B32 : Int) ^ (i + v.length + 1) * f) (hf : f = 1) (h2 : nv us2 < B32 ^ (i + v.length + 1)) : 1 ≤ g := by
  subst hf
  rcases Nat.eq_zero_or_pos g with rfl | h
  · rw [Int.mul_one] at e
    have e1 : ((nv us2 : Nat) : Int) = ((nv us + B32 ^ (i + v.length + 1) : Nat) : Int) := by
      rw [Int.natCast_add, Int.natCast_pow]
      simpa using e
    have := Int.ofNat.inj e1
    omega
  · exact h
theorem nv_take_lt {a : List Int} {k : Nat} (h : nv a < B32 ^ k) : nv (a.take k) = nv a := by
  rcases Nat.lt_or_ge k a.length with hk | hk
  · have h1 := nv_take_drop a k (by omega)
    rcases Nat.eq_zero_or_pos (nv (a.drop k)) with h2 | h2
    · rw [h2] at h1; omega
    · have : B32 ^ k * 1 ≤ B32 ^ k * nv (a.drop k) := Nat.mul_le_mul_left _ h2
      omega
  · rw [List.take_of_length_le hk]
theorem lt_pw {n k K : Nat} (h : n < B32 ^ k) (hk : k ≤ K) : n < B32 ^ K := Nat.lt_of_lt_of_le h (pw_mono hk)
end Go.N

/- Fractions: order. Plain law. -/
namespace Go.N

theorem mk_parts (n : Int) {d : Nat} (hd : d ≠ 0) : ∃ g : Nat, g ≠ 0 ∧ n = (mkRat n d).num * g ∧ d = (mkRat n d).den * g :=
  Rat.mkRat_num_den hd (rfl : mkRat n d = ⟨(mkRat n d).num, (mkRat n d).den, (mkRat n d).den_nz, (mkRat n d).reduced⟩)
theorem mk_lt {n m : Int} {d e : Nat} (hd : d ≠ 0) (he : e ≠ 0) : mkRat n d < mkRat m e ↔ n * e < m * d := by
  obtain ⟨g, hg, e1, e2⟩ := mk_parts n hd
  obtain ⟨h, hh, e3, e4⟩ := mk_parts m he
  rw [Rat.lt_iff]
  generalize mkRat n d = a at *
  generalize mkRat m e = b at *
  have hp : (0 : Int) < (g : Int) * h := Int.mul_pos (by omega) (by omega)
  have k1 : n * e = (g : Int) * h * (a.num * b.den) := by rw [e1, e4, Int.natCast_mul]; grind
  have k2 : m * d = (g : Int) * h * (b.num * a.den) := by rw [e3, e2, Int.natCast_mul]; grind
  rw [k1, k2]
  exact (Int.mul_lt_mul_left hp).symm
def cmpR (a b : Rat) : Int := if b < a then 1 else if a < b then -1 else 0
theorem cmp_mk {n m : Int} {d e : Nat} (hd : d ≠ 0) (he : e ≠ 0) : (if m * d < n * e then (1 : Int) else if n * e < m * d then -1 else 0) = cmpR (mkRat n d) (mkRat m e) := by
  unfold cmpR
  simp only [mk_lt hd he, mk_lt he hd]
theorem cmpR_zero {a b : Rat} : cmpR a b = 0 ↔ a = b := by
  unfold cmpR
  constructor
  · intro h
    split at h
    · cases h
    · split at h
      · cases h
      · rename_i h1 h2
        exact Rat.le_antisymm (Rat.not_lt.1 h1) (Rat.not_lt.1 h2)
  · rintro rfl
    rw [if_neg Rat.lt_irrefl, if_neg Rat.lt_irrefl]
/-- A fraction that is made of many digits. -/
theorem Qb.mk0 {k : Nat} {n : Int} {d : Nat} (h1 : n.natAbs < B32 ^ k) (h2 : d < B32 ^ k) (hk : 1 ≤ k) : Qb k (mkRat n d) := .mk' h1 h2 hk
theorem mk_one (n : Int) : mkRat n 1 = (n : Rat) := by
  apply Rat.ext
  · rw [Rat.num_mkRat]; simp
  · rw [Rat.den_mkRat]; simp
theorem mk_num (n : Int) {d : Nat} (hd : d ≠ 0) : (mkRat n d).num = n / (Nat.gcd n.natAbs d : Nat) := by
  rw [Rat.num_mkRat, if_neg hd, Nat.gcd_comm]
theorem mk_den (n : Int) {d : Nat} (hd : d ≠ 0) : (mkRat n d).den = d / Nat.gcd n.natAbs d := by
  rw [Rat.den_mkRat, if_neg hd, Nat.gcd_comm]
end Go.N
