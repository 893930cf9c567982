/- Contents of polynomials: plain law. -/
import Derived.Test.YtbdefjbekbbldaaN
set_option linter.unusedVariables false
set_option linter.unusedSimpArgs false
set_option linter.unnecessarySimpa false
namespace Go.N

/-- The greatest common divisor of the coefficients. -/
def gcdP (q : P) : Nat := q.foldl (fun g t => Nat.gcd g t.1.natAbs) 0
theorem fold_gcd (q : P) : ∀ a : Nat, q.foldl (fun g t => Nat.gcd g t.1.natAbs) a = Nat.gcd a (gcdP q) := by
  induction q with
  | nil => intro a; exact (Nat.gcd_zero_right a).symm
  | cons t r ih =>
    intro a
    have e : gcdP (t :: r) = Nat.gcd t.1.natAbs (gcdP r) := by
      show r.foldl _ (Nat.gcd 0 t.1.natAbs) = _
      rw [Nat.gcd_zero_left]; exact ih _
    rw [List.foldl_cons, ih, e, Nat.gcd_assoc]
theorem gcdP_cons (t : Int × M) (r : P) : gcdP (t :: r) = Nat.gcd t.1.natAbs (gcdP r) := by
  show r.foldl _ (Nat.gcd 0 t.1.natAbs) = _
  rw [Nat.gcd_zero_left]; exact fold_gcd r _
theorem gcdP_dvd : ∀ {q : P} {t : Int × M}, t ∈ q → (gcdP q : Int) ∣ t.1
  | u :: r, t, h => by
    rw [gcdP_cons]
    rcases List.mem_cons.1 h with rfl | h
    · exact Int.dvd_natAbs.1 (Int.natCast_dvd_natCast.2 (Nat.gcd_dvd_left _ _))
    · exact Int.dvd_trans (Int.natCast_dvd_natCast.2 (Nat.gcd_dvd_right _ _)) (gcdP_dvd h)
theorem gcdP_take {q : P} {i : Nat} {z : Int × M} (h : i < q.length) : gcdP (q.take (i + 1)) = Nat.gcd (gcdP (q.take i)) (q.getD i z).1.natAbs := by
  unfold gcdP
  rw [take_nx (z := z) h, List.foldl_append]; rfl
theorem gcdP_le {q : P} {t : Int × M} (h : t ∈ q) (h0 : t.1 ≠ 0) : gcdP q ≤ t.1.natAbs :=
  Nat.le_of_dvd (by omega) (Int.natCast_dvd_natCast.1 (Int.dvd_natAbs.2 (gcdP_dvd h)))
theorem gcdP_l1 : ∀ q : P, gcdP q ≤ l1 q
  | [] => Nat.le_refl _
  | t :: r => by
    rw [gcdP_cons]
    show _ ≤ t.1.natAbs + l1 r
    rcases Nat.eq_zero_or_pos t.1.natAbs with h | h
    · rw [h, Nat.gcd_zero_left]; have := gcdP_l1 r; omega
    · have := Nat.gcd_le_left (gcdP r) h; omega
def sclP (c : Int) (a : P) : P := a.map fun t => (t.1 * c, t.2)
theorem gcdP_scl (c : Int) : ∀ q : P, gcdP (sclP c q) = gcdP q * c.natAbs
  | [] => (Nat.zero_mul _).symm
  | t :: r => by
    show gcdP ((t.1 * c, t.2) :: sclP c r) = _
    rw [gcdP_cons, gcdP_cons, gcdP_scl c r, Int.natAbs_mul, Nat.gcd_mul_right]
/-- The divisor that makes the first coefficient positive. -/
def sgP' (q : P) : Int := match q with
  | [] => 1
  | t :: _ => if t.1 < 0 then -(gcdP q : Int) else (gcdP q : Int)
def snP (q : P) : P := q.map fun t => (t.1 / sgP' q, t.2)
theorem sgP'_abs {q : P} (h : q ≠ []) : (sgP' q).natAbs = gcdP q := by
  match q, h with
  | t :: r, _ => unfold sgP'; simp only; split <;> omega
theorem sgP'_dvd {q : P} {t : Int × M} (h : t ∈ q) : sgP' q ∣ t.1 := by
  have h1 := gcdP_dvd h
  match q, h with
  | u :: r, _ =>
    unfold sgP'
    simp only
    split
    · exact Int.neg_dvd.2 h1
    · exact h1
theorem gcdP_pos {q : P} (hq : Canon q) (h : q ≠ []) : 0 < gcdP q := by
  match q, h with
  | t :: r, _ =>
    rcases Nat.eq_zero_or_pos (gcdP (t :: r)) with h1 | h1
    · have := gcdP_dvd (q := t :: r) (t := t) (by simp)
      rw [h1] at this
      exact absurd (Int.zero_dvd.1 this) (hq.nz t (by simp))
    · exact h1
theorem sgP'_ne {q : P} (hq : Canon q) (h : q ≠ []) : sgP' q ≠ 0 := by
  have h1 := sgP'_abs h
  have h2 := gcdP_pos hq h
  omega
theorem scl_sn {q : P} : sclP (sgP' q) (snP q) = q := by
  unfold sclP snP
  rw [List.map_map]
  conv => rhs; rw [← List.map_id q]
  refine List.map_congr_left fun t ht => ?_
  show (t.1 / sgP' q * sgP' q, t.2) = t
  rw [Int.ediv_mul_cancel (sgP'_dvd ht)]
theorem snP_canon {q : P} (hq : Canon q) : Canon (snP q) := by
  refine ⟨?_, fun t ht => ?_, fun t ht => ?_⟩
  · unfold snP
    rw [List.pairwise_map]; exact hq.ord
  · obtain ⟨u, hu, rfl⟩ := List.mem_map.1 ht
    intro h0
    have h1 := Int.ediv_mul_cancel (sgP'_dvd hu)
    have h2 : u.1 / sgP' q = 0 := h0
    rw [h2, Int.zero_mul] at h1
    exact hq.nz u hu h1.symm
  · obtain ⟨u, hu, rfl⟩ := List.mem_map.1 ht
    exact hq.v u hu
theorem gcdP_sn {q : P} (hq : Canon q) (h : q ≠ []) : gcdP (snP q) = 1 := by
  have h1 := gcdP_scl (sgP' q) (snP q)
  rw [scl_sn, sgP'_abs h] at h1
  have h2 := gcdP_pos hq h
  have h3 : 1 * gcdP q = gcdP (snP q) * gcdP q := by omega
  exact (Nat.eq_of_mul_eq_mul_right h2 h3).symm
theorem snP_len (q : P) : (snP q).length = q.length := List.length_map _
theorem snP_l1 (q : P) : l1 (snP q) ≤ l1 q := by
  unfold snP
  generalize sgP' q = c
  induction q with
  | nil => exact Nat.le_refl _
  | cons t r ih =>
    show (t.1 / c).natAbs + l1 _ ≤ t.1.natAbs + l1 r
    have := Int.natAbs_ediv_le_natAbs t.1 c
    omega
theorem sn_head {q : P} (hq : Canon q) {t : Int × M} {r : P} (h : snP q = t :: r) : 0 < t.1 := by
  match q, hq, h with
  | u :: v, hq, h =>
    have e : t = (u.1 / sgP' (u :: v), u.2) := by
      unfold snP at h
      rw [List.map_cons] at h
      exact (List.cons.inj h).1.symm
    subst e
    have hd := sgP'_dvd (q := u :: v) (t := u) (by simp)
    have hu := hq.nz u (by simp)
    have h0 := gcdP_pos hq (by simp)
    show 0 < u.1 / sgP' (u :: v)
    obtain ⟨k, hk⟩ := hd
    have hc : sgP' (u :: v) = if u.1 < 0 then -(gcdP (u :: v) : Int) else (gcdP (u :: v) : Int) := rfl
    have hne := sgP'_ne hq (by simp)
    have hk' : u.1 / sgP' (u :: v) = k := by rw [hk, Int.mul_ediv_cancel_left _ hne]
    rw [hk']
    generalize sgP' (u :: v) = c at *
    generalize gcdP (u :: v) = g at *
    rcases Int.lt_trichotomy k 0 with h1 | h1 | h1
    · split at hc
      · have : 0 < c * k := Int.mul_pos_of_neg_of_neg (by omega) h1
        omega
      · have : c * k < 0 := Int.mul_neg_of_pos_of_neg (by omega) h1
        omega
    · subst h1; rw [Int.mul_zero] at hk; exact absurd hk hu
    · exact h1
theorem sgP'_scl {q : P} (hq : Canon q) (h : q ≠ []) {k : Int} (hk : k ≠ 0) : sgP' (sclP k q) = sgP' q * k := by
  match q, hq, h with
  | t :: r, hq, _ =>
    have ht := hq.nz t (by simp)
    show (if t.1 * k < 0 then -(gcdP (sclP k (t :: r)) : Int) else (gcdP (sclP k (t :: r)) : Int)) = (if t.1 < 0 then -(gcdP (t :: r) : Int) else (gcdP (t :: r) : Int)) * k
    rw [gcdP_scl, Int.natCast_mul]
    generalize (gcdP (t :: r) : Int) = g
    rcases Int.lt_or_gt_of_ne ht with h1 | h1 <;> rcases Int.lt_or_gt_of_ne hk with h2 | h2
    · have : 0 < t.1 * k := Int.mul_pos_of_neg_of_neg h1 h2
      rw [if_neg (by omega), if_pos h1, show ((k.natAbs : Nat) : Int) = -k by omega]
      rw [Int.mul_neg, Int.neg_mul]
    · have : t.1 * k < 0 := Int.mul_neg_of_neg_of_pos h1 h2
      rw [if_pos this, if_pos h1, show ((k.natAbs : Nat) : Int) = k by omega, Int.neg_mul]
    · have : t.1 * k < 0 := Int.mul_neg_of_pos_of_neg h1 h2
      rw [if_pos this, if_neg (by omega), show ((k.natAbs : Nat) : Int) = -k by omega, Int.mul_neg, Int.neg_neg]
    · have : 0 < t.1 * k := Int.mul_pos h1 h2
      rw [if_neg (by omega), if_neg (by omega), show ((k.natAbs : Nat) : Int) = k by omega]
theorem snP_scl {q : P} (hq : Canon q) {k : Int} (hk : k ≠ 0) : snP (sclP k q) = snP q := by
  by_cases h : q = []
  · subst h; rfl
  unfold snP
  rw [sgP'_scl hq h hk]
  unfold sclP
  rw [List.map_map]
  refine List.map_congr_left fun t ht => ?_
  show (t.1 * k / (sgP' q * k), t.2) = (t.1 / sgP' q, t.2)
  have hne := sgP'_ne hq h
  obtain ⟨m, hm⟩ := sgP'_dvd ht
  rw [hm, Int.mul_ediv_cancel_left _ hne, Int.mul_right_comm, Int.mul_ediv_cancel_left _ (Int.mul_ne_zero hne hk)]
end Go.N
