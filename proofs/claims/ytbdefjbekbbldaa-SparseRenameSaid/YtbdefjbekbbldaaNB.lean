/- The order of polynomials: plain law. -/
import Derived.Test.YtbdefjbekbbldaaN
set_option linter.unusedVariables false
set_option linter.unusedSimpArgs false
set_option linter.unnecessarySimpa false
namespace Go.N

def cmpZ (x y : Int) : Int := if y < x then 1 else if x < y then -1 else 0
theorem cmpZ_neg (x y : Int) : cmpZ y x = -cmpZ x y := by unfold cmpZ; split <;> split <;> omega
theorem cmpZ_zero {x y : Int} : cmpZ x y = 0 ↔ x = y := by unfold cmpZ; split <;> (try split) <;> omega
/-- One term against another. -/
def cmpT1 (x y : Int × M) : Int := if cmpM x.2 y.2 ≠ 0 then cmpM x.2 y.2 else cmpZ x.1 y.1
def cmpL : P → P → Int
  | [], [] => 0
  | [], _ :: _ => -1
  | _ :: _, [] => 1
  | x :: a, y :: b => if cmpT1 x y ≠ 0 then cmpT1 x y else cmpL a b
theorem cmpT1_neg (x y : Int × M) : cmpT1 y x = -cmpT1 x y := by
  unfold cmpT1
  rw [cmpM_neg y.2 x.2, cmpZ_neg x.1 y.1]
  split <;> split <;> omega
theorem cmpT1_zero {x y : Int × M} : cmpT1 x y = 0 ↔ x = y := by
  unfold cmpT1
  constructor
  · intro h
    split at h
    · omega
    · rename_i h1
      have h2 := cmpM_zero.1 (show cmpM x.2 y.2 = 0 by omega)
      exact Prod.ext (cmpZ_zero.1 h) h2
  · rintro rfl
    rw [cmpM_self, if_neg (by simp)]
    exact cmpZ_zero.2 rfl
theorem cmpL_neg : ∀ a b : P, cmpL b a = -cmpL a b
  | [], [] => rfl
  | [], _ :: _ => rfl
  | _ :: _, [] => rfl
  | x :: a, y :: b => by
    rw [cmpL, cmpL, cmpT1_neg x y, cmpL_neg a b]
    split <;> split <;> omega
theorem cmpL_zero : ∀ {a b : P}, cmpL a b = 0 ↔ a = b
  | [], [] => by simp [cmpL]
  | [], _ :: _ => by simp [cmpL]
  | _ :: _, [] => by simp [cmpL]
  | x :: a, y :: b => by
    rw [cmpL]
    constructor
    · intro h
      split at h
      · omega
      · rename_i h1
        have h2 := cmpT1_zero.1 (show cmpT1 x y = 0 by omega)
        rw [h2, cmpL_zero.1 h]
    · intro h
      cases h
      rw [cmpT1_zero.2 rfl, if_neg (by simp)]
      exact cmpL_zero.2 rfl
theorem cmpL_drop {a b : P} {i : Nat} (ha : i < a.length) (hb : i < b.length) : cmpL (a.drop i) (b.drop i) = if cmpT1 (a.getD i t0) (b.getD i t0) ≠ 0 then cmpT1 (a.getD i t0) (b.getD i t0) else cmpL (a.drop (i + 1)) (b.drop (i + 1)) := by
  rw [List.drop_eq_getElem_cons ha, List.drop_eq_getElem_cons hb, cmpL]
  simp [ha, hb]
theorem cmpL_l {a b : P} {i : Nat} (ha : i < a.length) (hb : b.length ≤ i) : cmpL (a.drop i) (b.drop i) = 1 := by
  rw [List.drop_eq_getElem_cons ha, List.drop_eq_nil_of_le hb, cmpL]
theorem cmpL_r {a b : P} {i : Nat} (ha : a.length ≤ i) (hb : i < b.length) : cmpL (a.drop i) (b.drop i) = -1 := by
  rw [List.drop_eq_getElem_cons hb, List.drop_eq_nil_of_le ha, cmpL]
theorem cmpL_e {a b : P} {i : Nat} (ha : a.length ≤ i) (hb : b.length ≤ i) : cmpL (a.drop i) (b.drop i) = 0 := by
  rw [List.drop_eq_nil_of_le hb, List.drop_eq_nil_of_le ha, cmpL]
end Go.N
