import Derived.Test.YtbdefjbekbbldaaB3
set_option linter.unusedVariables false
set_option linter.unusedSimpArgs false
set_option linter.unnecessarySimpa false
namespace Go.Proofs.Ytbdefjbekbbldaa
open Go.V Go.N
set_option maxHeartbeats 8000000
set_option maxRecDepth 20000

/-- A row of terms whose first terms are changed. -/
def mpR (f : Int × M → Int × M) (a : P) (i : Nat) : List RT := can ((a.take i).map f ++ a.drop i)
theorem mpR_len {f : Int × M → Int × M} {a : P} {i : Nat} : (mpR f a i).length = a.length := by
  unfold mpR
  rw [can_len, List.length_append, List.length_map, ← List.length_append, List.take_append_drop]
theorem mpR_end {f : Int × M → Int × M} {a : P} : mpR f a a.length = can (a.map f) := by
  unfold mpR
  rw [List.take_of_length_le (Nat.le_refl _), List.drop_eq_nil_of_le (Nat.le_refl _), List.append_nil]
theorem mpR_get {f : Int × M → Int × M} {a : P} {i : Nat} (h : i < a.length) : (mpR f a i).getD i zT = (zcan (a.getD i tz).1, (a.getD i tz).2) := by
  have hm : min i a.length = i := Nat.min_eq_left (Nat.le_of_lt h)
  unfold mpR
  rw [getD_can (by simp [hm]; omega)]
  have : ((a.take i).map f ++ a.drop i).getD i (0, ⟨0, 0, 0, 0⟩) = a.getD i tz := by
    simp [List.getElem?_append_right, hm]
  rw [this]
theorem mpR_next {f : Int × M → Int × M} {a : P} {i : Nat} (h : i < a.length) : mpR f a (i + 1) = (mpR f a i).set i (zcan (f (a.getD i tz)).1, (f (a.getD i tz)).2) := by
  have hm : min i a.length = i := Nat.min_eq_left (Nat.le_of_lt h)
  unfold mpR
  have e1 : a.drop i = a.getD i tz :: a.drop (i + 1) := by rw [List.drop_eq_getElem_cons h]; simp [h]
  rw [take_next (z := tz) h, e1]
  unfold can
  rw [List.map_append, List.map_append, List.map_append, List.map_cons, List.map_append, List.map_map]
  rw [List.set_append_right _ _ (by simp [hm])]
  simp [hm]
theorem clp {n : Nat} : ∀ {cs : List D}, (∀ d ∈ cs, Pure d) → ClL n cs
  | [], _ => trivial
  | d :: r, h => ⟨.pure (h d (by simp)), clp fun e he => h e (by simp [he])⟩
end Go.Proofs.Ytbdefjbekbbldaa
