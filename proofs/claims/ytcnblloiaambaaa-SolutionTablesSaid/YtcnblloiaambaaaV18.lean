/- The logic V, part 18: a region whose order Go leaves open comes to the same in every order, if what clashes is ordered. -/
import Derived.Test.YtcnblloiaambaaaV17
namespace Go.V

def maskOf (o : Oper) (acc : List Nat) : Nat := o.after.toList.foldl (fun s e => bif Region.binds .any e then s ||| 2 ^ e.on ||| acc.getD e.on 0 else s) 0

def masks : List Oper → List Nat → List Nat
  | [], acc => acc
  | o :: r, acc => masks r (acc ++ [maskOf o acc])

inductive Path (ops : Array Oper) : Nat → Nat → Prop where
  | edge {j : Nat} {o : Oper} {e : Edge} (ho : ops[j]? = some o) (he : e ∈ o.after) (hb : Region.binds .any e = true) : Path ops e.on j
  | step {i j : Nat} {o : Oper} {e : Edge} (h : Path ops i e.on) (ho : ops[j]? = some o) (he : e ∈ o.after) (hb : Region.binds .any e = true) : Path ops i j

theorem maskOf_bit {o : Oper} {acc : List Nat} {i : Nat} (h : (maskOf o acc).testBit i = true) : ∃ e ∈ o.after, Region.binds .any e = true ∧ (e.on = i ∨ (acc.getD e.on 0).testBit i = true) := by
  have key : ∀ (l : List Edge) (s : Nat), (l.foldl (fun s e => bif Region.binds .any e then s ||| 2 ^ e.on ||| acc.getD e.on 0 else s) s).testBit i = true →
      s.testBit i = true ∨ ∃ e ∈ l, Region.binds .any e = true ∧ (e.on = i ∨ (acc.getD e.on 0).testBit i = true) := by
    intro l
    induction l with
    | nil => intro s h; exact .inl h
    | cons e l ih =>
      intro s h
      simp only [List.foldl_cons] at h
      rcases ih _ h with h1 | ⟨e', he', r⟩
      · cases hb : Region.binds .any e with
        | false => rw [hb] at h1; exact .inl h1
        | true =>
          rw [hb] at h1
          simp only [cond_true, Nat.testBit_or, Bool.or_eq_true] at h1
          rcases h1 with (h1 | h1) | h1
          · exact .inl h1
          · refine .inr ⟨e, by simp, hb, .inl ?_⟩
            rw [Nat.testBit_two_pow] at h1
            simpa using h1
          · exact .inr ⟨e, by simp, hb, .inr h1⟩
      · exact .inr ⟨e', by simp [he'], r⟩
  rcases key _ _ h with h1 | ⟨e, he, r⟩
  · simp at h1
  · exact ⟨e, by simpa using he, r⟩

theorem masks_path (ops : Array Oper) : ∀ (r : List Oper) (acc : List Nat), ops.toList.drop acc.length = r → (∀ j i, (acc.getD j 0).testBit i = true → Path ops i j) →
    ∀ j i, ((masks r acc).getD j 0).testBit i = true → Path ops i j
  | [], acc, _, h => h
  | o :: r, acc, hd, h => by
    obtain ⟨ho, hd'⟩ := drop_cons hd
    have ho' : ops[acc.length]? = some o := by simpa using ho
    refine masks_path ops r (acc ++ [maskOf o acc]) (by simpa using hd') fun j i hb => ?_
    rw [List.getD_eq_getElem?_getD, List.getElem?_append] at hb
    split at hb
    · exact h j i (by rwa [List.getD_eq_getElem?_getD])
    · rename_i hj
      have hj0 : j - acc.length = 0 := by
        rcases Nat.eq_zero_or_pos (j - acc.length) with h0 | h0
        · exact h0
        · rw [List.getElem?_eq_none (by simp; omega)] at hb
          simp at hb
      rw [hj0] at hb
      have hjl : j = acc.length := by omega
      subst hjl
      simp only [List.getElem?_cons_zero, Option.getD_some] at hb
      obtain ⟨e, he, hbe, hor⟩ := maskOf_bit hb
      rcases hor with rfl | hor
      · exact .edge ho' he hbe
      · exact .step (h _ _ hor) ho' he hbe

def aheadB (ops : Array Oper) (i j : Nat) : Bool := ((masks ops.toList []).getD j 0).testBit i

theorem ahead_mem {ops : Array Oper} {l : List Nat} (ho : Order ops l) {i j : Nat} (h : aheadB ops i j = true) : ∀ l1 l2, l = l1 ++ j :: l2 → i ∈ l1 := by
  have hp := masks_path ops ops.toList [] (by simp) (by simp) j i h
  clear h
  induction hp with
  | edge hoj he hb => exact fun l1 l2 hl => ho.resp l1 _ l2 hl _ hoj _ he hb
  | @step i j o e _ hoj he hb ih =>
    intro l1 l2 hl
    have hm := ho.resp l1 _ l2 hl _ hoj _ he hb
    obtain ⟨a, b, rfl⟩ := List.append_of_mem hm
    have := ih a (b ++ j :: l2) (by rw [hl]; simp)
    simp [this]

theorem snocInd {α : Type} {C : List α → Prop} (h0 : C []) (h1 : ∀ l x, C l → C (l ++ [x])) (l : List α) : C l := by
  have key : ∀ m : List α, C m.reverse := by
    intro m
    induction m with
    | nil => exact h0
    | cons x m ih => rw [List.reverse_cons]; exact h1 _ _ ih
  have := key l.reverse
  rwa [List.reverse_reverse] at this

/-- The part of an order that a predicate picks out, where the predicate's places are ordered among themselves and against j. -/
theorem filter_before {ops : Array Oper} {l : List Nat} (ho : Order ops l) (p : Nat → Bool) (hpp : ∀ i i', i < i' → i' < ops.size → p i = true → p i' = true → aheadB ops i i' = true) {l1 l2 : List Nat} {j : Nat} (hl : l = l1 ++ j :: l2)
    (hj1 : ∀ i, i < j → p i = true → aheadB ops i j = true) (hj2 : ∀ i, j < i → i < ops.size → p i = true → aheadB ops j i = true) : l1.filter p = (List.range j).filter p := by
  have hjs : j < ops.size := (ho.mem j).1 (by rw [hl]; simp)
  have hnd := ho.nodup
  rw [hl] at hnd
  have hnd' := List.nodup_append.1 hnd
  have hmem : ∀ x, x ∈ l1 → x < ops.size := fun x hx => (ho.mem x).1 (by rw [hl]; simp [hx])
  refine sorted_eq _ _ ?_ ?_ ?_
  · -- what is listed in order
    have : ∀ (m1 : List Nat) (rest : List Nat), l = m1 ++ rest → (m1.filter p).Pairwise (· < ·) := by
      intro m1
      induction m1 using snocInd with
      | h0 => intro _ _; simp
      | h1 m x ih =>
        intro rest hr
        have hr' : l = m ++ x :: rest := by rw [hr]; simp
        rw [List.filter_append]
        refine List.pairwise_append.2 ⟨ih _ hr', ?_, ?_⟩
        · simp only [List.filter_cons, List.filter_nil]
          split <;> simp
        · intro a ha b hb
          simp only [List.filter_cons, List.filter_nil] at hb
          split at hb
          · rename_i hpx
            simp only [List.mem_singleton] at hb
            subst hb
            have ham := List.mem_filter.1 ha
            have hn2 := ho.nodup
            rw [hr'] at hn2
            have hn3 := List.nodup_append.1 hn2
            have hne : a ≠ b := fun e => hn3.2.2 a ham.1 b (by simp) e
            rcases Nat.lt_or_gt_of_ne hne with h | h
            · exact h
            · -- b before a: then b is listed ahead of a
              obtain ⟨u, v, huv⟩ := List.append_of_mem ham.1
              have hah := hpp b a h ((ho.mem a).1 (by rw [hr']; simp [ham.1])) hpx ham.2
              have := ahead_mem ho hah u (v ++ b :: rest) (by rw [hr', huv]; simp)
              exact absurd rfl (hn3.2.2 b (by rw [huv]; simp [this]) b (by simp))
          · cases hb
    exact this l1 _ hl
  · exact (List.pairwise_lt_range).filter _
  · intro x
    simp only [List.mem_filter, List.mem_range]
    constructor
    · rintro ⟨hx, hp⟩
      refine ⟨?_, hp⟩
      have hne : x ≠ j := fun e => hnd'.2.2 x hx j (by simp) e
      rcases Nat.lt_or_gt_of_ne hne with h | h
      · exact h
      · obtain ⟨u, v, huv⟩ := List.append_of_mem hx
        have hah := hj2 x h (hmem x hx) hp
        have := ahead_mem ho hah u (v ++ j :: l2) (by rw [hl, huv]; simp)
        exact absurd rfl (hnd'.2.2 j (by rw [huv]; simp [this]) j (by simp))
    · rintro ⟨hx, hp⟩
      exact ⟨ahead_mem ho (hj1 x hx hp) l1 l2 hl, hp⟩

theorem filter_all {ops : Array Oper} {l : List Nat} (ho : Order ops l) (p : Nat → Bool) (hpp : ∀ i i', i < i' → i' < ops.size → p i = true → p i' = true → aheadB ops i i' = true) : l.filter p = (List.range ops.size).filter p := by
  refine sorted_eq _ _ ?_ ((List.pairwise_lt_range).filter _) (fun x => by simp [List.mem_filter, ho.mem x])
  have : ∀ (m1 : List Nat) (rest : List Nat), l = m1 ++ rest → (m1.filter p).Pairwise (· < ·) := by
    intro m1
    induction m1 using snocInd with
    | h0 => intro _ _; simp
    | h1 m x ih =>
      intro rest hr
      have hr' : l = m ++ x :: rest := by rw [hr]; simp
      rw [List.filter_append]
      refine List.pairwise_append.2 ⟨ih _ hr', ?_, ?_⟩
      · simp only [List.filter_cons, List.filter_nil]
        split <;> simp
      · intro a ha b hb
        simp only [List.filter_cons, List.filter_nil] at hb
        split at hb
        · rename_i hpx
          simp only [List.mem_singleton] at hb
          subst hb
          have ham := List.mem_filter.1 ha
          have hn2 := ho.nodup
          rw [hr'] at hn2
          have hn3 := List.nodup_append.1 hn2
          have hne : a ≠ b := fun e => hn3.2.2 a ham.1 b (by simp) e
          rcases Nat.lt_or_gt_of_ne hne with h | h
          · exact h
          · obtain ⟨u, v, huv⟩ := List.append_of_mem ham.1
            have hah := hpp b a h ((ho.mem a).1 (by rw [hr']; simp [ham.1])) hpx ham.2
            have := ahead_mem ho hah u (v ++ b :: rest) (by rw [hr', huv]; simp)
            exact absurd rfl (hn3.2.2 b (by rw [huv]; simp [this]) b (by simp))
        · cases hb
  exact this l [] (by simp)

end Go.V
