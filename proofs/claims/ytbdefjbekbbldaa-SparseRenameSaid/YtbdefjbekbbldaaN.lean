set_option linter.unusedVariables false
set_option linter.unusedSimpArgs false
set_option linter.unnecessarySimpa false
/- Natural numbers as digits in base 2^32, least first: plain law, no program. -/
namespace Go.N

abbrev B32 : Nat := 4294967296

/-- The value of a row of digits. -/
def nv : List Int → Nat
  | [] => 0
  | d :: ds => d.toNat + B32 * nv ds

def okN (ds : List Int) : Prop := ∀ d ∈ ds, 0 ≤ d ∧ d < 4294967296

/-- The digits of a number, without leading zeros. -/
def dig (n : Nat) : List Int := if h : n = 0 then [] else ((n % B32 : Nat) : Int) :: dig (n / B32)
termination_by n
decreasing_by exact Nat.div_lt_self (Nat.pos_of_ne_zero h) (by decide)

theorem dig_zero : dig 0 = [] := by rw [dig]; simp
theorem dig_pos {n : Nat} (h : n ≠ 0) : dig n = ((n % B32 : Nat) : Int) :: dig (n / B32) := by
  conv => lhs; rw [dig]
  rw [dif_neg h]

theorem okN.nil : okN [] := fun d h => by cases h
theorem okN.cons {d : Int} {ds : List Int} (h : 0 ≤ d ∧ d < 4294967296) (t : okN ds) : okN (d :: ds) := fun e he => by
  rcases List.mem_cons.1 he with rfl | he
  · exact h
  · exact t e he
theorem okN.head {d : Int} {ds : List Int} (h : okN (d :: ds)) : 0 ≤ d ∧ d < 4294967296 := h d (by simp)
theorem okN.tail {d : Int} {ds : List Int} (h : okN (d :: ds)) : okN ds := fun e he => h e (by simp [he])
theorem okN.app {a b : List Int} (h : okN a) (k : okN b) : okN (a ++ b) := fun e he => (List.mem_append.1 he).elim (h e) (k e)
theorem okN.take {a : List Int} (h : okN a) (n : Nat) : okN (a.take n) := fun e he => h e (List.mem_of_mem_take he)
theorem okN.drop {a : List Int} (h : okN a) (n : Nat) : okN (a.drop n) := fun e he => h e (List.mem_of_mem_drop he)
theorem okN.at {a : List Int} (h : okN a) (i : Nat) : 0 ≤ a.getD i 0 ∧ a.getD i 0 < 4294967296 := by
  rw [List.getD_eq_getElem?_getD]
  cases hc : a[i]? with
  | none => simp
  | some x => exact h x (List.mem_of_getElem? hc)
theorem okN.set {a : List Int} (h : okN a) (i : Nat) {v : Int} (hv : 0 ≤ v ∧ v < 4294967296) : okN (a.set i v) := fun e he => by
  rcases List.mem_or_eq_of_mem_set he with h1 | h1
  · exact h e h1
  · exact h1 ▸ hv

theorem okN_dig (n : Nat) : okN (dig n) := by
  induction n using Nat.strongRecOn with
  | _ n ih =>
    by_cases h : n = 0
    · subst h; rw [dig_zero]; exact okN.nil
    · rw [dig_pos h]
      refine okN.cons ⟨by omega, ?_⟩ (ih _ (Nat.div_lt_self (Nat.pos_of_ne_zero h) (by decide)))
      have := Nat.mod_lt n (show B32 > 0 by decide)
      unfold B32 at *
      omega

theorem nv_dig (n : Nat) : nv (dig n) = n := by
  induction n using Nat.strongRecOn with
  | _ n ih =>
    by_cases h : n = 0
    · subst h; rw [dig_zero]; rfl
    · rw [dig_pos h, nv, ih _ (Nat.div_lt_self (Nat.pos_of_ne_zero h) (by decide))]
      simp only [Int.toNat_natCast]
      exact Nat.mod_add_div n B32

theorem nv_app (a b : List Int) : nv (a ++ b) = nv a + B32 ^ a.length * nv b := by
  induction a with
  | nil => simp [nv]
  | cons x a ih =>
    rw [List.cons_append, nv, nv, ih, List.length_cons, Nat.pow_succ, Nat.mul_add, ← Nat.mul_assoc, Nat.mul_comm B32 (B32 ^ a.length), Nat.add_assoc]

theorem nv_lt {a : List Int} (h : okN a) : nv a < B32 ^ a.length := by
  induction a with
  | nil => simp [nv]
  | cons x a ih =>
    have h1 := h.head
    have h2 := ih h.tail
    rw [nv, List.length_cons, Nat.pow_succ]
    have h3 : x.toNat < B32 := by unfold B32; omega
    calc x.toNat + B32 * nv a < B32 + B32 * nv a := by omega
      _ = B32 * (nv a + 1) := by rw [Nat.mul_add]; omega
      _ ≤ B32 * B32 ^ a.length := Nat.mul_le_mul_left _ h2
      _ = B32 ^ a.length * B32 := Nat.mul_comm _ _

theorem nv_zeros (k : Nat) : nv (List.replicate k 0) = 0 := by
  induction k with
  | zero => rfl
  | succ k ih => rw [List.replicate_succ, nv, ih]; rfl

/-- Digits without a leading zero are the digits of their value. -/
theorem dig_of {a : List Int} (h : okN a) (hl : a = [] ∨ ∃ x, a.getLast? = some x ∧ x ≠ 0) : a = dig (nv a) := by
  induction a with
  | nil => rw [nv, dig_zero]
  | cons x a ih =>
    have hx := h.head
    have hne : nv (x :: a) ≠ 0 ∧ (a = [] ∨ ∃ x, a.getLast? = some x ∧ x ≠ 0) := by
      cases a with
      | nil =>
        refine ⟨?_, .inl rfl⟩
        rcases hl with h1 | ⟨y, h1, h2⟩
        · cases h1
        · simp at h1; subst h1; simp only [nv]; omega
      | cons y r =>
        have hl' : ∃ z, (y :: r).getLast? = some z ∧ z ≠ 0 := by
          rcases hl with h1 | ⟨z, h1, h2⟩
          · cases h1
          · exact ⟨z, by simpa using h1, h2⟩
        refine ⟨?_, .inr hl'⟩
        have e := ih h.tail (.inr hl')
        intro h0
        have : nv (y :: r) = 0 := by
          rw [nv] at h0
          have : B32 * nv (y :: r) = 0 := by omega
          rcases Nat.mul_eq_zero.1 this with h | h
          · cases h
          · exact h
        rw [this, dig_zero] at e
        cases e
    have e := ih h.tail hne.2
    rw [dig_pos hne.1]
    have h1 : nv (x :: a) % B32 = x.toNat := by
      rw [nv, Nat.add_mul_mod_self_left]
      exact Nat.mod_eq_of_lt (by unfold B32; omega)
    have h2 : nv (x :: a) / B32 = nv a := by
      rw [nv, Nat.add_mul_div_left _ _ (by decide), Nat.div_eq_of_lt (by unfold B32; omega), Nat.zero_add]
    rw [h1, h2, ← e]
    congr 1
    omega

theorem dig_last (n : Nat) : dig n = [] ∨ ∃ x, (dig n).getLast? = some x ∧ x ≠ 0 := by
  induction n using Nat.strongRecOn with
  | _ n ih =>
    by_cases h : n = 0
    · subst h; exact .inl dig_zero
    · right
      rw [dig_pos h]
      rcases ih _ (Nat.div_lt_self (Nat.pos_of_ne_zero h) (by decide : 1 < B32)) with h1 | ⟨x, h1, h2⟩
      · rw [h1]
        refine ⟨_, rfl, ?_⟩
        have h3 : n / B32 = 0 := by rw [← nv_dig (n / B32), h1]; rfl
        have := Nat.mod_add_div n B32
        rw [h3] at this
        unfold B32 at *
        show ((n % 4294967296 : Nat) : Int) ≠ 0
        omega
      · refine ⟨x, ?_, h2⟩
        rw [List.getLast?_cons, h1]; rfl

theorem dig_len {n k : Nat} (h : n < B32 ^ k) : (dig n).length ≤ k := by
  induction k generalizing n with
  | zero => have : n = 0 := by simpa using h
            subst this; rw [dig_zero]; simp
  | succ k ih =>
    by_cases h0 : n = 0
    · subst h0; rw [dig_zero]; simp
    · rw [dig_pos h0, List.length_cons]
      have := ih (n := n / B32) (Nat.div_lt_of_lt_mul (by rw [Nat.pow_succ, Nat.mul_comm] at h; exact h))
      omega
theorem dig_ge {n : Nat} (h : n ≠ 0) : B32 ^ ((dig n).length - 1) ≤ n := by
  induction n using Nat.strongRecOn with
  | _ n ih =>
    rw [dig_pos h, List.length_cons, Nat.add_sub_cancel]
    by_cases h0 : n / B32 = 0
    · rw [h0, dig_zero]
      exact Nat.pos_of_ne_zero h
    · have h1 := ih _ (Nat.div_lt_self (Nat.pos_of_ne_zero h) (by decide : 1 < B32)) h0
      have h2 : (dig (n / B32)).length = (dig (n / B32)).length - 1 + 1 := by
        rw [dig_pos h0, List.length_cons]; omega
      rw [h2, Nat.pow_succ]
      calc B32 ^ ((dig (n / B32)).length - 1) * B32 ≤ n / B32 * B32 := Nat.mul_le_mul_right _ h1
        _ ≤ n := Nat.div_mul_le_self _ _

theorem dig_lt (n : Nat) : n < B32 ^ (dig n).length := by
  have h := nv_lt (okN_dig n)
  rwa [nv_dig] at h

theorem len_lt {m n : Nat} (h : (dig m).length < (dig n).length) : m < n := by
  have h0 : n ≠ 0 := fun e => by rw [e, dig_zero] at h; exact absurd h (Nat.not_lt_zero _)
  have h1 := dig_lt m
  have h2 := dig_ge h0
  exact Nat.lt_of_lt_of_le h1 (Nat.le_trans (Nat.pow_le_pow_right (by decide) (by omega)) h2)

theorem nv_take_drop (a : List Int) (k : Nat) (h : k ≤ a.length) : nv a = nv (a.take k) + B32 ^ k * nv (a.drop k) := by
  conv => lhs; rw [← List.take_append_drop k a]
  rw [nv_app, List.length_take, Nat.min_eq_left h]

theorem getD_eq {α : Type} {a : List α} {i : Nat} {z : α} (h : i < a.length) : a.getD i z = a[i] := by simp [h]

theorem drop_eq {a : List Int} {i : Nat} (h : i < a.length) : a.drop i = a.getD i 0 :: a.drop (i + 1) := by
  rw [getD_eq h]; exact List.drop_eq_getElem_cons h

theorem take_succ {a : List Int} {i : Nat} (h : i < a.length) : a.take (i + 1) = a.take i ++ [a.getD i 0] := by
  rw [getD_eq h]; exact List.take_succ_eq_append_getElem h

theorem nv_take_succ {a : List Int} {i : Nat} (h : i < a.length) : nv (a.take (i + 1)) = nv (a.take i) + B32 ^ i * (a.getD i 0).toNat := by
  rw [take_succ h, nv_app, List.length_take, Nat.min_eq_left (Nat.le_of_lt h)]
  simp [nv]

theorem nv_drop {a : List Int} {i : Nat} (h : i < a.length) : nv (a.drop i) = (a.getD i 0).toNat + B32 * nv (a.drop (i + 1)) := by
  rw [drop_eq h, nv]

/-- Leading zeros cut off. -/
theorem trim_dig {a : List Int} {n : Nat} (h : okN a) (hn : n ≤ a.length) (hz : ∀ i, n ≤ i → i < a.length → a.getD i 0 = 0) (hl : n = 0 ∨ a.getD (n - 1) 0 ≠ 0) : a.take n = dig (nv a) := by
  have e : nv a = nv (a.take n) := by
    rw [nv_take_drop a n hn]
    have : nv (a.drop n) = 0 := by
      have : ∀ b : List Int, (∀ i, i < b.length → b.getD i 0 = 0) → nv b = 0 := by
        intro b
        induction b with
        | nil => intro _; rfl
        | cons x b ih =>
          intro hb
          have h1 := hb 0 (by simp)
          simp at h1
          rw [nv, ih (fun i hi => by have := hb (i + 1) (by simpa using hi); simpa using this), h1]
          rfl
      refine this _ fun i hi => ?_
      have := hz (n + i) (by omega) (by simp at hi; omega)
      simpa [List.getElem?_drop] using this
    rw [this]; simp
  rw [e]
  refine dig_of (h.take n) ?_
  rcases hl with h0 | h0
  · left; rw [h0]; simp
  · by_cases hn0 : n = 0
    · left; rw [hn0]; simp
    · right
      have hlt : n - 1 < a.length := by omega
      refine ⟨a.getD (n - 1) 0, ?_, h0⟩
      rw [List.getLast?_take, if_neg hn0, getD_eq hlt]
      simp [hlt]

/-- Comparing from the highest digit. -/
theorem cmp_digits {a b : List Int} (ha : okN a) (hb : okN b) (hl : a.length = b.length) {i : Nat} (hi : i < a.length) (he : ∀ j, i < j → j < a.length → a.getD j 0 = b.getD j 0) (hgt : b.getD i 0 < a.getD i 0) : nv b < nv a := by
  have e : a.drop (i + 1) = b.drop (i + 1) := by
    apply List.ext_getElem (by simp [hl])
    intro j h1 h2
    simp only [List.length_drop] at h1 h2
    have := he (i + 1 + j) (by omega) (by omega)
    rw [getD_eq (by omega), getD_eq (by omega)] at this
    simpa using this
  rw [nv_take_drop a (i + 1) (by omega), nv_take_drop b (i + 1) (by omega), e, nv_take_succ hi, nv_take_succ (by omega)]
  have h1 := nv_lt (hb.take i)
  rw [List.length_take, Nat.min_eq_left (by omega)] at h1
  have h2 := ha.at i
  have h3 := hb.at i
  have h4 : (b.getD i 0).toNat + 1 ≤ (a.getD i 0).toNat := by omega
  have h5 : B32 ^ i * ((b.getD i 0).toNat + 1) ≤ B32 ^ i * (a.getD i 0).toNat := Nat.mul_le_mul_left _ h4
  rw [Nat.mul_add] at h5
  omega

theorem nv_eq_of {a b : List Int} (hl : a.length = b.length) (he : ∀ j, j < a.length → a.getD j 0 = b.getD j 0) : a = b := by
  apply List.ext_getElem hl
  intro j h1 h2
  have := he j h1
  rwa [getD_eq h1, getD_eq h2] at this

theorem nv_set {a : List Int} {i : Nat} {v : Int} (h : i < a.length) : nv (a.set i v) + B32 ^ i * (a.getD i 0).toNat = nv a + B32 ^ i * v.toNat := by
  have h1 : (a.set i v).length = a.length := by simp
  rw [nv_take_drop (a.set i v) (i + 1) (by omega), nv_take_drop a (i + 1) (by omega), nv_take_succ (by omega), nv_take_succ h]
  have e1 : (a.set i v).take i = a.take i := by rw [List.take_set_of_le (Nat.le_refl i)]
  have e2 : (a.set i v).drop (i + 1) = a.drop (i + 1) := by rw [List.drop_set_of_lt (by omega)]
  have e3 : (a.set i v).getD i 0 = v := by simp [h]
  rw [e1, e2, e3]
  omega
theorem getD_set {a : List Int} {i j : Nat} {v : Int} : (a.set i v).getD j 0 = if i = j ∧ i < a.length then v else a.getD j 0 := by
  simp only [List.getD_eq_getElem?_getD, List.getElem?_set]
  by_cases h : i = j
  · subst h
    by_cases h2 : i < a.length
    · simp [h2]
    · simp [h2]
  · simp [h]
end Go.N

/- Sorting in place: plain law of the steps of a stable sort, no program. -/
namespace Go.N
section
variable {α : Type} (z : α)

/-- The elements at two places exchanged. -/
def swp (d : List α) (i j : Nat) : List α := (d.set i (d.getD j z)).set j (d.getD i z)

/-- d' is d with the places from a to b - 1 in another order. -/
structure Sh (a b : Nat) (d d' : List α) : Prop where
  perm : d'.Perm d
  out : ∀ k, k < a ∨ b ≤ k → d'.getD k z = d.getD k z
  img : ∀ k, a ≤ k → k < b → ∃ k', a ≤ k' ∧ k' < b ∧ d'.getD k z = d.getD k' z

variable {z}
theorem Sh.len {a b : Nat} {d d' : List α} (h : Sh z a b d d') : d'.length = d.length := h.perm.length_eq
theorem Sh.refl (a b : Nat) (d : List α) : Sh z a b d d := ⟨.refl _, fun _ _ => rfl, fun k h1 h2 => ⟨k, h1, h2, rfl⟩⟩
theorem Sh.trans {a b : Nat} {d d' d'' : List α} (h : Sh z a b d d') (k : Sh z a b d' d'') : Sh z a b d d'' :=
  ⟨k.perm.trans h.perm, fun i hi => (k.out i hi).trans (h.out i hi), fun i h1 h2 =>
    let ⟨j, h3, h4, h5⟩ := k.img i h1 h2
    let ⟨l, h6, h7, h8⟩ := h.img j h3 h4
    ⟨l, h6, h7, h5.trans h8⟩⟩
theorem Sh.mono {a b a' b' : Nat} {d d' : List α} (h : Sh z a b d d') (ha : a' ≤ a) (hb : b ≤ b') : Sh z a' b' d d' :=
  ⟨h.perm, fun i hi => h.out i (by omega), fun i h1 h2 => by
    rcases Nat.lt_or_ge i a with h3 | h3
    · exact ⟨i, h1, h2, h.out i (.inl h3)⟩
    · rcases Nat.lt_or_ge i b with h4 | h4
      · obtain ⟨k, h5, h6, h7⟩ := h.img i h3 h4
        exact ⟨k, by omega, by omega, h7⟩
      · exact ⟨i, h1, h2, h.out i (.inr h4)⟩⟩

theorem getD_swp {d : List α} {i j k : Nat} (hi : i < d.length) (hj : j < d.length) : (swp z d i j).getD k z = if k = j then d.getD i z else if k = i then d.getD j z else d.getD k z := by
  unfold swp
  simp only [List.getD_eq_getElem?_getD, List.getElem?_set, List.length_set]
  by_cases h1 : j = k
  · subst h1
    simp [hj, hi]
  · by_cases h2 : i = k
    · subst h2
      simp [hi, hj, h1, Ne.symm h1]
    · simp [h1, h2, Ne.symm h1, Ne.symm h2]

theorem swp_len (d : List α) (i j : Nat) : (swp z d i j).length = d.length := by simp [swp]

theorem swp_perm {d : List α} {i j : Nat} (hi : i < d.length) (hj : j < d.length) : (swp z d i j).Perm d := by
  have e1 : d.getD i z = d[i] := by simp [hi]
  have e2 : d.getD j z = d[j] := by simp [hj]
  unfold swp
  rw [e1, e2]
  exact List.set_set_perm hi hj

theorem Sh.swp {d : List α} {a b i j : Nat} (h1 : a ≤ i) (h2 : i < b) (h3 : a ≤ j) (h4 : j < b) (hb : b ≤ d.length) : Sh z a b d (swp z d i j) := by
  refine ⟨swp_perm (by omega) (by omega), fun k hk => ?_, fun k h5 h6 => ?_⟩
  · rw [getD_swp (by omega) (by omega), if_neg (by omega), if_neg (by omega)]
  · rw [getD_swp (by omega) (by omega)]
    split
    · exact ⟨i, h1, h2, rfl⟩
    · split
      · exact ⟨j, h3, h4, rfl⟩
      · exact ⟨k, h5, h6, rfl⟩

/-- An order in which any two can be compared. -/
structure Ord (cmp : α → α → Int) : Prop where
  total : ∀ x y, ¬ cmp x y < 0 ∨ ¬ cmp y x < 0
  trans : ∀ x y w, ¬ cmp y x < 0 → ¬ cmp w y < 0 → ¬ cmp w x < 0

variable {cmp : α → α → Int}
variable (z cmp) in
def Srt (a b : Nat) (d : List α) : Prop := ∀ i j, a ≤ i → i < j → j < b → ¬ cmp (d.getD j z) (d.getD i z) < 0

theorem Srt.congr {a b : Nat} {d d' : List α} (h : Srt z cmp a b d) (he : ∀ k, a ≤ k → k < b → d'.getD k z = d.getD k z) : Srt z cmp a b d' := fun i j h1 h2 h3 => by
  rw [he i h1 (by omega), he j (by omega) h3]; exact h i j h1 h2 h3
theorem Srt.sub {a b a' b' : Nat} {d : List α} (h : Srt z cmp a b d) (ha : a ≤ a') (hb : b' ≤ b) : Srt z cmp a' b' d := fun i j h1 h2 h3 => h i j (by omega) h2 (by omega)
theorem Srt.one {a b : Nat} {d : List α} (h : b ≤ a + 1) : Srt z cmp a b d := fun i j h1 h2 h3 => by omega

/-- Insertion: the element at j is on its way down; all others from a to i are in order. -/
structure Ins (z : α) (cmp : α → α → Int) (a i j : Nat) (d : List α) : Prop where
  lo : a ≤ j
  hi : j ≤ i
  s : ∀ p q, a ≤ p → p < q → q ≤ i → p ≠ j → q ≠ j → ¬ cmp (d.getD q z) (d.getD p z) < 0
  x : ∀ q, j < q → q ≤ i → ¬ cmp (d.getD q z) (d.getD j z) < 0

theorem Ins.start {a i : Nat} {d : List α} (h : Srt z cmp a i d) (ha : a ≤ i) : Ins z cmp a i i d :=
  ⟨ha, Nat.le_refl _, fun p q h1 h2 h3 h4 h5 => h p q h1 h2 (by omega), fun q h1 h2 => by omega⟩
theorem Ins.step {a i j : Nat} {d : List α} (O : Ord cmp) (h : Ins z cmp a i j d) (hj : a < j) (hl : i < d.length) (hc : cmp (d.getD j z) (d.getD (j - 1) z) < 0) : Ins z cmp a i (j - 1) (swp z d j (j - 1)) := by
  have hi := h.hi
  have g := fun k => @getD_swp α z d j (j - 1) k (by omega) (by omega)
  refine ⟨by omega, by omega, fun p q h1 h2 h3 h4 h5 => ?_, fun q h1 h2 => ?_⟩
  · rw [g p, g q, if_neg h4, if_neg h5]
    by_cases hq : q = j
    · subst hq
      rw [if_pos rfl, if_neg (by omega)]
      exact h.s p (q - 1) h1 (by omega) (by omega) (by omega) (by omega)
    · rw [if_neg hq]
      by_cases hp : p = j
      · subst hp
        rw [if_pos rfl]
        exact h.s (p - 1) q (by omega) (by omega) h3 (by omega) hq
      · rw [if_neg hp]
        exact h.s p q h1 h2 h3 hp hq
  · rw [g q, g (j - 1), if_pos rfl, if_neg (by omega)]
    by_cases hq : q = j
    · subst hq
      rw [if_pos rfl]
      rcases O.total (d.getD q z) (d.getD (q - 1) z) with h6 | h6
      · exact absurd hc h6
      · exact h6
    · rw [if_neg hq]
      exact h.x q (by omega) h2
theorem Ins.done {a i j : Nat} {d : List α} (O : Ord cmp) (h : Ins z cmp a i j d) (he : j = a ∨ ¬ cmp (d.getD j z) (d.getD (j - 1) z) < 0) : Srt z cmp a (i + 1) d := by
  intro p q h1 h2 h3
  by_cases hq : q = j
  · subst hq
    rcases he with he | he
    · omega
    · by_cases hp : p = q - 1
      · subst hp; exact he
      · exact O.trans _ _ _ (h.s p (q - 1) h1 (by omega) (by have := h.hi; omega) (by omega) (by omega)) he
  · by_cases hp : p = j
    · subst hp; exact h.x q h2 (by omega)
    · exact h.s p q h1 h2 (by omega) hp hq

/-- Two parts change their places. -/
def Rot (z : α) (a m b : Nat) (d d' : List α) : Prop := ∀ k, d'.getD k z = if a ≤ k ∧ k < a + (b - m) then d.getD (k + (m - a)) z else if a + (b - m) ≤ k ∧ k < b then d.getD (k - (b - m)) z else d.getD k z

/-- Two parts of one size exchanged, as far as i. -/
def Exch (z : α) (a b i : Nat) (d d' : List α) : Prop := ∀ k, d'.getD k z = if a ≤ k ∧ k < a + i then d.getD (b + (k - a)) z else if b ≤ k ∧ k < b + i then d.getD (a + (k - b)) z else d.getD k z

theorem Exch.zero {a b : Nat} {d : List α} : Exch z a b 0 d d := fun k => by rw [if_neg (by omega), if_neg (by omega)]
theorem Exch.step {a b i n : Nat} {d d' : List α} (h : Exch z a b i d d') (hi : i < n) (hab : a + n ≤ b) (hl : b + n ≤ d'.length) : Exch z a b (i + 1) d (swp z d' (a + i) (b + i)) := by
  intro k
  rw [getD_swp (by omega) (by omega), h k, h (a + i), h (b + i)]
  by_cases h1 : k = b + i
  · subst h1
    rw [if_pos rfl, if_neg (by omega), if_neg (by omega), if_neg (by omega), if_pos (by omega)]
    congr 1; omega
  · rw [if_neg h1]
    by_cases h2 : k = a + i
    · subst h2
      rw [if_pos rfl, if_neg (by omega), if_neg (by omega), if_pos (by omega)]
      congr 1; omega
    · rw [if_neg h2]
      by_cases h3 : a ≤ k ∧ k < a + i
      · rw [if_pos h3, if_pos (by omega)]
      · rw [if_neg h3]
        by_cases h4 : b ≤ k ∧ k < b + i
        · rw [if_pos h4, if_neg (show ¬ (a ≤ k ∧ k < a + (i + 1)) by omega), if_pos (by omega)]
        · rw [if_neg h4, if_neg (show ¬ (a ≤ k ∧ k < a + (i + 1)) by omega), if_neg (show ¬ (b ≤ k ∧ k < b + (i + 1)) by omega)]

/-- What is still to be done of a rotation. -/
def Rest (z : α) (m i j a b : Nat) (d0 d : List α) : Prop := ∀ d', Rot z (m - i) m (m + j) d d' → Rot z a m b d0 d'

theorem Rest.start {a m b : Nat} {d : List α} (h1 : a ≤ m) (h2 : m ≤ b) : Rest z m (m - a) (b - m) a b d d := fun d' h k => by
  rw [h k, show m - (m - a) = a by omega, show m + (b - m) = b by omega]
theorem Rest.left {a m b i j : Nat} {d0 d d1 : List α} (h : Rest z m i j a b d0 d) (hi : j < i) (him : i ≤ m) (he : Exch z (m - i) m j d d1) : Rest z m (i - j) j a b d0 d1 := fun d' hr => h d' fun k => by
  rw [hr k]
  have e1 : m - (i - j) = m - i + j := by omega
  rw [e1]
  by_cases h1 : m - i ≤ k ∧ k < m - i + (m + j - m)
  · rw [if_pos h1, if_neg (by omega), if_neg (by omega), he k, if_pos (by omega)]
    congr 1; omega
  · rw [if_neg h1]
    by_cases h2 : m - i + (m + j - m) ≤ k ∧ k < m + j
    · rw [if_pos h2]
      by_cases h3 : m - i + j ≤ k ∧ k < m - i + j + (m + j - m)
      · rw [if_pos h3, he, if_neg (by omega), if_pos (by omega)]
        congr 1; omega
      · rw [if_neg h3, if_pos (by omega), he, if_neg (by omega), if_neg (by omega)]
    · rw [if_neg h2, if_neg (by omega), if_neg (by omega), he, if_neg (by omega), if_neg (by omega)]
theorem Rest.right {a m b i j : Nat} {d0 d d1 : List α} (h : Rest z m i j a b d0 d) (hi : i < j) (him : i ≤ m) (he : Exch z (m - i) (m + j - i) i d d1) : Rest z m i (j - i) a b d0 d1 := fun d' hr => h d' fun k => by
  rw [hr k]
  have e1 : m + (j - i) = m + j - i := by omega
  rw [e1]
  by_cases h1 : m - i ≤ k ∧ k < m - i + (m + j - m)
  · rw [if_pos h1]
    by_cases h2 : m - i ≤ k ∧ k < m - i + (m + j - i - m)
    · rw [if_pos h2, he, if_neg (by omega), if_neg (by omega)]
    · rw [if_neg h2]
      by_cases h3 : k < m + j - i
      · rw [if_pos (by omega), he, if_pos (by omega)]
        congr 1; omega
      · omega
  · rw [if_neg h1]
    by_cases h2 : m - i + (m + j - m) ≤ k ∧ k < m + j
    · rw [if_pos h2, if_neg (by omega), if_neg (by omega), he, if_neg (by omega), if_pos (by omega)]
      congr 1; omega
    · rw [if_neg h2, if_neg (by omega), if_neg (by omega), he, if_neg (by omega), if_neg (by omega)]
theorem Rest.done {a m b i : Nat} {d0 d d1 : List α} (h : Rest z m i i a b d0 d) (him : i ≤ m) (he : Exch z (m - i) m i d d1) : Rot z a m b d0 d1 := h d1 fun k => by
  rw [he k]
  by_cases h1 : m - i ≤ k ∧ k < m - i + i
  · rw [if_pos h1, if_pos (by omega)]; congr 1; omega
  · rw [if_neg h1]
    by_cases h2 : m ≤ k ∧ k < m + i
    · rw [if_pos h2, if_neg (show ¬ (m - i ≤ k ∧ k < m - i + (m + i - m)) by omega), if_pos (by omega)]; congr 1; omega
    · rw [if_neg h2, if_neg (show ¬ (m - i ≤ k ∧ k < m - i + (m + i - m)) by omega), if_neg (by omega)]

theorem Exch.sh {a b i n lo hi : Nat} {d d' : List α} (h : Exch z a b i d d') (hp : d'.Perm d) (hab : a + i ≤ b) (hlo : lo ≤ a) (hhi : b + i ≤ hi) : Sh z lo hi d d' := by
  refine ⟨hp, fun k hk => ?_, fun k h1 h2 => ?_⟩
  · rw [h k, if_neg (by omega), if_neg (by omega)]
  · rw [h k]
    split
    · exact ⟨_, by omega, by omega, rfl⟩
    · split
      · exact ⟨_, by omega, by omega, rfl⟩
      · exact ⟨k, h1, h2, rfl⟩

/-- A merge by halves: where the halves are cut. -/
theorem merge_cut {a m b s e mid : Nat} {d d1 d2 d3 : List α} (O : Ord cmp) (hL : Srt z cmp a m d) (hR : Srt z cmp m b d) (hse : s + e = mid + m) (ha : a ≤ s) (hsm : s ≤ m) (hme : m ≤ e) (heb : e ≤ b) (hsd : s ≤ mid) (hde : mid ≤ e)
    (c1 : s = a ∨ e = b ∨ ¬ cmp (d.getD e z) (d.getD (s - 1) z) < 0) (c2 : s = m ∨ e = m ∨ cmp (d.getD (e - 1) z) (d.getD s z) < 0)
    (hr : Rot z s m e d d1) (h2 : Sh z a mid d1 d2) (s2 : Srt z cmp a mid d2) (h3 : Sh z mid b d2 d3) (s3 : Srt z cmp mid b d3) : Srt z cmp a b d3 := by
  have low : ∀ i, a ≤ i → i < mid → ∀ j, mid ≤ j → j < b → ¬ cmp (d1.getD j z) (d1.getD i z) < 0 := by
    intro i h4 h5 j h6 h7
    have LL : ∀ p q, a ≤ p → p < s → s ≤ q → q < m → ¬ cmp (d.getD q z) (d.getD p z) < 0 := fun p q k1 k2 k3 k4 => hL p q k1 (by omega) k4
    have RR : ∀ p q, m ≤ p → p < e → e ≤ q → q < b → ¬ cmp (d.getD q z) (d.getD p z) < 0 := fun p q k1 k2 k3 k4 => hR p q k1 (by omega) k4
    have LR : ∀ p q, a ≤ p → p < s → e ≤ q → q < b → ¬ cmp (d.getD q z) (d.getD p z) < 0 := by
      intro p q k1 k2 k3 k4
      have c : ¬ cmp (d.getD e z) (d.getD (s - 1) z) < 0 := by rcases c1 with c | c | c <;> first | omega | exact c
      have t1 : ¬ cmp (d.getD e z) (d.getD p z) < 0 := by
        by_cases hp : p = s - 1
        · subst hp; exact c
        · exact O.trans _ _ _ (hL p (s - 1) k1 (by omega) (by omega)) c
      by_cases hq : q = e
      · subst hq; exact t1
      · exact O.trans _ _ _ t1 (hR e q (by omega) (by omega) k4)
    have RL : ∀ p q, m ≤ p → p < e → s ≤ q → q < m → ¬ cmp (d.getD q z) (d.getD p z) < 0 := by
      intro p q k1 k2 k3 k4
      have c : ¬ cmp (d.getD s z) (d.getD (e - 1) z) < 0 := by
        rcases c2 with c | c | c
        · omega
        · omega
        · rcases O.total (d.getD s z) (d.getD (e - 1) z) with h | h
          · exact h
          · exact absurd c h
      have t1 : ¬ cmp (d.getD s z) (d.getD p z) < 0 := by
        by_cases hp : p = e - 1
        · subst hp; exact c
        · exact O.trans _ _ _ (hR p (e - 1) k1 (by omega) (by omega)) c
      by_cases hq : q = s
      · subst hq; exact t1
      · exact O.trans _ _ _ t1 (hL s q (by omega) (by omega) k4)
    have ei : (∃ p, m ≤ p ∧ p < e ∧ d1.getD i z = d.getD p z) ∨ (∃ p, a ≤ p ∧ p < s ∧ d1.getD i z = d.getD p z) := by
      rw [hr i]
      by_cases h8 : s ≤ i
      · exact .inl ⟨i + (m - s), by omega, by omega, by rw [if_pos (by omega)]⟩
      · exact .inr ⟨i, by omega, by omega, by rw [if_neg (by omega), if_neg (by omega)]⟩
    have ej : (∃ q, s ≤ q ∧ q < m ∧ d1.getD j z = d.getD q z) ∨ (∃ q, e ≤ q ∧ q < b ∧ d1.getD j z = d.getD q z) := by
      rw [hr j]
      by_cases h9 : j < e
      · exact .inl ⟨j - (e - m), by omega, by omega, by rw [if_neg (by omega), if_pos (by omega)]⟩
      · exact .inr ⟨j, by omega, by omega, by rw [if_neg (by omega), if_neg (by omega)]⟩
    rcases ei with ⟨p, p1, p2, pe⟩ | ⟨p, p1, p2, pe⟩ <;> rcases ej with ⟨q, q1, q2, qe⟩ | ⟨q, q1, q2, qe⟩ <;> rw [pe, qe]
    · exact RL p q p1 p2 q1 q2
    · exact RR p q p1 p2 q1 q2
    · exact LL p q p1 p2 q1 q2
    · exact LR p q p1 p2 q1 q2
  intro i j h4 h5 h6
  rcases Nat.lt_or_ge j mid with h7 | h7
  · rw [h3.out i (.inl (by omega)), h3.out j (.inl h7)]
    exact s2 i j h4 h5 h7
  · rcases Nat.lt_or_ge i mid with h8 | h8
    · obtain ⟨j', k1, k2, k3⟩ := h3.img j h7 h6
      obtain ⟨i', k4, k5, k6⟩ := h2.img i h4 h8
      rw [k3, h3.out i (.inl h8), k6, h2.out j' (.inr k1)]
      exact low i' k4 k5 j' k1 k2
    · exact s3 i j h8 h5 h6

theorem Rot.sh {a m b : Nat} {d d' : List α} (h : Rot z a m b d d') (hp : d'.Perm d) (h1 : a ≤ m) (h2 : m ≤ b) : Sh z a b d d' := by
  refine ⟨hp, fun k hk => ?_, fun k h3 h4 => ?_⟩
  · rw [h k, if_neg (by omega), if_neg (by omega)]
  · rw [h k]
    by_cases h5 : a ≤ k ∧ k < a + (b - m)
    · rw [if_pos h5]; exact ⟨_, by omega, by omega, rfl⟩
    · rw [if_neg h5, if_pos (by omega)]; exact ⟨_, by omega, by omega, rfl⟩
theorem Rot.nil {a m b : Nat} {d : List α} (h1 : a ≤ m) (h2 : m ≤ b) (h : a = m ∨ m = b) : Rot z a m b d d := fun k => by
  by_cases h5 : a ≤ k ∧ k < a + (b - m)
  · rw [if_pos h5]; congr 1; omega
  · rw [if_neg h5]
    by_cases h6 : a + (b - m) ≤ k ∧ k < b
    · rw [if_pos h6]; congr 1; omega
    · rw [if_neg h6]

/-- After a rotation: the parts of both halves are in order. -/
theorem rot_parts {a m b s e mid : Nat} {d d1 : List α} (hL : Srt z cmp a m d) (hR : Srt z cmp m b d) (hse : s + e = mid + m) (ha : a ≤ s) (hsm : s ≤ m) (hme : m ≤ e) (heb : e ≤ b) (hsd : s ≤ mid) (hde : mid ≤ e) (hr : Rot z s m e d d1) :
    Srt z cmp a s d1 ∧ Srt z cmp s mid d1 ∧ Srt z cmp mid e d1 ∧ Srt z cmp e b d1 := by
  have g1 : ∀ k, k < s → d1.getD k z = d.getD k z := fun k hk => by rw [hr k, if_neg (by omega), if_neg (by omega)]
  have g2 : ∀ k, s ≤ k → k < mid → d1.getD k z = d.getD (k + (m - s)) z := fun k h1 h2 => by rw [hr k, if_pos (by omega)]
  have g3 : ∀ k, mid ≤ k → k < e → d1.getD k z = d.getD (k - (e - m)) z := fun k h1 h2 => by rw [hr k, if_neg (by omega), if_pos (by omega)]
  have g4 : ∀ k, e ≤ k → d1.getD k z = d.getD k z := fun k h1 => by rw [hr k, if_neg (by omega), if_neg (by omega)]
  refine ⟨fun i j h1 h2 h3 => ?_, fun i j h1 h2 h3 => ?_, fun i j h1 h2 h3 => ?_, fun i j h1 h2 h3 => ?_⟩
  · rw [g1 i (by omega), g1 j h3]
    exact hL i j h1 h2 (by omega)
  · rw [g2 i h1 (by omega), g2 j (by omega) h3]
    exact hR _ _ (by omega) (by omega) (by omega)
  · rw [g3 i h1 (by omega), g3 j (by omega) h3]
    exact hL _ _ (by omega) (by omega) (by omega)
  · rw [g4 i h1, g4 j (by omega)]
    exact hR _ _ (by omega) (by omega) (by omega)

/-- One element moved up to its place. -/
structure Up (z : α) (a i k : Nat) (d d' : List α) : Prop where
  perm : d'.Perm d
  eq : ∀ j, d'.getD j z = if a ≤ j ∧ j < k then d.getD (j + 1) z else if j = k then d.getD a z else d.getD j z
theorem Up.start {a i : Nat} {d : List α} : Up z a i a d d := ⟨.refl _, fun j => by
  rw [if_neg (by omega)]
  split
  · rename_i h; rw [h]
  · rfl⟩
theorem Up.step {a i k : Nat} {d d' : List α} (h : Up z a i k d d') (hak : a ≤ k) (hl : k + 1 < d'.length) : Up z a i (k + 1) d (swp z d' k (k + 1)) := by
  refine ⟨(swp_perm (by omega) hl).trans h.perm, fun j => ?_⟩
  rw [getD_swp (by omega) hl, h.eq k, h.eq (k + 1), h.eq j]
  by_cases h1 : j = k + 1
  · subst h1
    rw [if_pos rfl, if_neg (by omega), if_pos rfl, if_neg (by omega), if_pos rfl]
  · rw [if_neg h1]
    by_cases h2 : j = k
    · subst h2
      rw [if_pos rfl, if_neg (by omega), if_neg (by omega), if_pos (by omega)]
    · rw [if_neg h2]
      by_cases h3 : a ≤ j ∧ j < k
      · rw [if_pos h3, if_pos (by omega)]
      · rw [if_neg h3, if_neg h2, if_neg (by omega), if_neg h1]
theorem Up.sh {a i k b : Nat} {d d' : List α} (h : Up z a i k d d') (hak : a ≤ k) (hb : k < b) : Sh z a b d d' := by
  refine ⟨h.perm, fun j hj => ?_, fun j h1 h2 => ?_⟩
  · rw [h.eq, if_neg (by omega), if_neg (by omega)]
  · rw [h.eq]
    split
    · exact ⟨_, by omega, by omega, rfl⟩
    · split
      · exact ⟨a, by omega, by omega, rfl⟩
      · exact ⟨j, h1, h2, rfl⟩
theorem Up.srt {a k b : Nat} {d d' : List α} (O : Ord cmp) (h : Up z a b k d d') (hs : Srt z cmp (a + 1) b d) (hak : a ≤ k) (hkb : k < b) (c1 : k + 1 = b ∨ ¬ cmp (d.getD (k + 1) z) (d.getD a z) < 0) (c2 : k = a ∨ cmp (d.getD k z) (d.getD a z) < 0) : Srt z cmp a b d' := by
  have lo : ∀ p, a < p → p ≤ k → ¬ cmp (d.getD a z) (d.getD p z) < 0 := fun p h1 h2 => by
    have c : ¬ cmp (d.getD a z) (d.getD k z) < 0 := by
      rcases c2 with c | c
      · omega
      · rcases O.total (d.getD a z) (d.getD k z) with h | h
        · exact h
        · exact absurd c h
    by_cases hp : p = k
    · subst hp; exact c
    · exact O.trans _ _ _ (hs p k (by omega) (by omega) hkb) c
  have hi : ∀ p, k < p → p < b → ¬ cmp (d.getD p z) (d.getD a z) < 0 := fun p h1 h2 => by
    have c : ¬ cmp (d.getD (k + 1) z) (d.getD a z) < 0 := by
      rcases c1 with c | c
      · omega
      · exact c
    by_cases hp : p = k + 1
    · subst hp; exact c
    · exact O.trans _ _ _ c (hs (k + 1) p (by omega) (by omega) h2)
  have g1 : ∀ j, a ≤ j → j < k → d'.getD j z = d.getD (j + 1) z := fun j h1 h2 => by rw [h.eq j, if_pos ⟨h1, h2⟩]
  have g2 : d'.getD k z = d.getD a z := by rw [h.eq k, if_neg (by omega), if_pos rfl]
  have g3 : ∀ j, k < j → d'.getD j z = d.getD j z := fun j h1 => by rw [h.eq j, if_neg (by omega), if_neg (by omega)]
  intro i j h1 h2 h3
  rcases Nat.lt_trichotomy i k with hi1 | rfl | hi1
  · rw [g1 i h1 hi1]
    rcases Nat.lt_trichotomy j k with hj1 | rfl | hj1
    · rw [g1 j (by omega) hj1]; exact hs _ _ (by omega) (by omega) (by omega)
    · rw [g2]; exact lo _ (by omega) (by omega)
    · rw [g3 j hj1]; exact hs _ _ (by omega) (by omega) h3
  · rw [g2, g3 j (by omega)]; exact hi j (by omega) h3
  · rw [g3 i hi1, g3 j (by omega)]; exact hs i j (by omega) h2 h3

/-- One element moved down to its place. -/
structure Dn (z : α) (m k : Nat) (d d' : List α) : Prop where
  perm : d'.Perm d
  eq : ∀ j, d'.getD j z = if k < j ∧ j ≤ m then d.getD (j - 1) z else if j = k then d.getD m z else d.getD j z
theorem Dn.start {m : Nat} {d : List α} : Dn z m m d d := ⟨.refl _, fun j => by
  rw [if_neg (by omega)]
  split
  · rename_i h; rw [h]
  · rfl⟩
theorem Dn.step {m k : Nat} {d d' : List α} (h : Dn z m k d d') (hk : 0 < k) (hkm : k ≤ m) (hl : k < d'.length) : Dn z m (k - 1) d (swp z d' k (k - 1)) := by
  refine ⟨(swp_perm hl (by omega)).trans h.perm, fun j => ?_⟩
  rw [getD_swp hl (by omega), h.eq k, h.eq (k - 1), h.eq j]
  by_cases h1 : j = k - 1
  · subst h1
    rw [if_pos rfl, if_neg (by omega), if_pos rfl, if_neg (by omega), if_pos rfl]
  · rw [if_neg h1]
    by_cases h2 : j = k
    · subst h2
      rw [if_pos rfl, if_neg (by omega), if_neg (by omega), if_pos (by omega)]
    · rw [if_neg h2]
      by_cases h3 : k < j ∧ j ≤ m
      · rw [if_pos h3, if_pos (by omega)]
      · rw [if_neg h3, if_neg h2, if_neg (by omega), if_neg h1]
theorem Dn.sh {m k a b : Nat} {d d' : List α} (h : Dn z m k d d') (hk : k ≤ m) (ha : a ≤ k) (hb : m < b) : Sh z a b d d' := by
  refine ⟨h.perm, fun j hj => ?_, fun j h1 h2 => ?_⟩
  · rw [h.eq, if_neg (by omega), if_neg (by omega)]
  · rw [h.eq]
    split
    · exact ⟨_, by omega, by omega, rfl⟩
    · split
      · exact ⟨m, by omega, by omega, rfl⟩
      · exact ⟨j, h1, h2, rfl⟩
theorem Dn.srt {m k a : Nat} {d d' : List α} (O : Ord cmp) (h : Dn z m k d d') (hs : Srt z cmp a m d) (hak : a ≤ k) (hkm : k ≤ m) (c1 : k = m ∨ cmp (d.getD m z) (d.getD k z) < 0) (c2 : k = a ∨ ¬ cmp (d.getD m z) (d.getD (k - 1) z) < 0) : Srt z cmp a (m + 1) d' := by
  have hi : ∀ p, k ≤ p → p < m → ¬ cmp (d.getD p z) (d.getD m z) < 0 := fun p h1 h2 => by
    have c : ¬ cmp (d.getD k z) (d.getD m z) < 0 := by
      rcases c1 with c | c
      · omega
      · rcases O.total (d.getD k z) (d.getD m z) with h | h
        · exact h
        · exact absurd c h
    by_cases hp : p = k
    · subst hp; exact c
    · exact O.trans _ _ _ c (hs k p hak (by omega) h2)
  have lo : ∀ p, a ≤ p → p < k → ¬ cmp (d.getD m z) (d.getD p z) < 0 := fun p h1 h2 => by
    have c : ¬ cmp (d.getD m z) (d.getD (k - 1) z) < 0 := by
      rcases c2 with c | c
      · omega
      · exact c
    by_cases hp : p = k - 1
    · subst hp; exact c
    · exact O.trans _ _ _ (hs p (k - 1) h1 (by omega) (by omega)) c
  have g1 : ∀ j, k < j → j ≤ m → d'.getD j z = d.getD (j - 1) z := fun j h1 h2 => by rw [h.eq j, if_pos ⟨h1, h2⟩]
  have g2 : d'.getD k z = d.getD m z := by rw [h.eq k, if_neg (by omega), if_pos rfl]
  have g3 : ∀ j, j < k → d'.getD j z = d.getD j z := fun j h1 => by rw [h.eq j, if_neg (by omega), if_neg (by omega)]
  intro i j h1 h2 h3
  rcases Nat.lt_trichotomy i k with hi1 | rfl | hi1
  · rw [g3 i hi1]
    rcases Nat.lt_trichotomy j k with hj1 | rfl | hj1
    · rw [g3 j hj1]; exact hs _ _ h1 h2 (by omega)
    · rw [g2]; exact lo _ h1 hi1
    · rw [g1 j hj1 (by omega)]; exact hs _ _ h1 (by omega) (by omega)
  · rw [g2, g1 j h2 (by omega)]; exact hi _ (by omega) (by omega)
  · rw [g1 i hi1 (by omega), g1 j (by omega) (by omega)]; exact hs _ _ (by omega) (by omega) (by omega)

/-- Every block of so many places is in order. -/
def Blks (z : α) (cmp : α → α → Int) (bs n : Nat) (d : List α) : Prop := ∀ q, Srt z cmp (q * bs) (min ((q + 1) * bs) n) d
theorem Blks.whole {bs n : Nat} {d : List α} (h : Blks z cmp bs n d) (hb : n ≤ bs) : Srt z cmp 0 n d := by
  have := h 0
  rw [Nat.zero_mul, Nat.zero_add, Nat.one_mul, Nat.min_eq_right hb] at this
  exact this
/-- Pairs of blocks: so many are merged. -/
structure Half (z : α) (cmp : α → α → Int) (bs n q a : Nat) (d : List α) : Prop where
  ea : a = q * (2 * bs)
  done : ∀ q', q' < q → Srt z cmp (q' * (2 * bs)) ((q' + 1) * (2 * bs)) d
  rest : ∀ k, 2 * q ≤ k → Srt z cmp (k * bs) (min ((k + 1) * bs) n) d
theorem Half.start {bs n : Nat} {d : List α} (h : Blks z cmp bs n d) : Half z cmp bs n 0 0 d := ⟨by simp, fun q' h => by omega, fun k _ => h k⟩
theorem Half.ks {bs n q a : Nat} {d : List α} (h : Half z cmp bs n q a d) : 2 * q * bs = a ∧ (2 * q + 1) * bs = a + bs ∧ (2 * q + 1 + 1) * bs = a + 2 * bs := by
  have e : 2 * q * bs = a := by rw [h.ea, Nat.mul_comm 2 q, Nat.mul_assoc]
  refine ⟨e, ?_, ?_⟩
  · rw [Nat.add_mul, e, Nat.one_mul]
  · rw [Nat.add_mul, Nat.add_mul, e, Nat.one_mul]; omega
theorem Half.left {bs n q a : Nat} {d : List α} (h : Half z cmp bs n q a d) : Srt z cmp a (min (a + bs) n) d := by
  have := h.rest (2 * q) (Nat.le_refl _)
  rw [h.ks.1, h.ks.2.1] at this
  exact this
theorem Half.right {bs n q a : Nat} {d : List α} (h : Half z cmp bs n q a d) : Srt z cmp (a + bs) (min (a + 2 * bs) n) d := by
  have := h.rest (2 * q + 1) (by omega)
  rw [h.ks.2.1, h.ks.2.2] at this
  exact this
theorem Half.step {bs n q a : Nat} {d d' : List α} (h : Half z cmp bs n q a d) (hs : Sh z a (a + 2 * bs) d d') (s : Srt z cmp a (a + 2 * bs) d') : Half z cmp bs n (q + 1) (a + 2 * bs) d' := by
  have e1 : (q + 1) * (2 * bs) = a + 2 * bs := by rw [Nat.add_mul, ← h.ea, Nat.one_mul]
  refine ⟨e1.symm, fun q' hq => ?_, fun k hk => ?_⟩
  · by_cases hq' : q' = q
    · subst hq'
      rw [e1, ← h.ea]; exact s
    · have h1 : (q' + 1) * (2 * bs) ≤ a := by rw [h.ea]; exact Nat.mul_le_mul_right _ (by omega)
      exact (h.done q' (by omega)).congr fun k _ hk => hs.out k (.inl (by omega))
  · have h1 : a + 2 * bs ≤ k * bs := by rw [← h.ks.2.2]; exact Nat.mul_le_mul_right _ (by omega)
    exact (h.rest k (by omega)).congr fun j hj _ => hs.out j (.inr (by omega))
theorem Half.fin {bs n q a : Nat} {d d' : List α} (h : Half z cmp bs n q a d) (hn : n < a + 2 * bs) (ha : a ≤ n) (hs : Sh z a n d d') (s : Srt z cmp a n d') : Blks z cmp (2 * bs) n d' := by
  have e1 : (q + 1) * (2 * bs) = a + 2 * bs := by rw [Nat.add_mul, ← h.ea, Nat.one_mul]
  intro k
  rcases Nat.lt_trichotomy k q with hk | rfl | hk
  · have h1 : (k + 1) * (2 * bs) ≤ a := by rw [h.ea]; exact Nat.mul_le_mul_right _ (by omega)
    rw [Nat.min_eq_left (by omega)]
    exact (h.done k hk).congr fun j _ hj => hs.out j (.inl (by omega))
  · rw [e1, ← h.ea, Nat.min_eq_right (by omega)]; exact s
  · have h1 : a + 2 * bs ≤ k * (2 * bs) := by rw [← e1]; exact Nat.mul_le_mul_right _ (by omega)
    exact .one (by omega)
/-- The first blocks. -/
structure First (z : α) (cmp : α → α → Int) (bs q a : Nat) (d : List α) : Prop where
  ea : a = q * bs
  done : ∀ q', q' < q → Srt z cmp (q' * bs) ((q' + 1) * bs) d
theorem First.start {bs : Nat} {d : List α} : First z cmp bs 0 0 d := ⟨by simp, fun q' h => by omega⟩
theorem First.step {bs q a : Nat} {d d' : List α} (h : First z cmp bs q a d) (hs : Sh z a (a + bs) d d') (s : Srt z cmp a (a + bs) d') : First z cmp bs (q + 1) (a + bs) d' := by
  have e1 : (q + 1) * bs = a + bs := by rw [Nat.add_mul, ← h.ea, Nat.one_mul]
  refine ⟨e1.symm, fun q' hq => ?_⟩
  by_cases hq' : q' = q
  · subst hq'
    rw [e1, ← h.ea]; exact s
  · have h1 : (q' + 1) * bs ≤ a := by rw [h.ea]; exact Nat.mul_le_mul_right _ (by omega)
    exact (h.done q' (by omega)).congr fun k _ hk => hs.out k (.inl (by omega))
theorem First.fin {bs n q a : Nat} {d d' : List α} (h : First z cmp bs q a d) (hn : n < a + bs) (ha : a ≤ n) (hs : Sh z a n d d') (s : Srt z cmp a n d') : Blks z cmp bs n d' := by
  have e1 : (q + 1) * bs = a + bs := by rw [Nat.add_mul, ← h.ea, Nat.one_mul]
  intro k
  rcases Nat.lt_trichotomy k q with hk | rfl | hk
  · have h1 : (k + 1) * bs ≤ a := by rw [h.ea]; exact Nat.mul_le_mul_right _ (by omega)
    rw [Nat.min_eq_left (by omega)]
    exact (h.done k hk).congr fun j _ hj => hs.out j (.inl (by omega))
  · rw [e1, ← h.ea, Nat.min_eq_right (by omega)]; exact s
  · have h1 : a + bs ≤ k * bs := by rw [← e1]; exact Nat.mul_le_mul_right _ (by omega)
    exact .one (by omega)
end
end Go.N

/- Polynomials as lists of terms: plain law, no program. -/
namespace Go.N

/-- A monomial: four exponents. -/
structure M where
  x0 : Int
  x1 : Int
  x2 : Int
  x3 : Int
  deriving DecidableEq

def M.l (m : M) : List Int := [m.x0, m.x1, m.x2, m.x3]
def V (m : M) : Prop := 0 ≤ m.x0 ∧ 0 ≤ m.x1 ∧ 0 ≤ m.x2 ∧ 0 ≤ m.x3
instance (m : M) : Decidable (V m) := inferInstanceAs (Decidable (_ ∧ _ ∧ _ ∧ _))

def cmpM (a b : M) : Int :=
  if a.x3 < b.x3 then -1 else if a.x3 > b.x3 then 1 else
  if a.x2 < b.x2 then -1 else if a.x2 > b.x2 then 1 else
  if a.x1 < b.x1 then -1 else if a.x1 > b.x1 then 1 else
  if a.x0 < b.x0 then -1 else if a.x0 > b.x0 then 1 else 0

theorem cmpM_cases (a b : M) : (cmpM a b = -1 ∧ (a.x3 < b.x3 ∨ a.x3 = b.x3 ∧ (a.x2 < b.x2 ∨ a.x2 = b.x2 ∧ (a.x1 < b.x1 ∨ a.x1 = b.x1 ∧ a.x0 < b.x0)))) ∨
    (cmpM a b = 1 ∧ (b.x3 < a.x3 ∨ a.x3 = b.x3 ∧ (b.x2 < a.x2 ∨ a.x2 = b.x2 ∧ (b.x1 < a.x1 ∨ a.x1 = b.x1 ∧ b.x0 < a.x0)))) ∨ (cmpM a b = 0 ∧ a = b) := by
  unfold cmpM
  have he : a.x3 = b.x3 → a.x2 = b.x2 → a.x1 = b.x1 → a.x0 = b.x0 → a = b := by
    cases a; cases b; intros; simp_all
  repeat' split
  all_goals first
    | (left; exact ⟨rfl, by omega⟩)
    | (right; left; exact ⟨rfl, by omega⟩)
    | (right; right; exact ⟨rfl, he (by omega) (by omega) (by omega) (by omega)⟩)

theorem cmpM_lt {a b : M} : cmpM a b < 0 ↔ (a.x3 < b.x3 ∨ a.x3 = b.x3 ∧ (a.x2 < b.x2 ∨ a.x2 = b.x2 ∧ (a.x1 < b.x1 ∨ a.x1 = b.x1 ∧ a.x0 < b.x0))) := by
  rcases cmpM_cases a b with ⟨h, k⟩ | ⟨h, k⟩ | ⟨h, k⟩
  · exact ⟨fun _ => k, fun _ => by omega⟩
  · exact ⟨fun _ => by omega, fun _ => by omega⟩
  · subst k; exact ⟨fun _ => by omega, fun _ => by omega⟩
theorem cmpM_self (a : M) : cmpM a a = 0 := by simp [cmpM]
theorem cmpM_zero {a b : M} : cmpM a b = 0 ↔ a = b := by
  constructor
  · intro h
    rcases cmpM_cases a b with ⟨h', k⟩ | ⟨h', k⟩ | ⟨h', k⟩
    · omega
    · omega
    · exact k
  · rintro rfl; exact cmpM_self a
theorem cmpM_neg (a b : M) : cmpM a b = -cmpM b a := by
  rcases cmpM_cases a b with ⟨h, k⟩ | ⟨h, k⟩ | ⟨h, k⟩ <;> rcases cmpM_cases b a with ⟨h', k'⟩ | ⟨h', k'⟩ | ⟨h', k'⟩ <;> first | omega | (subst k; omega) | (subst k'; omega)
theorem cmpM_trans {a b c : M} (h : cmpM a b < 0) (k : cmpM b c < 0) : cmpM a c < 0 := by
  rw [cmpM_lt] at *; omega
theorem cmpM_irrefl {a : M} (h : cmpM a a < 0) : False := by rw [cmpM_self] at h; omega

abbrev P := List (Int × M)

/-- The coefficient of a monomial. -/
def cf : P → M → Int
  | [], _ => 0
  | t :: r, m => (if t.2 = m then t.1 else 0) + cf r m

theorem cf_append (p q : P) (m : M) : cf (p ++ q) m = cf p m + cf q m := by
  induction p with
  | nil => simp [cf]
  | cons t p ih => rw [List.cons_append, cf, cf, ih]; omega
theorem cf_perm {p q : P} (h : p.Perm q) (m : M) : cf p m = cf q m := by
  induction h with
  | nil => rfl
  | cons t h ih => rw [cf, cf, ih]
  | swap t u p => simp only [cf]; omega
  | trans h k ih1 ih2 => rw [ih1, ih2]
theorem cf_none {p : P} {m : M} (h : ∀ t ∈ p, t.2 ≠ m) : cf p m = 0 := by
  induction p with
  | nil => rfl
  | cons t p ih => rw [cf, if_neg (h t (by simp)), ih (fun u hu => h u (by simp [hu]))]; rfl

structure Canon (q : P) : Prop where
  ord : q.Pairwise (fun a b => cmpM b.2 a.2 < 0)
  nz : ∀ t ∈ q, t.1 ≠ 0
  v : ∀ t ∈ q, V t.2

theorem Canon.nil : Canon [] := ⟨.nil, by simp, by simp⟩
theorem Canon.cons {t : Int × M} {q : P} (h : Canon q) (h1 : t.1 ≠ 0) (h2 : V t.2) (h3 : ∀ u ∈ q, cmpM u.2 t.2 < 0) : Canon (t :: q) :=
  ⟨.cons h3 h.ord, fun u hu => by rcases List.mem_cons.1 hu with rfl | hu; exact h1; exact h.nz u hu, fun u hu => by rcases List.mem_cons.1 hu with rfl | hu; exact h2; exact h.v u hu⟩
theorem Canon.tail {t : Int × M} {q : P} (h : Canon (t :: q)) : Canon q := ⟨(List.pairwise_cons.1 h.ord).2, fun u hu => h.nz u (by simp [hu]), fun u hu => h.v u (by simp [hu])⟩
theorem Canon.head {t : Int × M} {q : P} (h : Canon (t :: q)) : ∀ u ∈ q, cmpM u.2 t.2 < 0 := (List.pairwise_cons.1 h.ord).1
theorem Canon.cf_head {t : Int × M} {q : P} (h : Canon (t :: q)) : cf (t :: q) t.2 = t.1 := by
  rw [cf, if_pos rfl, cf_none fun u hu e => cmpM_irrefl (by have := h.head u hu; rw [e] at this; exact this)]; omega
theorem Canon.cf_above {t : Int × M} {q : P} (h : Canon (t :: q)) {m : M} (hm : cmpM t.2 m < 0) : cf (t :: q) m = 0 := by
  refine cf_none fun u hu e => ?_
  rcases List.mem_cons.1 hu with rfl | hu
  · rw [e] at hm; exact cmpM_irrefl hm
  · have := cmpM_trans (h.head u hu) hm
    rw [e] at this; exact cmpM_irrefl this

theorem canon_ext : ∀ {a b : P}, Canon a → Canon b → (∀ m, cf a m = cf b m) → a = b
  | [], [], _, _, _ => rfl
  | [], t :: b, _, hb, h => by
    have := h t.2
    rw [hb.cf_head] at this
    exact absurd this.symm (hb.nz t (by simp))
  | t :: a, [], ha, _, h => by
    have := h t.2
    rw [ha.cf_head] at this
    exact absurd this (ha.nz t (by simp))
  | t :: a, u :: b, ha, hb, h => by
    have e : t.2 = u.2 := by
      rcases cmpM_cases t.2 u.2 with ⟨h', _⟩ | ⟨h', _⟩ | ⟨_, h'⟩
      · have h1 := h u.2
        rw [ha.cf_above (by omega), hb.cf_head] at h1
        exact absurd h1.symm (hb.nz u (by simp))
      · have h1 := h t.2
        rw [hb.cf_above (by rw [cmpM_neg]; omega), ha.cf_head] at h1
        exact absurd h1 (ha.nz t (by simp))
      · exact h'
    have e1 : t.1 = u.1 := by
      have h1 := h t.2
      rw [ha.cf_head, e, hb.cf_head] at h1
      exact h1
    have et : t = u := Prod.ext e1 e
    subst et
    rw [canon_ext ha.tail hb.tail fun m => by have := h m; simp only [cf] at this; omega]

/-- A term is added to a canonical list. -/
def ins (c : Int) (m : M) : P → P
  | [] => if c = 0 then [] else [(c, m)]
  | (d, k) :: r => if cmpM k m < 0 then (if c = 0 then (d, k) :: r else (c, m) :: (d, k) :: r) else if k = m then (if d + c = 0 then r else (d + c, k) :: r) else (d, k) :: ins c m r
def nrm : P → P
  | [] => []
  | t :: r => if V t.2 then ins t.1 t.2 (nrm r) else nrm r

theorem cf_ins (c : Int) (m : M) : ∀ (q : P) (k : M), cf (ins c m q) k = (if m = k then c else 0) + cf q k
  | [], k => by
    rw [ins]
    split
    · rename_i h; subst h; simp [cf]
    · simp [cf]
  | (d, j) :: r, k => by
    rw [ins]
    split
    · split
      · rename_i h; subst h; simp
      · rw [cf]
    · split
      · rename_i h; subst h
        split
        · rename_i h0
          simp only [cf]
          split <;> omega
        · simp only [cf]
          split <;> omega
      · rw [cf, cf_ins c m r k, cf]; omega
theorem ins_mem {c : Int} {m : M} : ∀ {q : P} {t : Int × M}, t ∈ ins c m q → t.2 = m ∨ ∃ u ∈ q, u.2 = t.2
  | [], t, h => by
    rw [ins] at h
    split at h
    · cases h
    · simp at h; subst h; exact .inl rfl
  | (d, j) :: r, t, h => by
    rw [ins] at h
    split at h
    · split at h
      · exact .inr ⟨t, h, rfl⟩
      · rcases List.mem_cons.1 h with rfl | h
        · exact .inl rfl
        · exact .inr ⟨t, h, rfl⟩
    · split at h
      · rename_i hj
        split at h
        · exact .inr ⟨t, by simp [h], rfl⟩
        · rcases List.mem_cons.1 h with rfl | h
          · exact .inl hj
          · exact .inr ⟨t, by simp [h], rfl⟩
      · rcases List.mem_cons.1 h with rfl | h
        · exact .inr ⟨_, by simp, rfl⟩
        · rcases ins_mem h with h | ⟨u, hu, e⟩
          · exact .inl h
          · exact .inr ⟨u, by simp [hu], e⟩
theorem ins_canon {c : Int} {m : M} (hm : V m) : ∀ {q : P}, Canon q → Canon (ins c m q)
  | [], h => by
    rw [ins]
    split
    · exact h
    · exact Canon.nil.cons (by assumption) hm (by simp)
  | (d, j) :: r, h => by
    rw [ins]
    split
    · rename_i hj
      split
      · exact h
      · refine h.cons (by assumption) hm fun u hu => ?_
        rcases List.mem_cons.1 hu with rfl | hu
        · exact hj
        · exact cmpM_trans (h.head u hu) hj
    · rename_i hj
      split
      · rename_i e
        split
        · exact h.tail
        · exact h.tail.cons (by assumption) (h.v (d, j) (by simp)) h.head
      · rename_i hne
        refine (ins_canon hm h.tail).cons (h.nz (d, j) (by simp)) (h.v (d, j) (by simp)) fun u hu => ?_
        rcases ins_mem hu with e | ⟨x, hx, e⟩
        · rw [e]
          rcases cmpM_cases j m with ⟨h1, _⟩ | ⟨h1, _⟩ | ⟨_, h1⟩
          · omega
          · show cmpM m j < 0
            rw [cmpM_neg]; omega
          · exact absurd h1 hne
        · rw [← e]; exact h.head x hx
theorem nrm_canon : ∀ q : P, Canon (nrm q)
  | [] => .nil
  | t :: r => by
    rw [nrm]
    split
    · exact ins_canon (by assumption) (nrm_canon r)
    · exact nrm_canon r
theorem cf_nrm : ∀ (q : P) (m : M), cf (nrm q) m = if V m then cf q m else 0
  | [], m => by simp [nrm, cf]
  | t :: r, m => by
    rw [nrm]
    split
    · rename_i h
      rw [cf_ins, cf_nrm r m, cf]
      by_cases e : t.2 = m
      · subst e; rw [if_pos h, if_pos h, if_pos rfl]
      · rw [if_neg e]
        split <;> omega
    · rename_i h
      rw [cf_nrm r m, cf]
      by_cases e : t.2 = m
      · subst e; rw [if_neg h, if_neg h]
      · rw [if_neg e]
        split <;> omega
theorem nrm_mem : ∀ {q : P} {t : Int × M}, t ∈ nrm q → V t.2 ∧ ∃ u ∈ q, u.2 = t.2
  | [], t, h => by cases h
  | u :: r, t, h => by
    refine ⟨(nrm_canon _).v t h, ?_⟩
    rw [nrm] at h
    split at h
    · rcases ins_mem h with e | ⟨x, hx, e⟩
      · exact ⟨u, by simp, e.symm⟩
      · obtain ⟨_, y, hy, e'⟩ := nrm_mem hx
        exact ⟨y, by simp [hy], e'.trans e⟩
    · obtain ⟨_, y, hy, e'⟩ := nrm_mem h
      exact ⟨y, by simp [hy], e'⟩
theorem nrm_eq {p q : P} (h : ∀ m, V m → cf p m = cf q m) : nrm p = nrm q :=
  canon_ext (nrm_canon p) (nrm_canon q) fun m => by
    rw [cf_nrm, cf_nrm]
    split
    · exact h m (by assumption)
    · rfl
theorem nrm_of {p q : P} (hc : Canon p) (h : ∀ m, V m → cf p m = cf q m) : p = nrm q :=
  canon_ext hc (nrm_canon q) fun m => by
    rw [cf_nrm]
    split
    · exact h m (by assumption)
    · exact cf_none fun t ht e => by have := hc.v t ht; rw [e] at this; contradiction
theorem nrm_self {p : P} (hc : Canon p) : nrm p = p := (nrm_of hc fun _ _ => rfl).symm
theorem nrm_nrm (p : P) : nrm (nrm p) = nrm p := nrm_self (nrm_canon p)

/-- The sum of the absolute values of the coefficients. -/
def l1 : P → Nat
  | [] => 0
  | t :: r => t.1.natAbs + l1 r
theorem l1_append (p q : P) : l1 (p ++ q) = l1 p + l1 q := by
  induction p with
  | nil => simp [l1]
  | cons t p ih => rw [List.cons_append, l1, l1, ih]; omega
theorem l1_mem {p : P} {t : Int × M} (h : t ∈ p) : t.1.natAbs ≤ l1 p := by
  induction p with
  | nil => cases h
  | cons u p ih =>
    rw [l1]
    rcases List.mem_cons.1 h with rfl | h
    · omega
    · have := ih h; omega
theorem l1_ins (c : Int) (m : M) : ∀ q : P, l1 (ins c m q) ≤ c.natAbs + l1 q
  | [] => by rw [ins]; split <;> simp [l1]
  | (d, j) :: r => by
    rw [ins]
    split
    · split <;> simp only [l1] <;> omega
    · split
      · split <;> simp only [l1] <;> omega
      · have := l1_ins c m r
        simp only [l1]; omega
theorem l1_nrm : ∀ q : P, l1 (nrm q) ≤ l1 q
  | [] => Nat.le_refl _
  | t :: r => by
    have := l1_nrm r
    rw [nrm]
    split
    · have := l1_ins t.1 t.2 (nrm r); rw [l1]; omega
    · rw [l1]; omega
theorem ins_len (c : Int) (m : M) : ∀ q : P, (ins c m q).length ≤ q.length + 1
  | [] => by rw [ins]; split <;> simp
  | (d, j) :: r => by
    rw [ins]
    split
    · split <;> simp
    · split
      · split <;> simp
        omega
      · have := ins_len c m r
        simp; omega
theorem nrm_len : ∀ q : P, (nrm q).length ≤ q.length
  | [] => Nat.le_refl _
  | t :: r => by
    have := nrm_len r
    rw [nrm]
    split
    · have := ins_len t.1 t.2 (nrm r); rw [List.length_cons]; omega
    · rw [List.length_cons]; omega
theorem cf_l1 (q : P) (m : M) : (cf q m).natAbs ≤ l1 q := by
  induction q with
  | nil => simp [cf]
  | cons t r ih => rw [cf, l1]; split <;> omega

/-- A list is put in order group by group. -/
structure Grp (d o : P) (i : Nat) : Prop where
  canon : Canon o
  cf : ∀ m, cf o m = cf (d.take i) m
  below : ∀ t ∈ o, ∀ k, i ≤ k → (h : k < d.length) → cmpM d[k].2 t.2 < 0

theorem Grp.start (d : P) : Grp d [] 0 := ⟨.nil, fun m => by simp, by simp⟩
theorem cf_same {g : P} {e : M} (h : ∀ t ∈ g, t.2 = e) (m : M) : cf g m = if e = m then (g.map (·.1)).sum else 0 := by
  induction g with
  | nil => simp [cf]
  | cons t g ih =>
    rw [cf, ih (fun u hu => h u (by simp [hu])), h t (by simp), List.map_cons, List.sum_cons]
    split <;> omega
theorem Grp.step {d o : P} {i j : Nat} {e : M} {c : Int} (h : Grp d o i) (hij : i ≤ j) (hj : j ≤ d.length) (hg : ∀ t ∈ (d.take j).drop i, t.2 = e) (hc : c = (((d.take j).drop i).map (·.1)).sum) (hv : V e)
    (hs : d.Pairwise (fun a b => ¬ cmpM a.2 b.2 < 0)) (hi : i < j) (hn : ∀ (h : j < d.length), d[j].2 ≠ e) : Grp d (if c = 0 then o else o ++ [(c, e)]) j := by
  have hlt : i < d.length := by omega
  have he : d[i].2 = e := hg d[i] (List.mem_iff_getElem?.2 ⟨0, by simp [List.getElem?_drop, hi, hlt]⟩)
  have hcf : ∀ m, N.cf (d.take j) m = N.cf (d.take i) m + if e = m then c else 0 := by
    intro m
    have : d.take j = d.take i ++ (d.take j).drop i := by
      have h1 : (d.take j).take i = d.take i := by rw [List.take_take, Nat.min_eq_left hij]
      rw [← h1, List.take_append_drop]
    rw [this, cf_append, cf_same (e := e) hg m, ← hc]
  have hbel : ∀ k, j ≤ k → (hk : k < d.length) → cmpM d[k].2 e < 0 := by
    intro k hjk hk
    have hjl : j < d.length := by omega
    have h1 : ¬ cmpM d[i].2 d[j].2 < 0 := List.pairwise_iff_getElem.1 hs i j hlt hjl hi
    have h2 : cmpM d[j].2 e < 0 := by
      rw [he] at h1
      rcases cmpM_cases d[j].2 e with ⟨h', _⟩ | ⟨h', _⟩ | ⟨_, h'⟩
      · omega
      · rw [cmpM_neg] at h1; omega
      · exact absurd h' (hn hjl)
    rcases Nat.eq_or_lt_of_le hjk with rfl | hjk
    · exact h2
    · have h3 : ¬ cmpM d[j].2 d[k].2 < 0 := List.pairwise_iff_getElem.1 hs j k hjl hk hjk
      rcases cmpM_cases d[k].2 d[j].2 with ⟨h', _⟩ | ⟨h', _⟩ | ⟨_, h'⟩
      · exact cmpM_trans (by omega) h2
      · rw [cmpM_neg] at h3; omega
      · rw [h']; exact h2
  by_cases hc0 : c = 0
  · rw [if_pos hc0]
    refine ⟨h.canon, fun m => ?_, fun t ht k hk hkl => h.below t ht k (by omega) hkl⟩
    rw [hcf, h.cf]; split <;> omega
  · rw [if_neg hc0]
    refine ⟨⟨?_, ?_, ?_⟩, fun m => ?_, fun t ht k hk hkl => ?_⟩
    · rw [List.pairwise_append]
      refine ⟨h.canon.ord, by simp, fun t ht u hu => ?_⟩
      simp at hu; subst hu
      rw [← he]
      exact h.below t ht i (Nat.le_refl _) hlt
    · intro t ht
      rcases List.mem_append.1 ht with ht | ht
      · exact h.canon.nz t ht
      · simp at ht; subst ht; exact hc0
    · intro t ht
      rcases List.mem_append.1 ht with ht | ht
      · exact h.canon.v t ht
      · simp at ht; subst ht; exact hv
    · rw [cf_append, hcf, h.cf]; simp [N.cf]
    · rcases List.mem_append.1 ht with ht | ht
      · exact h.below t ht k (by omega) hkl
      · simp at ht; subst ht
        exact hbel k hk hkl
theorem Grp.fin {d o : P} (h : Grp d o d.length) {q : P} (hq : ∀ m, V m → N.cf d m = N.cf q m) : o = nrm q :=
  nrm_of h.canon fun m hm => by rw [h.cf, List.take_length, hq m hm]
theorem sum_l1 (p : P) : (List.map (fun t : Int × M => t.1) p).sum.natAbs ≤ l1 p := by
  induction p with
  | nil => simp [l1]
  | cons t p ih => rw [List.map_cons, List.sum_cons, l1]; omega
theorem l1_take (p : P) (n : Nat) : l1 (p.take n) ≤ l1 p := by
  conv => rhs; rw [← List.take_append_drop n p, l1_append]
  omega
theorem l1_drop (p : P) (n : Nat) : l1 (p.drop n) ≤ l1 p := by
  conv => rhs; rw [← List.take_append_drop n p, l1_append]
  omega
theorem l1_perm {p q : P} (h : p.Perm q) : l1 p = l1 q := by
  induction h with
  | nil => rfl
  | cons t h ih => rw [l1, l1, ih]
  | swap t u p => simp only [l1]; omega
  | trans h k ih1 ih2 => rw [ih1, ih2]
theorem part_succ {p : P} {i j : Nat} (hij : i ≤ j) (hj : j < p.length) : (List.map (fun t : Int × M => t.1) ((p.take (j + 1)).drop i)).sum = (List.map (fun t : Int × M => t.1) ((p.take j).drop i)).sum + p[j].1 := by
  rw [List.take_succ_eq_append_getElem hj, List.drop_append_of_le_length (by rw [List.length_take]; omega), List.map_append, List.sum_append]
  simp
end Go.N

/- Products of polynomials: plain law. -/
namespace Go.N

def M.add (a b : M) : M := ⟨a.x0 + b.x0, a.x1 + b.x1, a.x2 + b.x2, a.x3 + b.x3⟩
def M.sub (a b : M) : M := ⟨a.x0 - b.x0, a.x1 - b.x1, a.x2 - b.x2, a.x3 - b.x3⟩
theorem M.ext' {a b : M} (h0 : a.x0 = b.x0) (h1 : a.x1 = b.x1) (h2 : a.x2 = b.x2) (h3 : a.x3 = b.x3) : a = b := by
  cases a; cases b; simp_all
theorem M.add_eq {a b m : M} : a.add b = m ↔ b = m.sub a := by
  constructor
  · rintro rfl; refine M.ext' ?_ ?_ ?_ ?_ <;> (simp only [M.add, M.sub]; omega)
  · rintro rfl; refine M.ext' ?_ ?_ ?_ ?_ <;> (simp only [M.add, M.sub]; omega)
theorem M.add_comm (a b : M) : a.add b = b.add a := by refine M.ext' ?_ ?_ ?_ ?_ <;> (simp only [M.add]; omega)
theorem M.add_V {a b : M} (ha : V a) (hb : V b) : V (a.add b) := by unfold V M.add at *; simp only; omega

/-- One term times a polynomial. -/
def mul1 (s : Int × M) (b : P) : P := b.map fun t => (s.1 * t.1, s.2.add t.2)
/-- All the products of two terms. -/
def mulL (a b : P) : P := a.flatMap fun s => mul1 s b

theorem mulL_cons (s : Int × M) (a b : P) : mulL (s :: a) b = mul1 s b ++ mulL a b := rfl
theorem mulL_nil (b : P) : mulL [] b = [] := rfl
theorem mulL_append (a a' b : P) : mulL (a ++ a') b = mulL a b ++ mulL a' b := List.flatMap_append
theorem mul1_cons (s t : Int × M) (b : P) : mul1 s (t :: b) = (s.1 * t.1, s.2.add t.2) :: mul1 s b := rfl
theorem mul1_append (s : Int × M) (b b' : P) : mul1 s (b ++ b') = mul1 s b ++ mul1 s b' := List.map_append
theorem l1_mul1 (s : Int × M) (b : P) : l1 (mul1 s b) = s.1.natAbs * l1 b := by
  induction b with
  | nil => rfl
  | cons t b ih => rw [mul1_cons, l1, l1, ih, Int.natAbs_mul, Nat.mul_add]
theorem l1_mulL (a b : P) : l1 (mulL a b) = l1 a * l1 b := by
  induction a with
  | nil => simp [mulL, l1]
  | cons s a ih => rw [mulL_cons, l1_append, l1_mul1, ih, l1, Nat.add_mul]
theorem mul1_len (s : Int × M) (b : P) : (mul1 s b).length = b.length := List.length_map _
theorem mulL_len (a b : P) : (mulL a b).length = a.length * b.length := by
  induction a with
  | nil => simp [mulL]
  | cons s a ih => rw [mulL_cons, List.length_append, mul1_len, ih, List.length_cons, Nat.succ_mul, Nat.add_comm]
theorem mulL_mem {a b : P} {t : Int × M} (h : t ∈ mulL a b) : ∃ x ∈ a, ∃ y ∈ b, t = (x.1 * y.1, x.2.add y.2) := by
  obtain ⟨x, hx, h⟩ := List.mem_flatMap.1 h
  obtain ⟨y, hy, rfl⟩ := List.mem_map.1 h
  exact ⟨x, hx, y, hy, rfl⟩

theorem cf_mul1 (s : Int × M) (b : P) (m : M) : cf (mul1 s b) m = s.1 * cf b (m.sub s.2) := by
  induction b with
  | nil => simp [mul1, cf]
  | cons t b ih =>
    rw [mul1_cons, cf, cf, ih, Int.mul_add]
    simp only [M.add_eq]
    split <;> simp
theorem cf_mulR {b b' : P} (h : ∀ m, cf b m = cf b' m) (a : P) (m : M) : cf (mulL a b) m = cf (mulL a b') m := by
  induction a with
  | nil => rfl
  | cons s a ih => rw [mulL_cons, mulL_cons, cf_append, cf_append, cf_mul1, cf_mul1, h, ih]
theorem cf_mul_nil (a : P) (m : M) : cf (mulL a []) m = 0 := by
  induction a with
  | nil => rfl
  | cons s a ih => rw [mulL_cons, cf_append, ih]; simp [mul1, cf]
theorem cf_mul_cons (a : P) (t : Int × M) (b : P) (m : M) : cf (mulL a (t :: b)) m = cf (mul1 t a) m + cf (mulL a b) m := by
  induction a with
  | nil => simp [mulL, mul1, cf]
  | cons s a ih =>
    rw [mulL_cons, mulL_cons, cf_append, cf_append, ih, mul1_cons, mul1_cons, cf, cf]
    simp only [M.add_comm t.2 s.2, Int.mul_comm t.1 s.1]
    omega
theorem cf_mul_comm (a b : P) (m : M) : cf (mulL a b) m = cf (mulL b a) m := by
  induction b with
  | nil => rw [cf_mul_nil]; rfl
  | cons t b ih => rw [cf_mul_cons, mulL_cons, cf_append, ih]
theorem cf_mulLeft {a a' : P} (h : ∀ m, cf a m = cf a' m) (b : P) (m : M) : cf (mulL a b) m = cf (mulL a' b) m := by
  rw [cf_mul_comm, cf_mulR h, cf_mul_comm]
theorem cf_mul {a a' b b' : P} (h : ∀ m, cf a m = cf a' m) (h' : ∀ m, cf b m = cf b' m) (m : M) : cf (mulL a b) m = cf (mulL a' b') m := by
  rw [cf_mulLeft h, cf_mulR h']
theorem cf_mul_add (a b c : P) (m : M) : cf (mulL a (b ++ c)) m = cf (mulL a b) m + cf (mulL a c) m := by
  rw [cf_mul_comm, mulL_append, cf_append, cf_mul_comm b, cf_mul_comm c]
theorem mul1_mul1 (s t : Int × M) (b : P) : mul1 s (mul1 t b) = mul1 (s.1 * t.1, s.2.add t.2) b := by
  unfold mul1
  rw [List.map_map]
  refine List.map_congr_left fun u _ => ?_
  refine Prod.ext ?_ ?_
  · simp only [Function.comp, Int.mul_assoc]
  · refine M.ext' ?_ ?_ ?_ ?_ <;> (simp only [Function.comp, M.add]; omega)
theorem mul1_mulL (s : Int × M) (a b : P) : mul1 s (mulL a b) = mulL (mul1 s a) b := by
  induction a with
  | nil => rfl
  | cons t a ih => rw [mulL_cons, mul1_append, ih, mul1_mul1, mul1_cons, mulL_cons]
theorem mulL_assoc (a b c : P) : mulL (mulL a b) c = mulL a (mulL b c) := by
  induction a with
  | nil => rfl
  | cons s a ih => rw [mulL_cons, mulL_cons, mulL_append, ih, mul1_mulL]

/-- The terms that count. -/
def vf (p : P) : P := p.filter fun t => decide (V t.2)
theorem cf_vf (p : P) (m : M) : cf (vf p) m = if V m then cf p m else 0 := by
  induction p with
  | nil => simp [vf, cf]
  | cons t p ih =>
    unfold vf at *
    rw [List.filter_cons]
    by_cases h : V t.2
    · rw [if_pos (by simpa using h), cf, ih, cf]
      by_cases e : t.2 = m
      · subst e; rw [if_pos rfl, if_pos h, if_pos h]
      · rw [if_neg e]; split <;> omega
    · rw [if_neg (by simpa using h), ih, cf]
      by_cases e : t.2 = m
      · subst e; rw [if_neg h, if_neg h]
      · rw [if_neg e]; split <;> omega
theorem cf_vf_nrm (p : P) (m : M) : cf (nrm p) m = cf (vf p) m := by rw [cf_nrm, cf_vf]
theorem vf_V {p : P} {t : Int × M} (h : t ∈ vf p) : V t.2 ∧ t ∈ p := by
  obtain ⟨h1, h2⟩ := List.mem_filter.1 h
  exact ⟨of_decide_eq_true h2, h1⟩

/-- The sum and the product of what rows say. -/
abbrev add' (a b : P) : P := nrm (a ++ b)
abbrev mul' (a b : P) : P := nrm (mulL (nrm a) (nrm b))
theorem cf_inval {p : P} (h : ∀ t ∈ p, V t.2) {m : M} (hm : ¬ V m) : cf p m = 0 := cf_none fun t ht e => hm (e ▸ h t ht)
theorem mulL_V {a b : P} (ha : ∀ t ∈ a, V t.2) (hb : ∀ t ∈ b, V t.2) : ∀ t ∈ mulL a b, V t.2 := fun t ht => by
  obtain ⟨x, hx, y, hy, rfl⟩ := mulL_mem ht
  exact M.add_V (ha x hx) (hb y hy)
theorem cf_nrm_of {p : P} (h : ∀ t ∈ p, V t.2) (m : M) : cf (nrm p) m = cf p m := by
  rw [cf_nrm]
  split
  · rfl
  · rw [cf_inval h (by assumption)]
theorem cf_mul' (a b : P) (m : M) : cf (mul' a b) m = cf (mulL (vf a) (vf b)) m := by
  unfold mul'
  rw [cf_nrm_of (mulL_V (nrm_canon a).v (nrm_canon b).v)]
  exact cf_mul (cf_vf_nrm a) (cf_vf_nrm b) m
theorem canon_eq {a b : P} (ha : Canon a) (hb : Canon b) (h : ∀ m, cf a m = cf b m) : a = b := canon_ext ha hb h
theorem mul_comm' (a b : P) : mul' a b = mul' b a := canon_ext (nrm_canon _) (nrm_canon _) fun m => by
  rw [cf_mul', cf_mul', cf_mul_comm]
theorem vf_append (a b : P) : vf (a ++ b) = vf a ++ vf b := List.filter_append ..
theorem vf_self {p : P} (h : ∀ t ∈ p, V t.2) : vf p = p := List.filter_eq_self.2 fun t ht => decide_eq_true (h t ht)
theorem cf_vf_mul (a b : P) (m : M) : cf (vf (mulL (vf a) (vf b))) m = cf (mulL (vf a) (vf b)) m := by
  rw [vf_self (mulL_V (fun t h => (vf_V h).1) (fun t h => (vf_V h).1))]
theorem mul_add' (a b c : P) : mul' a (add' b c) = add' (mul' a b) (mul' a c) := canon_ext (nrm_canon _) (nrm_canon _) fun m => by
  have h1 : ∀ m, cf (vf (add' b c)) m = cf (vf b ++ vf c) m := fun m => by
    rw [vf_self (nrm_canon _).v, cf_vf_nrm, vf_append]
  rw [cf_mul', cf_mulR h1, cf_mul_add, add', cf_vf_nrm, vf_append, cf_append, vf_self (nrm_canon _).v, vf_self (nrm_canon _).v, cf_mul', cf_mul']
end Go.N

/- Powers, constants, variables: plain law. -/
namespace Go.N

def M0 : M := ⟨0, 0, 0, 0⟩
def con (c : Int) : P := if c = 0 then [] else [(c, M0)]
theorem V_M0 : V M0 := by unfold V M0; simp only; omega
theorem con_canon (c : Int) : Canon (con c) := by
  unfold con
  split
  · exact .nil
  · exact Canon.nil.cons (by assumption) V_M0 (by simp)
theorem nrm_con (c : Int) : nrm [(c, M0)] = con c := by
  show (if V M0 then ins c M0 [] else []) = _
  rw [if_pos V_M0]; rfl
theorem cf_con (c : Int) (m : M) : cf (con c) m = if M0 = m then c else 0 := by
  unfold con
  split
  · rename_i h; subst h; simp [cf]
  · simp [cf]
def powc (a : P) : Nat → P
  | 0 => con 1
  | k + 1 => nrm (mulL (powc a k) a)
theorem powc_canon (a : P) : ∀ k, Canon (powc a k)
  | 0 => con_canon 1
  | k + 1 => nrm_canon _
theorem cf_mul_nrm {a b : P} (ha : Canon a) (hb : Canon b) (m : M) : cf (nrm (mulL a b)) m = cf (mulL a b) m := cf_nrm_of (mulL_V ha.v hb.v) m
theorem mul1_one (b : P) : mul1 (1, M0) b = b := by
  unfold mul1
  conv => rhs; rw [← List.map_id b]
  refine List.map_congr_left fun t _ => Prod.ext ?_ ?_
  · simp
  · refine M.ext' ?_ ?_ ?_ ?_ <;> simp [M.add, M0]
theorem mulL_one (b : P) : mulL (con 1) b = b := by
  show mulL [(1, M0)] b = b
  rw [mulL_cons, mul1_one]; simp [mulL]
theorem cf_mul_one (a : P) (m : M) : cf (mulL a (con 1)) m = cf a m := by rw [cf_mul_comm, mulL_one]
theorem powc_1 {a : P} (ha : Canon a) : powc a 1 = a := by
  show nrm (mulL (con 1) a) = a
  rw [mulL_one, nrm_self ha]
/-- The product of two canonical rows. -/
abbrev mulc (a b : P) : P := nrm (mulL a b)
theorem mulc_assoc {a b c : P} (ha : Canon a) (hb : Canon b) (hc : Canon c) : mulc (mulc a b) c = mulc a (mulc b c) :=
  canon_ext (nrm_canon _) (nrm_canon _) fun m => by
    rw [cf_mul_nrm (nrm_canon _) hc, cf_mul_nrm ha (nrm_canon _), cf_mulLeft (cf_mul_nrm ha hb), cf_mulR (cf_mul_nrm hb hc), mulL_assoc]
theorem mulc_comm (a b : P) : mulc a b = mulc b a := nrm_eq fun m _ => cf_mul_comm a b m
theorem mulc_one {a : P} (ha : Canon a) : mulc a (con 1) = a := by
  rw [mulc_comm]; show nrm (mulL (con 1) a) = a; rw [mulL_one, nrm_self ha]
theorem powc_add {a : P} (ha : Canon a) (u : Nat) : ∀ w, powc a (u + w) = mulc (powc a u) (powc a w)
  | 0 => (mulc_one (powc_canon a u)).symm
  | w + 1 => by
    show mulc (powc a (u + w)) a = mulc (powc a u) (mulc (powc a w) a)
    rw [powc_add ha u w, mulc_assoc (powc_canon _ _) (powc_canon _ _) ha]
theorem l1_mulc (a b : P) : l1 (mulc a b) ≤ l1 a * l1 b := Nat.le_trans (l1_nrm _) (by rw [l1_mulL]; exact Nat.le_refl _)
theorem mulc_len (a b : P) : (mulc a b).length ≤ a.length * b.length := Nat.le_trans (nrm_len _) (by rw [mulL_len]; exact Nat.le_refl _)
theorem l1_powc {a : P} {L : Nat} (h : l1 a ≤ L) : ∀ k, l1 (powc a k) ≤ L ^ k
  | 0 => by simp [powc, con, l1]
  | k + 1 => Nat.le_trans (l1_mulc _ _) (by rw [Nat.pow_succ]; exact Nat.mul_le_mul (l1_powc h k) h)
theorem powc_len {a : P} {L : Nat} (h : a.length ≤ L) : ∀ k, (powc a k).length ≤ L ^ k
  | 0 => by simp [powc, con]
  | k + 1 => Nat.le_trans (mulc_len _ _) (by rw [Nat.pow_succ]; exact Nat.mul_le_mul (powc_len h k) h)

/-- Exponents from 0 to e. -/
def Mb (e : Int) (m : M) : Prop := (0 ≤ m.x0 ∧ m.x0 ≤ e) ∧ (0 ≤ m.x1 ∧ m.x1 ≤ e) ∧ (0 ≤ m.x2 ∧ m.x2 ≤ e) ∧ (0 ≤ m.x3 ∧ m.x3 ≤ e)
def Eb (e : Int) (a : P) : Prop := ∀ t ∈ a, Mb e t.2
theorem Mb.mono {e e' : Int} {m : M} (h : Mb e m) (he : e ≤ e') : Mb e' m := by unfold Mb at *; omega
theorem Eb.mono {e e' : Int} {a : P} (h : Eb e a) (he : e ≤ e') : Eb e' a := fun t ht => (h t ht).mono he
theorem Mb.add {e f : Int} {a b : M} (ha : Mb e a) (hb : Mb f b) : Mb (e + f) (a.add b) := by unfold Mb M.add at *; simp only; omega
theorem Eb.mul {e f : Int} {a b : P} (ha : Eb e a) (hb : Eb f b) : Eb (e + f) (mulL a b) := fun t ht => by
  obtain ⟨x, hx, y, hy, rfl⟩ := mulL_mem ht
  exact (ha x hx).add (hb y hy)
theorem Eb.nrm {e : Int} {a : P} (ha : Eb e a) : Eb e (nrm a) := fun t ht => by
  obtain ⟨_, u, hu, e'⟩ := nrm_mem ht
  rw [← e']; exact ha u hu
theorem Eb.append {e : Int} {a b : P} (ha : Eb e a) (hb : Eb e b) : Eb e (a ++ b) := fun t ht => (List.mem_append.1 ht).elim (ha t) (hb t)
theorem Eb.con {e : Int} (h : 0 ≤ e) (c : Int) : Eb e (con c) := fun t ht => by
  unfold N.con at ht
  split at ht
  · cases ht
  · simp at ht; subst ht; unfold Mb M0; simp only; omega
theorem Eb.pow {e : Int} (h0 : 0 ≤ e) {a : P} (h : Eb e a) : ∀ k : Nat, Eb (e * k) (powc a k)
  | 0 => Eb.con (by simp) 1
  | k + 1 => by
    rw [Int.natCast_succ, Int.mul_add, Int.mul_one]
    exact ((Eb.pow h0 h k).mul h).nrm

def unit (l : Int) : M := ⟨if l = 1 then 1 else 0, if l = 2 then 1 else 0, if l = 3 then 1 else 0, if l = 4 then 1 else 0⟩
def var' (l : Int) : P := if 1 ≤ l ∧ l ≤ 4 then [(1, unit l)] else []
theorem unit_V (l : Int) : V (unit l) := by
  unfold V unit; simp only
  refine ⟨?_, ?_, ?_, ?_⟩ <;> split <;> omega
theorem var_canon (l : Int) : Canon (var' l) := by
  unfold var'
  split
  · exact Canon.nil.cons (by simp) (unit_V l) (by simp)
  · exact .nil
end Go.N

/- Sums and products of canonical rows; products of the terms that count: plain law. -/
namespace Go.N

theorem cf_nrm_c {a : P} (h : ∀ t ∈ a, V t.2) (m : M) : cf (nrm a) m = cf a m := cf_nrm_of h m
theorem app_V {a b : P} (ha : ∀ t ∈ a, V t.2) (hb : ∀ t ∈ b, V t.2) : ∀ t ∈ a ++ b, V t.2 := fun t ht => (List.mem_append.1 ht).elim (ha t) (hb t)
theorem mulc_addc {a b c : P} (ha : Canon a) (hb : Canon b) (hc : Canon c) : mulc a (nrm (b ++ c)) = nrm (mulc a b ++ mulc a c) :=
  canon_ext (nrm_canon _) (nrm_canon _) fun m => by
    rw [cf_mul_nrm ha (nrm_canon _), cf_nrm_of (app_V (nrm_canon _).v (nrm_canon _).v), cf_append, cf_mul_nrm ha hb, cf_mul_nrm ha hc, ← cf_mul_add]
    exact cf_mulR (fun m => cf_nrm_of (app_V hb.v hc.v) m) a m

abbrev t0 : Int × M := (0, ⟨0, 0, 0, 0⟩)
theorem take_nx {α : Type} {q : List α} {k : Nat} {z : α} (h : k < q.length) : q.take (k + 1) = q.take k ++ [q.getD k z] := by
  rw [List.take_succ_eq_append_getElem h]; simp [h]
/-- The products of the terms that count, gathered so far. -/
def gv (a b : P) (i k : Nat) : P := mulL (vf (a.take i)) (vf b) ++ (if V (a.getD i t0).2 then mul1 (a.getD i t0) (vf (b.take k)) else [])
theorem gv_0 {a b : P} {i : Nat} : gv a b i 0 = mulL (vf (a.take i)) (vf b) := by
  unfold gv
  rw [List.take_zero]
  split <;> simp [vf, mul1]
theorem vf_one (t : Int × M) : vf [t] = if V t.2 then [t] else [] := by
  unfold vf
  rw [List.filter_cons]
  by_cases h : V t.2 <;> simp [h]
theorem gv_end {a b : P} {i : Nat} (h : i < a.length) : gv a b i b.length = mulL (vf (a.take (i + 1))) (vf b) := by
  unfold gv
  rw [take_nx (z := t0) h, vf_append, mulL_append, List.take_of_length_le (Nat.le_refl _), vf_one]
  split
  · simp [mulL]
  · simp [mulL]
theorem gv_skip {a b : P} {i k : Nat} (h : k < b.length) (hv : ¬ (V (a.getD i t0).2 ∧ V (b.getD k t0).2)) : gv a b i (k + 1) = gv a b i k := by
  unfold gv
  by_cases h1 : V (a.getD i t0).2
  · rw [if_pos h1, if_pos h1, take_nx (z := t0) h, vf_append, vf_one, if_neg (fun h2 => hv ⟨h1, h2⟩), List.append_nil]
  · rw [if_neg h1, if_neg h1]
theorem gv_next {a b : P} {i k : Nat} (h : k < b.length) (h1 : V (a.getD i t0).2) (h2 : V (b.getD k t0).2) : gv a b i (k + 1) = gv a b i k ++ [((a.getD i t0).1 * (b.getD k t0).1, (a.getD i t0).2.add (b.getD k t0).2)] := by
  unfold gv
  rw [if_pos h1, if_pos h1, take_nx (z := t0) h, vf_append, vf_one, if_pos h2, mul1_append, List.append_assoc]; rfl
theorem vf_len (a : P) : (vf a).length ≤ a.length := List.length_filter_le _ _
theorem gv_len {a b : P} {i k : Nat} (hi : i < a.length) (hk : k ≤ b.length) : (gv a b i k).length ≤ a.length * b.length := by
  have h1 : (gv a b i k).length ≤ i * b.length + b.length := by
    unfold gv
    rw [List.length_append]
    refine Nat.add_le_add ?_ ?_
    · rw [mulL_len]
      exact Nat.mul_le_mul (Nat.le_trans (vf_len _) (by rw [List.length_take]; omega)) (vf_len b)
    · split
      · rw [mul1_len]
        exact Nat.le_trans (vf_len _) (by rw [List.length_take]; omega)
      · simp
  have : (i + 1) * b.length ≤ a.length * b.length := Nat.mul_le_mul_right _ hi
  rw [Nat.succ_mul] at this; omega
theorem l1_vf (a : P) : l1 (vf a) ≤ l1 a := by
  induction a with
  | nil => exact Nat.le_refl _
  | cons t a ih =>
    unfold vf at *
    rw [List.filter_cons]
    split
    · rw [l1, l1]; omega
    · rw [l1]; omega
theorem cf_mulc (a b : P) (m : M) (hm : V m) : cf (mulc (nrm a) (nrm b)) m = cf (mulL (vf a) (vf b)) m := cf_mul' a b m
end Go.N
