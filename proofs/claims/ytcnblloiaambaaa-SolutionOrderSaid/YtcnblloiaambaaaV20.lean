/- The logic V, part 20: a region that draws its order comes to what the order of its text comes to. -/
import Derived.Test.YtcnblloiaambaaaV19
namespace Go.V

def stepF (all : List Oper) (es : List Ent) (F : Fr) (i : Nat) : Fr := match all[i]?, es[i]? with
  | some o, some e => putF F o.dst e.d
  | _, _ => F

def stepH (es : List Ent) (H : Hp) (i : Nat) : Hp := match es[i]? with
  | some e => e.after H
  | none => H

/-- The same blocks. -/
def SameAt (b : Nat) (H H' : Hp) : Prop := ∀ x, H[b]? = some (some x) ↔ H'[b]? = some (some x)

theorem SameAt.refl (b : Nat) (H : Hp) : SameAt b H H := fun _ => Iff.rfl
theorem SameAt.symm {b : Nat} {H H' : Hp} (h : SameAt b H H') : SameAt b H' H := fun x => (h x).symm
theorem SameAt.trans {b : Nat} {H H1 H2 : Hp} (h : SameAt b H H1) (h' : SameAt b H1 H2) : SameAt b H H2 := fun x => (h x).trans (h' x)

theorem same_set {b c : Nat} {H H' : Hp} (h : SameAt b H H') : SameAt b (H.set c none) (H'.set c none) := by
  intro x
  by_cases hc : b = c
  · subst hc
    constructor <;> intro h1 <;> rcases set_mem h1 with ⟨_, h⟩ | ⟨h, _⟩ <;> first | cases h | exact absurd rfl h
  · rw [List.getElem?_set_ne (fun e => hc e.symm), List.getElem?_set_ne (fun e => hc e.symm)]
    exact h x

theorem same_put {b c : Nat} {y : Blk} {H H' : Hp} (h : SameAt b H H') : SameAt b (putAt H c y) (putAt H' c y) := by
  intro x
  by_cases hc : b = c
  · subst hc; rw [putAt_same, putAt_same]
  · rw [putAt_other hc, putAt_other hc]; exact h x

theorem same_applyW {b : Nat} : ∀ (wr : List (Nat × Option Blk)) {H H' : Hp}, SameAt b H H' → SameAt b (applyW H wr) (applyW H' wr)
  | [], _, _, h => h
  | (c, none) :: wr, _, _, h => same_applyW wr (same_set h)
  | (c, some y) :: wr, _, _, h => same_applyW wr (same_put h)

theorem same_not {b : Nat} : ∀ (wr : List (Nat × Option Blk)) {H : Hp}, b ∉ idsOf wr → SameAt b (applyW H wr) H
  | [], _, _ => .refl _ _
  | (c, none) :: wr, H, h => by
    simp only [idsOf, List.map_cons, List.mem_cons, not_or] at h
    refine (same_not wr (by simpa [idsOf] using h.2)).trans fun x => ?_
    rw [List.getElem?_set_ne (fun e => h.1 e.symm)]
  | (c, some y) :: wr, H, h => by
    simp only [idsOf, List.map_cons, List.mem_cons, not_or] at h
    exact (same_not wr (by simpa [idsOf] using h.2)).trans fun x => putAt_other h.1

theorem same_after {b : Nat} {e : Ent} {H H' : Hp} (h : SameAt b H H') : SameAt b (e.after H) (e.after H') := by
  unfold Ent.after
  cases e.wild with
  | some G => exact .refl _ _
  | none => exact same_applyW _ h

theorem same_after_not {b : Nat} {e : Ent} {H : Hp} (h : e.writesB b = false) : SameAt b (e.after H) H := by
  unfold Ent.writesB at h
  rw [Bool.or_eq_false_iff] at h
  unfold Ent.after
  cases hw : e.wild with
  | some G => rw [hw] at h; simp at h
  | none => exact same_not _ (by simpa using h.2)

def pF (all : List Oper) (t i : Nat) : Bool := match all[i]? with
  | some o => o.dst == some t
  | none => false

def pB (es : List Ent) (b i : Nat) : Bool := match es[i]? with
  | some e => e.writesB b
  | none => false

def pW (es : List Ent) (i : Nat) : Bool := match es[i]? with
  | some e => e.writes
  | none => false

theorem get_putF {F : Fr} {dst : Option Nat} {d : D} {t : Nat} : (putF F dst d).get t = if dst = some t then some d else F.get t := by
  cases dst with
  | none => simp [putF]
  | some u =>
    simp only [putF, Fr.get, Option.some.injEq]
    cases hb : Nat.beq u t with
    | true => rw [if_pos (Nat.eq_of_beq_eq_true hb)]; rfl
    | false => rw [if_neg (fun e => by subst e; rw [Nat.beq_refl] at hb; cases hb)]; rfl

section
variable {all : List Oper} {es : List Ent}

theorem get_stF (hlen : es.length = all.length) (F : Fr) (t : Nat) (l : List Nat) : (l.foldl (stepF all es) F).get t = ((l.filter (pF all t)).foldl (stepF all es) F).get t := by
  induction l using snocInd with
  | h0 => rfl
  | h1 l i ih =>
    rw [List.filter_append, List.foldl_append, List.foldl_append]
    simp only [List.foldl_cons, List.foldl_nil, List.filter_cons, List.filter_nil]
    cases ha : all[i]? with
    | none =>
      simp only [pF, ha, stepF, Bool.false_eq_true, if_false, List.foldl_nil]
      exact ih
    | some o =>
      have hi := lt_of_getElem? ha
      have he : es[i]? = some es[i] := List.getElem?_eq_getElem (by omega)
      by_cases hd : o.dst = some t
      · have : pF all t i = true := by simp [pF, ha, hd]
        rw [this]
        simp only [if_true, List.foldl_cons, List.foldl_nil, stepF, ha, he, get_putF, hd]
      · have : pF all t i = false := by simp [pF, ha, hd]
        rw [this]
        simp only [Bool.false_eq_true, if_false, List.foldl_nil, stepF, ha, he, get_putF, hd]
        exact ih

theorem same_stH (H : Hp) (b : Nat) (l : List Nat) : SameAt b (l.foldl (stepH es) H) ((l.filter (pB es b)).foldl (stepH es) H) := by
  induction l using snocInd with
  | h0 => exact .refl _ _
  | h1 l i ih =>
    rw [List.filter_append, List.foldl_append, List.foldl_append]
    simp only [List.foldl_cons, List.foldl_nil, List.filter_cons, List.filter_nil]
    cases he : es[i]? with
    | none =>
      simp only [pB, he, stepH, Bool.false_eq_true, if_false, List.foldl_nil]
      exact ih
    | some e =>
      cases hb : e.writesB b with
      | true =>
        have : pB es b i = true := by simp [pB, he, hb]
        rw [this]
        simp only [if_true, List.foldl_cons, List.foldl_nil, stepH, he]
        exact same_after ih
      | false =>
        have : pB es b i = false := by simp [pB, he, hb]
        rw [this]
        simp only [Bool.false_eq_true, if_false, List.foldl_nil, stepH, he]
        exact (same_after_not hb).trans ih

theorem eq_stH (H : Hp) (l : List Nat) : l.foldl (stepH es) H = (l.filter (pW es)).foldl (stepH es) H := by
  induction l using snocInd with
  | h0 => rfl
  | h1 l i ih =>
    rw [List.filter_append, List.foldl_append, List.foldl_append]
    simp only [List.foldl_cons, List.foldl_nil, List.filter_cons, List.filter_nil]
    cases he : es[i]? with
    | none =>
      simp only [pW, he, stepH, Bool.false_eq_true, if_false, List.foldl_nil]
      exact ih
    | some e =>
      cases hb : e.writes with
      | true =>
        have : pW es i = true := by simp [pW, he, hb]
        rw [this]
        simp only [if_true, List.foldl_cons, List.foldl_nil, stepH, he, ih]
      | false =>
        have : pW es i = false := by simp [pW, he, hb]
        rw [this]
        simp only [Bool.false_eq_true, if_false, List.foldl_nil, stepH, he]
        rw [ih]
        unfold Ent.writes at hb
        rw [Bool.or_eq_false_iff] at hb
        obtain ⟨h1, h2⟩ := hb
        unfold Ent.after
        cases hw : e.wild with
        | some G => rw [hw] at h2; simp at h2
        | none =>
          have : e.wr = [] := by simpa using h1
          rw [this]; rfl

end

def namesOf (all : List Oper) (o : Oper) : List Nat := opTemps o ++ guardTemps all o

def clashT (all : List Oper) (o o' : Oper) : Bool := match o.dst with
  | some t => (namesOf all o').contains t || o'.dst == some t
  | none => false

def clashH (e e' : Ent) : Bool :=
  (idsOf e.wr).any (fun b => e'.rd.contains b || (idsOf e'.wr).contains b) || (e.wild.isSome && e'.touches)

structure DrawOk (all : Array Oper) (es : List Ent) : Prop where
  temps : ∀ i j o o', i < j → all[i]? = some o → all[j]? = some o' → (clashT all.toList o o' || clashT all.toList o' o) = true → aheadB all i j = true
  heap : ∀ i j e e', i < j → es[i]? = some e → es[j]? = some e' → (clashH e e' || clashH e' e) = true → aheadB all i j = true
  wild : (∃ e ∈ es, e.wild.isSome = true) → ∀ i j e e', i < j → es[i]? = some e → es[j]? = some e' → e.writes = true → e'.writes = true → aheadB all i j = true

/-- What the steps in the order of the text are. -/
theorem DrawD.spec {P : Program} {n : Nat} {all : List Oper} {es0 : List Ent} {F0 : Fr} {H0 : Hp} : ∀ {r : List Oper} {F : Fr} {H : Hp} {es : List Ent} {F' : Fr} {H' : Hp}, DrawD P n all r F H es F' H' → ∀ i, all.drop i = r → es0.drop i = es →
    F = (List.range i).foldl (stepF all es0) F0 → H = (List.range i).foldl (stepH es0) H0 →
    es.length = r.length ∧ F' = (List.range (i + r.length)).foldl (stepF all es0) F0 ∧ H' = (List.range (i + r.length)).foldl (stepH es0) H0 ∧
    ∀ j, i ≤ j → j < i + r.length → ∃ o e, all[j]? = some o ∧ es0[j]? = some e ∧ DStep P all ((List.range j).foldl (stepF all es0) F0) ((List.range j).foldl (stepH es0) H0) ((List.range j).foldl (stepH es0) H0).length o e ∧ dstOk n o ∧
      ((List.range j).foldl (stepH es0) H0).length ≤ (e.after ((List.range j).foldl (stepH es0) H0)).length
  | _, F, H, _, _, _, .nil, i, _, _, hF, hH => ⟨rfl, hF, hH, fun j h1 h2 => by simp at h2; omega⟩
  | _, F, H, _, _, _, .cons (o := o) (r := r) (e := e) (es := es) h hd hl rest, i, ho, he, hF, hH => by
    obtain ⟨ho1, ho2⟩ := drop_cons ho
    have he1 : es0[i]? = some e := by
      have : (es0.drop i)[0]? = some e := by rw [he]; rfl
      rwa [List.getElem?_drop, Nat.add_zero] at this
    have he2 : es0.drop (i + 1) = es := by rw [← List.drop_drop, he]; rfl
    have hF' : putF F o.dst e.d = (List.range (i + 1)).foldl (stepF all es0) F0 := by
      rw [List.range_succ, List.foldl_append, ← hF]
      simp [stepF, ho1, he1]
    have hH' : e.after H = (List.range (i + 1)).foldl (stepH es0) H0 := by
      rw [List.range_succ, List.foldl_append, ← hH]
      simp [stepH, he1]
    obtain ⟨l1, l2, l3, l4⟩ := DrawD.spec rest (i + 1) ho2 he2 hF' hH'
    refine ⟨by simp [l1], by rw [l2]; congr 2; simp; omega, by rw [l3]; congr 2; simp; omega, fun j h1 h2 => ?_⟩
    rcases Nat.eq_or_lt_of_le h1 with rfl | h1
    · exact ⟨o, e, ho1, he1, by rw [← hF, ← hH]; exact h, hd, by rw [← hH]; exact hl⟩
    · exact l4 j h1 (by simp at h2; omega)

theorem HRel.same {w : World} {g : Gh} {H H' : Hp} (h : HRel w g H) (hs : ∀ b, SameAt b H H') (hd : ∀ b, H'.length ≤ b → g.ρ b = none) : HRel w g H' :=
  { scell := h.scell
    sL := fun k hk ⟨b, x, base, hb, hr⟩ => h.sL k hk ⟨b, x, base, (hs b x).2 hb, hr⟩
    dom := hd
    blk := fun b cs hb => h.blk b cs ((hs b _).2 hb)
    loop := fun b r F hb => h.loop b r F ((hs b _).2 hb)
    inj := fun b b' k base base' x x' hx hx' => h.inj b b' k base base' x x' ((hs b x).2 hx) ((hs b' x').2 hx') }

theorem Lof_same {g : Gh} {H H' : Hp} (hs : ∀ b, SameAt b H H') : Lof g H = Lof g H' := by
  funext k
  apply propext
  exact ⟨fun ⟨b, x, base, hb, hr⟩ => ⟨b, x, base, (hs b x).1 hb, hr⟩, fun ⟨b, x, base, hb, hr⟩ => ⟨b, x, base, (hs b x).2 hb, hr⟩⟩

theorem applyW_len_ge : ∀ (wr : List (Nat × Option Blk)) (H : Hp), H.length ≤ (applyW H wr).length
  | [], _ => Nat.le_refl _
  | (b, none) :: wr, H => by have := applyW_len_ge wr (H.set b none); simpa [applyW] using this
  | (b, some x) :: wr, H => by
    have h1 := applyW_len_ge wr (putAt H b x)
    have h2 := (putAt_length H b x).1
    simp only [applyW]
    omega

theorem applyW_ids_lt : ∀ (wr : List (Nat × Option Blk)) (H : Hp) (b : Nat) (x : Blk), (b, some x) ∈ wr → b < (applyW H wr).length
  | (c, none) :: wr, H, b, x, h => by
    simp only [List.mem_cons, Prod.mk.injEq, reduceCtorEq, and_false, false_or] at h
    exact applyW_ids_lt wr _ b x h
  | (c, some y) :: wr, H, b, x, h => by
    rcases List.mem_cons.1 h with h | h
    · cases h
      have h1 := applyW_len_ge wr (putAt H c y)
      have h2 := (putAt_length H c y).2
      simp only [applyW]
      omega
    · exact applyW_ids_lt wr _ b x h

theorem applyW_len_le : ∀ (wr : List (Nat × Option Blk)) (H : Hp) (c : Nat), H.length ≤ c → (∀ b x, (b, some x) ∈ wr → b < c) → (applyW H wr).length ≤ c
  | [], _, _, h, _ => h
  | (b, none) :: wr, H, c, h, hb => applyW_len_le wr _ c (by simpa using h) (fun b' x' hm => hb b' x' (List.mem_cons_of_mem _ hm))
  | (b, some x) :: wr, H, c, h, hb => applyW_len_le wr _ c (putAt_length_le h (hb b x (by simp))) (fun b' x' hm => hb b' x' (List.mem_cons_of_mem _ hm))

theorem applyW_len_eq (wr : List (Nat × Option Blk)) : ∀ (H : Hp), (∀ p ∈ wr, p.1 < H.length) → (applyW H wr).length = H.length := by
  induction wr with
  | nil => exact fun _ _ => rfl
  | cons p wr ih =>
    intro H h
    obtain ⟨b, y⟩ := p
    have hb : b < H.length := h (b, y) (by simp)
    cases y with
    | none =>
      have := ih (H.set b none) (fun p hp => by have := h p (by simp [hp]); simpa using this)
      simpa [applyW] using this
    | some x =>
      have hl : (putAt H b x).length = H.length := by simp [putAt, hb]
      have := ih (putAt H b x) (fun p hp => by have := h p (by simp [hp]); omega)
      simpa [applyW, hl] using this

end Go.V
