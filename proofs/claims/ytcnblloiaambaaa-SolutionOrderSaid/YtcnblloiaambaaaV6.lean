/- The logic V, part 6: the operations that touch no live memory do what vop says. -/
import Derived.Test.YtcnblloiaambaaaV5
import Derived.Laws.StructEq
import Derived.Laws.Cover3
namespace Go.V

/-- A world that has grown beside everything. -/
structure Grew (w : World) (g : Gh) (w' : World) (g' : Gh) : Prop where
  os : w'.os = w.os
  tape : w'.tape = w.tape
  output : w'.output = w.output
  size : w.heap.size ≤ w'.heap.size
  keep : ∀ k, k < w.heap.size → w'.heap[k]? = w.heap[k]?
  s1 : ∀ k, g.S k → g'.S k
  s2 : ∀ k, g'.S k → g.S k ∨ (w.heap.size ≤ k ∧ ∃ n, cellsN w' k = some n)
  ρ : g'.ρ = g.ρ

section
variable {P : Program} {w w' : World} {g g' : Gh} {H : Hp} {F : Fr} {tm : Array Value}

theorem Grew.refl (w : World) (g : Gh) : Grew w g w g := ⟨rfl, rfl, rfl, Nat.le_refl _, fun _ _ => rfl, fun _ h => h, fun _ h => .inl h, rfl⟩

theorem Grew.shape (e : Grew w g w' g') (k n : Nat) (h : cellsN w k = some n) : cellsN w' k = some n := by
  have := e.keep k (cellsN_lt h)
  unfold cellsN at h ⊢; rw [this]; exact h

theorem Grew.hrel (e : Grew w g w' g') (h : HRel w g H) : HRel w' g' H := by
  have := h.beside (w' := w') (S' := g'.S) e.keep e.s1 (fun k hk => (e.s2 k hk).imp id And.left)
    (fun k hk => (e.s2 k hk).elim (fun h' => let ⟨n, hn⟩ := h.scell k h'; ⟨n, e.shape k n hn⟩) And.right) e.shape
  have hg : ({ S := g'.S, ρ := g.ρ } : Gh) = g' := by rw [← e.ρ]
  rwa [hg] at this

theorem Grew.ev (e : Grew w g w' g') (N : Nat) : Ev N w g (Lof g H) w' g' (Lof g' H) :=
  ⟨e.os, e.tape, e.output, e.size, fun k hk _ => e.keep k hk, e.shape, e.s1, fun k hk => (e.s2 k hk).imp id (fun h => .inr h.1), fun k hk => .inl (by
    obtain ⟨b, x, base, hb, hr⟩ := hk
    exact ⟨b, x, base, hb, by rw [← e.ρ]; exact hr⟩), fun b _ => by rw [e.ρ]⟩

theorem Grew.alloc (w : World) (g : Gh) (c : Array Value) (e : TypeId) : Grew w g (w.alloc (.cells c e)) { S := fun k => g.S k ∨ k = w.heap.size, ρ := g.ρ } :=
  ⟨rfl, rfl, rfl, by simp, fun k hk => heap_alloc_old w _ k hk, fun _ h => .inl h,
    fun k h => h.imp id fun h => by subst h; exact ⟨Nat.le_refl _, c.size, by simp only [cellsN, heap_alloc_new w (.cells c e)]⟩, rfl⟩

/-- What an operation gives. -/
def Gives (P : Program) (tm : Array Value) (o : Oper) (w : World) (g : Gh) (d : D) : Prop :=
  ∃ v w' g', (execOp (evalT tm) o).run P w = .ok (.value v) w' ∧ Grew w g w' g' ∧ Rep w' g' d v

theorem Gives.same {o : Oper} {d : D} {v : Value} (h : (execOp (evalT tm) o).run P w = .ok (.value v) w) (hr : Rep w g d v) : Gives P tm o w g d := ⟨v, w, g, h, .refl _ _, hr⟩

theorem rep_int {k : IntKind} {n : Int} {v : Value} (h : Rep w g (.int k n) v) : v = .int k n := by cases h; rfl
theorem rep_bool {b : Bool} {v : Value} (h : Rep w g (.bool b) v) : v = .bool b := by cases h; rfl
theorem rep_str {s : ByteArray} {v : Value} (h : Rep w g (.str s) v) : v = .string s := by cases h; rfl

theorem intBinD_run {op : BinOp} {k k' : IntKind} {a b : Int} {pre : Prop} {d : D} (h : intBinD op k a b = some (pre, d)) (hp : pre) (t : TypeId) (hk : k = k' ∨ isSh op = true) :
    ∃ v, (binOp op t (.int k a) (.int k' b)).run P w = .ok v w ∧ Rep w g d v := by
  cases op <;> simp only [intBinD, Option.some.injEq, Prod.mk.injEq, reduceCtorEq] at h <;> obtain ⟨rfl, rfl⟩ := h
  case add => obtain rfl := hk.resolve_right (by simp [isSh]); exact ⟨_, by simp [binOp, Op.intArith], .int _ _⟩
  case sub => obtain rfl := hk.resolve_right (by simp [isSh]); exact ⟨_, by simp [binOp, Op.intArith], .int _ _⟩
  case mul => obtain rfl := hk.resolve_right (by simp [isSh]); exact ⟨_, by simp [binOp, Op.intArith], .int _ _⟩
  case quo => obtain rfl := hk.resolve_right (by simp [isSh]); exact ⟨_, by simp [binOp, Op.intDiv, hp], .int _ _⟩
  case rem => obtain rfl := hk.resolve_right (by simp [isSh]); exact ⟨_, by simp [binOp, Op.intDiv, hp], .int _ _⟩
  case and => obtain rfl := hk.resolve_right (by simp [isSh]); exact ⟨_, by simp only [binOp, Op.intBits]; simp, .int _ _⟩
  case or => obtain rfl := hk.resolve_right (by simp [isSh]); exact ⟨_, by simp only [binOp, Op.intBits]; simp, .int _ _⟩
  case xor => obtain rfl := hk.resolve_right (by simp [isSh]); exact ⟨_, by simp only [binOp, Op.intBits]; simp, .int _ _⟩
  case shl =>
    have : ¬ b < 0 := by omega
    exact ⟨_, by simp [binOp, Op.shift, this], .int _ _⟩
  case shr =>
    have : ¬ b < 0 := by omega
    exact ⟨_, by simp [binOp, Op.shift, this], .int _ _⟩
  case lss => obtain rfl := hk.resolve_right (by simp [isSh]); exact ⟨_, by simp [binOp, Op.intCmp], .bool _⟩
  case leq => obtain rfl := hk.resolve_right (by simp [isSh]); exact ⟨_, by simp [binOp, Op.intCmp], .bool _⟩
  case gtr => obtain rfl := hk.resolve_right (by simp [isSh]); exact ⟨_, by simp [binOp, Op.intCmp], .bool _⟩
  case geq => obtain rfl := hk.resolve_right (by simp [isSh]); exact ⟨_, by simp [binOp, Op.intCmp], .bool _⟩
  case eql =>
    obtain rfl := hk.resolve_right (by simp [isSh])
    refine ⟨.bool (decide (a = b)), ?_, .bool _⟩
    simp [binOp, Op.intCmp]
    rfl
  case neq =>
    obtain rfl := hk.resolve_right (by simp [isSh])
    refine ⟨.bool (!decide (a = b)), ?_, .bool _⟩
    simp [binOp, Op.intCmp]
    rfl

theorem bytes_eq (a b : ByteArray) : (a.toList == b.toList) = decide (a = b) := by
  rw [ByteArray.toList_eq, ByteArray.toList_eq]
  by_cases h : a = b
  · subst h; simp
  · have h' : ¬ a.data = b.data := fun e => h (by cases a; cases b; simp_all)
    simp [h, h']

theorem eqInts_rep : ∀ (cs cs' : List D) (vs vs' : List Value) (b : Bool), eqInts cs cs' = some b → RepL w g cs vs → RepL w g cs' vs' →
    vs.length = vs'.length ∧ (∀ i : Nat, i < vs.length → ∃ (k : IntKind) (n m : Int), vs[i]? = some (.int k n) ∧ vs'[i]? = some (.int k m)) ∧
      (b = true ↔ ∀ (i : Nat) (k : IntKind) (n m : Int), vs[i]? = some (.int k n) → vs'[i]? = some (.int k m) → n = m)
  | [], [], vs, vs', b, hb, h1, h2 => by
    obtain rfl : vs = [] := List.eq_nil_of_length_eq_zero h1.1
    obtain rfl : vs' = [] := List.eq_nil_of_length_eq_zero h2.1
    simp only [eqInts, Option.some.injEq] at hb
    subst hb
    exact ⟨rfl, by simp, by simp⟩
  | x :: r, y :: r', v :: vs, v' :: vs', b, hb, h1, h2 => by
    unfold eqInts at hb
    split at hb
    · rename_i heq1 heq2; cases heq1
    · rename_i k a r1 k' a' r1' heq1 heq2
      cases heq1; cases heq2
      cases hk : decide (k = k') with
      | false => rw [hk] at hb; cases hb
      | true =>
        rw [hk] at hb
        obtain rfl : k = k' := of_decide_eq_true hk
        simp only [cond_true] at hb
        split at hb
        · rename_i p hp
          cases hb
          obtain ⟨l, c, e⟩ := eqInts_rep r r' vs vs' p hp ⟨by simpa using h1.1, fun i d v hd hv => h1.2 (i + 1) d v (by simpa using hd) (by simpa using hv)⟩
            ⟨by simpa using h2.1, fun i d v hd hv => h2.2 (i + 1) d v (by simpa using hd) (by simpa using hv)⟩
          obtain rfl := rep_int (h1.2 0 (.int k a) v rfl rfl)
          obtain rfl := rep_int (h2.2 0 (.int k a') v' rfl rfl)
          refine ⟨by simp [l], ?_, ?_⟩
          · intro i hi
            cases i with
            | zero => exact ⟨k, a, a', rfl, rfl⟩
            | succ i => obtain ⟨k1, n, m, x1, x2⟩ := c i (by simpa using hi); exact ⟨k1, n, m, by simpa using x1, by simpa using x2⟩
          · simp only [Bool.and_eq_true, decide_eq_true_eq, e]
            constructor
            · rintro ⟨rfl, h⟩ i k1 n m hn hm
              cases i with
              | zero => simp only [List.getElem?_cons_zero, Option.some.injEq, Value.int.injEq] at hn hm; rw [← hn.2, ← hm.2]
              | succ i => exact h i k1 n m (by simpa using hn) (by simpa using hm)
            · intro h
              exact ⟨h 0 k a a' rfl rfl, fun i k1 n m hn hm => h (i + 1) k1 n m (by simpa using hn) (by simpa using hm)⟩
        · cases hb
    · cases hb
  | [], _ :: _, _, _, _, hb, _, _ => by simp [eqInts] at hb
  | x :: r, [], _, _, _, hb, _, _ => by cases x <;> simp [eqInts] at hb
  | _ :: _, _ :: _, [], _, _, _, h1, _ => by simp [RepL] at h1
  | _ :: _, _ :: _, _ :: _, [], _, _, _, h2 => by simp [RepL] at h2

theorem run_forIn_all (e : Nat → Bool) (f : Nat → Option Bool × PUnit → Sem (ForInStep (Option Bool × PUnit))) : ∀ (l : List Nat),
    (∀ j ∈ l, (f j (none, PUnit.unit)).run P w = .ok (if e j then .yield (none, PUnit.unit) else .done (some false, PUnit.unit)) w) →
    (forIn l (none, PUnit.unit) f).run P w = .ok (if l.all e then (none, PUnit.unit) else (some false, PUnit.unit)) w
  | [], _ => by simp
  | j :: l, h => by
    simp only [List.forIn_cons, Sem.run_bind, h j (by simp), Result.andThen_ok]
    cases he : e j with
    | true =>
      simp only [if_true]
      rw [run_forIn_all e f l (fun j hj => h j (by simp [hj]))]
      simp [he]
    | false => simp [he]

/-- '==' of two arrays of whole numbers. -/
theorem equalIn_ints {t e : TypeId} {len : Nat} {k0 : IntKind} (ht : P.underlying t = some (.array len e)) (he : P.underlying e = some (.int k0)) (hs : tySize P e = some 1) (d : Nat)
    (vs vs' : List Value) (hl : vs.length = len) (hc : ∀ i : Nat, i < vs.length → ∃ (k : IntKind) (n m : Int), vs[i]? = some (.int k n) ∧ vs'[i]? = some (.int k m)) (b : Bool)
    (hb : b = true ↔ ∀ (i : Nat) (k : IntKind) (n m : Int), vs[i]? = some (.int k n) → vs'[i]? = some (.int k m) → n = m) :
    (Op.equalIn (d + 2) t (.agg vs.toArray) (.agg vs'.toArray)).run P w = .ok b w := by
  have hpart : ∀ (us : List Value) (i : Nat) (v : Value), us[i]? = some v → (part e us.toArray i).run P w = .ok v w := by
    intro us i v hv
    simp [part, isAgg_run P w he, isAggB, hv]
  rw [Op.equalIn]
  simp only [Sem.run_bind, run_underlying ht, Result.andThen_ok, sizeOf_run P w hs, Nat.mul_one]
  rw [Std.Legacy.Range.forIn_eq_forIn_range']
  simp only [Std.Legacy.Range.size, Nat.sub_zero, Nat.add_sub_cancel, Nat.div_one]
  have hbody : ∀ j ∈ List.range' 0 len, ((do
      let a ← part e vs.toArray j
      let b ← part e vs'.toArray j
      let r ← Op.equalIn (d + 1) e a b
      if (!r) = true then pure (ForInStep.done (some false, PUnit.unit)) else pure (ForInStep.yield (none, PUnit.unit)) : Sem (ForInStep (Option Bool × PUnit)))).run P w =
      .ok (if (match vs[j]?, vs'[j]? with | some (.int _ n), some (.int _ m) => decide (n = m) | _, _ => false) then .yield (none, PUnit.unit) else .done (some false, PUnit.unit)) w := by
    intro j hj
    have hj' : j < vs.length := by rw [hl]; simpa using hj
    obtain ⟨k, n, m, h1, h2⟩ := hc j hj'
    simp only [Sem.run_bind, hpart _ _ _ h1, hpart _ _ _ h2, Result.andThen_ok, run_equalIn_int w d e k k0 n m he, h1, h2]
    by_cases hnm : n = m
    · subst hnm; simp
    · simp [hnm]
  have := run_forIn_all (P := P) (w := w) (fun j => match vs[j]?, vs'[j]? with | some (.int _ n), some (.int _ m) => decide (n = m) | _, _ => false)
    (fun j _ => do
      let a ← part e vs.toArray j
      let b ← part e vs'.toArray j
      let r ← Op.equalIn (d + 1) e a b
      if (!r) = true then pure (ForInStep.done (some false, PUnit.unit)) else pure (ForInStep.yield (none, PUnit.unit))) (List.range' 0 len) hbody
  rw [this]
  have hall : (List.range' 0 len).all (fun j => match vs[j]?, vs'[j]? with | some (.int _ n), some (.int _ m) => decide (n = m) | _, _ => false) = b := by
    rw [Bool.eq_iff_iff, hb, List.all_eq_true]
    constructor
    · intro h i k n m hn hm
      have hi : i < len := by rw [← hl]; exact (List.getElem?_eq_some_iff.1 hn).1
      have := h i (by simpa using hi)
      rw [hn, hm] at this
      simpa using this
    · intro h j hj
      have hj' : j < vs.length := by rw [hl]; simpa using hj
      obtain ⟨k, n, m, h1, h2⟩ := hc j hj'
      rw [h1, h2]
      simpa using h j k n m h1 h2
  rw [hall]
  cases b <;> simp
end
end Go.V
