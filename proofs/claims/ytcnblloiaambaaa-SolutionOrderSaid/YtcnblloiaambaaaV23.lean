/- The logic V, part 23: the rules by which a region is walked, whether it draws its order or not. -/
import Derived.Test.YtcnblloiaambaaaV22
namespace Go.V

def FrzL (H : Hp) (ds ds' : List D) : Prop := ds'.length = ds.length ∧ ∀ (i : Nat) (x y : D), ds[i]? = some x → ds'[i]? = some y → Frz H x y

def wantedB (all : List Oper) (F : Fr) (o : Oper) : Option Bool := match o.guard with
  | none => some true
  | some (j, want) => match all[j]? with
    | some oj => match oj.dst with
      | some t => match F.get t with
        | some (.bool b) => some (b == want)
        | some (.tup _) => some false
        | _ => none
      | none => none
    | none => none

theorem wantedB_spec {all : List Oper} {F : Fr} {o : Oper} {v : Bool} (h : wantedB all F o = some v) : Wanted all F o v := by
  unfold wantedB at h
  split at h
  · rename_i hg; cases h; exact .inl ⟨hg, rfl⟩
  · rename_i j want hg
    split at h
    · rename_i oj hoj
      split at h
      · rename_i t ht
        split at h
        · rename_i b hb
          exact .inr (.inl ⟨j, want, oj, t, b, hg, hoj, ht, hb, by simpa using h⟩)
        · rename_i ds hb
          exact .inr (.inr ⟨by simpa using h.symm, j, want, oj, t, ds, hg, hoj, ht, hb⟩)
        · cases h
      · cases h
    · cases h

def dstB (n : Nat) (o : Oper) : Bool := match o.dst with
  | some t => Nat.blt t n
  | none => true

theorem dstB_spec {n : Nat} {o : Oper} (h : dstB n o = true) : dstOk n o := by
  intro t ht
  unfold dstB at h
  rw [ht] at h
  exact Nat.blt_eq ▸ h

def ordPairs (all : List Oper) (ms : List Nat) : Bool := all.zipIdx.all fun (o', j) => all.zipIdx.all fun (o, i) => !(Nat.blt i j && (clashT all o o' || clashT all o' o)) || (ms.getD j 0).testBit i
def tempsOk (all : List Oper) : Bool := ordPairs all (masks all [])

def heapPairs (es : List Ent) (ms : List Nat) : Bool := es.zipIdx.all fun (e', j) => es.zipIdx.all fun (e, i) => !(Nat.blt i j && (clashH e e' || clashH e' e)) || (ms.getD j 0).testBit i
def wildPairs (es : List Ent) (ms : List Nat) : Bool := !(es.any fun e => e.wild.isSome) || es.zipIdx.all fun (e', j) => es.zipIdx.all fun (e, i) => !(Nat.blt i j && (e.writes && e'.writes)) || (ms.getD j 0).testBit i
def heapOk (all : List Oper) (es : List Ent) : Bool := (es.all fun e => !e.writes) || (heapPairs es (masks all []) && wildPairs es (masks all []))

theorem pairs_spec {α : Type} {l : List α} {ms : List Nat} {c : α → α → Bool} (h : (l.zipIdx.all fun (e', j) => l.zipIdx.all fun (e, i) => !(Nat.blt i j && c e e') || (ms.getD j 0).testBit i) = true)
    {i j : Nat} {e e' : α} (hij : i < j) (hi : l[i]? = some e) (hj : l[j]? = some e') (hc : c e e' = true) : (ms.getD j 0).testBit i = true := by
  rw [List.all_eq_true] at h
  have h1 := h (e', j) (by rw [List.mem_zipIdx_iff_getElem?]; simpa using hj)
  simp only [List.all_eq_true] at h1
  have h2 := h1 (e, i) (by rw [List.mem_zipIdx_iff_getElem?]; simpa using hi)
  simp only [hc, Bool.and_true] at h2
  have h3 : Nat.blt i j = true := by rw [Nat.blt_eq]; exact hij
  rw [h3] at h2
  simpa using h2

theorem drawOk_of {all : Array Oper} {es : List Ent} (h1 : tempsOk all.toList = true) (h2 : heapOk all.toList es = true) : DrawOk all es := by
  unfold heapOk at h2
  rw [Bool.or_eq_true] at h2
  refine ⟨fun i j o o' hij hi hj hc => ?_, fun i j e e' hij hi hj hc => ?_, fun hw i j e e' hij hi hj ha hb => ?_⟩
  · exact pairs_spec (c := fun o o' => clashT all.toList o o' || clashT all.toList o' o) h1 hij (by simpa using hi) (by simpa using hj) hc
  · rcases h2 with h2 | h2
    · rw [List.all_eq_true] at h2
      have a := h2 e (List.mem_of_getElem? hi)
      have b := h2 e' (List.mem_of_getElem? hj)
      exfalso
      have key : ∀ {x y : Ent}, (!x.writes) = true → clashH x y = false := by
        intro x y hx
        simp only [Bool.not_eq_true', Ent.writes, Bool.or_eq_false_iff] at hx
        obtain ⟨p, q⟩ := hx
        have : x.wr = [] := by simpa using p
        simp [clashH, this, idsOf, q]
      rw [key a, key b] at hc
      cases hc
    · rw [Bool.and_eq_true] at h2
      exact pairs_spec (c := fun e e' => clashH e e' || clashH e' e) h2.1 hij hi hj hc
  · rcases h2 with h2 | h2
    · rw [List.all_eq_true] at h2
      have a := h2 e (List.mem_of_getElem? hi)
      rw [ha] at a; cases a
    · rw [Bool.and_eq_true] at h2
      have h3 := h2.2
      unfold wildPairs at h3
      rw [Bool.or_eq_true] at h3
      rcases h3 with h3 | h3
      · obtain ⟨e0, h4, h5⟩ := hw
        simp only [Bool.not_eq_true', List.any_eq_false] at h3
        exact absurd h5 (h3 e0 h4)
      · exact pairs_spec (c := fun e e' => e.writes && e'.writes) h3 hij hi hj (by simp [ha, hb])

def DrawK (P : Program) (n : Nat) (all : Array Oper) (r : List Oper) (F : Fr) (H : Hp) (L : List Ent) (K : Fr → Hp → Prop) : Prop :=
  ∃ es F' H', DrawD P n all.toList r F H es F' H' ∧ heapOk all.toList (L.reverse ++ es) = true ∧ K F' H'

/-- A region's operations from 'r' on; 'b' says whether the order is drawn, L is what was done so far. -/
def RK (b : Bool) (P : Program) (n N : Nat) (all : Array Oper) (r : List Oper) (F : Fr) (H : Hp) (L : List Ent) (K : Fr → Hp → Prop) : Prop :=
  match b with
  | false => SeqK P n N all r F H K
  | true => DrawK P n all r F H L K

section
variable {b : Bool} {P : Program} {n N : Nat} {all : Array Oper} {r : List Oper} {F : Fr} {H : Hp} {L : List Ent} {K : Fr → Hp → Prop} {o : Oper} {t : Nat} {Q : Post}

theorem W.reg {id : Nat} (h : RK false P n N all all.toList F H [] (Q .normal)) : W P n N (.region id all false) Q F H := .region_seq h

theorem W.draw {id : Nat} (hm : P.follows .mixedOrders = true) (hac : acyclic all = true) (ht : tempsOk all.toList = true) (h : RK true P n N all all.toList F H [] (Q .normal)) : W P n N (.region id all true) Q F H :=
  let ⟨_, _, _, hd, hh, hk⟩ := h
  .region_draw hm hac hd (drawOk_of ht hh) hk

/-- Nothing was written. -/
def quiet : List Ent → Bool
  | [] => true
  | ⟨_, _, [], none⟩ :: L => quiet L
  | _ => false

theorem quiet_spec : ∀ {L : List Ent}, quiet L = true → ∀ e ∈ L, e.writes = false
  | [], _, _, h => by cases h
  | ⟨d, rd, [], none⟩ :: L, hq, e, h => by
    rcases List.mem_cons.1 h with rfl | h
    · rfl
    · exact quiet_spec (L := L) hq e h
  | ⟨_, _, _ :: _, _⟩ :: _, hq, _, _ => by simp [quiet] at hq
  | ⟨_, _, [], some _⟩ :: _, hq, _, _ => by simp [quiet] at hq

theorem RK.nil (h : K F H) (hL : (bif b then quiet L || heapOk all.toList L.reverse else true) = true) : RK b P n N all [] F H L K := by
  cases b with
  | false => exact SeqK.nil h
  | true =>
    refine ⟨[], F, H, .nil, ?_, h⟩
    rw [List.append_nil]
    simp only [cond_true, Bool.or_eq_true] at hL
    rcases hL with hL | hL
    · unfold heapOk
      rw [Bool.or_eq_true]
      left
      rw [List.all_eq_true]
      intro e he
      rw [quiet_spec hL e (List.mem_reverse.1 he)]
      rfl
    · exact hL

theorem RK.skip (hw : wantedB all.toList F o = some false) (hd : dstB n o = true) (k : RK b P n N all r (putF F o.dst (.tup [])) H (⟨.tup [], [], [], none⟩ :: L) K) : RK b P n N all (o :: r) F H L K := by
  cases b with
  | false => exact SeqK.skip (wantedB_spec hw) (dstB_spec hd) k
  | true =>
    obtain ⟨es, F', H', h1, h2, h3⟩ := k
    exact ⟨_ :: es, F', H', .cons (e := ⟨.tup [], [], [], none⟩) (.skip (wantedB_spec hw)) (dstB_spec hd) (Nat.le_refl _) h1, by simpa using h2, h3⟩

theorem RK.step {d : D} {rd : List Nat} {wr : List (Nat × Option Blk)} (hw : wantedB all.toList F o = some true) (hd : dstB n o = true) (h : HStep P F H H.length o d rd wr)
    (k : RK b P n N all r (putF F o.dst d) (applyW H wr) (⟨d, rd, wr, none⟩ :: L) K) : RK b P n N all (o :: r) F H L K := by
  cases b with
  | false => exact SeqK.step (wantedB_spec hw) h (dstB_spec hd) (applyW_len_ge _ _) k
  | true =>
    obtain ⟨es, F', H', h1, h2, h3⟩ := k
    exact ⟨_ :: es, F', H', .cons (e := ⟨d, rd, wr, none⟩) (.op (wantedB_spec hw) h) (dstB_spec hd) (applyW_len_ge _ _) h1, by simpa using h2, h3⟩

theorem ValTo.mono {fv : D} {ds : List D} {R R' : D → Hp → Prop} (h : ValTo P fv ds H R) (hr : ∀ d H, R d H → R' d H) : ValTo P fv ds H R' := by
  cases fv with
  | fn f caps => exact FnTo.mono h hr
  | yield b =>
    intro w g vs h1 h2
    obtain ⟨k, nx, h3, h4, h5⟩ := h w g vs h1 h2
    refine ⟨k, nx, h3, h4, ?_⟩
    have mo : ∀ v w', (∃ d H' g', R d H' ∧ Ev H.length w g (Lof g H) w' g' (Lof g' H') ∧ HRel w' g' H' ∧ H.length ≤ H'.length ∧ Rep w' g' d v) → ∃ d H' g', R' d H' ∧ Ev H.length w g (Lof g H) w' g' (Lof g' H') ∧ HRel w' g' H' ∧ H.length ≤ H'.length ∧ Rep w' g' d v :=
      fun v w' ⟨d, H', g', a, rest⟩ => ⟨d, H', g', hr _ _ a, rest⟩
    rcases h5 with ⟨f, a, e, hc⟩ | ⟨lp, f, tm, as_, bd, e, hc⟩
    · exact .inl ⟨f, a, e, hc.mono fun e w' ⟨v, e1, r⟩ => ⟨v, e1, mo v w' r⟩⟩
    · exact .inr ⟨lp, f, tm, as_, bd, e, fun c cs => let ⟨v, w', r, s⟩ := hc c cs; ⟨v, w', mo v w' r, s⟩⟩
  | _ => exact h.elim

/-- A call of a function that computes a value and leaves the heap alone. -/
theorem RK.callV {fo : Operand} {args : Array Operand} {at_ : Array TypeId} {fv : D} {ds : List D} {d : D} (hw : wantedB all.toList F o = some true) (hd : dstB n o = true) (ho : o.op = .call { callee := .value fo, args, argTypes := at_ }) (hf : F.eval fo = some fv) (ha : evals F args.toList = some ds)
    (h : ∀ H, ValTo P fv ds H fun d' H' => d' = d ∧ H' = H) (k : RK b P n N all r (putF F o.dst d) H (⟨d, [], [], none⟩ :: L) K) : RK b P n N all (o :: r) F H L K := by
  cases b with
  | false => exact SeqK.call (wantedB_spec hw) ho hf ha (h H) (dstB_spec hd) (fun d' H' ⟨e1, e2⟩ => by subst e1; subst e2; exact k)
  | true =>
    obtain ⟨es, F', H', h1, h2, h3⟩ := k
    exact ⟨_ :: es, F', H', .cons (e := ⟨d, [], [], none⟩) (.call (wantedB_spec hw) ho hf ha (by simp) (fun H' _ => h H')) (dstB_spec hd) (Nat.le_refl _) h1, by simpa using h2, h3⟩

/-- A call of a plain function. -/
theorem RK.call {f : FuncId} {args : Array Operand} {at_ : Array TypeId} {ds : List D} {d : D} (h : PureFn P f ds d) (hw : wantedB all.toList F o = some true) (hd : dstB n o = true) (ho : o.op = .call { callee := .value (.func f), args, argTypes := at_ }) (ha : evals F args.toList = some ds)
    (k : RK b P n N all r (putF F o.dst d) H (⟨d, [], [], none⟩ :: L) K) : RK b P n N all (o :: r) F H L K :=
  .callV hw hd ho rfl ha (fun H => by show FnTo P f (ds ++ []) H _; rw [List.append_nil]; exact h H) k

/-- A call whose arguments are live slices, that only reads them. -/
theorem RK.callB {f : FuncId} {args : Array Operand} {at_ : Array TypeId} {ds ds' : List D} {d : D} (h : PureFn P f ds' d) (hfl : d.flat = true) (hno : ∀ (b : Nat) (r : Loop) (F : Fr), H[b]? ≠ some (some (.loop r F))) (hw : wantedB all.toList F o = some true) (hd : dstB n o = true) (ho : o.op = .call { callee := .value (.func f), args, argTypes := at_ }) (ha : evals F args.toList = some ds)
    (hz : FrzL H ds ds') (k : RK false P n N all r (putF F o.dst d) H [] K) : RK false P n N all (o :: r) F H [] K :=
  SeqK.call (R := fun d' H' => d' = d ∧ H' = H) (wantedB_spec hw) ho rfl ha (by show FnTo P f (ds ++ []) H _; rw [List.append_nil]; exact FnTo.borrow hz hno hfl h) (dstB_spec hd) (fun d' H' ⟨e1, e2⟩ => by subst e1; subst e2; exact k)

/-- A call of anything, in a region that keeps the order of its text. -/
theorem RK.callR {fo : Operand} {args : Array Operand} {at_ : Array TypeId} {fv : D} {ds : List D} {R : D → Hp → Prop} (h : ValTo P fv ds H R) (hw : wantedB all.toList F o = some true) (hd : dstB n o = true) (ho : o.op = .call { callee := .value fo, args, argTypes := at_ }) (hf : F.eval fo = some fv) (ha : evals F args.toList = some ds)
    (k : ∀ d H', R d H' → RK false P n N all r (putF F o.dst d) H' [] K) : RK false P n N all (o :: r) F H L K :=
  SeqK.call (wantedB_spec hw) ho hf ha h (dstB_spec hd) k

/-- An operation that neither reads nor writes live memory. -/
theorem RK.p {pre : Prop} {d : D} (hw : wantedB all.toList F o = some true) (hd : dstB n o = true) (hv : vop P F o.op = some (pre, d)) (hp : pre) (k : RK b P n N all r (putF F o.dst d) H (⟨d, [], [], none⟩ :: L) K) : RK b P n N all (o :: r) F H L K :=
  .step hw hd (.pure hv hp) k

/-- The same, its value written otherwise. -/
theorem RK.pe (d' : D) {pre : Prop} {d : D} (hw : wantedB all.toList F o = some true) (hd : dstB n o = true) (hv : vop P F o.op = some (pre, d)) (hp : pre) (he : d = d') (k : RK b P n N all r (putF F o.dst d') H (⟨d', [], [], none⟩ :: L) K) : RK b P n N all (o :: r) F H L K := by
  subst he
  exact .step hw hd (.pure hv hp) k

/-- The address of a slice's element. -/
theorem RK.ix (j : Nat) {ty e : TypeId} {x i : Operand} {cs : List D} {len s : Nat} {tt : Bool} {kk : IntKind} {m : Int} (hw : wantedB all.toList F o = some true) (hd : dstB n o = true) (ho : o.op = .indexAddr ty x i) (hu : P.underlying ty = some (.slice e)) (hs : tySize P e = some s) (hx : F.eval x = some (.snap cs len tt)) (hi : F.eval i = some (.int kk m))
    (hj : m = (j : Int)) (hlt : j < len) (k : RK b P n N all r (putF F o.dst (.sptr cs (j * s))) H (⟨.sptr cs (j * s), [], [], none⟩ :: L) K) : RK b P n N all (o :: r) F H L K := by
  subst hj
  refine .step hw hd (.pure (pre := 0 ≤ (j : Int) ∧ (j : Int) < len) ?_ ⟨by omega, by omega⟩) k
  rw [ho]
  simp only [vop, hu, hx, hi, hs, Int.toNat_natCast]

/-- A cell that is read. -/
theorem RK.ld (d : D) {ty : TypeId} {x : Operand} {u : TypeDesc} {cs : List D} {off : Nat} (hw : wantedB all.toList F o = some true) (hd : dstB n o = true) (ho : o.op = .load ty x) (hx : F.eval x = some (.sptr cs off)) (hu : P.underlying ty = some u) (ha : isAggB u = false) (hc : cs[off]? = some d)
    (k : RK b P n N all r (putF F o.dst d) H (⟨d, [], [], none⟩ :: L) K) : RK b P n N all (o :: r) F H L K :=
  .step hw hd (.loadS ho hx hu ha hc) k

/-- Cells that are read together. -/
theorem RK.lda (rs : List D) {ty : TypeId} {x : Operand} {u : TypeDesc} {s : Nat} {cs : List D} {off : Nat} (hw : wantedB all.toList F o = some true) (hd : dstB n o = true) (ho : o.op = .load ty x) (hx : F.eval x = some (.sptr cs off)) (hu : P.underlying ty = some u) (ha : isAggB u = true) (hs : tySize P ty = some s) (hc : takeR cs off s = some rs)
    (k : RK b P n N all r (putF F o.dst (.agg rs)) H (⟨.agg rs, [], [], none⟩ :: L) K) : RK b P n N all (o :: r) F H L K :=
  .step hw hd (.loadSA ho hx hu ha hs hc) k

/-- What a flag is, is looked at. -/
theorem RK.split {p : Bool} (h1 : p = true → RK b P n N all r ((t, .bool true) :: F) H L K) (h2 : p = false → RK b P n N all r ((t, .bool false) :: F) H L K) : RK b P n N all r ((t, .bool p) :: F) H L K := by
  cases p with
  | true => exact h1 rfl
  | false => exact h2 rfl

theorem RK.dsplit {p : Prop} {i : Decidable p} (h1 : p → RK b P n N all r ((t, .bool true) :: F) H L K) (h2 : ¬ p → RK b P n N all r ((t, .bool false) :: F) H L K) : RK b P n N all r ((t, .bool (decide p)) :: F) H L K :=
  .split (fun h => h1 (of_decide_eq_true h)) (fun h => h2 (of_decide_eq_false h))

end
end Go.V
