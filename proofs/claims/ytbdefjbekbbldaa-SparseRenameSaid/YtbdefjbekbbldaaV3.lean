import Derived.Test.YtbdefjbekbbldaaV2
import Derived.Deep.Slices
import Derived.ChangeSame
import Derived.Below
import Derived.RangeFuncRecord
import Derived.RangeFuncIn
import Derived.OpenShut
set_option linter.unusedVariables false
set_option linter.unusedSimpArgs false
set_option linter.unnecessarySimpa false
/- The logic V, part 24: small rules for walking code. -/
namespace Go.V
section
variable {P : Program} {n N : Nat} {F : Fr} {H : Hp} {Q : Post} {y : Code}

theorem W.sreg {id : Nat} {all : Array Oper} (h : RK false P n N all all.toList F H [] (fun F H => W P n N y Q F H)) : W P n N (.seq (.region id all false) y) Q F H :=
  .seq (.reg h)

theorem W.sdraw {id : Nat} {all : Array Oper} (hm : P.follows .mixedOrders = true) (hac : acyclic all = true) (ht : tempsOk all.toList = true) (h : RK true P n N all all.toList F H [] (fun F H => W P n N y Q F H)) : W P n N (.seq (.region id all true) y) Q F H :=
  .seq (.draw hm hac ht h)

theorem W.sskip (h : W P n N y Q F H) : W P n N (.seq .skip y) Q F H := .seq (.skip h)
theorem W.slabel {l : Nat} (h : W P n N y Q F H) : W P n N (.seq (.label l) y) Q F H := .seq (.label h)

theorem W.condT {c : Operand} {x z : Code} (hc : F.eval c = some (.bool true)) (h : W P n N x Q F H) : W P n N (.cond c x z) Q F H := .cond hc (fun _ => h) (fun h => by cases h)
theorem W.condF {c : Operand} {x z : Code} (hc : F.eval c = some (.bool false)) (h : W P n N z Q F H) : W P n N (.cond c x z) Q F H := .cond hc (fun h => by cases h) (fun _ => h)

theorem W.sexit {i : Nat} (h : Q (.exit i) F H) : W P n N (.seq (.exit i) y) Q F H := .seq (.exit h)
theorem W.sret (h : Q .ret F H) : W P n N (.seq .ret y) Q F H := .seq (.ret h)
end

theorem wrap64 {x : Int} (h1 : -9223372036854775808 ≤ x) (h2 : x ≤ 9223372036854775807) : IntKind.i64.wrap x = x := by
  unfold IntKind.wrap
  have hb : (2 ^ IntKind.i64.bits : Int) = 18446744073709551616 := by decide
  have hb' : (2 ^ (IntKind.i64.bits - 1) : Int) = 9223372036854775808 := by decide
  have hs : IntKind.i64.signed = true := rfl
  simp only [hb, hb', hs, Bool.true_and, decide_eq_true_eq]
  split <;> omega

theorem WkF.nil' {F : Fr} : ∀ t d', Fr.get [] t = some d' → ∃ d, F.get t = some d ∧ Wk d d' := fun _ _ h => by cases h

/-- F' tells less than F. -/
def FrWk : Fr → Fr → Prop
  | [], _ => True
  | (t, d') :: F', F => (∃ d, F.get t = some d ∧ Wk d d') ∧ FrWk F' F

theorem FrWk.get : ∀ {F' F : Fr}, FrWk F' F → ∀ t d', F'.get t = some d' → ∃ d, F.get t = some d ∧ Wk d d'
  | [], _, _, _, _, h => by cases h
  | (u, e) :: F', F, hr, t, d', h => by
    simp only [Fr.get] at h
    cases hb : Nat.beq u t with
    | true =>
      rw [hb] at h
      simp only [cond_true, Option.some.injEq] at h
      subst h
      obtain rfl := Nat.eq_of_beq_eq_true hb
      exact hr.1
    | false => rw [hb] at h; exact FrWk.get hr.2 t d' h

theorem To.wk {N : Nat} {F' F : Fr} {H : Hp} (h : FrWk F' F) : To N F' H F H := .same (FrWk.get h) rfl

theorem Wk.of_eq {d d' : D} (h : d = d') : Wk d d' := h ▸ .refl d
theorem Wk.tight {cs : List D} {n : Nat} {t : Bool} : Wk (.snap cs n t) (.snap cs n false) := .snap (Nat.le_refl _) (fun h => by cases h) (fun i x y hx hy => by rw [hx] at hy; cases hy; exact .refl _)

theorem W.wk {P : Program} {n N : Nat} {F F' : Fr} {H : Hp} {Q : Post} {c : Code} (h : FrWk F' F) (k : W P n N c Q F' H) : W P n N c Q F H := .to (.wk h) k

/-- What a round of a range leaves. -/
def rangeQ (B B' : Nat) (N : Nat) (ti tn : Nat) (m : Nat) (G : Nat → Fr) (Hs : Nat → Hp) (C : Nat → Prop) (i : Nat) (Q : Post) : Post := fun e F H =>
  match e with
  | .normal => C (i + 1) ∧ To N ((ti, .int .i64 (i : Int)) :: (tn, .int .i64 (m : Int)) :: G (i + 1)) (Hs (i + 1)) F H
  | .exit j => bif Nat.beq j B' then C (i + 1) ∧ To N ((ti, .int .i64 (i : Int)) :: (tn, .int .i64 (m : Int)) :: G (i + 1)) (Hs (i + 1)) F H
      else bif Nat.beq j B then Q .normal F H else Q (.exit j) F H
  | .ret => Q .ret F H

theorem W.range {P : Program} {n N : Nat} {F : Fr} {H : Hp} {Q : Post} {B B' r1 r2 ti tn tc tj : Nat} {T1 T2 T3 T4 : TypeId} {o1 o2 o3 : Oper} {body : Code} (m : Nat) (G : Nat → Fr) (Hs : Nat → Hp) (C : Nat → Prop)
    (h1 : o1.op = .binOp .lss T1 (.tmp ti) (.tmp tn) T2) (d1 : o1.dst = some tc) (g1 : o1.guard = none)
    (h2 : o2.op = .binOp .add T3 (.tmp ti) (.const (.int .i64 1)) T4) (d2 : o2.dst = some tj) (g2 : o2.guard = none)
    (h3 : o3.op = .move (.tmp tj)) (d3 : o3.dst = some ti) (g3 : o3.guard = none)
    (hn : (Nat.blt tc n && Nat.blt tj n && Nat.blt ti n && !Nat.beq tc ti && !Nat.beq tc tn && !Nat.beq ti tn && !Nat.beq tj ti && !Nat.beq tj tn && !Nat.beq B' B) = true) (hm : m ≤ 9223372036854775807)
    (c0 : C 0) (h0 : To N ((ti, .int .i64 (0 : Nat)) :: (tn, .int .i64 (m : Int)) :: G 0) (Hs 0) F H)
    (hfree : ∀ i, (G i).get tj = none)
    (round : ∀ i, i < m → C i → W P n N body (rangeQ B B' N ti tn m G Hs C i Q) ((tc, .bool true) :: (ti, .int .i64 (i : Int)) :: (tn, .int .i64 (m : Int)) :: G i) (Hs i))
    (done : C m → Q .normal ((tc, .bool false) :: (ti, .int .i64 (m : Int)) :: (tn, .int .i64 (m : Int)) :: G m) (Hs m)) :
    W P n N (.block B (.loop (.seq (.region r1 #[o1] false) (.seq (.cond (.tmp tc) .skip (.exit B)) (.seq (.block B' body) (.region r2 #[o2, o3] false)))))) Q F H := by
  simp only [Bool.and_eq_true, Bool.not_eq_true'] at hn
  obtain ⟨⟨⟨⟨⟨⟨⟨⟨n1, n2⟩, n3⟩, n4⟩, n5⟩, n6⟩, n7⟩, n8⟩, n9⟩ := hn
  have w1 : ∀ F, wantedB [o1] F o1 = some true := fun F => by simp [wantedB, g1]
  have w2 : ∀ F, wantedB [o2, o3] F o2 = some true := fun F => by simp [wantedB, g2]
  have w3 : ∀ F, wantedB [o2, o3] F o3 = some true := fun F => by simp [wantedB, g3]
  refine .block (.loopT (fun i => i ≤ m ∧ C i) (fun i => m - i) (fun i => (ti, .int .i64 (i : Int)) :: (tn, .int .i64 (m : Int)) :: G i) Hs 0 ⟨Nat.zero_le _, c0⟩ h0 ?_)
  rintro i ⟨him, hC⟩
  have ev1 : vop P ((ti, .int .i64 (i : Int)) :: (tn, .int .i64 (m : Int)) :: G i) o1.op = some (True, .bool (decide ((i : Int) < m))) := by
    rw [h1]
    simp only [vop, Fr.eval, Fr.get, Nat.beq_refl, cond_true, n6, cond_false]
    rfl
  refine .sreg (.p (w1 _) (by simp [dstB, d1, n1]) ev1 trivial (.nil ?_ rfl))
  rw [d1]
  show W P n N _ _ ((tc, .bool (decide ((i : Int) < m))) :: (ti, .int .i64 (i : Int)) :: (tn, .int .i64 (m : Int)) :: G i) (Hs i)
  have hc : Fr.eval ((tc, .bool (decide ((i : Int) < m))) :: (ti, .int .i64 (i : Int)) :: (tn, .int .i64 (m : Int)) :: G i) (.tmp tc) = some (.bool (decide ((i : Int) < m))) := by
    simp only [Fr.eval, Fr.get, Nat.beq_refl, cond_true]
  refine .seq (.cond_dec hc (fun hlt => .skip ?_) (fun hge => .exit ?_))
  · have hlt' : i < m := by omega
    rw [decide_eq_true hlt]
    refine .seq (.block ((round i hlt' hC).mono fun e F' H' hq => ?_))
    have next : C (i + 1) ∧ To N ((ti, .int .i64 (i : Int)) :: (tn, .int .i64 (m : Int)) :: G (i + 1)) (Hs (i + 1)) F' H' →
        W P n N (.region r2 #[o2, o3] false) (loopQ (fun i => m - i) i (fun a F H => (a ≤ m ∧ C a) ∧ To N ((ti, .int .i64 (a : Int)) :: (tn, .int .i64 (m : Int)) :: G a) (Hs a) F H) (blockQ B Q)) F' H' := by
      rintro ⟨hC', hto⟩
      refine .to hto ?_
      have e2 : vop P ((ti, .int .i64 (i : Int)) :: (tn, .int .i64 (m : Int)) :: G (i + 1)) o2.op = some (True, .int .i64 (IntKind.i64.wrap (i + 1))) := by
        rw [h2]
        simp only [vop, Fr.eval, Fr.get, Nat.beq_refl, cond_true, ofVal, ofScalar]
        rfl
      refine .reg (.pe (.int .i64 ((i + 1 : Nat) : Int)) (w2 _) (by simp [dstB, d2, n2]) e2 trivial (by rw [wrap64 (by omega) (by omega)]; rfl) ?_)
      rw [d2]
      have e3 : vop P ((tj, .int .i64 ((i + 1 : Nat) : Int)) :: (ti, .int .i64 (i : Int)) :: (tn, .int .i64 (m : Int)) :: G (i + 1)) o3.op = some (True, .int .i64 ((i + 1 : Nat) : Int)) := by
        rw [h3]
        simp only [vop, Fr.eval, Fr.get, Nat.beq_refl, cond_true]
      refine .p (w3 _) (by simp [dstB, d3, n3]) e3 trivial (.nil ?_ rfl)
      rw [d3]
      refine ⟨i + 1, (by show m - (i + 1) < m - i; omega), ⟨by omega, hC'⟩, .same (fun t d' hd => ⟨d', ?_, .refl _⟩) rfl⟩
      simp only [putF, Fr.get] at hd ⊢
      cases hb : Nat.beq ti t with
      | true => rw [hb] at hd; exact hd
      | false =>
        rw [hb] at hd
        simp only [cond_false] at hd ⊢
        cases hb2 : Nat.beq tn t with
        | true =>
          obtain rfl := Nat.eq_of_beq_eq_true hb2
          simp only [n8, Nat.beq_refl, cond_false, cond_true] at hd ⊢
          exact hd
        | false =>
          rw [hb2] at hd
          simp only [cond_false] at hd ⊢
          cases hb3 : Nat.beq tj t with
          | true =>
            obtain rfl := Nat.eq_of_beq_eq_true hb3
            rw [hfree] at hd
            cases hd
          | false => exact hd
    cases e with
    | normal => exact next hq
    | ret => exact hq
    | exit j =>
      simp only [rangeQ] at hq
      show blockQ B' _ (.exit j) F' H'
      simp only [blockQ]
      cases hb : Nat.beq j B' with
      | true => rw [hb] at hq; exact next hq
      | false =>
        rw [hb] at hq
        simp only [cond_false] at hq ⊢
        simp only [thenQ, loopQ, blockQ]
        exact hq
  · have : i = m := by omega
    subst this
    rw [decide_eq_false hge]
    show blockQ B Q (.exit B) _ _
    simp only [blockQ, Nat.beq_refl, cond_true]
    exact done hC

end Go.V

/- The logic V, part 25: functions that compute values. -/
namespace Go.V

def noLoopB : Hp → Bool
  | [] => true
  | some (.loop _ _) :: _ => false
  | _ :: r => noLoopB r

theorem noLoopB_spec : ∀ {H : Hp}, noLoopB H = true → ∀ (b : Nat) (r : Loop) (F : Fr), H[b]? ≠ some (some (.loop r F))
  | [], _, b, r, F => by simp
  | none :: H, h, b, r, F => by
    cases b with
    | zero => simp
    | succ b => simpa using noLoopB_spec (H := H) h b r F
  | some (.cells _) :: H, h, b, r, F => by
    cases b with
    | zero => simp
    | succ b => simpa using noLoopB_spec (H := H) h b r F
  | some (.loop _ _) :: H, h, b, r, F => by cases h

def PureL : List D → Prop
  | [] => True
  | d :: r => Pure d ∧ PureL r

theorem PureL.mem : ∀ {ds : List D}, PureL ds → ∀ d ∈ ds, Pure d
  | [], _, _, h => by cases h
  | x :: r, hp, d, h => by
    rcases List.mem_cons.1 h with rfl | h
    · exact hp.1
    · exact PureL.mem hp.2 d h

theorem PureL.of {ds : List D} (h : ∀ d ∈ ds, Pure d) : PureL ds := by
  induction ds with
  | nil => trivial
  | cons x r ih => exact ⟨h x (by simp), ih (fun d hd => h d (by simp [hd]))⟩

theorem FrzL.nil {H : Hp} : FrzL H [] [] := ⟨rfl, by simp⟩
theorem FrzL.cons {H : Hp} {x y : D} {ds ds' : List D} (h : Frz H x y) (t : FrzL H ds ds') : FrzL H (x :: ds) (y :: ds') := by
  refine ⟨by simp [t.1], fun i a b ha hb => ?_⟩
  cases i with
  | zero => simp only [List.getElem?_cons_zero, Option.some.injEq] at ha hb; subst ha; subst hb; exact h
  | succ i => exact t.2 i a b (by simpa using ha) (by simpa using hb)

theorem FrzL.pure {H : Hp} {ds : List D} (h : ∀ d ∈ ds, Pure d) : FrzL H ds ds :=
  ⟨rfl, fun i x y hx hy => by rw [hx] at hy; cases hy; exact .pure (h x (List.mem_of_getElem? hx)) (.refl _)⟩

theorem Frz.tupL {H : Hp} {ds ds' : List D} (h : FrzL H ds ds') : Frz H (.tup ds) (.tup ds') := .tup h.1 h.2
theorem Frz.aggL {H : Hp} {ds ds' : List D} (h : FrzL H ds ds') : Frz H (.agg ds) (.agg ds') := .agg h.1 h.2
theorem Frz.eq {H : Hp} {d d' : D} (hp : Pure d) (h : d = d') : Frz H d d' := h ▸ .pure hp (.refl _)
theorem Frz.bool {H : Hp} {a b : Bool} (h : a = b) : Frz H (.bool a) (.bool b) := .eq (.bool _) (by rw [h])
theorem Frz.int {H : Hp} {k : IntKind} {a b : Int} (h : a = b) : Frz H (.int k a) (.int k b) := .eq (.int _ _) (by rw [h])

def pureQ (P : Program) (fn : Func) (d : D) : Post := fun e F H =>
  match e with
  | .exit _ => False
  | _ => ∃ d', resD P fn.results.toList F H = some d' ∧ Frz H d' d ∧ noLoopB H = true

theorem PureFn.of_W {P : Program} {f : FuncId} {fn : Func} {c : Code} {args : List D} {d : D} (hp : PureL args) (he : ∀ (args : Array Value) (w : World), (callFunc f args).run P w = .ok (.enter f args) w) (hf : P.funcs[f]? = some fn) (hb : fn.body = some c)
    (hn : Nat.ble args.length fn.ntmps = true) (h : W P fn.ntmps 0 c (pureQ P fn d) (argsFr 0 args) []) : PureFn P f args d :=
  .of_nil hp.mem (.of_W he hf hb (Nat.le_of_ble_eq_true hn) (h.mono fun e F H hq => by
    cases e with
    | exit i => exact hq
    | normal => obtain ⟨d', h1, h2, h3⟩ := hq; exact ⟨d', h1, h2, noLoopB_spec h3⟩
    | ret => obtain ⟨d', h1, h2, h3⟩ := hq; exact ⟨d', h1, h2, noLoopB_spec h3⟩))

/-- A list of whole numbers. -/
def encI (k : IntKind) (xs : List Int) : D := .snap (xs.map (.int k)) xs.length false

theorem encI_pure (k : IntKind) (xs : List Int) : Pure (encI k xs) := .snap (by
  intro d hd
  obtain ⟨x, _, rfl⟩ := List.mem_map.1 hd
  exact .int _ _)

/-- A list of values of one cell each. -/
def encL {α : Type} (f : α → D) (xs : List α) : D := .snap (xs.map f) xs.length false

theorem encL_pure {α : Type} {f : α → D} {xs : List α} (h : ∀ x ∈ xs, Pure (f x)) : Pure (encL f xs) := .snap (by
  intro d hd
  obtain ⟨x, hx, rfl⟩ := List.mem_map.1 hd
  exact h x hx)

theorem map_get {α β : Type} {f : α → β} {xs : List α} {i off : Nat} (h : i < xs.length) (ho : off = i) : (xs.map f)[off]? = some (f xs[i]) := by
  subst ho; simp [h]

/-- A list of values of several cells each. -/
def encS {α : Type} (f : α → List D) (xs : List α) : D := .snap (xs.flatMap f) xs.length false

theorem encS_pure {α : Type} {f : α → List D} {xs : List α} (h : ∀ x ∈ xs, ∀ d ∈ f x, Pure d) : Pure (encS f xs) := .snap (by
  intro d hd
  obtain ⟨x, hx, hd⟩ := List.mem_flatMap.1 hd
  exact h x hx d hd)

theorem flat_get {α : Type} {f : α → List D} {s : Nat} (hs : ∀ x, (f x).length = s) : ∀ {xs : List α} {i j off : Nat} (h : i < xs.length) (_ : j < s) (_ : off = i * s + j), (xs.flatMap f)[off]? = (f xs[i])[j]?
  | [], i, j, _, h, _, _ => by simp at h
  | x :: xs, 0, j, _, h, hj, rfl => by
    simp only [List.flatMap_cons, List.getElem_cons_zero]
    rw [List.getElem?_append_left (by rw [hs]; omega)]
    congr 1
    omega
  | x :: xs, i + 1, j, _, h, hj, rfl => by
    simp only [List.flatMap_cons, List.getElem_cons_succ]
    rw [List.getElem?_append_right (by rw [hs, Nat.add_mul]; omega)]
    refine flat_get hs (by simpa using h) hj ?_
    rw [hs, Nat.add_mul]
    omega

theorem takeR_of : ∀ (s : Nat) (cs : List D) (off : Nat) (r : List D), 0 < s → r.length = s → (∀ j, j < s → cs[off + j]? = r[j]?) → takeR cs off s = some r
  | 0, _, _, _, h0, _, _ => absurd h0 (Nat.lt_irrefl 0)
  | s + 1, [], 0, r, _, hl, h => by
    have := h 0 (by omega)
    cases r with
    | nil => simp at hl
    | cons a r => simp at this
  | 1, c :: cs, 0, r, _, hl, h => by
    match r, hl with
    | [a], _ =>
      have h0 := h 0 (by omega)
      simp at h0
      subst h0
      cases cs <;> rfl
  | s + 2, c :: cs, 0, r, _, hl, h => by
    cases r with
    | nil => simp at hl
    | cons a r =>
      have h0 := h 0 (by omega)
      simp at h0
      subst h0
      have := takeR_of (s + 1) cs 0 r (by omega) (by simpa using hl) (fun j hj => by have := h (j + 1) (by omega); simpa [Nat.add_assoc] using this)
      simp [takeR, this]
  | s + 1, [], off + 1, r, _, hl, h => by
    have := h 0 (by omega)
    cases r with
    | nil => simp at hl
    | cons a r => simp at this
  | s + 1, c :: cs, off + 1, r, _, hl, h => by
    have := takeR_of (s + 1) cs off r (by omega) hl (fun j hj => by have := h j hj; rw [show off + 1 + j = (off + j) + 1 by omega] at this; simpa using this)
    simpa [takeR] using this

theorem flat_take {α : Type} {f : α → List D} {s : Nat} (hs : ∀ x, (f x).length = s) (h0 : 0 < s) {xs : List α} {i off : Nat} (h : i < xs.length) (ho : off = i * s) : takeR (xs.flatMap f) off s = some (f xs[i]) :=
  takeR_of _ _ _ _ h0 (hs _) fun j hj => by subst ho; exact flat_get hs h hj rfl

end Go.V

/- The logic V, part 26: the rules for operations on live memory. -/
namespace Go.V

theorem pushR_spec : ∀ {H : Hp} {x : Blk} {H' : Hp}, H.pushR x = some H' → H' = H ++ [some x]
  | [], x, H', h => by simpa [Hp.pushR] using h.symm
  | y :: r, x, H', h => by
    simp only [Hp.pushR] at h
    split at h
    · rename_i r' hr
      cases h
      rw [pushR_spec hr]; rfl
    · cases h

theorem setR_spec : ∀ {H : Hp} {b : Nat} {x : Option Blk} {H' : Hp}, H.setR b x = some H' → b < H.length ∧ H' = H.set b x
  | [], _, _, _, h => by simp [Hp.setR] at h
  | y :: r, 0, x, H', h => by
    simp only [Hp.setR, Option.some.injEq] at h
    subst h
    exact ⟨by simp, rfl⟩
  | y :: r, b + 1, x, H', h => by
    simp only [Hp.setR] at h
    split at h
    · rename_i r' hr
      cases h
      obtain ⟨h1, h2⟩ := setR_spec hr
      exact ⟨by simpa using h1, by rw [h2]; rfl⟩
    · cases h

section
variable {b : Bool} {P : Program} {n N : Nat} {all : Array Oper} {r : List Oper} {F : Fr} {H H' : Hp} {L : List Ent} {K : Fr → Hp → Prop} {o : Oper} {t : Nat} {Q : Post}

theorem RK.push (l : Nat) {d : D} {rd : List Nat} {x : Blk} (hl : H.length = l) (hw : wantedB all.toList F o = some true) (hd : dstB n o = true) (h : HStep P F H H.length o d rd [(H.length, some x)]) (hp : H.pushR x = some H')
    (k : RK b P n N all r (putF F o.dst d) H' (⟨d, rd, [(l, some x)], none⟩ :: L) K) : RK b P n N all (o :: r) F H L K := by
  subst hl
  refine .step hw hd h ?_
  have : applyW H [(H.length, some x)] = H' := by
    rw [pushR_spec hp]
    simp [applyW, putAt]
  rw [this]
  exact k

theorem RK.setB {d : D} {rd : List Nat} {bb : Nat} {x : Blk} (hw : wantedB all.toList F o = some true) (hd : dstB n o = true) (h : HStep P F H H.length o d rd [(bb, some x)]) (hp : H.setR bb (some x) = some H')
    (k : RK b P n N all r (putF F o.dst d) H' (⟨d, rd, [(bb, some x)], none⟩ :: L) K) : RK b P n N all (o :: r) F H L K := by
  refine .step hw hd h ?_
  obtain ⟨h1, h2⟩ := setR_spec hp
  have : applyW H [(bb, some x)] = H' := by
    rw [h2]
    simp [applyW, putAt, h1]
  rw [this]
  exact k

theorem RK.alloc (l : Nat) {t : TypeId} {z : D} (hl : H.length = l) (hw : wantedB all.toList F o = some true) (hd : dstB n o = true) (ho : o.op = .alloc t) (hz : zeroD P t = some z) (hn : z.notTup = true) (hp : H.pushR (.cells z.cells) = some H')
    (k : RK b P n N all r (putF F o.dst (.ptr l 0)) H' (⟨.ptr l 0, [], [(l, some (.cells z.cells))], none⟩ :: L) K) : RK b P n N all (o :: r) F H L K := by
  subst hl
  exact .push _ rfl hw hd (.alloc ho hz hn) hp k

theorem RK.box (l : Nat) {t : TypeId} {x : Operand} {d : D} (hl : H.length = l) (hw : wantedB all.toList F o = some true) (hd : dstB n o = true) (ho : o.op = .box t x) (hx : F.eval x = some d) (hn : d.notTup = true) (hp : H.pushR (.cells d.cells) = some H')
    (k : RK b P n N all r (putF F o.dst (.ptr l 0)) H' (⟨.ptr l 0, [], [(l, some (.cells d.cells))], none⟩ :: L) K) : RK b P n N all (o :: r) F H L K := by
  subst hl
  exact .push _ rfl hw hd (.box ho hx hn) hp k

theorem RK.store {t : TypeId} {x y : Operand} {bb off : Nat} {cs rs : List D} {d : D} (hw : wantedB all.toList F o = some true) (hd : dstB n o = true) (ho : o.op = .store t x y) (hx : F.eval x = some (.ptr bb off)) (hy : F.eval y = some d) (hs : tySize P t = some d.cells.length) (hn : d.notTup = true)
    (hb : H[bb]? = some (some (.cells cs))) (hr : overR cs off d.cells = some rs) (hp : H.setR bb (some (.cells rs)) = some H')
    (k : RK b P n N all r (putF F o.dst (.tup [])) H' (⟨.tup [], [bb], [(bb, some (.cells rs))], none⟩ :: L) K) : RK b P n N all (o :: r) F H L K :=
  .setB hw hd (.store ho hx hy hs hn hb hr) hp k

/-- A cell of live memory is read. -/
theorem RK.ldl {t : TypeId} {x : Operand} {u : TypeDesc} {bb off : Nat} {cs : List D} {d : D} (hw : wantedB all.toList F o = some true) (hd : dstB n o = true) (ho : o.op = .load t x) (hx : F.eval x = some (.ptr bb off)) (hu : P.underlying t = some u) (ha : isAggB u = false) (hs : (tySize P t).isSome = true)
    (hb : H[bb]? = some (some (.cells cs))) (hc : cs[off]? = some d) (k : RK b P n N all r (putF F o.dst d) H (⟨d, [bb], [], none⟩ :: L) K) : RK b P n N all (o :: r) F H L K :=
  .step hw hd (.load ho hx hu ha hs hb hc) k

theorem RK.ldla {t : TypeId} {x : Operand} {u : TypeDesc} {s bb off : Nat} {cs rs : List D} (hw : wantedB all.toList F o = some true) (hd : dstB n o = true) (ho : o.op = .load t x) (hx : F.eval x = some (.ptr bb off)) (hu : P.underlying t = some u) (ha : isAggB u = true) (hs : tySize P t = some s)
    (hb : H[bb]? = some (some (.cells cs))) (hc : takeR cs off s = some rs) (k : RK b P n N all r (putF F o.dst (.agg rs)) H (⟨.agg rs, [bb], [], none⟩ :: L) K) : RK b P n N all (o :: r) F H L K :=
  .step hw hd (.loadA ho hx hu ha hs hb hc) k

/-- An element's address in a live slice. -/
theorem RK.ixl (j of : Nat) {ty e : TypeId} {x i : Operand} {bb off len c sz s : Nat} {kk : IntKind} {m : Int} (hw : wantedB all.toList F o = some true) (hd : dstB n o = true) (ho : o.op = .indexAddr ty x i) (hu : P.underlying ty = some (.slice e)) (hs : tySize P e = some s) (hx : F.eval x = some (.live bb off len c sz)) (hi : F.eval i = some (.int kk m))
    (hj : m = (j : Int)) (hlt : j < len) (he : off + j * s = of) (k : RK b P n N all r (putF F o.dst (.ptr bb of)) H (⟨.ptr bb of, [], [], none⟩ :: L) K) : RK b P n N all (o :: r) F H L K := by
  subst hj; subst he
  refine .step hw hd (.pure (pre := 0 ≤ (j : Int) ∧ (j : Int) < len) ?_ ⟨by omega, by omega⟩) k
  rw [ho]
  simp only [vop, hu, hx, hi, hs, Int.toNat_natCast]

/-- A piece of a fixed row. -/
theorem RK.sl (s l h : Nat) {d : D} {ty e : TypeId} {x : Operand} {lo hi : Option Operand} {cs : List D} {len : Nat} {tt : Bool} {li hh : Int} (hw : wantedB all.toList F o = some true) (hd : dstB n o = true) (ho : o.op = .slice ty x lo hi none) (hu : P.underlying ty = some (.slice e)) (hs : tySize P e = some s) (hx : F.eval x = some (.snap cs len tt))
    (hlo : bound F lo 0 = some li) (hhi : bound F hi len = some hh) (el : li = (l : Int)) (eh : hh = (h : Int)) (hlh : l ≤ h) (hle : h ≤ len) (he : D.snap ((cs.drop (l * s)).take ((h - l) * s)) (h - l) (tt && decide (h = len)) = d)
    (k : RK b P n N all r (putF F o.dst d) H (⟨d, [], [], none⟩ :: L) K) : RK b P n N all (o :: r) F H L K := by
  subst el; subst eh; subst he
  refine .step hw hd (.pure (pre := 0 ≤ (l : Int) ∧ (l : Int) ≤ h ∧ (h : Int) ≤ len) ?_ ⟨by omega, by omega, by omega⟩) k
  rw [ho]
  simp only [vop, hu, hx, hs, hlo, lenD, hhi, sliceD2, Int.toNat_natCast]

/-- A piece of a live row. -/
theorem RK.sll (s l h : Nat) {ty e : TypeId} {x : Operand} {lo hi : Option Operand} {bb off len c : Nat} {li hh : Int} (hw : wantedB all.toList F o = some true) (hd : dstB n o = true) (ho : o.op = .slice ty x lo hi none) (hu : P.underlying ty = some (.slice e)) (hs : tySize P e = some s) (hx : F.eval x = some (.live bb off len c s))
    (hlo : bound F lo 0 = some li) (hhi : bound F hi len = some hh) (el : li = (l : Int)) (eh : hh = (h : Int)) (hlh : l ≤ h) (hle : h ≤ c)
    (k : RK b P n N all r (putF F o.dst (.live bb (off + l * s) (h - l) (c - l) s)) H (⟨.live bb (off + l * s) (h - l) (c - l) s, [], [], none⟩ :: L) K) : RK b P n N all (o :: r) F H L K := by
  subst el; subst eh
  refine .step hw hd (.pure (pre := 0 ≤ (l : Int) ∧ (l : Int) ≤ h ∧ (h : Int) ≤ c) ?_ ⟨by omega, by omega, by omega⟩) k
  rw [ho]
  simp only [vop, hu, hx, hs, hlo, lenD, hhi, sliceD2, Nat.beq_refl, cond_true, Int.toNat_natCast]

theorem RK.make (l m s by_ : Nat) (cs : List D) {t e : TypeId} {x c : Operand} {k1 k2 : IntKind} {i : Int} {z : D} (hl : H.length = l) (hw : wantedB all.toList F o = some true) (hd : dstB n o = true) (ho : o.op = .makeSlice t x c) (ht : elemOfSlice P t = some (e, s, by_)) (hx : F.eval x = some (.int k1 i)) (hc : F.eval c = some (.int k2 i)) (hz : zeroD P e = some z)
      (hzl : z.cells.length = s) (hzn : z.notTup = true) (hs : 1 ≤ s) (hi : i = m) (hb : (m : Int) * by_ ≤ 281474976710656) (h63 : m ≤ 9223372036854775807) (hcs : repR m z.cells = cs) (hp : H.pushR (.cells cs) = some H')
      (k : RK b P n N all r (putF F o.dst (.live l 0 m m s)) H' (⟨.live l 0 m m s, [], [(l, some (.cells cs))], none⟩ :: L) K) : RK b P n N all (o :: r) F H L K := by
  subst hl; subst hi; subst hcs
  have h := HStep.make (P := P) (F := F) (H := H) (nx := H.length) ho ht hx hc hz hzl hzn hs (by omega) hb (by omega)
  rw [Int.toNat_natCast] at h
  exact .push _ rfl hw hd h hp k

theorem rep_ints (k : IntKind) (v : Int) : ∀ n, repR n [D.int k v] = (List.replicate n v).map (.int k)
  | 0 => rfl
  | n + 1 => by rw [List.replicate_succ, List.map_cons, ← rep_ints k v n]; rfl

theorem To.heap {N : Nat} {F' : Fr} (h : FrWk F' F) (hH : H' = H) : To N F' H' F H := .same (FrWk.get h) hH

/-- An append to a nil or to a tight fixed row. -/
theorem RK.appNew (l s by_ ln : Nat) (cs' : List D) {t e : TypeId} {x y : Operand} {m len : Nat} {d d0 : D} {z : D} {cs cs0 : List D} {rd : List Nat} (hl : H.length = l) (hw : wantedB all.toList F o = some true) (hd : dstB n o = true) (ho : o.op = .call { callee := .builtin .append, args := #[x, y], argTypes := #[t, t] }) (ht : elemOfSlice P t = some (e, s, by_)) (hz : zeroD P e = some z) (hzl : z.cells.length = s)
      (hx : F.eval x = some d0) (hy : F.eval y = some d) (hd0 : (d0 = .snil ∧ len = 0 ∧ cs0 = []) ∨ (d0 = .snap cs0 len true ∧ cs0.length = len * s)) (hsrc : Src H s d m cs rd) (hm : 0 < m) (hln : len + m = ln) (hb : ln * by_ ≤ 140737488355328) (h63 : ln ≤ 9223372036854775807) (hcs : cs0 ++ cs = cs') (hp : H.pushR (.cells cs') = some H')
      (k : RK b P n N all r (putF F o.dst (.live l 0 ln ln s)) H' (⟨.live l 0 ln ln s, rd, [(l, some (.cells cs'))], none⟩ :: L) K) : RK b P n N all (o :: r) F H L K := by
  subst hl; subst hln; subst hcs
  exact .push _ rfl hw hd (.appendNew ho ht hz hzl hx hd0 hy hsrc hm h63 hb) hp k

/-- An append of nothing. -/
theorem RK.app0 {t e : TypeId} {x y : Operand} {s by_ : Nat} {d d0 : D} {cs : List D} {rd : List Nat} (hw : wantedB all.toList F o = some true) (hd : dstB n o = true) (ho : o.op = .call { callee := .builtin .append, args := #[x, y], argTypes := #[t, t] }) (ht : elemOfSlice P t = some (e, s, by_))
      (hx : F.eval x = some d0) (hy : F.eval y = some d) (hd0 : d0 = .snil ∨ ∃ c l t, d0 = .snap c l t) (hsrc : Src H s d 0 cs rd)
      (k : RK b P n N all r (putF F o.dst d0) H (⟨d0, rd, [], none⟩ :: L) K) : RK b P n N all (o :: r) F H L K :=
  .step hw hd (.appendSame ho ht hx hd0 hy hsrc) k

/-- An append to a live row: the old one is let go. -/
theorem RK.app (l s by_ ln : Nat) (cs' : List D) {t e : TypeId} {x y : Operand} {m len bb off c : Nat} {d : D} {z : D} {cs cs0 : List D} {rd : List Nat} {H1 : Hp} (hl : H.length = l) (hw : wantedB all.toList F o = some true) (hd : dstB n o = true) (ho : o.op = .call { callee := .builtin .append, args := #[x, y], argTypes := #[t, t] }) (ht : elemOfSlice P t = some (e, s, by_)) (hz : zeroD P e = some z) (hzl : z.cells.length = s)
      (hx : F.eval x = some (.live bb off len c s)) (hy : F.eval y = some d) (hb : H[bb]? = some (some (.cells cs0))) (hle : off + len * s ≤ cs0.length) (hsrc : Src H s d m cs rd) (hln : len + m = ln) (hby : ln * by_ ≤ 140737488355328) (h63 : ln ≤ 9223372036854775807)
      (hcs : (cs0.drop off).take (len * s) ++ cs = cs') (hp1 : H.setR bb none = some H1) (hp : H1.pushR (.cells cs') = some H')
      (k : RK b P n N all r (putF F o.dst (.live l 0 ln ln s)) H' (⟨.live l 0 ln ln s, bb :: rd, [(bb, none), (l, some (.cells cs'))], none⟩ :: L) K) : RK b P n N all (o :: r) F H L K := by
  subst hl; subst hln; subst hcs
  refine .step hw hd (.appendMv ho ht hz hzl hx hb hle hy hsrc h63 hby) ?_
  obtain ⟨h1, h2⟩ := setR_spec hp1
  have : applyW H [(bb, none), (H.length, some (.cells ((cs0.drop off).take (len * s) ++ cs)))] = H' := by
    rw [pushR_spec hp, h2]
    simp [applyW, putAt]
  rw [this]
  exact k

/-- An append to a live row within what it may fill. -/
theorem RK.appIn {t e : TypeId} {x y : Operand} {s by_ m len bb off c : Nat} {d : D} {cs cs0 rs : List D} {rd : List Nat} (hw : wantedB all.toList F o = some true) (hd : dstB n o = true) (ho : o.op = .call { callee := .builtin .append, args := #[x, y], argTypes := #[t, t] }) (ht : elemOfSlice P t = some (e, s, by_))
      (hx : F.eval x = some (.live bb off len c s)) (hy : F.eval y = some d) (hb : H[bb]? = some (some (.cells cs0))) (hsrc : Src H s d m cs rd) (hc : len + m ≤ c) (hr : overR cs0 (off + len * s) cs = some rs) (hp : H.setR bb (some (.cells rs)) = some H')
      (k : RK b P n N all r (putF F o.dst (.live bb off (len + m) c s)) H' (⟨.live bb off (len + m) c s, bb :: rd, [(bb, some (.cells rs))], none⟩ :: L) K) : RK b P n N all (o :: r) F H L K :=
  .setB hw hd (.appendIn ho ht hx hb hy hsrc hc hr) hp k

theorem RK.clear {t e : TypeId} {x : Operand} {s by_ len bb off c : Nat} {z : D} {cs0 rs : List D} (hw : wantedB all.toList F o = some true) (hd : dstB n o = true) (ho : o.op = .call { callee := .builtin .clear, args := #[x], argTypes := #[t] }) (ht : elemOfSlice P t = some (e, s, by_)) (hz : zeroD P e = some z) (hzl : z.cells.length = s) (hzn : z.notTup = true) (hs1 : 1 ≤ s)
      (hx : F.eval x = some (.live bb off len c s)) (hb : H[bb]? = some (some (.cells cs0))) (hr : overR cs0 off (repR len z.cells) = some rs) (hp : H.setR bb (some (.cells rs)) = some H')
      (k : RK b P n N all r (putF F o.dst (.tup [])) H' (⟨.tup [], [bb], [(bb, some (.cells rs))], none⟩ :: L) K) : RK b P n N all (o :: r) F H L K :=
  .setB hw hd (.clear ho ht hz hzl hzn hs1 hx hb hr) hp k

theorem RK.copy {t t' e : TypeId} {x y : Operand} {s by_ n1 m len bb off c : Nat} {d : D} {cs cs0 rs : List D} {rd : List Nat} (hw : wantedB all.toList F o = some true) (hd : dstB n o = true) (ho : o.op = .call { callee := .builtin .copy, args := #[x, y], argTypes := #[t, t'] }) (ht : elemOfSlice P t = some (e, s, by_))
      (hx : F.eval x = some (.live bb off len c s)) (hy : F.eval y = some d) (hb : H[bb]? = some (some (.cells cs0))) (hsrc : Src H s d n1 cs rd) (hm : m = min n1 len) (hr : overR cs0 off (cs.take (m * s)) = some rs) (hp : H.setR bb (some (.cells rs)) = some H')
      (k : RK b P n N all r (putF F o.dst (.int .i64 m)) H' (⟨.int .i64 m, bb :: rd, [(bb, some (.cells rs))], none⟩ :: L) K) : RK b P n N all (o :: r) F H L K :=
  .setB hw hd (.copy ho ht hx hb hy hsrc hm hr) hp k

/-- Each of the frame's values is without live memory: the heap may be forgotten. -/
def FrPure : Fr → Fr → Prop
  | [], _ => True
  | (t, d) :: F', F => (F.get t = some d ∧ Pure d) ∧ FrPure F' F

theorem FrPure.ren {σ Z : List Nat} : ∀ {F' F : Fr}, FrPure F' F → FrRen σ Z H F' F
  | [], _, _ => trivial
  | (_, _) :: _, _, h => ⟨⟨_, h.1.1, .wk h.1.2 (.refl _)⟩, FrPure.ren h.2⟩

theorem To.pure {F' : Fr} (h : FrPure F' F) : To 0 F' [] F H :=
  .ren [] [] (Nat.le_refl _) (fun b hb => absurd hb (Nat.not_lt_zero b)) .nil h.ren trivial

theorem Ren.bel {m : Nat} {Z : List Nat} {d : D} (h : Bel m d) : Ren (List.range m) Z H d d := by
  have pt : ∀ b, b < m → (List.range m)[b]? = some b := fun b hb => by simp [hb]
  have same : ∀ {cs : List D}, (∀ d ∈ cs, Ren (List.range m) Z H d d) → ∀ (i : Nat) (x y : D), cs[i]? = some x → cs[i]? = some y → Ren (List.range m) Z H x y := fun h i x y hx hy => by
    rw [hx] at hy; cases hy; exact h x (List.mem_of_getElem? hx)
  induction h with
  | bool b => exact .wk (.bool _) (.refl _)
  | int k n => exact .wk (.int _ _) (.refl _)
  | str s => exact .wk (.str _) (.refl _)
  | pnil => exact .wk .pnil (.refl _)
  | ptr h => exact .ptr (pt _ h)
  | sptr h ih => exact .sptr (Nat.le_refl _) (same ih)
  | snil => exact .wk .snil (.refl _)
  | snap h ih => exact .snap (Nat.le_refl _) (fun h => h) (same ih)
  | live h => exact .live (pt _ h)
  | fn h ih => exact .fn rfl (same ih)
  | yield h => exact .yield (pt _ h)
  | fnil => exact .wk .fnil (.refl _)
  | iface h ih => exact .iface ih
  | inil => exact .wk .inil (.refl _)
  | agg h ih => exact .agg rfl (same ih)
  | tup h ih => exact .tup rfl (same ih)

/-- Each of the frame's values leads to the first m blocks only. -/
def FrBel (m : Nat) : Fr → Fr → Prop
  | [], _ => True
  | (t, d) :: F', F => (F.get t = some d ∧ Bel m d) ∧ FrBel m F' F

theorem FrBel.ren {m : Nat} {Z : List Nat} : ∀ {F' F : Fr}, FrBel m F' F → FrRen (List.range m) Z H F' F
  | [], _, _ => trivial
  | (_, _) :: _, _, h => ⟨⟨_, h.1.1, .bel h.1.2⟩, FrBel.ren h.2⟩

theorem HpRen.trunc {G : Hp} {m : Nat} : ∀ {A B : Hp}, m = (A ++ B).length → belHp m B → (∀ (b : Nat) (r : Loop) (F : Fr), B[b]? ≠ some (some (.loop r F))) → HpRen (List.range m) [] (A ++ B ++ G) (List.range' A.length B.length) B
  | A, [], _, _, _ => trivial
  | A, none :: B, hm, hb, hl => by
    have := HpRen.trunc (G := G) (A := A ++ [none]) (B := B) (by simpa using hm) hb (fun b r F h => hl (b + 1) r F (by simpa using h))
    simp only [List.append_assoc, List.singleton_append, List.length_append, List.length_cons, List.length_nil] at this
    simpa [List.range'_succ, HpRen] using this
  | A, some (.loop r F) :: B, hm, hb, hl => absurd rfl (hl 0 r F)
  | A, some (.cells cs) :: B, hm, hb, hl => by
    have := HpRen.trunc (G := G) (A := A ++ [some (.cells cs)]) (B := B) (by simpa using hm) hb.2 (fun b r F h => hl (b + 1) r F (by simpa using h))
    simp only [List.append_assoc, List.singleton_append, List.length_append, List.length_cons, List.length_nil] at this
    simp only [List.length_cons, List.range'_succ, HpRen]
    refine ⟨⟨by simp, .cells cs, by simp, ⟨Nat.le_refl _, fun i x y hx hy => ?_⟩⟩, by simpa using this⟩
    rw [hx] at hy; cases hy
    exact .bel (hb.1 x (List.mem_of_getElem? hx))

/-- Blocks at the heap's end are let go. -/
theorem To.trunc {N : Nat} {F' : Fr} (G : Hp) (he : H = H' ++ G) (hN : N ≤ H'.length) (hl : noLoopB H' = true) (hF : FrBel H'.length F' F) (hH : belHp H'.length H') : To N F' H' F H := by
  subst he
  refine .ren (List.range H'.length) [] hN (fun b hb => by rw [List.getElem?_range]; omega) List.nodup_range hF.ren ?_
  have := HpRen.trunc (G := G) (m := H'.length) (A := []) (B := H') rfl hH (noLoopB_spec hl)
  rw [List.nil_append] at this
  rw [List.range_eq_range'] at this ⊢
  exact this

def BelL (m : Nat) : List D → Prop
  | [] => True
  | d :: r => Bel m d ∧ BelL m r

theorem BelL.mem {m : Nat} : ∀ {ds : List D}, BelL m ds → ∀ d ∈ ds, Bel m d
  | [], _, _, h => by cases h
  | x :: r, hp, d, h => by
    rcases List.mem_cons.1 h with rfl | h
    · exact hp.1
    · exact BelL.mem hp.2 d h

theorem BelL.of {m : Nat} {ds : List D} (h : ∀ d ∈ ds, Pure d) : BelL m ds := by
  induction ds with
  | nil => trivial
  | cons x r ih => exact ⟨(h x (by simp)).bel, ih (fun d hd => h d (by simp [hd]))⟩

theorem BelL.map {m : Nat} {α : Type} {f : α → D} {xs : List α} (h : ∀ x, Pure (f x)) : BelL m (xs.map f) := .of (by
  intro d hd
  obtain ⟨x, _, rfl⟩ := List.mem_map.1 hd
  exact h x)

theorem overR_of : ∀ (cs : List D) (off : Nat) (xs : List D), off + xs.length ≤ cs.length → overR cs off xs = some (cs.take off ++ xs ++ cs.drop (off + xs.length))
  | cs, 0, [], _ => by simp [overR]
  | [], 0, x :: xs, h => by simp at h
  | c :: cs, 0, x :: xs, h => by
    have := overR_of cs 0 xs (by simpa using h)
    simp only [overR, this]
    simp
  | [], off + 1, xs, h => by simp at h
  | c :: cs, off + 1, xs, h => by
    have := overR_of cs off xs (by simp at h; omega)
    simp only [overR, this]
    simp [Nat.add_right_comm]

theorem over1 {α : Type} {f : α → D} {xs : List α} {off : Nat} {v : α} {d : D} (hd : d = f v) (h : off < xs.length) : overR (xs.map f) off [d] = some ((xs.set off v).map f) := by
  subst hd
  rw [overR_of _ _ _ (by simp; omega)]
  congr 1
  rw [List.set_eq_take_append_cons_drop, if_pos h]
  simp

theorem frz_map {α : Type} {f : α → D} {H : Hp} {b c : Nat} {xs : List α} (hb : H[b]? = some (some (.cells (xs.map f)))) (hp : ∀ x ∈ xs, Pure (f x)) {n : Nat} (hn : n = xs.length) : Frz H (.live b 0 n c 1) (.snap (xs.map f) xs.length false) := by
  subst hn
  refine .live hb (by simp) (by simp) fun i x y hx hy => ?_
  rw [Nat.zero_add, hy] at hx
  cases hx
  obtain ⟨z, hz, rfl⟩ := List.mem_map.1 (List.mem_of_getElem? hy)
  exact .pure (hp z hz) (.refl _)

theorem frz_encI {k : IntKind} {H : Hp} {b c n : Nat} {xs : List Int} (hb : H[b]? = some (some (.cells (xs.map (.int k))))) (hn : n = xs.length) : Frz H (.live b 0 n c 1) (encI k xs) :=
  frz_map hb (fun _ _ => .int _ _) hn

/-- The state between two pieces of code. -/
def midQ (N : Nat) (G : Fr) (H1 : Hp) : Post := fun e F H => match e with
  | .normal => To N G H1 F H
  | _ => False

theorem W.mid {x y : Code} (G : Fr) (H1 : Hp) (h : W P n N x (midQ N G H1) F H) (k : W P n N y Q G H1) : W P n N (.seq x y) Q F H :=
  .seq (h.mono fun e F' H' hq => by
    cases e with
    | normal => exact .to hq k
    | exit i => exact hq.elim
    | ret => exact hq.elim)

/-- The same, with something that is known there. -/
def midPQ (N : Nat) (p : Prop) (G : Fr) (H1 : Hp) (Q : Post) : Post := fun e F H => match e with
  | .normal => p ∧ To N G H1 F H
  | e => Q e F H

theorem W.midP {x y : Code} (p : Prop) (G : Fr) (H1 : Hp) (h : W P n N x (midPQ N p G H1 Q) F H) (k : p → W P n N y Q G H1) : W P n N (.seq x y) Q F H :=
  .seq (h.mono fun e F' H' hq => by
    cases e with
    | normal => exact .to hq.2 (k hq.1)
    | exit i => exact hq
    | ret => exact hq)

theorem pushR_eq : ∀ (H : Hp) (x : Blk), H.pushR x = some (H ++ [some x])
  | [], _ => rfl
  | y :: r, x => by simp [Hp.pushR, pushR_eq r x]

theorem setR_eq : ∀ {H : Hp} {b : Nat} (x : Option Blk), b < H.length → H.setR b x = some (H.set b x)
  | [], _, _, h => by simp at h
  | y :: r, 0, x, _ => rfl
  | y :: r, b + 1, x, h => by simp [Hp.setR, setR_eq (H := r) (b := b) x (by simpa using h)]

theorem Ren.frz {σ : List Nat} {d d' : D} (h : Frz H d d') : Ren σ (List.range H.length) H d d' := by
  have mem : ∀ {b : Nat} {x : Blk}, H[b]? = some (some x) → b ∈ List.range H.length := fun h => by
    rw [List.mem_range]; exact lt_of_getElem? h
  induction h with
  | pure hp hw => exact .wk hp hw
  | live hb hn hd h ih => exact .fixL (mem hb) hb hn hd ih
  | snap hn ht h ih => exact .snap hn ht ih
  | ptr hb hd h ih => exact .fixP (mem hb) hb hd ih
  | sptr hn h ih => exact .sptr hn ih
  | fn hn h ih => exact .fn hn ih
  | iface h ih => exact .iface ih
  | agg hn h ih => exact .agg hn ih
  | tup hn h ih => exact .tup hn ih

/-- Each of the frame's values is told without live memory. -/
def FrFrz (H : Hp) : Fr → Fr → Prop
  | [], _ => True
  | (t, d') :: F', F => (∃ d, F.get t = some d ∧ Frz H d d') ∧ FrFrz H F' F

theorem FrFrz.ren {σ : List Nat} : ∀ {F' F : Fr}, FrFrz H F' F → FrRen σ (List.range H.length) H F' F
  | [], _, _ => trivial
  | (_, _) :: _, _, h => ⟨let ⟨d, h1, h2⟩ := h.1; ⟨d, h1, .frz h2⟩, FrFrz.ren h.2⟩

/-- All live memory is fixed. -/
theorem To.frz {F' : Fr} (h : FrFrz H F' F) : To 0 F' [] F H :=
  .ren [] (List.range H.length) (Nat.le_refl _) (fun b hb => absurd hb (Nat.not_lt_zero b)) .nil h.ren trivial

theorem frz_pre {α : Type} {f : α → D} {H : Hp} {b c : Nat} {xs : List α} {rest : List D} (hb : H[b]? = some (some (.cells (xs.map f ++ rest)))) (hp : ∀ x ∈ xs, Pure (f x)) {n : Nat} (hn : n = xs.length) : Frz H (.live b 0 n c 1) (.snap (xs.map f) xs.length false) := by
  subst hn
  refine .live hb (by simp) (by simp) fun i x y hx hy => ?_
  have hi := lt_of_getElem? hy
  rw [Nat.zero_add, List.getElem?_append_left hi, hy] at hx
  cases hx
  obtain ⟨z, hz, rfl⟩ := List.mem_map.1 (List.mem_of_getElem? hy)
  exact .pure (hp z hz) (.refl _)

/-- A call of a plain function that may change the heap. -/
theorem RK.callF {f : FuncId} {args : Array Operand} {at_ : Array TypeId} {ds : List D} {R : D → Hp → Prop} (h : FnTo P f ds H R) (hw : wantedB all.toList F o = some true) (hd : dstB n o = true) (ho : o.op = .call { callee := .value (.func f), args, argTypes := at_ }) (ha : evals F args.toList = some ds)
    (k : ∀ d H', R d H' → RK false P n N all r (putF F o.dst d) H' [] K) : RK false P n N all (o :: r) F H L K :=
  .callR (fv := .fn f []) (R := R) (by show FnTo P f (ds ++ []) H R; rw [List.append_nil]; exact h) hw hd ho rfl ha k

end
end Go.V

/- The logic V, part 27: from what an input reads as to what is told of it. -/
namespace Go.V
open Go.Deep Go.ChangeShapes

/-- All that lies in rows is fixed. -/
def g0 (w : World) : Gh := { S := fun k => ∃ n, cellsN w k = some n, ρ := fun _ => none }

theorem g0_rel (w : World) : HRel w (g0 w) [] := HRel.nil fun _ h => h

/-- What the cells of a type read as: the D's of some plain value. -/
def Opens {α : Type} (P : Program) (w : World) (t : TypeId) (enc : α → List D) (p : α → Prop) : Prop :=
  ∀ (H : Type) (en : TypeId × Value → H) (held : Bool) (fuel : Nat) (cs : List Value) (x : DataW H × List MemPlace),
    DataW.trod en P w 0 (fun _ => true) held fuel t cs = some x → ∃ a, p a ∧ RepL w (g0 w) (enc a) cs

theorem RepL.one {w : World} {g : Gh} {d : D} {v : Value} (h : Rep w g d v) : RepL w g [d] [v] :=
  ⟨rfl, fun i e u he hu => by
    cases i with
    | zero => simp at he hu; subst he; subst hu; exact h
    | succ i => simp at he⟩

theorem RepL.app {w : World} {g : Gh} {d e : List D} {v u : List Value} (h : RepL w g d v) (k : RepL w g e u) : RepL w g (d ++ e) (v ++ u) := by
  refine ⟨by simp [h.1, k.1], fun i x y hx hy => ?_⟩
  rw [List.getElem?_append] at hx hy
  rw [h.1] at hy
  split at hx
  · rename_i hi; rw [if_pos hi] at hy; exact h.2 i x y hx hy
  · rename_i hi; rw [if_neg hi] at hy; exact k.2 _ x y hx hy

section
variable {P : Program} {w : World}

theorem Opens.int {t : TypeId} {k : IntKind} (ht : P.underlying t = some (.int k)) : Opens P w t (fun n : Int => [.int k n]) (fun n => (Lit.int k n).wf = true) := by
  intro H en held fuel cs x h
  obtain ⟨n, rfl, _, hw⟩ := DataW.trod_int ht h
  exact ⟨n, hw, .one (.int k n)⟩

theorem Opens.bool {t : TypeId} (ht : P.underlying t = some .bool) : Opens P w t (fun b : Bool => [.bool b]) (fun _ => True) := by
  intro H en held fuel cs x h
  obtain ⟨b, rfl, _⟩ := DataW.trod_bool ht h
  exact ⟨b, trivial, .one (.bool b)⟩

theorem Opens.pair {α β : Type} {t : TypeId} {f0 f1 : Field} {ea : α → List D} {eb : β → List D} {pa : α → Prop} {pb : β → Prop} (ht : P.underlying t = some (.struct #[f0, f1]))
    (o0 : f0.offset = 0) (o1 : f1.offset = P.cellsOf f0.type) (hc : P.cellsOf t = P.cellsOf f0.type + P.cellsOf f1.type) (ha : Opens P w f0.type ea pa) (hb : Opens P w f1.type eb pb) :
    Opens P w t (fun x : α × β => ea x.1 ++ eb x.2) (fun x => pa x.1 ∧ pb x.2) := by
  intro H en held fuel cs x h
  obtain ⟨y0, y1, n, rfl, hl, h0, h1⟩ := trod_struct2 ht h
  obtain ⟨a, ha1, ha2⟩ := ha H en held _ _ _ h0
  obtain ⟨b, hb1, hb2⟩ := hb H en held _ _ _ h1
  refine ⟨(a, b), ⟨ha1, hb1⟩, ?_⟩
  have : cs = (cs.drop f0.offset).take (P.cellsOf f0.type) ++ (cs.drop f1.offset).take (P.cellsOf f1.type) := by
    rw [o0, o1, List.drop_zero, List.take_of_length_le (l := cs.drop _) (by rw [List.length_drop]; omega), List.take_append_drop]
  rw [this]
  exact ha2.app hb2

theorem flatMap_len {α : Type} {f : α → List D} {s : Nat} (hs : ∀ a, (f a).length = s) : ∀ l : List α, (l.flatMap f).length = l.length * s
  | [] => by simp
  | x :: l => by rw [List.flatMap_cons, List.length_append, hs, flatMap_len hs l, List.length_cons, Nat.add_mul]; omega

theorem Opens.slice {α : Type} {t e : TypeId} {s : Nat} {enc : α → List D} {p : α → Prop} (ht : P.underlying t = some (.slice e)) (hc : P.cellsOf e = s) (h0 : 0 < s) (hs : ∀ a, (enc a).length = s) (h1 : ∀ a, ∀ d ∈ enc a, d.one = true) (he : Opens P w e enc p) :
    Opens P w t (fun xs : List α => [encS enc xs]) (fun xs => xs.length ≤ maxLen ∧ ∀ x ∈ xs, p x) := by
  intro H en held fuel cs x h
  rcases open_slice ht h with ⟨rfl, _⟩ | ⟨a, len, cap, m, n, Dd, Pl, rfl, hb, hl, hm, hmm, rfl, hx⟩
  · exact ⟨[], ⟨Nat.zero_le _, fun x h => by cases h⟩, .one (.snapNil _ _)⟩
  have hmc : m = cap := hmm
  subst hmc
  have hlm := hl
  have spot : 0 < m → a = ⟨a.block, a.off, none⟩ := by
    intro hp
    obtain ⟨cs', h2, _⟩ := hx 0 hp
    obtain ⟨_, hcl, hcc⟩ := World.cells?_some h2
    rw [hc] at hcl
    have h3 := hcc 0 (by omega)
    rw [List.getElem?_eq_getElem (by omega)] at h3
    have h4 : (a.add (0 * P.cellsOf e)).add 0 = a := by simp [Addr.add]
    rw [h4] at h3
    unfold World.cell? at h3
    split at h3
    · cases hsp : a.spot with
      | none => obtain ⟨k, off, sp⟩ := a; simp only at hsp; subst hsp; rfl
      | some z => rw [hsp] at h3; simp at h3
    · cases h3
  have each : ∀ i, i < len → ∃ q : α, p q ∧ ∃ cs', w.cells? 0 (a.add (i * s)) s = some cs' ∧ RepL w (g0 w) (enc q) cs' := by
    intro i hi
    obtain ⟨cs', h2, h3⟩ := hx i (by omega)
    obtain ⟨q, hq, hr⟩ := he H en held _ _ _ h3
    rw [hc] at h2
    exact ⟨q, hq, cs', h2, hr⟩
  have lst : ∃ xs : List α, xs.length = len ∧ ∀ i q, xs[i]? = some q → p q ∧ ∃ cs', w.cells? 0 (a.add (i * s)) s = some cs' ∧ RepL w (g0 w) (enc q) cs' := by
    clear hl hm hmm hx hlm h
    induction len with
    | zero => exact ⟨[], rfl, fun i q hq => by simp at hq⟩
    | succ len ih =>
      obtain ⟨xs, hxl, hxs⟩ := ih (fun i hi => each i (by omega))
      obtain ⟨q, hq⟩ := each len (by omega)
      refine ⟨xs ++ [q], by simp [hxl], fun i r hr => ?_⟩
      rw [List.getElem?_append] at hr
      split at hr
      · exact hxs i r hr
      · rename_i hi
        have : i = len := by
          have := lt_of_getElem? hr
          simp at this; omega
        subst this
        rw [hxl, Nat.sub_self] at hr
        simp at hr
        subst hr
        exact hq
  obtain ⟨xs, hxl, hxs⟩ := lst
  refine ⟨xs, ⟨by omega, fun y hy => ?_⟩, .one ?_⟩
  · obtain ⟨i, hi, rfl⟩ := List.getElem_of_mem hy
    exact (hxs i _ (List.getElem?_eq_getElem hi)).1
  · have hfl := flatMap_len hs xs
    rcases Nat.eq_zero_or_pos m with hm0 | hm0
    · subst hm0
      have hl0 : len = 0 := by omega
      subst hl0
      have : xs = [] := List.eq_nil_of_length_eq_zero hxl
      subst this
      exact .snapNil _ _
    · obtain ⟨k, off, sp⟩ := a
      have hsp := spot hm0
      simp only [Addr.mk.injEq, true_and] at hsp
      subst hsp
      subst hxl
      have cell : ∀ i, i < (xs.flatMap enc).length → ∃ d v, (xs.flatMap enc)[i]? = some d ∧ w.cell? ⟨k, off + i, none⟩ = some v ∧ Rep w (g0 w) d v := by
        intro i hi
        rw [hfl] at hi
        have hq : i / s < xs.length := Nat.div_lt_of_lt_mul (by rw [Nat.mul_comm]; exact hi)
        have hr : i % s < s := Nat.mod_lt _ h0
        have hdm : i = i / s * s + i % s := by rw [Nat.mul_comm]; exact (Nat.div_add_mod i s).symm
        obtain ⟨_, cs', h2, h3⟩ := hxs (i / s) xs[i / s] (List.getElem?_eq_getElem hq)
        obtain ⟨_, hcl, hcc⟩ := World.cells?_some h2
        have h4 := hcc (i % s) hr
        rw [add_add, ← hdm, add_none] at h4
        have hel : i % s < (enc xs[i / s]).length := by rw [hs]; exact hr
        refine ⟨(enc xs[i / s])[i % s], cs'[i % s]'(by omega), ?_, ?_, h3.2 (i % s) _ _ (List.getElem?_eq_getElem hel) (List.getElem?_eq_getElem (by omega))⟩
        · rw [flat_get hs hq hr hdm, List.getElem?_eq_getElem hel]
        · rw [h4, List.getElem?_eq_getElem (by omega)]
      refine .snap (fun i => (w.cell? ⟨k, off + i, none⟩).getD default) (fun hne => ?_) (fun d hd => ?_) hl (by simp) (fun i hi => ?_) (fun i d hd => ?_)
      · obtain ⟨d, v, _, h3, _⟩ := cell 0 (List.length_pos_iff.2 hne)
        unfold World.cell? at h3
        split at h3
        · rename_i c _ _ hk
          exact ⟨c.size, by simp only [cellsN]; simp only at hk; rw [hk]⟩
        · cases h3
      · obtain ⟨x, _, hx2⟩ := List.mem_flatMap.1 hd
        exact h1 x d hx2
      · obtain ⟨d, v, _, h3, _⟩ := cell i hi
        simp [h3]
      · obtain ⟨d', v, h2, h3, h4⟩ := cell i (lt_of_getElem? hd)
        rw [hd] at h2; cases h2
        simpa [h3] using h4
theorem RepL.cons {g : Gh} {d : D} {v : Value} {ds : List D} {vs : List Value} (h : RepL w g [d] [v]) (k : RepL w g ds vs) : RepL w g (d :: ds) (v :: vs) := h.app k
theorem RepL.nil {g : Gh} : RepL w g [] [] := ⟨rfl, by simp⟩

/-- A law that gives true of its arguments' values gives true, and leaves what was there. -/
theorem PureFn.calls {f : FuncId} {args : List D} (h : PureFn P f args (.bool true)) {vs : List Value} (hr : RepL w (g0 w) args vs) :
    Calls P f vs.toArray w fun e w' => e = .returned (.bool true) ∧ Go.RowKit.Below w.heap.size w w' := by
  refine ((h []).2 w (g0 w) vs (g0_rel w) hr).mono ?_
  rintro e w' ⟨v, d', H', g1, rfl, ⟨rfl, rfl⟩, ev, _, _, hrep⟩
  have hL : ∀ k, ¬ Lof (g0 w) [] k := by rintro k ⟨b, x, base, hb, _⟩; cases hb
  refine ⟨by cases hrep; rfl, ev.os, ev.tape, ev.output, ev.size, fun k hk => ev.keep k hk (hL k)⟩

end
end Go.V

/- The logic V, part 28: lists that grow. -/
namespace Go.V

/-- A list that grows by append: nil, then a live row. -/
def accD {α : Type} (s b : Nat) : List α → D
  | [] => .snil
  | x :: xs => .live b 0 (x :: xs).length (x :: xs).length s

def accB {α : Type} (enc : α → List D) : List α → Option Blk
  | [] => none
  | x :: xs => some (.cells ((x :: xs).flatMap enc))

section
variable {α : Type} {enc : α → List D} {s : Nat}

theorem flat_len (hs : ∀ a, (enc a).length = s) : ∀ l : List α, (l.flatMap enc).length = l.length * s := flatMap_len hs

theorem frz_accS {H : Hp} {b : Nat} (hs : ∀ a, (enc a).length = s) (hp : ∀ a, ∀ d ∈ enc a, Pure d) {xs : List α} (hb : H[b]? = some (accB enc xs)) : Frz H (accD s b xs) (encS enc xs) := by
  cases xs with
  | nil => exact .pure .snil (.snil _)
  | cons x xs =>
    refine .live hb (by rw [flat_len hs]; omega) (flat_len hs _) fun i u v hu hv => ?_
    rw [Nat.zero_add] at hu
    have e := Option.some.inj (hu.symm.trans hv)
    subst e
    obtain ⟨a, _, ha⟩ := List.mem_flatMap.1 (List.mem_of_getElem? hu)
    exact .pure (hp a u ha) (.refl _)

/-- .. told with weaker cells. -/
theorem frz_accW {enc' : α → List D} {H : Hp} {b : Nat} (hs : ∀ a, (enc a).length = s) (hs' : ∀ a, (enc' a).length = s) (hp : ∀ a, ∀ d ∈ enc a, Pure d) (hw : ∀ a, WkL (enc a) (enc' a)) {xs : List α} (hb : H[b]? = some (accB enc xs)) (h0 : 0 < s) : Frz H (accD s b xs) (encS enc' xs) := by
  cases xs with
  | nil => exact .pure .snil (.snil _)
  | cons x xs =>
    refine .live hb (by rw [flat_len hs]; omega) (flat_len hs' _) fun i u v hu hv => ?_
    rw [Nat.zero_add] at hu
    have hi : i < (x :: xs).length * s := by rw [← flat_len hs]; exact lt_of_getElem? hu
    have hq : i / s < (x :: xs).length := Nat.div_lt_of_lt_mul (by rw [Nat.mul_comm]; exact hi)
    have hr : i % s < s := Nat.mod_lt _ h0
    have hdm : i = i / s * s + i % s := by rw [Nat.mul_comm]; exact (Nat.div_add_mod i s).symm
    have hu' : ((x :: xs).flatMap enc)[i]? = some u := hu
    rw [flat_get hs hq hr hdm] at hu'
    rw [flat_get hs' hq hr hdm] at hv
    exact .pure (hp _ u (List.mem_of_getElem? hu')) ((hw _).2 _ u v hu' hv)

theorem Ren.acc {σ Z : List Nat} {H : Hp} {b b' : Nat} {xs : List α} (h : σ[b']? = some b) : Ren σ Z H (accD s b xs) (accD s b' xs) := by
  cases xs with
  | nil => exact .wk .snil (.refl _)
  | cons x xs => exact .live h

theorem HpRen.acc {σ Z ss : List Nat} {H r : Hp} {i : Nat} {xs : List α} (hz : i ∉ Z) (hb : H[i]? = some (accB enc xs)) (hp : ∀ a, ∀ d ∈ enc a, Pure d) (k : HpRen σ Z H ss r) : HpRen σ Z H (i :: ss) (accB enc xs :: r) := by
  cases xs with
  | nil => exact k
  | cons x xs =>
    refine ⟨⟨hz, _, hb, Nat.le_refl _, fun j u v hu hv => ?_⟩, k⟩
    rw [hu] at hv
    cases hv
    obtain ⟨a, _, ha⟩ := List.mem_flatMap.1 (List.mem_of_getElem? hu)
    exact .wk (hp a u ha) (.refl _)

variable {P : Program} {n N : Nat} {all : Array Oper} {r : List Oper} {F : Fr} {H H1 : Hp} {K : Fr → Hp → Prop} {o : Oper}

theorem accD_app {b : Nat} {xs ys : List α} (h : 0 < ys.length) : accD s b (xs ++ ys) = .live b 0 (xs.length + ys.length) (xs.length + ys.length) s := by
  cases hx : xs ++ ys with
  | nil => rw [List.append_eq_nil_iff] at hx; rw [hx.2] at h; exact absurd h (Nat.lt_irrefl 0)
  | cons z zs => rw [accD, ← hx, List.length_append]

theorem accB_app {xs ys : List α} (h : 0 < ys.length) : accB enc (xs ++ ys) = some (.cells (xs.flatMap enc ++ ys.flatMap enc)) := by
  cases hx : xs ++ ys with
  | nil => rw [List.append_eq_nil_iff] at hx; rw [hx.2] at h; exact absurd h (Nat.lt_irrefl 0)
  | cons z zs => rw [accB, ← hx, List.flatMap_append]

/-- A list grows. -/
theorem RK.grow (l b s by_ : Nat) (xs ys : List α) {t e : TypeId} {x y : Operand} {d : D} {z : D} {cs : List D} {rd : List Nat} (hs : ∀ a, (enc a).length = s) (hl : H.length = l) (hw : wantedB all.toList F o = some true) (hd : dstB n o = true)
    (ho : o.op = .call { callee := .builtin .append, args := #[x, y], argTypes := #[t, t] }) (ht : elemOfSlice P t = some (e, s, by_)) (hz : zeroD P e = some z) (hzl : z.cells.length = s) (hx : F.eval x = some (accD s b xs)) (hy : F.eval y = some d) (hb : H[b]? = some (accB enc xs))
    (hsrc : Src H s d ys.length cs rd) (hcs : cs = ys.flatMap enc) (hm : 0 < ys.length) (hby : (xs.length + ys.length) * by_ ≤ 140737488355328) (h63 : xs.length + ys.length ≤ 9223372036854775807) (hp : H.setR b none = some H1)
    (k : RK false P n N all r (putF F o.dst (accD s l (xs ++ ys))) (H1 ++ [accB enc (xs ++ ys)]) [] K) : RK false P n N all (o :: r) F H [] K := by
  subst hcs
  obtain ⟨h1, h2⟩ := setR_spec hp
  rw [accD_app hm, accB_app hm] at k
  cases xs with
  | nil =>
    have hH1 : H1 = H := by
      rw [h2]
      apply List.ext_getElem?
      intro i
      by_cases hi : i = b
      · subst hi
        rw [List.getElem?_set_self h1, hb]; rfl
      · rw [List.getElem?_set_ne (fun e => hi e.symm)]
    rw [hH1] at k
    refine RK.appNew (L := []) l s by_ (ys.length) (ys.flatMap enc) (len := 0) (cs0 := []) hl hw hd ho ht hz hzl hx hy (.inl ⟨rfl, rfl, rfl⟩) hsrc hm (by omega) (by simpa using hby) (by simpa using h63) rfl (pushR_eq _ _) ?_
    simp at k
    exact k
  | cons a xs =>
    refine RK.app (L := []) (H1 := H1) l s by_ ((a :: xs).length + ys.length) ((a :: xs).flatMap enc ++ ys.flatMap enc) hl hw hd ho ht hz hzl hx hy hb (by rw [flat_len hs]; omega) hsrc rfl hby h63 ?_ hp (pushR_eq _ _) k
    rw [List.drop_zero, List.take_of_length_le (by rw [flat_len hs]; exact Nat.le_refl _)]

end

/-- What a round of a range to a fixed number leaves. -/
def rangeCQ (B B' : Nat) (N : Nat) (ti : Nat) (G : Nat → Fr) (Hs : Nat → Hp) (C : Nat → Prop) (i : Nat) (Q : Post) : Post := fun e F H =>
  match e with
  | .normal => C (i + 1) ∧ To N ((ti, .int .i64 (i : Int)) :: G (i + 1)) (Hs (i + 1)) F H
  | .exit j => bif Nat.beq j B' then C (i + 1) ∧ To N ((ti, .int .i64 (i : Int)) :: G (i + 1)) (Hs (i + 1)) F H
      else bif Nat.beq j B then Q .normal F H else Q (.exit j) F H
  | .ret => Q .ret F H

theorem W.rangeC {P : Program} {n N : Nat} {F : Fr} {H : Hp} {Q : Post} {B B' r1 r2 ti tc tj : Nat} {T1 T2 T3 T4 : TypeId} {o1 o2 o3 : Oper} {body : Code} (m : Nat) (G : Nat → Fr) (Hs : Nat → Hp) (C : Nat → Prop)
    (h1 : o1.op = .binOp .lss T1 (.tmp ti) (.const (.int .i64 (m : Int))) T2) (d1 : o1.dst = some tc) (g1 : o1.guard = none)
    (h2 : o2.op = .binOp .add T3 (.tmp ti) (.const (.int .i64 1)) T4) (d2 : o2.dst = some tj) (g2 : o2.guard = none)
    (h3 : o3.op = .move (.tmp tj)) (d3 : o3.dst = some ti) (g3 : o3.guard = none)
    (hn : (Nat.blt tc n && Nat.blt tj n && Nat.blt ti n && !Nat.beq tc ti && !Nat.beq tj ti && !Nat.beq B' B) = true) (hm : m ≤ 9223372036854775807)
    (c0 : C 0) (h0 : To N ((ti, .int .i64 (0 : Nat)) :: G 0) (Hs 0) F H)
    (hfree : ∀ i, (G i).get tj = none)
    (round : ∀ i, i < m → C i → W P n N body (rangeCQ B B' N ti G Hs C i Q) ((tc, .bool true) :: (ti, .int .i64 (i : Int)) :: G i) (Hs i))
    (done : C m → Q .normal ((tc, .bool false) :: (ti, .int .i64 (m : Int)) :: G m) (Hs m)) :
    W P n N (.block B (.loop (.seq (.region r1 #[o1] false) (.seq (.cond (.tmp tc) .skip (.exit B)) (.seq (.block B' body) (.region r2 #[o2, o3] false)))))) Q F H := by
  simp only [Bool.and_eq_true, Bool.not_eq_true'] at hn
  obtain ⟨⟨⟨⟨⟨n1, n2⟩, n3⟩, n4⟩, n7⟩, n9⟩ := hn
  have w1 : ∀ F, wantedB [o1] F o1 = some true := fun F => by simp [wantedB, g1]
  have w2 : ∀ F, wantedB [o2, o3] F o2 = some true := fun F => by simp [wantedB, g2]
  have w3 : ∀ F, wantedB [o2, o3] F o3 = some true := fun F => by simp [wantedB, g3]
  refine .block (.loopT (fun i => i ≤ m ∧ C i) (fun i => m - i) (fun i => (ti, .int .i64 (i : Int)) :: G i) Hs 0 ⟨Nat.zero_le _, c0⟩ h0 ?_)
  rintro i ⟨him, hC⟩
  have ev1 : vop P ((ti, .int .i64 (i : Int)) :: G i) o1.op = some (True, .bool (decide ((i : Int) < m))) := by
    rw [h1]
    simp only [vop, Fr.eval, Fr.get, Nat.beq_refl, cond_true, ofVal, ofScalar]
    rfl
  refine .sreg (.p (w1 _) (by simp [dstB, d1, n1]) ev1 trivial (.nil ?_ rfl))
  rw [d1]
  show W P n N _ _ ((tc, .bool (decide ((i : Int) < m))) :: (ti, .int .i64 (i : Int)) :: G i) (Hs i)
  have hc : Fr.eval ((tc, .bool (decide ((i : Int) < m))) :: (ti, .int .i64 (i : Int)) :: G i) (.tmp tc) = some (.bool (decide ((i : Int) < m))) := by
    simp only [Fr.eval, Fr.get, Nat.beq_refl, cond_true]
  refine .seq (.cond_dec hc (fun hlt => .skip ?_) (fun hge => .exit ?_))
  · have hlt' : i < m := by omega
    rw [decide_eq_true hlt]
    refine .seq (.block ((round i hlt' hC).mono fun e F' H' hq => ?_))
    have next : C (i + 1) ∧ To N ((ti, .int .i64 (i : Int)) :: G (i + 1)) (Hs (i + 1)) F' H' →
        W P n N (.region r2 #[o2, o3] false) (loopQ (fun i => m - i) i (fun a F H => (a ≤ m ∧ C a) ∧ To N ((ti, .int .i64 (a : Int)) :: G a) (Hs a) F H) (blockQ B Q)) F' H' := by
      rintro ⟨hC', hto⟩
      refine .to hto ?_
      have e2 : vop P ((ti, .int .i64 (i : Int)) :: G (i + 1)) o2.op = some (True, .int .i64 (IntKind.i64.wrap (i + 1))) := by
        rw [h2]
        simp only [vop, Fr.eval, Fr.get, Nat.beq_refl, cond_true, ofVal, ofScalar]
        rfl
      refine .reg (.pe (.int .i64 ((i + 1 : Nat) : Int)) (w2 _) (by simp [dstB, d2, n2]) e2 trivial (by rw [wrap64 (by omega) (by omega)]; rfl) ?_)
      rw [d2]
      have e3 : vop P ((tj, .int .i64 ((i + 1 : Nat) : Int)) :: (ti, .int .i64 (i : Int)) :: G (i + 1)) o3.op = some (True, .int .i64 ((i + 1 : Nat) : Int)) := by
        rw [h3]
        simp only [vop, Fr.eval, Fr.get, Nat.beq_refl, cond_true]
      refine .p (w3 _) (by simp [dstB, d3, n3]) e3 trivial (.nil ?_ rfl)
      rw [d3]
      refine ⟨i + 1, (by show m - (i + 1) < m - i; omega), ⟨by omega, hC'⟩, .same (fun t d' hd => ⟨d', ?_, .refl _⟩) rfl⟩
      simp only [putF, Fr.get] at hd ⊢
      cases hb : Nat.beq ti t with
      | true => rw [hb] at hd; exact hd
      | false =>
        rw [hb] at hd
        simp only [cond_false] at hd ⊢
        cases hb3 : Nat.beq tj t with
        | true =>
          obtain rfl := Nat.eq_of_beq_eq_true hb3
          rw [hfree] at hd
          cases hd
        | false => exact hd
    cases e with
    | normal => exact next hq
    | ret => exact hq
    | exit j =>
      simp only [rangeCQ] at hq
      show blockQ B' _ (.exit j) F' H'
      simp only [blockQ]
      cases hb : Nat.beq j B' with
      | true => rw [hb] at hq; exact next hq
      | false =>
        rw [hb] at hq
        simp only [cond_false] at hq ⊢
        simp only [thenQ, loopQ, blockQ]
        exact hq
  · have : i = m := by omega
    subst this
    rw [decide_eq_false hge]
    show blockQ B Q (.exit B) _ _
    simp only [blockQ, Nat.beq_refl, cond_true]
    exact done hC
end Go.V

/- The logic V, part 29: rules by which a walk goes on by itself. -/
namespace Go.V
section
variable {b : Bool} {P : Program} {n N : Nat} {all : Array Oper} {r : List Oper} {F : Fr} {H : Hp} {L : List Ent} {K : Fr → Hp → Prop} {o : Oper} {t : Nat} {Q Q' : Post} {y : Code}

theorem wrapU {k : IntKind} {x m : Int} (hs : k.signed = false) (hm : (2 ^ k.bits : Int) = m) (h1 : 0 ≤ x) (h2 : x < m) : k.wrap x = x := by
  unfold IntKind.wrap
  rw [hm, hs]
  simp only [Bool.false_and, Bool.false_eq_true, if_false]
  exact Int.emod_eq_of_lt h1 h2
theorem wrap32 {x : Int} (h1 : 0 ≤ x) (h2 : x < 4294967296) : IntKind.u32.wrap x = x := wrapU rfl rfl h1 h2
theorem wrapu64 {x : Int} (h1 : 0 ≤ x) (h2 : x < 18446744073709551616) : IntKind.u64.wrap x = x := wrapU rfl rfl h1 h2
theorem wrap32_mod (x : Int) : IntKind.u32.wrap x = x % 4294967296 := by
  unfold IntKind.wrap
  simp only [show IntKind.u32.signed = false from rfl, Bool.false_and, Bool.false_eq_true, if_false]
  rfl
theorem wrapu64_mod (x : Int) : IntKind.u64.wrap x = x % 18446744073709551616 := by
  unfold IntKind.wrap
  simp only [show IntKind.u64.signed = false from rfl, Bool.false_and, Bool.false_eq_true, if_false]
  rfl

def arE (op : BinOp) (a b : Int) : Option Int := match op with
  | .add => some (a + b)
  | .sub => some (a - b)
  | .mul => some (a * b)
  | _ => none

/-- A whole number that fits. -/
theorem RK.pa {op : BinOp} {t t' : TypeId} {x y : Operand} {a c e : Int} (hw : wantedB all.toList F o = some true) (hd : dstB n o = true) (ho : o.op = .binOp op t x y t') (hx : F.eval x = some (.int .i64 a)) (hy : F.eval y = some (.int .i64 c)) (he : arE op a c = some e) (h1 : -9223372036854775808 ≤ e) (h2 : e ≤ 9223372036854775807)
    (k : RK b P n N all r (putF F o.dst (.int .i64 e)) H (⟨.int .i64 e, [], [], none⟩ :: L) K) : RK b P n N all (o :: r) F H L K := by
  have hv : vop P F o.op = some (True, .int .i64 (IntKind.i64.wrap e)) := by
    rw [ho]
    simp only [vop, hx, hy, binD, decide_true, Bool.true_or, cond_true]
    cases op <;> simp only [arE, Option.some.injEq, reduceCtorEq] at he <;> subst he <;> rfl
  exact .pe _ hw hd hv trivial (by rw [wrap64 h1 h2]) k
theorem RK.pa32 {op : BinOp} {t t' : TypeId} {x y : Operand} {a c e : Int} (hw : wantedB all.toList F o = some true) (hd : dstB n o = true) (ho : o.op = .binOp op t x y t') (hx : F.eval x = some (.int .u32 a)) (hy : F.eval y = some (.int .u32 c)) (he : arE op a c = some e) (h1 : 0 ≤ e) (h2 : e < 4294967296)
    (k : RK b P n N all r (putF F o.dst (.int .u32 e)) H (⟨.int .u32 e, [], [], none⟩ :: L) K) : RK b P n N all (o :: r) F H L K := by
  have hv : vop P F o.op = some (True, .int .u32 (IntKind.u32.wrap e)) := by
    rw [ho]
    simp only [vop, hx, hy, binD, decide_true, Bool.true_or, cond_true]
    cases op <;> simp only [arE, Option.some.injEq, reduceCtorEq] at he <;> subst he <;> rfl
  exact .pe _ hw hd hv trivial (by rw [wrap32 h1 h2]) k
theorem RK.pau {op : BinOp} {t t' : TypeId} {x y : Operand} {a c e : Int} (hw : wantedB all.toList F o = some true) (hd : dstB n o = true) (ho : o.op = .binOp op t x y t') (hx : F.eval x = some (.int .u64 a)) (hy : F.eval y = some (.int .u64 c)) (he : arE op a c = some e) (h1 : 0 ≤ e) (h2 : e < 18446744073709551616)
    (k : RK b P n N all r (putF F o.dst (.int .u64 e)) H (⟨.int .u64 e, [], [], none⟩ :: L) K) : RK b P n N all (o :: r) F H L K := by
  have hv : vop P F o.op = some (True, .int .u64 (IntKind.u64.wrap e)) := by
    rw [ho]
    simp only [vop, hx, hy, binD, decide_true, Bool.true_or, cond_true]
    cases op <;> simp only [arE, Option.some.injEq, reduceCtorEq] at he <;> subst he <;> rfl
  exact .pe _ hw hd hv trivial (by rw [wrapu64 h1 h2]) k

theorem RK.id_ (h : RK b P n N all r F H L K) : RK b P n N all r F H L K := h
theorem RK.cons_ (h : RK b P n N all (o :: r) F H L K) : RK b P n N all (o :: r) F H L K := h
theorem W.id_ (h : W P n N y Q F H) : W P n N y Q F H := h
theorem RK.nilT (hK : K = fun F H => W P n N y Q F H) (h : W P n N y Q F H) (hL : (bif b then quiet L || heapOk all.toList L.reverse else true) = true) : RK b P n N all [] F H L K := .nil (by rw [hK]; exact h) hL
theorem W.skipT (hq : Q .normal = fun F H => W P n N y Q' F H) (h : W P n N y Q' F H) : W P n N .skip Q F H := .skip (by rw [hq]; exact h)
theorem W.labelT {l : Nat} (hq : Q .normal = fun F H => W P n N y Q' F H) (h : W P n N y Q' F H) : W P n N (.label l) Q F H := .label (by rw [hq]; exact h)
theorem W.exitT {i : Nat} (hq : Q (.exit i) = fun F H => W P n N y Q' F H) (h : W P n N y Q' F H) : W P n N (.exit i) Q F H := .exit (by rw [hq]; exact h)

theorem W.blockS {i : Nat} {x y : Code} (h : W P n N (.seq x y) (blockQ i Q) F H) : W P n N (.block i (.seq x y)) Q F H := .block h
theorem W.blockR {i j : Nat} {all : Array Oper} {d : Bool} (h : W P n N (.region j all d) (blockQ i Q) F H) : W P n N (.block i (.region j all d)) Q F H := .block h
theorem W.blockC {i : Nat} {c : Operand} {x y : Code} (h : W P n N (.cond c x y) (blockQ i Q) F H) : W P n N (.block i (.cond c x y)) Q F H := .block h

/-- The head of a row that is read. -/
theorem RK.slT {α : Type} {f : α → D} {xs : List α} (h : Nat) {ty e : TypeId} {x y : Operand} {kk : IntKind} {hh : Int} (hw : wantedB all.toList F o = some true) (hd : dstB n o = true) (ho : o.op = .slice ty x none (some y) none) (hu : P.underlying ty = some (.slice e)) (hs : tySize P e = some 1) (hx : F.eval x = some (.snap (xs.map f) xs.length false))
    (hy : F.eval y = some (.int kk hh)) (eh : hh = (h : Int)) (hle : h ≤ xs.length) (k : RK b P n N all r (putF F o.dst (encL f (xs.take h))) H (⟨encL f (xs.take h), [], [], none⟩ :: L) K) : RK b P n N all (o :: r) F H L K := by
  refine .sl 1 0 h (li := 0) (hh := hh) hw hd ho hu hs hx rfl (by simp only [bound, hy]) rfl eh (Nat.zero_le _) hle ?_ k
  have : (xs.take h).length = h := by simp; omega
  rw [encL, this, List.map_take]
  simp
/-- The rest of a row that is read. -/
theorem RK.slD {α : Type} {f : α → D} {xs : List α} (l : Nat) {ty e : TypeId} {x y : Operand} {kk : IntKind} {ll : Int} (hw : wantedB all.toList F o = some true) (hd : dstB n o = true) (ho : o.op = .slice ty x (some y) none none) (hu : P.underlying ty = some (.slice e)) (hs : tySize P e = some 1) (hx : F.eval x = some (.snap (xs.map f) xs.length false))
    (hy : F.eval y = some (.int kk ll)) (el : ll = (l : Int)) (hle : l ≤ xs.length) (k : RK b P n N all r (putF F o.dst (encL f (xs.drop l))) H (⟨encL f (xs.drop l), [], [], none⟩ :: L) K) : RK b P n N all (o :: r) F H L K := by
  refine .sl 1 l xs.length (li := ll) (hh := xs.length) hw hd ho hu hs hx (by simp only [bound, hy]) rfl el rfl hle (Nat.le_refl _) ?_ k
  have : (xs.drop l).length = xs.length - l := by simp
  rw [encL, this, List.map_drop]
  simp
  rw [List.take_of_length_le (by simp)]
/-- A part of a row that is read. -/
theorem RK.slM {α : Type} {f : α → D} {xs : List α} (l h : Nat) {ty e : TypeId} {x y z : Operand} {kk kk' : IntKind} {ll hh : Int} (hw : wantedB all.toList F o = some true) (hd : dstB n o = true) (ho : o.op = .slice ty x (some y) (some z) none) (hu : P.underlying ty = some (.slice e)) (hs : tySize P e = some 1) (hx : F.eval x = some (.snap (xs.map f) xs.length false))
    (hy : F.eval y = some (.int kk ll)) (hz : F.eval z = some (.int kk' hh)) (el : ll = (l : Int)) (eh : hh = (h : Int)) (hlh : l ≤ h) (hle : h ≤ xs.length) (k : RK b P n N all r (putF F o.dst (encL f ((xs.drop l).take (h - l)))) H (⟨encL f ((xs.drop l).take (h - l)), [], [], none⟩ :: L) K) : RK b P n N all (o :: r) F H L K := by
  refine .sl 1 l h (li := ll) (hh := hh) hw hd ho hu hs hx (by simp only [bound, hy]) (by simp only [bound, hz]) el eh hlh hle ?_ k
  have : ((xs.drop l).take (h - l)).length = h - l := by simp; omega
  rw [encL, this, List.map_take, List.map_drop]
  simp

/-- What a round of a loop leaves that is left by its block's end. -/
def loopEQ {α : Type} (Bk N : Nat) (C E : α → Prop) (μ : α → Nat) (Fs : α → Fr) (Hs : α → Hp) (a : α) (Q : Post) : Post := fun e F H => match e with
  | .normal => ∃ a', μ a' < μ a ∧ C a' ∧ To N (Fs a') (Hs a') F H
  | .exit j => bif Nat.beq j Bk then ∃ a', E a' ∧ To N (Fs a') (Hs a') F H else Q (.exit j) F H
  | .ret => Q .ret F H

theorem W.loopE {Bk : Nat} {c : Code} {α : Type} (C E : α → Prop) (μ : α → Nat) (Fs : α → Fr) (Hs : α → Hp) (a0 : α) (hq : Q .normal = fun F H => W P n N y Q' F H) (hc : C a0) (h0 : To N (Fs a0) (Hs a0) F H)
    (round : ∀ a, C a → W P n N c (loopEQ Bk N C E μ Fs Hs a Q) (Fs a) (Hs a)) (done : ∀ a, E a → W P n N y Q' (Fs a) (Hs a)) : W P n N (.block Bk (.loop c)) Q F H := by
  refine .block (.loopT C μ Fs Hs a0 hc h0 fun a ha => (round a ha).mono fun e F H h => ?_)
  cases e with
  | normal => exact h
  | ret => exact h
  | exit j =>
    show blockQ Bk Q (.exit j) F H
    simp only [loopEQ] at h
    simp only [blockQ]
    cases hb : Nat.beq j Bk with
    | true =>
      rw [hb] at h
      obtain ⟨a', h1, h2⟩ := h
      simp only [cond_true]
      rw [hq]
      exact (done a' h1).to h2
    | false => rw [hb] at h; exact h

/-- A slice that is read at a place that no constant says. -/
theorem get_map {α : Type} {f : α → D} {xs : List α} {i off : Nat} {z : α} (h : i < xs.length) (ho : off = i * 1) : (xs.map f)[off]? = some (f (xs.getD i z)) := by
  subst ho; simp [h]
theorem get_mapA {α : Type} {f : α → D} {xs : List α} {rest : List D} {i off : Nat} {z : α} (h : i < xs.length) (ho : off = i * 1) : (xs.map f ++ rest)[off]? = some (f (xs.getD i z)) := by
  subst ho; rw [List.getElem?_append_left (by simpa using h)]; simp [h]
theorem get_flat {α : Type} {f : α → List D} {s : Nat} (hs : ∀ x, (f x).length = s) {xs : List α} {i j off : Nat} {z : α} {d : D} (h : i < xs.length) (hj : j < s) (ho : off = i * s + j) (hd : (f (xs.getD i z))[j]? = some d) : (xs.flatMap f)[off]? = some d := by
  rw [flat_get hs h hj ho]
  have : xs.getD i z = xs[i] := by simp [h]
  rw [← this]; exact hd
theorem take_flat {α : Type} {f : α → List D} {s : Nat} (hs : ∀ x, (f x).length = s) (h0 : 0 < s) {xs : List α} {i off : Nat} {z : α} (h : i < xs.length) (ho : off = i * s) : takeR (xs.flatMap f) off s = some (f (xs.getD i z)) := by
  have : xs.getD i z = xs[i] := by simp [h]
  rw [this]; exact flat_take hs h0 h ho
/-- A part of an element. -/
theorem take_part {α : Type} {f : α → List D} {s : Nat} (hs : ∀ x, (f x).length = s) {xs : List α} {i j k off : Nat} {z : α} {ds : List D} (h : i < xs.length) (h0 : 0 < k) (hj : j + k ≤ s) (ho : off = i * s + j) (hd : takeR (f (xs.getD i z)) j k = some ds) : takeR (xs.flatMap f) off k = some ds := by
  obtain ⟨hl, hg⟩ := takeR_spec _ _ _ _ hd
  refine takeR_of k _ off ds h0 hl fun m hm => ?_
  obtain ⟨d, h1, h2⟩ := hg m hm
  rw [h2]
  exact get_flat hs (z := z) h (show j + m < s by omega) (by omega) h1
theorem over_map {α : Type} {f : α → D} {xs : List α} {off i : Nat} {v : α} {d : D} (hd : d = f v) (h : i < xs.length) (ho : off = i) : overR (xs.map f) off [d] = some ((xs.set i v).map f) := by
  subst ho; exact over1 hd h

theorem overR_flat {α : Type} {f : α → List D} {s : Nat} (hs : ∀ x, (f x).length = s) {xs : List α} {i off : Nat} {v : α} {ds : List D} (hd : ds = f v) (h : i < xs.length) (ho : off = i * s) : overR (xs.flatMap f) off ds = some ((xs.set i v).flatMap f) := by
  subst hd ho
  have hl : (xs.flatMap f).length = xs.length * s := flatMap_len hs xs
  have hb : i * s + s ≤ xs.length * s := by
    have := Nat.mul_le_mul_right s (show i + 1 ≤ xs.length by omega)
    rw [Nat.add_mul] at this; omega
  rw [overR_of _ _ _ (by rw [hs, hl]; exact hb)]
  congr 1
  have e : xs.set i v = xs.take i ++ v :: xs.drop (i + 1) := by rw [List.set_eq_take_append_cons_drop, if_pos h]
  have hx : xs = xs.take i ++ xs[i] :: xs.drop (i + 1) := by
    rw [← List.drop_eq_getElem_cons h]; simp
  have hA : ((xs.take i).flatMap f).length = i * s := by rw [flatMap_len hs, List.length_take, Nat.min_eq_left (by omega)]
  have h1 : (xs.flatMap f).take (i * s) = (xs.take i).flatMap f := by
    conv => lhs; rw [hx]
    rw [List.flatMap_append, List.take_left' hA]
  have h2 : (xs.flatMap f).drop (i * s + (f v).length) = (xs.drop (i + 1)).flatMap f := by
    conv => lhs; rw [hx]
    rw [List.flatMap_append, List.flatMap_cons, ← List.append_assoc]
    exact List.drop_left' (by rw [List.length_append, hA, hs, hs])
  rw [e, List.flatMap_append, List.flatMap_cons, h1, h2, List.append_assoc]

/-- A part of an element is written. -/
theorem overR_part {α : Type} {f : α → List D} {s : Nat} (hs : ∀ x, (f x).length = s) {xs : List α} {i j off : Nat} {v z : α} {ds : List D} (h : i < xs.length) (hj : j + ds.length ≤ s) (ho : off = i * s + j) (hd : overR (f (xs.getD i z)) j ds = some (f v)) : overR (xs.flatMap f) off ds = some ((xs.set i v).flatMap f) := by
  have hl : (xs.flatMap f).length = xs.length * s := flatMap_len hs xs
  have hb : i * s + s ≤ xs.length * s := by
    have := Nat.mul_le_mul_right s (show i + 1 ≤ xs.length by omega)
    rw [Nat.add_mul] at this; omega
  have hx : xs.getD i z = xs[i] := by simp [h]
  rw [hx] at hd
  rw [overR_of _ _ _ (by rw [hs]; exact hj)] at hd
  have hd := Option.some.inj hd
  have hfull := overR_flat hs (xs := xs) (i := i) (off := i * s) (v := v) (ds := f v) rfl h rfl
  rw [← hfull, overR_of _ _ _ (by rw [hl]; omega), overR_of _ _ _ (by rw [hs, hl]; exact hb)]
  congr 1
  subst ho
  have hxs : xs = xs.take i ++ xs[i] :: xs.drop (i + 1) := by
    rw [← List.drop_eq_getElem_cons h]; simp
  have hA : ((xs.take i).flatMap f).length = i * s := by rw [flatMap_len hs, List.length_take, Nat.min_eq_left (by omega)]
  have hfl : xs.flatMap f = (xs.take i).flatMap f ++ (f xs[i] ++ (xs.drop (i + 1)).flatMap f) := by
    conv => lhs; rw [hxs]
    rw [List.flatMap_append, List.flatMap_cons]
  rw [hs, hfl, ← hd, List.take_left' hA]
  have e1 : List.take (i * s + j) ((xs.take i).flatMap f ++ (f xs[i] ++ (xs.drop (i + 1)).flatMap f)) = (xs.take i).flatMap f ++ (f xs[i]).take j := by
    rw [List.take_append, hA, Nat.add_sub_cancel_left, List.take_of_length_le (by rw [hA]; omega), List.take_append, hs, show j - s = 0 by omega]
    simp
  have e2 : List.drop (i * s + j + ds.length) ((xs.take i).flatMap f ++ (f xs[i] ++ (xs.drop (i + 1)).flatMap f)) = (f xs[i]).drop (j + ds.length) ++ (xs.drop (i + 1)).flatMap f := by
    rw [List.drop_append, hA, List.drop_of_length_le (by rw [hA]; omega), List.nil_append, show i * s + j + ds.length - i * s = j + ds.length by omega, List.drop_append, hs, show j + ds.length - s = 0 by omega]
    simp
  have e3 : List.drop (i * s + s) ((xs.take i).flatMap f ++ (f xs[i] ++ (xs.drop (i + 1)).flatMap f)) = (xs.drop (i + 1)).flatMap f := by
    rw [← List.append_assoc]
    exact List.drop_left' (by rw [List.length_append, hA, hs])
  rw [e1, e2, e3]
  simp [List.append_assoc]
end
end Go.V

/- The logic V, part 30: whole numbers of fixed size, by quotients and remainders. -/
namespace Go.V
section
variable {b : Bool} {P : Program} {n N : Nat} {all : Array Oper} {r : List Oper} {F : Fr} {H : Hp} {L : List Ent} {K : Fr → Hp → Prop} {o : Oper}

/-- What rules an operation asks for. -/
def kindOf : Op → Nat
  | .binOp op _ _ _ _ => match op with
    | .add | .sub | .mul => 1
    | .lss | .leq | .gtr | .geq | .eql | .neq => 0
    | _ => 3
  | .convert .. => 2
  | .indexAddr .. => 4
  | .load .. => 5
  | .box .. | .alloc .. | .store .. => 6
  | .slice .. => 7
  | .call { callee := .builtin .len, .. } | .call { callee := .builtin .min, .. } | .call { callee := .builtin .max, .. } => 0
  | .call .. | .makeSlice .. => 8
  | .unOp .xor _ _ => 3
  | .unOp .neg _ _ => 3
  | _ => 0
theorem RK.k_ (i : Nat) (hk : Nat.beq (kindOf o.op) i = true) (h : RK b P n N all (o :: r) F H L K) : RK b P n N all (o :: r) F H L K := h

theorem wrap_id {k : IntKind} {x lo hi : Int} (hr : (bif k.signed then decide (lo = -(2 ^ (k.bits - 1) : Int) ∧ hi = (2 ^ (k.bits - 1) : Int)) else decide (lo = 0 ∧ hi = (2 ^ k.bits : Int))) = true) (hb : k.bits = k.bits - 1 + 1) (h1 : lo ≤ x) (h2 : x < hi) : k.wrap x = x := by
  unfold IntKind.wrap
  have hp : (2 ^ k.bits : Int) = 2 * 2 ^ (k.bits - 1) := by rw [hb, Int.pow_succ, Nat.add_sub_cancel, Int.mul_comm]
  cases hs : k.signed with
  | true =>
    rw [hs] at hr
    obtain ⟨e1, e2⟩ := of_decide_eq_true hr
    subst e1 e2
    simp only [Bool.true_and, decide_eq_true_eq]
    rw [hp]
    generalize (2 ^ (k.bits - 1) : Int) = m at *
    rcases Int.lt_or_le x 0 with h | h
    · have e : x % (2 * m) = x + 2 * m := by
        rw [← Int.add_emod_right, Int.emod_eq_of_lt (by omega) (by omega)]
      rw [e, if_pos (by omega)]; omega
    · rw [Int.emod_eq_of_lt h (by omega), if_neg (by omega)]
  | false =>
    rw [hs] at hr
    obtain ⟨e1, e2⟩ := of_decide_eq_true hr
    subst e1 e2
    simp only [Bool.false_and, Bool.false_eq_true, if_false]
    exact Int.emod_eq_of_lt h1 h2

theorem SeqK.to {F' : Fr} {H' : Hp} (ht : To N F' H' F H) (h : SeqK P n N all r F' H' K) : SeqK P n N all r F H K := by
  intro i hi w g tm hH hF hs hl
  obtain ⟨g', hH2, hF2, hN, ev⟩ := ht.spec hH hF hl
  exact (h i hi w g' tm hH2 hF2 hs hN).mono fun tm' w' ⟨F2, H2, g2, q, ev2, r⟩ => ⟨F2, H2, g2, q, ev.trans ev2, r⟩
/-- Less may be told of a state within a region that keeps the order of its text. -/
theorem RK.to {F' : Fr} {H' : Hp} (ht : To N F' H' F H) (h : RK false P n N all r F' H' [] K) : RK false P n N all r F H L K := SeqK.to ht h

/-- A row that is appended to nothing, never to be written again. -/
theorem RK.appNil {t e : TypeId} {x y : Operand} {s by_ m : Nat} {tt : Bool} {z : D} {cs : List D} (hw : wantedB all.toList F o = some true) (hd : dstB n o = true) (ho : o.op = .call { callee := .builtin .append, args := #[x, y], argTypes := #[t, t] }) (ht : elemOfSlice P t = some (e, s, by_)) (hz : zeroD P e = some z) (hzl : z.cells.length = s)
    (hx : F.eval x = some .snil) (hy : F.eval y = some (.snap cs m tt)) (hl : cs.length = m * s) (h63 : m ≤ 9223372036854775807) (hb : m * by_ ≤ 140737488355328)
    (k : RK b P n N all r (putF F o.dst (.snap cs m false)) H (⟨.snap cs m false, [], [], none⟩ :: L) K) : RK b P n N all (o :: r) F H L K := by
  have h := HStep.appendF (P := P) (F := F) (H := H) (nx := H.length) (len := 0) (cs0 := []) ho ht hz hzl hx (.inl ⟨rfl, rfl, rfl⟩) hy (.snap hl) (by omega) (by rw [Nat.zero_add]; exact hb)
  rw [List.nil_append, Nat.zero_add] at h
  exact .step hw hd h k
theorem RK.appT {t e : TypeId} {x y : Operand} {s by_ m len : Nat} {tt : Bool} {z : D} {cs cs0 : List D} (hw : wantedB all.toList F o = some true) (hd : dstB n o = true) (ho : o.op = .call { callee := .builtin .append, args := #[x, y], argTypes := #[t, t] }) (ht : elemOfSlice P t = some (e, s, by_)) (hz : zeroD P e = some z) (hzl : z.cells.length = s)
    (hx : F.eval x = some (.snap cs0 len true)) (hl0 : cs0.length = len * s) (hy : F.eval y = some (.snap cs m tt)) (hl : cs.length = m * s) (h63 : len + m ≤ 9223372036854775807) (hb : (len + m) * by_ ≤ 140737488355328)
    (k : RK b P n N all r (putF F o.dst (.snap (cs0 ++ cs) (len + m) false)) H (⟨.snap (cs0 ++ cs) (len + m) false, [], [], none⟩ :: L) K) : RK b P n N all (o :: r) F H L K :=
  .step hw hd (.appendF ho ht hz hzl hx (.inr ⟨rfl, hl0⟩) hy (.snap hl) h63 hb) k

/-- A conversion that keeps the number. -/
theorem RK.cv {k k' : IntKind} {s t : TypeId} {u : TypeDesc} {x : Operand} {a lo hi : Int} (hw : wantedB all.toList F o = some true) (hd : dstB n o = true) (ho : o.op = .convert s t x) (hs : P.underlying s = some u) (ht : P.underlying t = some (.int k)) (hx : F.eval x = some (.int k' a))
    (hr : (bif k.signed then decide (lo = -(2 ^ (k.bits - 1) : Int) ∧ hi = (2 ^ (k.bits - 1) : Int)) else decide (lo = 0 ∧ hi = (2 ^ k.bits : Int))) = true) (hb : k.bits = k.bits - 1 + 1) (h1 : lo ≤ a) (h2 : a < hi)
    (kk : RK b P n N all r (putF F o.dst (.int k a)) H (⟨.int k a, [], [], none⟩ :: L) K) : RK b P n N all (o :: r) F H L K := by
  have hv : vop P F o.op = some (True, .int k (k.wrap a)) := by rw [ho]; simp only [vop, hs, ht, hx]
  exact .pe _ hw hd hv trivial (by rw [wrap_id hr hb h1 h2]) kk
abbrev RK.cv64 {s t : TypeId} {u : TypeDesc} {x : Operand} {k' : IntKind} {a : Int} (hw : wantedB all.toList F o = some true) (hd : dstB n o = true) (ho : o.op = .convert s t x) (hs : P.underlying s = some u) (ht : P.underlying t = some (.int .i64)) (hx : F.eval x = some (.int k' a)) (h1 : -9223372036854775808 ≤ a) (h2 : a < 9223372036854775808)
    (kk : RK b P n N all r (putF F o.dst (.int .i64 a)) H (⟨.int .i64 a, [], [], none⟩ :: L) K) : RK b P n N all (o :: r) F H L K := RK.cv hw hd ho hs ht hx rfl rfl h1 h2 kk
abbrev RK.cvu {s t : TypeId} {u : TypeDesc} {x : Operand} {k' : IntKind} {a : Int} (hw : wantedB all.toList F o = some true) (hd : dstB n o = true) (ho : o.op = .convert s t x) (hs : P.underlying s = some u) (ht : P.underlying t = some (.int .u64)) (hx : F.eval x = some (.int k' a)) (h1 : 0 ≤ a) (h2 : a < 18446744073709551616)
    (kk : RK b P n N all r (putF F o.dst (.int .u64 a)) H (⟨.int .u64 a, [], [], none⟩ :: L) K) : RK b P n N all (o :: r) F H L K := RK.cv hw hd ho hs ht hx rfl rfl h1 h2 kk
abbrev RK.cv32 {s t : TypeId} {u : TypeDesc} {x : Operand} {k' : IntKind} {a : Int} (hw : wantedB all.toList F o = some true) (hd : dstB n o = true) (ho : o.op = .convert s t x) (hs : P.underlying s = some u) (ht : P.underlying t = some (.int .u32)) (hx : F.eval x = some (.int k' a)) (h1 : 0 ≤ a) (h2 : a < 4294967296)
    (kk : RK b P n N all r (putF F o.dst (.int .u32 a)) H (⟨.int .u32 a, [], [], none⟩ :: L) K) : RK b P n N all (o :: r) F H L K := RK.cv hw hd ho hs ht hx rfl rfl h1 h2 kk
/-- .. and one that keeps its remainder. -/
theorem RK.cvm {s t : TypeId} {u : TypeDesc} {x : Operand} {k' : IntKind} {a : Int} (hw : wantedB all.toList F o = some true) (hd : dstB n o = true) (ho : o.op = .convert s t x) (hs : P.underlying s = some u) (ht : P.underlying t = some (.int .u32)) (hx : F.eval x = some (.int k' a))
    (kk : RK b P n N all r (putF F o.dst (.int .u32 (a % 4294967296))) H (⟨.int .u32 (a % 4294967296), [], [], none⟩ :: L) K) : RK b P n N all (o :: r) F H L K := by
  have hv : vop P F o.op = some (True, .int .u32 (IntKind.u32.wrap a)) := by rw [ho]; simp only [vop, hs, ht, hx]
  exact .pe _ hw hd hv trivial (by rw [wrap32_mod]) kk
theorem RK.cvmu {s t : TypeId} {u : TypeDesc} {x : Operand} {k' : IntKind} {a : Int} (hw : wantedB all.toList F o = some true) (hd : dstB n o = true) (ho : o.op = .convert s t x) (hs : P.underlying s = some u) (ht : P.underlying t = some (.int .u64)) (hx : F.eval x = some (.int k' a))
    (kk : RK b P n N all r (putF F o.dst (.int .u64 (a % 18446744073709551616))) H (⟨.int .u64 (a % 18446744073709551616), [], [], none⟩ :: L) K) : RK b P n N all (o :: r) F H L K := by
  have hv : vop P F o.op = some (True, .int .u64 (IntKind.u64.wrap a)) := by rw [ho]; simp only [vop, hs, ht, hx]
  exact .pe _ hw hd hv trivial (by rw [wrapu64_mod]) kk

theorem RK.pm32 {op : BinOp} {t t' : TypeId} {x y : Operand} {a c e : Int} (hw : wantedB all.toList F o = some true) (hd : dstB n o = true) (ho : o.op = .binOp op t x y t') (hx : F.eval x = some (.int .u32 a)) (hy : F.eval y = some (.int .u32 c)) (he : arE op a c = some e)
    (k : RK b P n N all r (putF F o.dst (.int .u32 (e % 4294967296))) H (⟨.int .u32 (e % 4294967296), [], [], none⟩ :: L) K) : RK b P n N all (o :: r) F H L K := by
  have hv : vop P F o.op = some (True, .int .u32 (IntKind.u32.wrap e)) := by
    rw [ho]
    simp only [vop, hx, hy, binD, decide_true, Bool.true_or, cond_true]
    cases op <;> simp only [arE, Option.some.injEq, reduceCtorEq] at he <;> subst he <;> rfl
  exact .pe _ hw hd hv trivial (by rw [wrap32_mod]) k
theorem RK.pmu {op : BinOp} {t t' : TypeId} {x y : Operand} {a c e : Int} (hw : wantedB all.toList F o = some true) (hd : dstB n o = true) (ho : o.op = .binOp op t x y t') (hx : F.eval x = some (.int .u64 a)) (hy : F.eval y = some (.int .u64 c)) (he : arE op a c = some e)
    (k : RK b P n N all r (putF F o.dst (.int .u64 (e % 18446744073709551616))) H (⟨.int .u64 (e % 18446744073709551616), [], [], none⟩ :: L) K) : RK b P n N all (o :: r) F H L K := by
  have hv : vop P F o.op = some (True, .int .u64 (IntKind.u64.wrap e)) := by
    rw [ho]
    simp only [vop, hx, hy, binD, decide_true, Bool.true_or, cond_true]
    cases op <;> simp only [arE, Option.some.injEq, reduceCtorEq] at he <;> subst he <;> rfl
  exact .pe _ hw hd hv trivial (by rw [wrapu64_mod]) k

theorem fdiv_pos {a c : Int} (hc : 0 < c) : a.fdiv c = a / c := Int.fdiv_eq_ediv_of_nonneg a (Int.le_of_lt hc)

/-- A shift to the right is a quotient. -/
theorem RK.shr (c : Int) {t t' : TypeId} {x y : Operand} {k k' : IntKind} {a j : Int} (hw : wantedB all.toList F o = some true) (hd : dstB n o = true) (ho : o.op = .binOp .shr t x y t') (hx : F.eval x = some (.int k a)) (hy : F.eval y = some (.int k' j)) (h0 : 0 ≤ j) (hc : (2 ^ (min j.toNat k.bits) : Int) = c)
    (kk : RK b P n N all r (putF F o.dst (.int k (a / c))) H (⟨.int k (a / c), [], [], none⟩ :: L) K) : RK b P n N all (o :: r) F H L K := by
  subst hc
  have hv : vop P F o.op = some (0 ≤ j, .int k (a.fdiv (2 ^ (min j.toNat k.bits)))) := by
    rw [ho]
    simp only [vop, hx, hy, binD, isSh, Bool.or_true, cond_true]
    rfl
  exact .pe _ hw hd hv h0 (by rw [fdiv_pos (Int.pow_pos (by decide))]) kk
/-- A shift to the left is a product. -/
theorem RK.shl (c : Int) {t t' : TypeId} {x y : Operand} {k k' : IntKind} {a j lo hi : Int} (hw : wantedB all.toList F o = some true) (hd : dstB n o = true) (ho : o.op = .binOp .shl t x y t') (hx : F.eval x = some (.int k a)) (hy : F.eval y = some (.int k' j)) (h0 : 0 ≤ j) (hc : (2 ^ (min j.toNat k.bits) : Int) = c)
    (hr : (bif k.signed then decide (lo = -(2 ^ (k.bits - 1) : Int) ∧ hi = (2 ^ (k.bits - 1) : Int)) else decide (lo = 0 ∧ hi = (2 ^ k.bits : Int))) = true) (hb : k.bits = k.bits - 1 + 1) (h1 : lo ≤ a * c) (h2 : a * c < hi)
    (kk : RK b P n N all r (putF F o.dst (.int k (a * c))) H (⟨.int k (a * c), [], [], none⟩ :: L) K) : RK b P n N all (o :: r) F H L K := by
  subst hc
  have hv : vop P F o.op = some (0 ≤ j, .int k (k.wrap (a * 2 ^ (min j.toNat k.bits)))) := by
    rw [ho]
    simp only [vop, hx, hy, binD, isSh, Bool.or_true, cond_true]
    rfl
  exact .pe _ hw hd hv h0 (by rw [wrap_id hr hb h1 h2]) kk

theorem ofInt_nat {w : Nat} {a : Int} (h0 : 0 ≤ a) (h1 : a < 2 ^ w) : (BitVec.ofInt w a).toNat = a.toNat := by
  rw [BitVec.toNat_ofInt]
  congr 1
  exact Int.emod_eq_of_lt h0 (by exact_mod_cast h1)

/-- A number with a high and a low part. -/
theorem or_parts {h l : Nat} {w : Nat} (hl : l < 2 ^ w) : h * 2 ^ w ||| l = h * 2 ^ w + l := by
  rw [Nat.mul_comm, Nat.two_pow_add_eq_or_of_lt hl]
theorem RK.or32 {t t' : TypeId} {x y : Operand} {a c : Int} (hw : wantedB all.toList F o = some true) (hd : dstB n o = true) (ho : o.op = .binOp .or t x y t') (hx : F.eval x = some (.int .u64 (a * 4294967296))) (hy : F.eval y = some (.int .u64 c)) (h0 : 0 ≤ a) (h1 : a < 4294967296) (h2 : 0 ≤ c) (h3 : c < 4294967296)
    (k : RK b P n N all r (putF F o.dst (.int .u64 (a * 4294967296 + c))) H (⟨.int .u64 (a * 4294967296 + c), [], [], none⟩ :: L) K) : RK b P n N all (o :: r) F H L K := by
  have hv : vop P F o.op = some (True, .int .u64 (IntKind.u64.wrap ((BitVec.ofInt 64 (a * 4294967296) ||| BitVec.ofInt 64 c).toNat))) := by
    rw [ho]
    simp only [vop, hx, hy, binD, decide_true, Bool.true_or, cond_true]
    rfl
  refine .pe _ hw hd hv trivial ?_ k
  rw [BitVec.toNat_or, ofInt_nat (by omega) (by omega), ofInt_nat h2 (by omega)]
  have e : (a * 4294967296).toNat = a.toNat * 2 ^ 32 := by omega
  rw [e, or_parts (by omega)]
  rw [wrapu64 (by omega) (by omega)]
  congr 1
  omega
/-- The low part of a number. -/
theorem RK.and32 {t t' : TypeId} {x y : Operand} {a : Int} (hw : wantedB all.toList F o = some true) (hd : dstB n o = true) (ho : o.op = .binOp .and t x y t') (hx : F.eval x = some (.int .u64 a)) (hy : F.eval y = some (.int .u64 4294967295)) (h0 : 0 ≤ a) (h1 : a < 18446744073709551616)
    (k : RK b P n N all r (putF F o.dst (.int .u64 (a % 4294967296))) H (⟨.int .u64 (a % 4294967296), [], [], none⟩ :: L) K) : RK b P n N all (o :: r) F H L K := by
  have hv : vop P F o.op = some (True, .int .u64 (IntKind.u64.wrap ((BitVec.ofInt 64 a &&& BitVec.ofInt 64 4294967295).toNat))) := by
    rw [ho]
    simp only [vop, hx, hy, binD, decide_true, Bool.true_or, cond_true]
    rfl
  refine .pe _ hw hd hv trivial ?_ k
  rw [BitVec.toNat_and, ofInt_nat h0 (by omega), show (BitVec.ofInt 64 4294967295).toNat = 2 ^ 32 - 1 from rfl, Nat.and_two_pow_sub_one_eq_mod]
  rw [wrapu64 (by omega) (by omega)]
  congr 1
  omega
/-- The last bit. -/
theorem and1 {a : Int} (h0 : 0 ≤ a) (h1 : a < 9223372036854775808) : IntKind.i64.wrap ((BitVec.ofInt 64 a &&& BitVec.ofInt 64 1).toNat) = a % 2 := by
  rw [BitVec.toNat_and, ofInt_nat h0 (by omega), show (BitVec.ofInt 64 1).toNat = 2 ^ 1 - 1 from rfl, Nat.and_two_pow_sub_one_eq_mod]
  rw [wrap64 (by omega) (by omega)]
  omega
theorem RK.and1 {t t' : TypeId} {x y : Operand} {a : Int} (hw : wantedB all.toList F o = some true) (hd : dstB n o = true) (ho : o.op = .binOp .and t x y t') (hx : F.eval x = some (.int .i64 a)) (hy : F.eval y = some (.int .i64 1)) (h0 : 0 ≤ a) (h1 : a < 9223372036854775808)
    (k : RK b P n N all r (putF F o.dst (.int .i64 (a % 2))) H (⟨.int .i64 (a % 2), [], [], none⟩ :: L) K) : RK b P n N all (o :: r) F H L K := by
  have hv : vop P F o.op = some (True, .int .i64 (IntKind.i64.wrap ((BitVec.ofInt 64 a &&& BitVec.ofInt 64 1).toNat))) := by
    rw [ho]
    simp only [vop, hx, hy, binD, decide_true, Bool.true_or, cond_true]
    rfl
  exact .pe _ hw hd hv trivial (by rw [Go.V.and1 h0 h1]) k
/-- Quotient and remainder of numbers that are not negative. -/
theorem RK.quo {t t' : TypeId} {x y : Operand} {k : IntKind} {a c : Int} (hw : wantedB all.toList F o = some true) (hd : dstB n o = true) (ho : o.op = .binOp .quo t x y t') (hx : F.eval x = some (.int k a)) (hy : F.eval y = some (.int k c)) (h0 : 0 ≤ a) (h1 : 0 < c) (h2 : k.wrap (a / c) = a / c)
    (kk : RK b P n N all r (putF F o.dst (.int k (a / c))) H (⟨.int k (a / c), [], [], none⟩ :: L) K) : RK b P n N all (o :: r) F H L K := by
  have hv : vop P F o.op = some (c ≠ 0, .int k (k.wrap (a.tdiv c))) := by
    rw [ho]
    simp only [vop, hx, hy, binD, decide_true, Bool.true_or, cond_true]
    rfl
  exact .pe _ hw hd hv (by omega) (by rw [Int.tdiv_eq_ediv_of_nonneg h0, h2]) kk
theorem RK.rem {t t' : TypeId} {x y : Operand} {k : IntKind} {a c : Int} (hw : wantedB all.toList F o = some true) (hd : dstB n o = true) (ho : o.op = .binOp .rem t x y t') (hx : F.eval x = some (.int k a)) (hy : F.eval y = some (.int k c)) (h0 : 0 ≤ a) (h1 : 0 < c)
    (kk : RK b P n N all r (putF F o.dst (.int k (a % c))) H (⟨.int k (a % c), [], [], none⟩ :: L) K) : RK b P n N all (o :: r) F H L K := by
  have hv : vop P F o.op = some (c ≠ 0, .int k (a.tmod c)) := by
    rw [ho]
    simp only [vop, hx, hy, binD, decide_true, Bool.true_or, cond_true]
    rfl
  exact .pe _ hw hd hv (by omega) (by rw [Int.tmod_eq_emod_of_nonneg h0]) kk
end
end Go.V

/- The logic V, part 31: ranges that carry a state along. -/
namespace Go.V
def rangeQS {σ : Type} (B B' : Nat) (N : Nat) (ti tn : Nat) (m : Nat) (G : Nat → σ → Fr) (Hs : Nat → σ → Hp) (C : Nat → σ → Prop) (i : Nat) (Q : Post) : Post := fun e F H =>
  match e with
  | .normal => ∃ s', C (i + 1) s' ∧ To N ((ti, .int .i64 (i : Int)) :: (tn, .int .i64 (m : Int)) :: G (i + 1) s') (Hs (i + 1) s') F H
  | .exit j => bif Nat.beq j B' then (∃ s', C (i + 1) s' ∧ To N ((ti, .int .i64 (i : Int)) :: (tn, .int .i64 (m : Int)) :: G (i + 1) s') (Hs (i + 1) s') F H)
      else bif Nat.beq j B then Q .normal F H else Q (.exit j) F H
  | .ret => Q .ret F H

theorem W.rangeS {σ : Type} {P : Program} {n N : Nat} {F : Fr} {H : Hp} {Q : Post} {B B' r1 r2 ti tn tc tj : Nat} {T1 T2 T3 T4 : TypeId} {o1 o2 o3 : Oper} {body : Code} (m : Nat) (G : Nat → σ → Fr) (Hs : Nat → σ → Hp) (C : Nat → σ → Prop) (s0 : σ)
    (h1 : o1.op = .binOp .lss T1 (.tmp ti) (.tmp tn) T2) (d1 : o1.dst = some tc) (g1 : o1.guard = none)
    (h2 : o2.op = .binOp .add T3 (.tmp ti) (.const (.int .i64 1)) T4) (d2 : o2.dst = some tj) (g2 : o2.guard = none)
    (h3 : o3.op = .move (.tmp tj)) (d3 : o3.dst = some ti) (g3 : o3.guard = none)
    (hn : (Nat.blt tc n && Nat.blt tj n && Nat.blt ti n && !Nat.beq tc ti && !Nat.beq tc tn && !Nat.beq ti tn && !Nat.beq tj ti && !Nat.beq tj tn && !Nat.beq B' B) = true) (hm : m ≤ 9223372036854775807)
    (c0 : C 0 s0) (h0 : To N ((ti, .int .i64 (0 : Nat)) :: (tn, .int .i64 (m : Int)) :: G 0 s0) (Hs 0 s0) F H)
    (hfree : ∀ i s, (G i s).get tj = none)
    (round : ∀ i s, i < m → C i s → W P n N body (rangeQS B B' N ti tn m G Hs C i Q) ((tc, .bool true) :: (ti, .int .i64 (i : Int)) :: (tn, .int .i64 (m : Int)) :: G i s) (Hs i s))
    (done : ∀ s, C m s → Q .normal ((tc, .bool false) :: (ti, .int .i64 (m : Int)) :: (tn, .int .i64 (m : Int)) :: G m s) (Hs m s)) :
    W P n N (.block B (.loop (.seq (.region r1 #[o1] false) (.seq (.cond (.tmp tc) .skip (.exit B)) (.seq (.block B' body) (.region r2 #[o2, o3] false)))))) Q F H := by
  simp only [Bool.and_eq_true, Bool.not_eq_true'] at hn
  obtain ⟨⟨⟨⟨⟨⟨⟨⟨n1, n2⟩, n3⟩, n4⟩, n5⟩, n6⟩, n7⟩, n8⟩, n9⟩ := hn
  have w1 : ∀ F, wantedB [o1] F o1 = some true := fun F => by simp [wantedB, g1]
  have w2 : ∀ F, wantedB [o2, o3] F o2 = some true := fun F => by simp [wantedB, g2]
  have w3 : ∀ F, wantedB [o2, o3] F o3 = some true := fun F => by simp [wantedB, g3]
  refine .block (.loopT (fun (p : Nat × σ) => p.1 ≤ m ∧ C p.1 p.2) (fun p => m - p.1) (fun p => (ti, .int .i64 (p.1 : Int)) :: (tn, .int .i64 (m : Int)) :: G p.1 p.2) (fun p => Hs p.1 p.2) (0, s0) ⟨Nat.zero_le _, c0⟩ h0 ?_)
  rintro ⟨i, s⟩ ⟨him, hC⟩
  have him : i ≤ m := him
  have hC : C i s := hC
  show W P n N _ _ _ (Hs i s)
  have ev1 : vop P ((ti, .int .i64 (i : Int)) :: (tn, .int .i64 (m : Int)) :: G i s) o1.op = some (True, .bool (decide ((i : Int) < m))) := by
    rw [h1]
    simp only [vop, Fr.eval, Fr.get, Nat.beq_refl, cond_true, n6, cond_false]
    rfl
  refine .sreg (.p (w1 _) (by simp [dstB, d1, n1]) ev1 trivial (.nil ?_ rfl))
  rw [d1]
  show W P n N _ _ ((tc, .bool (decide ((i : Int) < m))) :: (ti, .int .i64 (i : Int)) :: (tn, .int .i64 (m : Int)) :: G i s) (Hs i s)
  have hc : Fr.eval ((tc, .bool (decide ((i : Int) < m))) :: (ti, .int .i64 (i : Int)) :: (tn, .int .i64 (m : Int)) :: G i s) (.tmp tc) = some (.bool (decide ((i : Int) < m))) := by
    simp only [Fr.eval, Fr.get, Nat.beq_refl, cond_true]
  refine .seq (.cond_dec hc (fun hlt => .skip ?_) (fun hge => .exit ?_))
  · have hlt' : i < m := by omega
    rw [decide_eq_true hlt]
    refine .seq (.block ((round i s hlt' hC).mono fun e F' H' hq => ?_))
    have next : (∃ s', C (i + 1) s' ∧ To N ((ti, .int .i64 (i : Int)) :: (tn, .int .i64 (m : Int)) :: G (i + 1) s') (Hs (i + 1) s') F' H') →
        W P n N (.region r2 #[o2, o3] false) (loopQ (fun (p : Nat × σ) => m - p.1) (i, s) (fun (a : Nat × σ) F H => (a.1 ≤ m ∧ C a.1 a.2) ∧ To N ((ti, .int .i64 (a.1 : Int)) :: (tn, .int .i64 (m : Int)) :: G a.1 a.2) (Hs a.1 a.2) F H) (blockQ B Q)) F' H' := by
      rintro ⟨s', hC', hto⟩
      refine .to hto ?_
      have e2 : vop P ((ti, .int .i64 (i : Int)) :: (tn, .int .i64 (m : Int)) :: G (i + 1) s') o2.op = some (True, .int .i64 (IntKind.i64.wrap (i + 1))) := by
        rw [h2]
        simp only [vop, Fr.eval, Fr.get, Nat.beq_refl, cond_true, ofVal, ofScalar]
        rfl
      refine .reg (.pe (.int .i64 ((i + 1 : Nat) : Int)) (w2 _) (by simp [dstB, d2, n2]) e2 trivial (by rw [wrap64 (by omega) (by omega)]; rfl) ?_)
      rw [d2]
      have e3 : vop P ((tj, .int .i64 ((i + 1 : Nat) : Int)) :: (ti, .int .i64 (i : Int)) :: (tn, .int .i64 (m : Int)) :: G (i + 1) s') o3.op = some (True, .int .i64 ((i + 1 : Nat) : Int)) := by
        rw [h3]
        simp only [vop, Fr.eval, Fr.get, Nat.beq_refl, cond_true]
      refine .p (w3 _) (by simp [dstB, d3, n3]) e3 trivial (.nil ?_ rfl)
      rw [d3]
      refine ⟨(i + 1, s'), (by show m - (i + 1) < m - i; omega), ⟨by omega, hC'⟩, .same (fun t d' hd => ⟨d', ?_, .refl _⟩) rfl⟩
      simp only [putF, Fr.get] at hd ⊢
      cases hb : Nat.beq ti t with
      | true => rw [hb] at hd; exact hd
      | false =>
        rw [hb] at hd
        simp only [cond_false] at hd ⊢
        cases hb2 : Nat.beq tn t with
        | true =>
          obtain rfl := Nat.eq_of_beq_eq_true hb2
          simp only [n8, Nat.beq_refl, cond_false, cond_true] at hd ⊢
          exact hd
        | false =>
          rw [hb2] at hd
          simp only [cond_false] at hd ⊢
          cases hb3 : Nat.beq tj t with
          | true =>
            obtain rfl := Nat.eq_of_beq_eq_true hb3
            rw [hfree] at hd
            cases hd
          | false => exact hd
    cases e with
    | normal => exact next hq
    | ret => exact hq
    | exit j =>
      simp only [rangeQS] at hq
      show blockQ B' _ (.exit j) F' H'
      simp only [blockQ]
      cases hb : Nat.beq j B' with
      | true => rw [hb] at hq; exact next hq
      | false =>
        rw [hb] at hq
        simp only [cond_false] at hq ⊢
        simp only [thenQ, loopQ, blockQ]
        exact hq
  · have : i = m := by omega
    subst this
    rw [decide_eq_false hge]
    show blockQ B Q (.exit B) _ _
    simp only [blockQ, Nat.beq_refl, cond_true]
    exact done s hC

def rangeCQS {σ : Type} (B B' : Nat) (N : Nat) (ti : Nat) (G : Nat → σ → Fr) (Hs : Nat → σ → Hp) (C : Nat → σ → Prop) (i : Nat) (Q : Post) : Post := fun e F H =>
  match e with
  | .normal => ∃ s', C (i + 1) s' ∧ To N ((ti, .int .i64 (i : Int)) :: G (i + 1) s') (Hs (i + 1) s') F H
  | .exit j => bif Nat.beq j B' then (∃ s', C (i + 1) s' ∧ To N ((ti, .int .i64 (i : Int)) :: G (i + 1) s') (Hs (i + 1) s') F H)
      else bif Nat.beq j B then Q .normal F H else Q (.exit j) F H
  | .ret => Q .ret F H

theorem W.rangeCS {σ : Type} {P : Program} {n N : Nat} {F : Fr} {H : Hp} {Q : Post} {B B' r1 r2 ti tc tj : Nat} {T1 T2 T3 T4 : TypeId} {o1 o2 o3 : Oper} {body : Code} (m : Nat) (G : Nat → σ → Fr) (Hs : Nat → σ → Hp) (C : Nat → σ → Prop) (s0 : σ)
    (h1 : o1.op = .binOp .lss T1 (.tmp ti) (.const (.int .i64 (m : Int))) T2) (d1 : o1.dst = some tc) (g1 : o1.guard = none)
    (h2 : o2.op = .binOp .add T3 (.tmp ti) (.const (.int .i64 1)) T4) (d2 : o2.dst = some tj) (g2 : o2.guard = none)
    (h3 : o3.op = .move (.tmp tj)) (d3 : o3.dst = some ti) (g3 : o3.guard = none)
    (hn : (Nat.blt tc n && Nat.blt tj n && Nat.blt ti n && !Nat.beq tc ti && !Nat.beq tj ti && !Nat.beq B' B) = true) (hm : m ≤ 9223372036854775807)
    (c0 : C 0 s0) (h0 : To N ((ti, .int .i64 (0 : Nat)) :: G 0 s0) (Hs 0 s0) F H)
    (hfree : ∀ i s, (G i s).get tj = none)
    (round : ∀ i s, i < m → C i s → W P n N body (rangeCQS B B' N ti G Hs C i Q) ((tc, .bool true) :: (ti, .int .i64 (i : Int)) :: G i s) (Hs i s))
    (done : ∀ s, C m s → Q .normal ((tc, .bool false) :: (ti, .int .i64 (m : Int)) :: G m s) (Hs m s)) :
    W P n N (.block B (.loop (.seq (.region r1 #[o1] false) (.seq (.cond (.tmp tc) .skip (.exit B)) (.seq (.block B' body) (.region r2 #[o2, o3] false)))))) Q F H := by
  simp only [Bool.and_eq_true, Bool.not_eq_true'] at hn
  obtain ⟨⟨⟨⟨⟨n1, n2⟩, n3⟩, n4⟩, n7⟩, n9⟩ := hn
  have w1 : ∀ F, wantedB [o1] F o1 = some true := fun F => by simp [wantedB, g1]
  have w2 : ∀ F, wantedB [o2, o3] F o2 = some true := fun F => by simp [wantedB, g2]
  have w3 : ∀ F, wantedB [o2, o3] F o3 = some true := fun F => by simp [wantedB, g3]
  refine .block (.loopT (fun (p : Nat × σ) => p.1 ≤ m ∧ C p.1 p.2) (fun p => m - p.1) (fun p => (ti, .int .i64 (p.1 : Int)) :: G p.1 p.2) (fun p => Hs p.1 p.2) (0, s0) ⟨Nat.zero_le _, c0⟩ h0 ?_)
  rintro ⟨i, s⟩ ⟨him, hC⟩
  have him : i ≤ m := him
  have hC : C i s := hC
  show W P n N _ _ _ (Hs i s)
  have ev1 : vop P ((ti, .int .i64 (i : Int)) :: G i s) o1.op = some (True, .bool (decide ((i : Int) < m))) := by
    rw [h1]
    simp only [vop, Fr.eval, Fr.get, Nat.beq_refl, cond_true, ofVal, ofScalar]
    rfl
  refine .sreg (.p (w1 _) (by simp [dstB, d1, n1]) ev1 trivial (.nil ?_ rfl))
  rw [d1]
  show W P n N _ _ ((tc, .bool (decide ((i : Int) < m))) :: (ti, .int .i64 (i : Int)) :: G i s) (Hs i s)
  have hc : Fr.eval ((tc, .bool (decide ((i : Int) < m))) :: (ti, .int .i64 (i : Int)) :: G i s) (.tmp tc) = some (.bool (decide ((i : Int) < m))) := by
    simp only [Fr.eval, Fr.get, Nat.beq_refl, cond_true]
  refine .seq (.cond_dec hc (fun hlt => .skip ?_) (fun hge => .exit ?_))
  · have hlt' : i < m := by omega
    rw [decide_eq_true hlt]
    refine .seq (.block ((round i s hlt' hC).mono fun e F' H' hq => ?_))
    have next : (∃ s', C (i + 1) s' ∧ To N ((ti, .int .i64 (i : Int)) :: G (i + 1) s') (Hs (i + 1) s') F' H') →
        W P n N (.region r2 #[o2, o3] false) (loopQ (fun (p : Nat × σ) => m - p.1) (i, s) (fun (a : Nat × σ) F H => (a.1 ≤ m ∧ C a.1 a.2) ∧ To N ((ti, .int .i64 (a.1 : Int)) :: G a.1 a.2) (Hs a.1 a.2) F H) (blockQ B Q)) F' H' := by
      rintro ⟨s', hC', hto⟩
      refine .to hto ?_
      have e2 : vop P ((ti, .int .i64 (i : Int)) :: G (i + 1) s') o2.op = some (True, .int .i64 (IntKind.i64.wrap (i + 1))) := by
        rw [h2]
        simp only [vop, Fr.eval, Fr.get, Nat.beq_refl, cond_true, ofVal, ofScalar]
        rfl
      refine .reg (.pe (.int .i64 ((i + 1 : Nat) : Int)) (w2 _) (by simp [dstB, d2, n2]) e2 trivial (by rw [wrap64 (by omega) (by omega)]; rfl) ?_)
      rw [d2]
      have e3 : vop P ((tj, .int .i64 ((i + 1 : Nat) : Int)) :: (ti, .int .i64 (i : Int)) :: G (i + 1) s') o3.op = some (True, .int .i64 ((i + 1 : Nat) : Int)) := by
        rw [h3]
        simp only [vop, Fr.eval, Fr.get, Nat.beq_refl, cond_true]
      refine .p (w3 _) (by simp [dstB, d3, n3]) e3 trivial (.nil ?_ rfl)
      rw [d3]
      refine ⟨(i + 1, s'), (by show m - (i + 1) < m - i; omega), ⟨by omega, hC'⟩, .same (fun t d' hd => ⟨d', ?_, .refl _⟩) rfl⟩
      simp only [putF, Fr.get] at hd ⊢
      cases hb : Nat.beq ti t with
      | true => rw [hb] at hd; exact hd
      | false =>
        rw [hb] at hd
        simp only [cond_false] at hd ⊢
        cases hb3 : Nat.beq tj t with
        | true =>
          obtain rfl := Nat.eq_of_beq_eq_true hb3
          rw [hfree] at hd
          cases hd
        | false => exact hd
    cases e with
    | normal => exact next hq
    | ret => exact hq
    | exit j =>
      simp only [rangeCQS] at hq
      show blockQ B' _ (.exit j) F' H'
      simp only [blockQ]
      cases hb : Nat.beq j B' with
      | true => rw [hb] at hq; exact next hq
      | false =>
        rw [hb] at hq
        simp only [cond_false] at hq ⊢
        simp only [thenQ, loopQ, blockQ]
        exact hq
  · have : i = m := by omega
    subst this
    rw [decide_eq_false hge]
    show blockQ B Q (.exit B) _ _
    simp only [blockQ, Nat.beq_refl, cond_true]
    exact done s hC
theorem W.thenT {P : Program} {n N : Nat} {F : Fr} {H : Hp} {Q : Post} {y : Code} (h : W P n N y Q F H) : thenQ P n N y Q .normal F H := h
/-- Two ways that meet in one state. -/
theorem W.join {P : Program} {n N : Nat} {F : Fr} {H : Hp} {Q : Post} {x y : Code} (G : Fr) (H1 : Hp) (h : W P n N x (midQ N G H1) F H) (k : W P n N y Q G H1) : W P n N x (thenQ P n N y Q) F H :=
  h.mono fun e F' H' hq => by
    cases e with
    | normal => exact k.to hq
    | exit i => exact hq.elim
    | ret => exact hq.elim
/-- .. where some ways leave. -/
theorem W.joinP {P : Program} {n N : Nat} {F : Fr} {H : Hp} {Q : Post} {x y : Code} (p : Prop) (G : Fr) (H1 : Hp) (h : W P n N x (midPQ N p G H1 (thenQ P n N y Q)) F H) (k : p → W P n N y Q G H1) : W P n N x (thenQ P n N y Q) F H :=
  h.mono fun e F' H' hq => by
    cases e with
    | normal => exact (k hq.1).to hq.2
    | exit i => exact hq
    | ret => exact hq
/-- A call of a function value. -/
theorem RK.callC {P : Program} {n N : Nat} {all : Array Oper} {r : List Oper} {F : Fr} {H : Hp} {L : List Ent} {K : Fr → Hp → Prop} {o : Oper} {f : FuncId} {fo : Operand} {args : Array Operand} {at_ : Array TypeId} {ds caps as : List D} {R : D → Hp → Prop} (h : FnTo P f as H R) (hw : wantedB all.toList F o = some true) (hd : dstB n o = true) (ho : o.op = .call { callee := .value fo, args, argTypes := at_ })
    (hf : F.eval fo = some (.fn f caps)) (ha : evals F args.toList = some ds) (he : ds ++ caps = as) (k : ∀ d H', R d H' → RK false P n N all r (putF F o.dst d) H' [] K) : RK false P n N all (o :: r) F H L K :=
  .callR (fv := .fn f caps) (R := R) (by subst he; exact h) hw hd ho hf ha k
/-- .. that computes a value. -/
theorem RK.callP {b : Bool} {P : Program} {n N : Nat} {all : Array Oper} {r : List Oper} {F : Fr} {H : Hp} {L : List Ent} {K : Fr → Hp → Prop} {o : Oper} {f : FuncId} {fo : Operand} {args : Array Operand} {at_ : Array TypeId} {ds caps as : List D} {d : D} (h : PureFn P f as d) (hw : wantedB all.toList F o = some true) (hd : dstB n o = true) (ho : o.op = .call { callee := .value fo, args, argTypes := at_ })
    (hf : F.eval fo = some (.fn f caps)) (ha : evals F args.toList = some ds) (he : ds ++ caps = as) (k : RK b P n N all r (putF F o.dst d) H (⟨d, [], [], none⟩ :: L) K) : RK b P n N all (o :: r) F H L K :=
  .callV (fv := .fn f caps) hw hd ho hf ha (fun H => by subst he; exact h H) k
theorem over_map0 {α : Type} {f : α → D} {xs : List α} {i : Nat} {v : α} {d : D} (hd : d = f v) (h : i < xs.length) : overR (xs.map f) (0 + i * 1) [d] = some ((xs.set i v).map f) := over_map hd h (by omega)
theorem get_map0 {α : Type} {f : α → D} {xs : List α} {i : Nat} {z : α} (h : i < xs.length) : (xs.map f)[0 + i * 1]? = some (f (xs.getD i z)) := get_map h (by omega)
theorem over_map00 {α : Type} {f : α → D} {xs : List α} {i k : Nat} {v : α} {d : D} (hd : d = f v) (h : i + k < xs.length) : overR (xs.map f) (0 + i * 1 + k * 1) [d] = some ((xs.set (i + k) v).map f) := over_map hd h (by omega)
theorem get_map00 {α : Type} {f : α → D} {xs : List α} {i k : Nat} {z : α} (h : i + k < xs.length) : (xs.map f)[0 + i * 1 + k * 1]? = some (f (xs.getD (i + k) z)) := get_map h (by omega)
theorem take_flat0 {α : Type} {f : α → List D} {s : Nat} (hs : ∀ x, (f x).length = s) (h0 : 0 < s) {xs : List α} {i : Nat} {z : α} (h : i < xs.length) : takeR (xs.flatMap f) (0 + i * s) s = some (f (xs.getD i z)) := take_flat hs h0 h (Nat.zero_add _)
theorem overR_flat0 {α : Type} {f : α → List D} {s : Nat} (hs : ∀ x, (f x).length = s) {xs : List α} {i : Nat} {v : α} {ds : List D} (hd : ds = f v) (h : i < xs.length) : overR (xs.flatMap f) (0 + i * s) ds = some ((xs.set i v).flatMap f) := overR_flat hs hd h (Nat.zero_add _)
theorem set_get {α : Type} {H : List α} {b : Nat} {x y : α} (h : H[b]? = some y) : (H.set b x)[b]? = some x := List.getElem?_set_self (lt_of_getElem? h)
theorem set_get2 {α : Type} {H : List α} {b : Nat} {x x' y : α} (h : H[b]? = some y) : ((H.set b x').set b x)[b]? = some x := set_get (set_get h)
theorem lt_set {α : Type} {H : List α} {b : Nat} {x y : α} (h : H[b]? = some y) : b < (H.set b x).length := lt_of_getElem? (set_get h)
theorem lt_set2 {α : Type} {H : List α} {b : Nat} {x x' y : α} (h : H[b]? = some y) : b < ((H.set b x').set b x).length := lt_of_getElem? (set_get2 h)
/-- Which of the heap's operations read, write, do anything: without the blocks' numbers. -/
def shapeOf (e : Ent) : Bool × Bool × Bool := (!e.rd.isEmpty, !e.wr.isEmpty, e.wild.isSome)
def clashS (a c : Bool × Bool × Bool) : Bool := (a.2.1 && (c.1 || c.2.1)) || (a.2.2 && (c.1 || c.2.1 || c.2.2))
def heapPairsS (es : List (Bool × Bool × Bool)) (ms : List Nat) : Bool := es.zipIdx.all fun (e', j) => es.zipIdx.all fun (e, i) => !(Nat.blt i j && (clashS e e' || clashS e' e)) || (ms.getD j 0).testBit i
def wildPairsS (es : List (Bool × Bool × Bool)) (ms : List Nat) : Bool := !(es.any fun e => e.2.2) || es.zipIdx.all fun (e', j) => es.zipIdx.all fun (e, i) => !(Nat.blt i j && ((e.2.1 || e.2.2) && (e'.2.1 || e'.2.2))) || (ms.getD j 0).testBit i
def heapOkS (all : List Oper) (es : List (Bool × Bool × Bool)) : Bool := heapPairsS es (masks all []) && wildPairsS es (masks all [])

theorem clashS_of {e e' : Ent} (h : clashH e e' = true) : clashS (shapeOf e) (shapeOf e') = true := by
  unfold clashH at h
  unfold clashS shapeOf
  simp only [Bool.or_eq_true, Bool.and_eq_true, List.any_eq_true] at h
  rcases h with ⟨b, hb, h⟩ | ⟨h, h'⟩
  · have h1 : e.wr ≠ [] := by rintro h0; rw [h0] at hb; cases hb
    have h2 : e'.rd ≠ [] ∨ e'.wr ≠ [] := by
      rcases h with h | h
      · left; rintro h0; rw [h0] at h; cases h
      · right; rintro h0; rw [h0] at h; cases h
    rcases h2 with h2 | h2 <;> simp [h1, h2]
  · simp only [Ent.touches, Bool.or_eq_true] at h'
    simp only [h, Bool.true_and, Bool.or_eq_true]
    exact .inr h'

theorem pairs_mono {α β : Type} {f : α → β} {l : List α} {ms : List Nat} {c : α → α → Bool} {c' : β → β → Bool} (hc : ∀ e e', c e e' = true → c' (f e) (f e') = true)
    (h : ((l.map f).zipIdx.all fun (e', j) => (l.map f).zipIdx.all fun (e, i) => !(Nat.blt i j && c' e e') || (ms.getD j 0).testBit i) = true) :
    (l.zipIdx.all fun (e', j) => l.zipIdx.all fun (e, i) => !(Nat.blt i j && c e e') || (ms.getD j 0).testBit i) = true := by
  have hz : (l.map f).zipIdx = l.zipIdx.map (fun p => (f p.1, p.2)) := by
    rw [List.zipIdx_map]
    rfl
  rw [hz] at h
  simp only [List.all_map, List.all_eq_true] at h ⊢
  intro p hp q hq
  have := h p hp
  simp only [Function.comp, List.all_eq_true] at this
  have := this q hq
  simp only [Bool.or_eq_true, Bool.not_eq_true', Bool.and_eq_false_iff] at this ⊢
  rcases this with (h1 | h1) | h1
  · exact .inl (.inl h1)
  · refine .inl (.inr ?_)
    cases hcc : c q.1 p.1 with
    | false => rfl
    | true => rw [hc _ _ hcc] at h1; cases h1
  · exact .inr h1

theorem heapOkS_spec {all : List Oper} {es : List Ent} (h : heapOkS all (es.map shapeOf) = true) : heapOk all es = true := by
  unfold heapOkS at h
  rw [Bool.and_eq_true] at h
  unfold heapOk
  rw [Bool.or_eq_true]
  right
  rw [Bool.and_eq_true]
  refine ⟨pairs_mono (f := shapeOf) (c := fun e e' => clashH e e' || clashH e' e) (c' := fun e e' => clashS e e' || clashS e' e) (fun e e' hc => ?_) h.1, ?_⟩
  · rw [Bool.or_eq_true] at hc ⊢
    exact hc.imp clashS_of clashS_of
  · have h2 := h.2
    unfold wildPairsS at h2
    unfold wildPairs
    rw [Bool.or_eq_true] at h2 ⊢
    rcases h2 with h2 | h2
    · left
      rw [Bool.not_eq_true', List.any_map] at h2
      rw [Bool.not_eq_true']
      exact h2
    · exact .inr (pairs_mono (f := shapeOf) (c := fun e e' => e.writes && e'.writes) (c' := fun e e' => (e.2.1 || e.2.2) && (e'.2.1 || e'.2.2)) (fun e e' hc => hc) h2)

theorem RK.nilG {b : Bool} {P : Program} {n N : Nat} {all : Array Oper} {F : Fr} {H : Hp} {L : List Ent} {K : Fr → Hp → Prop} (h : K F H) (hL : heapOkS all.toList (L.reverse.map shapeOf) = true) : RK b P n N all [] F H L K :=
  .nil h (by
    cases b with
    | false => rfl
    | true => show (quiet L || heapOk all.toList L.reverse) = true; rw [Bool.or_eq_true]; exact .inr (heapOkS_spec hL))
theorem RK.nilGT {b : Bool} {P : Program} {n N : Nat} {all : Array Oper} {F : Fr} {H : Hp} {L : List Ent} {K : Fr → Hp → Prop} {y : Code} {Q : Post} (hK : K = fun F H => W P n N y Q F H) (h : W P n N y Q F H) (hL : heapOkS all.toList (L.reverse.map shapeOf) = true) : RK b P n N all [] F H L K := .nilG (by rw [hK]; exact h) hL
def joinQ {σ : Type} (N : Nat) (C : σ → Prop) (G : σ → Fr) (Hs : σ → Hp) (Q : Post) : Post := fun e F H => match e with
  | .normal => ∃ s, C s ∧ To N (G s) (Hs s) F H
  | e => Q e F H
/-- Several ways that meet. -/
theorem W.joinS {σ : Type} {P : Program} {n N : Nat} {F : Fr} {H : Hp} {Q : Post} {x y : Code} (C : σ → Prop) (G : σ → Fr) (Hs : σ → Hp) (h : W P n N x (joinQ N C G Hs (thenQ P n N y Q)) F H) (k : ∀ s, C s → W P n N y Q (G s) (Hs s)) : W P n N x (thenQ P n N y Q) F H :=
  h.mono fun e F' H' hq => by
    cases e with
    | normal => obtain ⟨s, h1, h2⟩ := hq; exact (k s h1).to h2
    | exit i => exact hq
    | ret => exact hq
theorem RK.mono {b : Bool} {P : Program} {n N : Nat} {all : Array Oper} {r : List Oper} {F : Fr} {H : Hp} {L : List Ent} {K K' : Fr → Hp → Prop} (h : RK b P n N all r F H L K) (hk : ∀ F H, K F H → K' F H) : RK b P n N all r F H L K' := by
  cases b with
  | false => exact fun i hi w g tm a b c d => (h i hi w g tm a b c d).mono fun tm' w' ⟨F', H', g', q, r⟩ => ⟨F', H', g', hk _ _ q, r⟩
  | true =>
    obtain ⟨es, F', H', h1, h2, h3⟩ := h
    exact ⟨es, F', H', h1, h2, hk _ _ h3⟩
theorem RK.joinS {σ : Type} {b : Bool} {P : Program} {n N : Nat} {all : Array Oper} {r : List Oper} {F : Fr} {H : Hp} {L : List Ent} {Q : Post} {x y : Code} (C : σ → Prop) (G : σ → Fr) (Hs : σ → Hp)
    (h : RK b P n N all r F H L (fun F H => W P n N x (joinQ N C G Hs (thenQ P n N y Q)) F H)) (k : ∀ s, C s → W P n N y Q (G s) (Hs s)) : RK b P n N all r F H L (fun F H => W P n N x (thenQ P n N y Q) F H) :=
  h.mono fun F H hh => .joinS C G Hs hh k
end Go.V

/- The logic V, part 32: appending as many zero elements as a number says. -/
namespace Go.V
section
variable {P : Program} {w w' : World} {g g' : Gh} {H H' : Hp} {F : Fr} {tm : Array Value} {n N nx : Nat} {all : Array Oper} {r : List Oper} {L : List Ent} {K : Fr → Hp → Prop} {o : Oper}

theorem SeqK.snd {d : D} (hw : Wanted all.toList F o true) (h : ∀ (w : World) (g : Gh) (tm : Array Value), HRel w g H → FRel w g F tm → N ≤ H.length → Sound P N H.length tm o w g H d H') (hnd : ∀ c, o.op ≠ .defer c) (hd : dstOk n o) (hlen : H.length ≤ H'.length) (k : SeqK P n N all r (putF F o.dst d) H' K) : SeqK P n N all (o :: r) F H K := by
  intro i hi w g tm hH hF hs hl
  obtain ⟨ho, hi'⟩ := drop_cons hi
  have ho' : all[i]? = some o := by simpa using ho
  obtain ⟨v, w', g', hrun, hdid, hrep⟩ := h w g tm hH hF hl
  obtain ⟨hF', hs'⟩ := put_rel (hF.keeps hdid.kp) hs hd hrep
  have k' := (k (i + 1) hi' w' g' _ hdid.hrel hF' hs' (by omega)).mono (R' := fun tm' w2 => ∃ F' H' g2, K F' H' ∧ Ev N w g (Lof g H) w2 g2 (Lof g2 H') ∧ HRel w2 g2 H' ∧ N ≤ H'.length ∧ FRel w2 g2 F' tm' ∧ tm'.size = n)
    fun tm' w2 ⟨F', H', g2, q, ev, rest⟩ => ⟨F', H', g2, q, hdid.ev.trans ev, rest⟩
  simp only [List.length_cons, List.range'_succ]
  rcases hrun with hrun | ⟨hrun, rfl⟩
  · exact .value ho' (hw.run hF) hnd hrun k'
  · exact .unit ho' (hw.run hF) hnd hrun k'

theorem append_mk {t tx ty e : TypeId} {i : TypeInfo} {z : Value} {k kx : IntKind} {m : Nat} (ht : P.underlying t = some (.slice e)) (htx : P.underlying tx = some (.int kx)) (hi : P.info? e = some i) (hz : i.zero = some z)
    (h0 : 0 < m) (hs : 1 ≤ i.size) (h63 : m ≤ 9223372036854775807) (hb : m * i.bytes ≤ 140737488355328) :
    (Builtin.append_ #[t, tx] ty #[.slice none 0 0, .int k m]).run P w =
      .ok (.slice (some ⟨w.heap.size, 0, none⟩) m (grownCap w m 0 e)) (w.drew.alloc (.cells (Builtin.zeroCells z.cells m ++ Builtin.zeroCells z.cells (grownCap w m 0 e - m)) e)) := by
  have hfit := growslice_fits (old := 0) (need := m) (bytes := i.bytes) (by omega) hb
  have h48' : ¬ (281474976710656 < Builtin.nextslicecap m 0 * i.bytes) := by omega
  have hw' : IntKind.i64.wrap (m : Int) = m := wrap64 (by omega) (by omega)
  have hm1 : ¬ ((m : Int) * i.bytes > 281474976710656) := by
    have : ((m * i.bytes : Nat) : Int) ≤ 140737488355328 := by omega
    rw [Int.natCast_mul] at this
    omega
  have hne : ¬ (m * i.size = 0) := by
    intro h
    rcases Nat.mul_eq_zero.1 h with h | h <;> omega
  have hn0 : ¬ m = 0 := by omega
  have hs0 : ¬ i.size = 0 := by omega
  have h63' : ¬ (9223372036854775807 < (m : Int)) := by omega
  have hneg : ¬ ((m : Int) < 0) := by omega
  simp [Builtin.append_, underlying_run ht, underlying_run htx, sizeOf, typeInfo, zeroValue, hi, hz, asInt, asIntOf, hw', hneg, hn0, h63', h48', Question.forced, newRow, grownCap, Builtin.firstCells]
  rw [if_neg (by omega), if_neg hne]

theorem sound_appendMk (hH : HRel w g H) (hF : FRel w g F tm) (hnx : g.ρ nx = none) (hN : N ≤ nx) {t tx e : TypeId} {x y : Operand} {k kx : IntKind} {s by_ m : Nat} {z : D} (ho : o.op = .call { callee := .builtin .append, args := #[x, y], argTypes := #[t, tx] }) (ht : elemOfSlice P t = some (e, s, by_)) (htx : P.underlying tx = some (.int kx)) (hz : zeroD P e = some z)
      (hzl : z.cells.length = s) (hzn : z.notTup = true) (hs : 1 ≤ s) (hx : F.eval x = some .snil) (hy : F.eval y = some (.int k (m : Int))) (h0 : 0 < m) (h63 : m ≤ 9223372036854775807) (hb : m * by_ ≤ 140737488355328) :
      Sound P N nx tm o w g H (.live nx 0 m m s) (putAt H nx (.cells (repR m z.cells))) := by
  obtain ⟨hu, hsz, i, hi, hi1, hi2⟩ := elemOfSlice_spec ht
  obtain ⟨i', v, hi', _, hv, hov⟩ := info_of hsz hz
  rw [hi] at hi'; cases hi'
  have gd := drew_rep hH
  have hHd := gd.hrel hH
  have hr : Rep w.drew g z v := ofVal_rep hov
  have hxv : evalT tm x = .slice none 0 0 := by
    have := evalT_of hF hx
    generalize evalT tm x = u at this
    cases this; rfl
  have hyv := rep_int (evalT_of hF hy)
  have hrun := append_mk (P := P) (w := w) (ty := o.type) (k := k) hu htx hi hv h0 (by omega) h63 (by rw [hi2]; exact hb)
  obtain ⟨hR, hR1⟩ := repR_rep (w := w.drew) (g := g) hr.cells (hr.cells_one hzn) s m hzl hs
  have hzs : v.cells.size = s := by have := hr.cells.1; simp at this; omega
  have hlen : (repR m z.cells).length = m * s := by have := hR.1; simp at this; omega
  have hzc : Builtin.zeroCells v.cells m = (Array.range (m * s)).map (fun i => v.cells[i % v.cells.size]!) := by rw [← hzs]; rfl
  have hge := grownCap_ge w m 0 e
  have hc' : RepL w.drew g (repR m z.cells) ((Builtin.zeroCells v.cells m ++ Builtin.zeroCells v.cells (grownCap w m 0 e - m)).toList.take (repR m z.cells).length) := by
    rw [Array.toList_append, hzc, List.take_left' (by simp [hlen])]; exact hR
  have hd := did_alloc (N := N) (nx := nx) (c := Builtin.zeroCells v.cells m ++ Builtin.zeroCells v.cells (grownCap w m 0 e - m)) (e := e) hHd hnx hN hc' hR1
  refine ⟨.slice (some ⟨w.heap.size, 0, none⟩) m (grownCap w m 0 e), _, _, .inl (exec_builtin ho rfl ?_), (gd.did hH N).trans hd, ?_⟩
  · simp only [List.map_toArray, List.map_cons, List.map_nil, hxv, hyv]
    exact hrun
  · refine .live (base := 0) Gh.at_same (.inr rfl) (Nat.le_refl _) hge (.inr ⟨grownCap w m 0 e * s, ?_, by omega⟩)
    have := heap_alloc_new w.drew (.cells (Builtin.zeroCells v.cells m ++ Builtin.zeroCells v.cells (grownCap w m 0 e - m)) e)
    have hsz' : w.drew.heap.size = w.heap.size := rfl
    rw [hsz'] at this
    simp only [cellsN, this]
    simp only [Array.size_append, size_zeroCells, hzs, Option.some.injEq]
    rw [← Nat.add_mul]
    congr 1
    omega

/-- So many zero elements appended to nothing. -/
theorem RK.appMk (l m s by_ : Nat) {t tx e : TypeId} {x y : Operand} {k kx : IntKind} {mm : Int} {z : D} (hl : H.length = l) (hw : wantedB all.toList F o = some true) (hd : dstB n o = true) (ho : o.op = .call { callee := .builtin .append, args := #[x, y], argTypes := #[t, tx] }) (ht : elemOfSlice P t = some (e, s, by_)) (htx : P.underlying tx = some (.int kx)) (hz : zeroD P e = some z)
      (hzl : z.cells.length = s) (hzn : z.notTup = true) (hs : 1 ≤ s) (hx : F.eval x = some .snil) (hy : F.eval y = some (.int k mm)) (hm : mm = (m : Int)) (h0 : 0 < m) (h63 : m ≤ 9223372036854775807) (hb : m * by_ ≤ 140737488355328)
      (kk : RK false P n N all r (putF F o.dst (.live l 0 m m s)) (H ++ [some (.cells (repR m z.cells))]) [] K) : RK false P n N all (o :: r) F H L K := by
  subst hl hm
  refine SeqK.snd (wantedB_spec hw) (d := .live H.length 0 m m s) (H' := H ++ [some (Blk.cells (repR m z.cells))]) (fun w g tm hH hF hN => ?_) (fun c h => by rw [ho] at h; cases h) (dstB_spec hd) (by simp) (show SeqK P n N all r _ _ K from kk)
  have := sound_appendMk (N := N) (nx := H.length) hH hF (hH.dom _ (Nat.le_refl _)) hN ho ht htx hz hzl hzn hs hx hy h0 h63 hb
  rw [putAt_len] at this
  exact this
/-- The whole of an array in memory, as a slice. -/
theorem RK.slA {b : Bool} {t e : TypeId} {x : Operand} {m s bb off : Nat} {cs : List D} (hw : wantedB all.toList F o = some true) (hd : dstB n o = true) (ho : o.op = .slice t x none none none) (ht : P.underlying t = some (.array m e)) (hs : tySize P e = some s) (hx : F.eval x = some (.ptr bb off)) (hb : H[bb]? = some (some (.cells cs))) (hn : off + m * s ≤ cs.length)
    (k : RK b P n N all r (putF F o.dst (.live bb off m m s)) H (⟨.live bb off m m s, [bb], [], none⟩ :: L) K) : RK b P n N all (o :: r) F H L K :=
  .step hw hd (.sliceArr ho ht hs hx hb hn) k
end
theorem noLoop_acc {α : Type} {enc : α → List D} {xs : List α} {r : Hp} : noLoopB (accB enc xs :: r) = noLoopB r := by cases xs <;> rfl
/-- A loop that is left in its first round. -/
theorem W.loop1 {P : Program} {n N : Nat} {F : Fr} {H : Hp} {Q : Post} {c : Code} (h : W P n N c (fun e F H => match e with | .normal => False | e => Q e F H) F H) : W P n N (.loop c) Q F H :=
  .loop (fun _ : Unit => 0) (fun _ F' H' => F' = F ∧ H' = H) () ⟨rfl, rfl⟩ fun a F' H' ⟨e1, e2⟩ => by
    subst e1 e2
    exact h.mono fun e F'' H'' hq => by
      cases e with
      | normal => exact hq.elim
      | exit i => exact hq
      | ret => exact hq
theorem BlkRen.wk {σ Z : List Nat} {H : Hp} {cs cs' : List D} (h : WkL cs cs') (hp : ∀ d ∈ cs, Pure d) : BlkRen σ Z H (.cells cs) (.cells cs') :=
  ⟨Nat.le_of_eq h.1, fun i u v hu hv => .wk (hp u (List.mem_of_getElem? hu)) (h.2 i u v hu hv)⟩
theorem HpRen.cell {σ Z ss : List Nat} {H r : Hp} {i : Nat} {cs cs' : List D} (hz : i ∉ Z) (hb : H[i]? = some (some (.cells cs))) (h : WkL cs cs') (hp : ∀ d ∈ cs, Pure d) (k : HpRen σ Z H ss r) : HpRen σ Z H (i :: ss) (some (.cells cs') :: r) := ⟨⟨hz, _, hb, .wk h hp⟩, k⟩
theorem WkL.refl (ds : List D) : WkL ds ds := ⟨rfl, fun i x y hx hy => by rw [hx] at hy; cases hy; exact .refl _⟩
end Go.V

/- The logic V, part 33: a function that gives back memory of its own, in whatever heap. -/
namespace Go.V

theorem get_push {α : Type} {H : List α} {x : α} {b : Nat} {y : α} (h : (H ++ [x])[b]? = some y) : H[b]? = some y ∨ (b = H.length ∧ y = x) := by
  rw [List.getElem?_append] at h
  split at h
  · exact .inl h
  · rename_i hb
    right
    have : b - H.length = 0 := by
      rcases Nat.eq_zero_or_pos (b - H.length) with h0 | h0
      · exact h0
      · rw [List.getElem?_eq_none (by simp; omega)] at h; cases h
    rw [this] at h
    exact ⟨by omega, by simpa using h.symm⟩

theorem FnTo.lift {α : Type} {enc : α → List D} {s : Nat} {xs : List α} {P : Program} {f : FuncId} {args : List D} (hp : ∀ a ∈ args, Pure a) (hpe : ∀ a, ∀ d ∈ enc a, Pure d)
    (h : FnTo P f args [] fun d H' => d = accD s 0 xs ∧ H' = [accB enc xs]) (H : Hp) : FnTo P f args H fun d H' => d = accD s H.length xs ∧ H' = H ++ [accB enc xs] := by
  refine ⟨h.1, fun w g vs hH hA => ?_⟩
  have hH0 : HRel w { S := g.S, ρ := fun _ => none } [] := HRel.nil hH.scell
  have hA0 : RepL w { S := g.S, ρ := fun _ => none } args vs := ⟨hA.1, fun i d v hd hv => Rep.ofPure (g := g) (g' := { S := g.S, ρ := fun _ => none }) (fun _ h => h) (hA.2 i d v hd hv) (hp d (List.mem_of_getElem? hd))⟩
  refine (h.2 w _ vs hH0 hA0).mono ?_
  rintro e w' ⟨v, d', H', g1, rfl, ⟨rfl, rfl⟩, ev, hH', _, hrep⟩
  have hL0 : ∀ k, ¬ Lof { S := g.S, ρ := fun _ => none } [] k := by rintro k ⟨b, x, base, hb, _⟩; cases hb
  have hkeep : ∀ k, k < w.heap.size → w'.heap[k]? = w.heap[k]? := fun k hk => ev.keep k hk (hL0 k)
  have hs2 : ∀ k, g1.S k → g.S k ∨ w.heap.size ≤ k := fun k h1 => by
    rcases ev.s2 k h1 with h2 | h2 | h2
    · exact .inl h2
    · exact (hL0 k h2).elim
    · exact .inr h2
  have hB := hH.beside hkeep ev.s1 hs2 hH'.scell ev.shape
  have hlof : ∀ k, Lof g H k → k < w.heap.size := fun k ⟨b, x, base, hb, hr⟩ => by
    cases x with
    | cells cs =>
      obtain ⟨k', base', c, e, h1, h2, _⟩ := hH.blk b cs hb
      rw [hr] at h1
      obtain ⟨rfl, _⟩ : k = k' ∧ base = base' := by simpa using h1
      exact (Array.getElem?_eq_some_iff.1 h2).1
    | loop r F =>
      obtain ⟨k', h1, h2, _⟩ := hH.loop b r F hb
      rw [hr] at h1
      obtain ⟨rfl, _⟩ : k = k' ∧ base = 0 := by simpa using h1
      exact (Array.getElem?_eq_some_iff.1 h2).1
  cases xs with
  | nil =>
    have hsame : ∀ b, SameAt b H (H ++ [none]) := fun b x => ⟨fun hx => get_append_left hx, fun hx => (get_push hx).elim id fun ⟨_, h⟩ => by cases h⟩
    refine ⟨v, .snil, H ++ [none], { S := g1.S, ρ := g.ρ }, rfl, ⟨rfl, rfl⟩, ?_, hB.same hsame (fun b hb => hH.dom b (by simp at hb; omega)), by simp, ?_⟩
    · exact ⟨ev.os, ev.tape, ev.output, ev.size, fun k hk _ => hkeep k hk, ev.shape, ev.s1, fun k hk => (hs2 k hk).imp id .inr, fun k ⟨b, x, base, hb, hr⟩ => .inl ⟨b, x, base, (hsame b x).2 hb, hr⟩, fun _ _ => rfl⟩
    · cases hrep; exact .snil
  | cons x xs =>
    obtain ⟨k0, base0, c0, e0, r1, r2, r3, r4, r5⟩ := hH'.blk 0 _ rfl
    have hk0 : w.heap.size ≤ k0 := (ev.l2 k0 ⟨0, _, base0, rfl, r1⟩).elim (fun h => (hL0 k0 h).elim) id
    let g2 : Gh := { S := g1.S, ρ := fun b => if b = H.length then g1.ρ 0 else g.ρ b }
    have hρ0 : g2.ρ H.length = some (k0, base0) := by show (if H.length = H.length then g1.ρ 0 else _) = _; rw [if_pos rfl]; exact r1
    have hρ : ∀ b, b < H.length → g2.ρ b = g.ρ b := fun b hb => by show (if b = H.length then _ else g.ρ b) = _; rw [if_neg (by omega)]
    have hlt : ∀ {b : Nat} {y : Option Blk}, H[b]? = some y → b < H.length := fun h => lt_of_getElem? h
    have kp : Keeps w' { S := g1.S, ρ := g.ρ } w' g2 := ⟨fun _ _ => rfl, fun _ _ h => h, fun _ h => h, fun b y hb => by
      rw [hρ b ?_]; exact hb
      rcases Nat.lt_or_ge b H.length with h1 | h1
      · exact h1
      · have := hH.dom b h1; rw [this] at hb; cases hb⟩
    have hlof2 : ∀ k, Lof g2 (H ++ [some (.cells ((x :: xs).flatMap enc))]) k → Lof g H k ∨ k = k0 := by
      rintro k ⟨b, y, base, hb, hr⟩
      rcases get_push hb with hb | ⟨rfl, _⟩
      · exact .inl ⟨b, y, base, hb, by rw [← hρ b (hlt hb)]; exact hr⟩
      · rw [hρ0] at hr; cases hr; exact .inr rfl
    refine ⟨v, .live H.length 0 (x :: xs).length (x :: xs).length s, H ++ [some (.cells ((x :: xs).flatMap enc))], g2, rfl, ⟨rfl, rfl⟩, ?_, ?_, by simp, ?_⟩
    · exact ⟨ev.os, ev.tape, ev.output, ev.size, fun k hk _ => hkeep k hk, ev.shape, ev.s1, fun k hk => (hs2 k hk).imp id .inr, fun k hk => (hlof2 k hk).imp id (fun h => by omega), fun b hb => hρ b hb⟩
    · refine ⟨hH'.scell, fun k hk hl => ?_, fun b hb => ?_, fun b cs hb => ?_, fun b r F hb => ?_, fun b b' k base base' y y' hb hb' hr hr' => ?_⟩
      · rcases hlof2 k hl with h1 | rfl
        · exact hB.sL k hk h1
        · exact hH'.sL k hk ⟨0, _, base0, rfl, r1⟩
      · have : H.length + 1 ≤ b := by simpa using hb
        show (if b = H.length then _ else g.ρ b) = none
        rw [if_neg (by omega)]
        exact hH.dom b (by omega)
      · rcases get_push hb with hb | ⟨rfl, he⟩
        · obtain ⟨k, base, c, e, h1, h2, h3, h4, h5⟩ := hB.blk b cs hb
          exact ⟨k, base, c, e, by rw [hρ b (hlt hb)]; exact h1, h2, h3, h4, fun i d hd => let ⟨u, p, q⟩ := h5 i d hd; ⟨u, p, q.keeps kp⟩⟩
        · cases he
          refine ⟨k0, base0, c0, e0, hρ0, r2, r3, r4, fun i d hd => ?_⟩
          obtain ⟨u, p, q⟩ := r5 i d hd
          obtain ⟨a, _, ha⟩ := List.mem_flatMap.1 (List.mem_of_getElem? hd)
          exact ⟨u, p, Rep.ofPure (g := g1) (g' := g2) (fun _ h => h) q (hpe a d ha)⟩
      · rcases get_push hb with hb | ⟨rfl, he⟩
        · obtain ⟨k, h1, h2, h3⟩ := hB.loop b r F hb
          exact ⟨k, by rw [hρ b (hlt hb)]; exact h1, h2, h3.keeps kp⟩
        · cases he
      · rcases get_push hb with hb | ⟨rfl, he⟩ <;> rcases get_push hb' with hb' | ⟨rfl, he'⟩
        · rw [hρ b (hlt hb)] at hr
          rw [hρ b' (hlt hb')] at hr'
          exact hH.inj b b' k base base' y y' hb hb' hr hr'
        · rw [hρ0] at hr'
          rw [hρ b (hlt hb)] at hr
          cases hr'
          exact absurd (hlof k0 ⟨b, y, base, hb, hr⟩) (by omega)
        · rw [hρ0] at hr
          rw [hρ b' (hlt hb')] at hr'
          cases hr
          exact absurd (hlof k0 ⟨b', y', base', hb', hr'⟩) (by omega)
        · rfl
    · have hrep : Rep w' g1 (.live 0 0 (x :: xs).length (x :: xs).length s) v := hrep
      cases hrep with
      | live h hx hl hc hn =>
        rw [r1] at h
        cases h
        exact .live hρ0 hx hl hc hn

theorem FnTo.frz_acc {α : Type} {enc : α → List D} {s : Nat} {xs : List α} {P : Program} {f : FuncId} {args : List D} (hp : ∀ a ∈ args, Pure a) (hs : ∀ a, (enc a).length = s) (hpe : ∀ a, ∀ d ∈ enc a, Pure d)
    (h : FnTo P f args [] fun d H' => d = accD s 0 xs ∧ H' = [accB enc xs]) : PureFn P f args (encS enc xs) :=
  .of_nil hp (h.mono fun d H' ⟨e1, e2⟩ => by
    subst e1 e2
    refine ⟨frz_accS hs hpe rfl, noLoopB_spec ?_⟩
    rw [noLoop_acc]; rfl)
end Go.V

/- The logic V, part 34: ranges over functions. -/
namespace Go.V

section
variable {P : Program} {w w' : World} {g g' : Gh} {H H' : Hp} {F : Fr} {tm : Array Value} {n N : Nat}

theorem cellsN_put {l k : Nat} {r r' : Loop} (h : w.heap[l]? = some (.loop r)) : cellsN (w.putObj l (.loop r')) k = cellsN w k := by
  unfold cellsN
  by_cases hk : k = l
  · subst hk
    have hlt := (Array.getElem?_eq_some_iff.1 h).1
    rw [World.putObj_heap_same hlt, h]
  · rw [World.putObj_heap_other hk]

/-- A loop's record changes. -/
theorem put_loop (hH : HRel w g H) {b : Nat} {r r' : Loop} (hb : H[b]? = some (some (.loop r F))) (ht : r'.tmps = r.tmps) (N : Nat) :
    ∃ k, g.ρ b = some (k, 0) ∧ w.heap[k]? = some (.loop r) ∧ HRel (w.putObj k (.loop r')) g (H.set b (some (.loop r' F))) ∧ Keeps w g (w.putObj k (.loop r')) g ∧
      Ev N w g (Lof g H) (w.putObj k (.loop r')) g (Lof g (H.set b (some (.loop r' F)))) := by
  obtain ⟨k, hρ, hk, hF⟩ := hH.loop b r F hb
  have hlt := (Array.getElem?_eq_some_iff.1 hk).1
  have hbl := lt_of_getElem? hb
  have hS : ∀ k', g.S k' → k' ≠ k := fun k' h e => by
    obtain ⟨m, hm⟩ := hH.scell k' h
    subst e
    unfold cellsN at hm; rw [hk] at hm; cases hm
  have kp : Keeps w g (w.putObj k (.loop r')) g := ⟨fun k' h => World.putObj_heap_other (hS k' h), fun k' m h => by rw [cellsN_put hk]; exact h, fun _ h => h, fun _ _ h => h⟩
  have hlof : ∀ k', Lof g (H.set b (some (.loop r' F))) k' ↔ Lof g H k' := by
    intro k'
    constructor
    · rintro ⟨c, x, base, hc, hr⟩
      by_cases e : c = b
      · subst e; exact ⟨c, _, base, hb, hr⟩
      · rw [List.getElem?_set_ne (fun h => e h.symm)] at hc; exact ⟨c, x, base, hc, hr⟩
    · rintro ⟨c, x, base, hc, hr⟩
      by_cases e : c = b
      · subst e; exact ⟨c, _, base, List.getElem?_set_self hbl, hr⟩
      · exact ⟨c, x, base, by rw [List.getElem?_set_ne (fun h => e h.symm)]; exact hc, hr⟩
  refine ⟨k, hρ, hk, ⟨fun k' h => ?_, fun k' h h' => hH.sL k' h ((hlof k').1 h'), fun c hc => hH.dom c (by simpa using hc), fun c cs hc => ?_, fun c r2 F2 hc => ?_, fun c c' k' base base' x x' hc hc' hr hr' => ?_⟩, kp, ?_⟩
  · obtain ⟨m, hm⟩ := hH.scell k' h
    exact ⟨m, by rw [cellsN_put hk]; exact hm⟩
  · by_cases e : c = b
    · subst e; rw [List.getElem?_set_self hbl] at hc; cases hc
    · rw [List.getElem?_set_ne (fun h => e h.symm)] at hc
      obtain ⟨k', base, cc, ee, h1, h2, h3, h4, h5⟩ := hH.blk c cs hc
      refine ⟨k', base, cc, ee, h1, ?_, h3, h4, fun i d hd => let ⟨v, p, q⟩ := h5 i d hd; ⟨v, p, q.keeps kp⟩⟩
      rw [World.putObj_heap_other (fun e => by subst e; rw [hk] at h2; cases h2)]; exact h2
  · by_cases e : c = b
    · subst e
      rw [List.getElem?_set_self hbl] at hc
      cases hc
      exact ⟨k, hρ, World.putObj_heap_same hlt, by rw [ht]; exact hF.keeps kp⟩
    · rw [List.getElem?_set_ne (fun h => e h.symm)] at hc
      obtain ⟨k', h1, h2, h3⟩ := hH.loop c r2 F2 hc
      refine ⟨k', h1, ?_, h3.keeps kp⟩
      rw [World.putObj_heap_other (fun e' => by subst e'; exact e (hH.inj c b k' 0 0 _ _ hc hb h1 hρ))]; exact h2
  · have get : ∀ {c : Nat} {x : Blk}, (H.set b (some (.loop r' F)))[c]? = some (some x) → ∃ y, H[c]? = some (some y) := fun {c x} h => by
      by_cases e : c = b
      · subst e; exact ⟨_, hb⟩
      · rw [List.getElem?_set_ne (fun h => e h.symm)] at h; exact ⟨x, h⟩
    obtain ⟨y, hy⟩ := get hc
    obtain ⟨y', hy'⟩ := get hc'
    exact hH.inj c c' k' base base' y y' hy hy' hr hr'
  · exact ⟨rfl, rfl, rfl, by simp, fun k' h1 h2 => World.putObj_heap_other (fun e => h2 (by subst e; exact ⟨b, _, 0, hb, hρ⟩)), kp.shape, fun _ h => h, fun _ h => .inl h, fun k' h => .inl ((hlof k').1 h), fun _ _ => rfl⟩

/-- A value is put into a temporary. -/
theorem FRel.put (hF : FRel w g F tm) {t : Nat} (ht : t < tm.size) {d : D} {v : Value} (hr : Rep w g d v) : FRel w g ((t, d) :: F) (tm.setIfInBounds t v) := by
  intro u e he
  simp only [Fr.get] at he
  cases hb : Nat.beq t u with
  | true =>
    rw [hb] at he
    simp only [cond_true, Option.some.injEq] at he
    subst he
    obtain rfl := Nat.eq_of_beq_eq_true hb
    exact ⟨v, by simp [ht], hr⟩
  | false =>
    rw [hb] at he
    have hne : t ≠ u := fun e => by subst e; rw [Nat.beq_refl] at hb; cases hb
    obtain ⟨x, hx, hrx⟩ := hF u e he
    exact ⟨x, by rw [Array.getElem?_setIfInBounds_ne hne]; exact hx, hrx⟩

/-- A loop's parameters get their values. -/
def bindF : List Nat → List D → Fr → Fr
  | t :: ts, d :: ds, F => bindF ts ds ((t, d) :: F)
  | _, _, F => F

theorem bind_rel : ∀ (ps : List Nat) (ds : List D) (vs : List Value) (F : Fr) (tm : Array Value), FRel w g F tm → (∀ t ∈ ps, t < tm.size) → ds.length = ps.length → RepL w g ds vs →
    FRel w g (bindF ps ds F) ((ps.zip vs).foldl (fun tm (p : Nat × Value) => tm.setIfInBounds p.1 p.2) tm) ∧ ((ps.zip vs).foldl (fun tm (p : Nat × Value) => tm.setIfInBounds p.1 p.2) tm).size = tm.size
  | [], ds, vs, F, tm, hF, _, hl, hr => by
    have : ds = [] := List.eq_nil_of_length_eq_zero hl
    subst this
    exact ⟨hF, rfl⟩
  | t :: ts, [], vs, F, tm, hF, _, hl, hr => by simp at hl
  | t :: ts, d :: ds, [], F, tm, hF, _, hl, hr => by have := hr.1; simp at this
  | t :: ts, d :: ds, v :: vs, F, tm, hF, ht, hl, hr => by
    have h1 := hF.put (ht t (by simp)) (hr.2 0 d v rfl rfl)
    obtain ⟨a, b⟩ := bind_rel ts ds vs ((t, d) :: F) (tm.setIfInBounds t v) h1 (fun u hu => by simpa using ht u (by simp [hu])) (by simpa using hl) ⟨by have := hr.1; simpa using this, fun i x y hx hy => hr.2 (i + 1) x y (by simpa using hx) (by simpa using hy)⟩
    exact ⟨a, b.trans (by simp)⟩

def roundR (F : Fr) (b : Nat) (r : Loop) (R : D → Hp → Prop) : Post := fun e _ H =>
  H[b]? = some (some (.loop { r with state := .busy } F)) ∧ match e with
    | .normal => R (.bool true) (H.set b (some (.loop r F)))
    | .ret => R (.bool false) (H.set b (some (.loop { r with state := .done, pending := some .ret } F)))
    | .exit i => R (.bool false) (H.set b (some (.loop { r with state := .done, pending := some (.exit i) } F)))

/-- A call of a loop's yield is a round. -/
theorem YTo.of_W {b : Nat} {r : Loop} {ds : List D} {R : D → Hp → Prop} (hb : H[b]? = some (some (.loop r F))) (hs : r.state = .ready) (hpn : r.pending = none) (hl : ds.length = r.params.size) (hps : ∀ t ∈ r.params.toList, t < r.tmps.size) (ha : noRF r.assign = true) (hc : noRF r.body = true)
    (h : W P r.tmps.size H.length r.assign (fun e F1 H1 => e = .normal ∧ H1[b]? = some (some (.loop r F)) ∧ W P r.tmps.size H.length r.body (roundR F b r R) F1 (H1.set b (some (.loop { r with state := .busy } F)))) (bindF r.params.toList ds F) H) :
    YTo P b ds H R := by
  intro w g vs hH hA
  obtain ⟨k, hρ, hk, hFr⟩ := hH.loop b r F hb
  have hvl : vs.length = ds.length := hA.1
  refine ⟨k, _, hρ, run_yield hk (by simp [hvl, hl]), .inr ⟨_, _, _, _, _, rfl, fun c cs => ?_⟩⟩
  have hfold : (r.params.zip vs.toArray).foldl (fun tmps (t, a) => tmps.setIfInBounds t a) r.tmps = (r.params.toList.zip vs).foldl (fun tm (p : Nat × Value) => tm.setIfInBounds p.1 p.2) r.tmps := by
    rw [← Array.foldl_toList, Array.toList_zip]
  rw [hfold]
  obtain ⟨hF1, hsz1⟩ := bind_rel r.params.toList ds vs F r.tmps hFr hps (by simp [hl]) hA
  let b0 : Frame := { (default : Frame) with fn := r.fn, kind := .normal, roundOf := some k }
  have hround : ∀ tmps, Frame.round k r.fn tmps r.assign r.body .normal = on b0 tmps [] [.code r.assign, .beginRound, .code r.body] := fun tmps => rfl
  rw [hround]
  obtain ⟨e, tm1, df1, w1, ⟨F1, H1, g1, ⟨rfl, hb1, hW⟩, nx1, fr1, sz1⟩, s1⟩ := h w g _ [] hH hF1 hsz1 (Nat.le_refl _) b0 (.inr ha) [.beginRound, .code r.body] (c :: cs)
  obtain ⟨k1, hρ1, hk1, hH2, kp2, ev2⟩ := put_loop nx1.hrel hb1 (r' := { r with state := .busy }) rfl H.length
  have hkk : k1 = k := by
    have hlt := lt_of_getElem? hb
    rw [nx1.ev.ρ b hlt, hρ] at hρ1
    simpa using hρ1.symm
  subst hkk
  have s2 : step P (lone (on b0 tm1 df1 (.beginRound :: [.code r.body])) (c :: cs) w1) = .next (lone (on b0 tm1 df1 [.code r.body]) (c :: cs) (w1.putObj k1 (.loop { r with state := .busy }))) :=
    stepR_beginRound (b := b0) (a := ⟨tm1, df1⟩) (k := [.code r.body]) (l := k1) rfl (run_beginRound hk1 hs)
  obtain ⟨e, tm3, df3, w3, ⟨F3, H3, g3, ⟨hb3, hq⟩, nx3, fr3, sz3⟩, s3⟩ := hW _ _ tm1 df1 hH2 (fr1.keeps kp2) sz1 (by simpa using nx1.len) b0 (.inr hc) [] (c :: cs)
  have hev13 : Ev H.length w g (Lof g H) w3 g3 (Lof g3 H3) := (nx1.ev.trans ev2).trans nx3.ev
  have hlen3 : H.length ≤ H3.length := nx3.len
  have fin : ∀ (jump : Option Code) (todo : List Item), Steps P (lone (on b0 tm3 df3 todo) (c :: cs) w3) (lone (on b0 tm3 df3 todo) (c :: cs) w3) →
      (∀ w', (Instr.endRound k1 jump).run P w3 = .ok (.bool jump.isNone) w' → step P (lone (on b0 tm3 df3 todo) (c :: cs) w3) = .next (lone (c.finish (.bool jump.isNone)) cs w')) →
      R (.bool jump.isNone) (H3.set b (some (.loop { r with state := if jump.isNone then .ready else .done, pending := jump } F))) →
      ∃ v w', (∃ d H' g', R d H' ∧ Ev H.length w g (Lof g H) w' g' (Lof g' H') ∧ HRel w' g' H' ∧ H.length ≤ H'.length ∧ Rep w' g' d v) ∧ Steps P (lone (on b0 tm3 df3 todo) (c :: cs) w3) (lone (c.finish v) cs w') := by
    intro jump todo _ hst hR
    obtain ⟨k3, hρ3, hk3, hH4, kp4, ev4⟩ := put_loop nx3.hrel hb3 (r' := { r with state := if jump.isNone then .ready else .done, pending := jump }) rfl H.length
    have hkk : k3 = k1 := by
      have hlt := lt_of_getElem? hb
      rw [hev13.ρ b hlt, hρ] at hρ3
      simpa using hρ3.symm
    subst hkk
    have hrun := run_endRound (P := P) jump hk3
    exact ⟨.bool jump.isNone, _, ⟨.bool jump.isNone, _, g3, hR, hev13.trans ev4, hH4, by simpa using hlen3, .bool _⟩, .one (hst _ hrun)⟩
  have start : ∀ {m : Machine}, Steps P (lone (on b0 tm1 df1 [.code r.body]) (c :: cs) (w1.putObj k1 (.loop { r with state := .busy }))) m →
      Steps P (lone (on b0 ((r.params.toList.zip vs).foldl (fun tm (p : Nat × Value) => tm.setIfInBounds p.1 p.2) r.tmps) [] [.code r.assign, .beginRound, .code r.body]) (c :: cs) w) m := fun h => Steps.trans s1 (.head s2 h)
  cases e with
  | normal =>
    have hre : (⟨.ready, none, r.fn, r.tmps, r.params, r.assign, r.body, r.defers⟩ : Loop) = r := by cases r; simp_all
    obtain ⟨v, w', hR, s4⟩ := fin none [] (.refl _ _) (fun w' hr => stepR_round_end (b := b0) (a := ⟨tm3, df3⟩) (l := k1) rfl rfl hr) (by
      show R (.bool true) (H3.set b (some (.loop ⟨.ready, none, r.fn, r.tmps, r.params, r.assign, r.body, r.defers⟩ F)))
      rw [hre]; exact hq)
    exact ⟨v, w', hR, start (Steps.trans s3 s4)⟩
  | ret =>
    obtain ⟨k', s3⟩ := s3
    obtain ⟨v, w', hR, s4⟩ := fin (some .ret) (.code .ret :: k') (.refl _ _) (fun w' hr => stepR_round_ret (b := b0) (a := ⟨tm3, df3⟩) (k := k') (l := k1) rfl rfl hr) hq
    exact ⟨v, w', hR, start (Steps.trans s3 s4)⟩
  | exit i =>
    obtain ⟨k', hx, s3⟩ := s3
    obtain ⟨v, w', hR, s4⟩ := fin (some (.exit i)) (.code (.exit i) :: k') (.refl _ _) (fun w' hr => stepR_round_exit (b := b0) (a := ⟨tm3, df3⟩) (k := k') (l := k1) rfl rfl (by rw [hx]; rfl) hr) hq
    exact ⟨v, w', hR, start (Steps.trans s3 s4)⟩

/-- What a range over a function leaves, by what lies in its loop's record. -/
def jumpQ (F : Fr) (Q : Post) (pend : Option Code) (H : Hp) : Prop := match pend with
  | none => Q .normal F H
  | some .ret => Q .ret F H
  | some (.exit i) => Q (.exit i) F H
  | _ => False

theorem alloc_loop (hH : HRel w g H) (hF : FRel w g F tm) (r : Loop) (ht : r.tmps = tm) (N : Nat) (hN : N ≤ H.length) :
    HRel (w.alloc (.loop r)) (g.at H.length (w.heap.size, 0)) (H ++ [some (.loop r F)]) ∧ Keeps w g (w.alloc (.loop r)) (g.at H.length (w.heap.size, 0)) ∧
      Ev N w g (Lof g H) (w.alloc (.loop r)) (g.at H.length (w.heap.size, 0)) (Lof (g.at H.length (w.heap.size, 0)) (H ++ [some (.loop r F)])) := by
  have hn : g.ρ H.length = none := hH.dom _ (Nat.le_refl _)
  have kp := keeps_alloc w g hH (.loop r) hn
  have hlt : ∀ {b : Nat} {y : Option Blk}, H[b]? = some y → b < H.length := fun h => lt_of_getElem? h
  have hρ : ∀ b, b < H.length → (g.at H.length (w.heap.size, 0)).ρ b = g.ρ b := fun b hb => Gh.at_ne (by omega)
  have hlof : ∀ k, Lof (g.at H.length (w.heap.size, 0)) (H ++ [some (.loop r F)]) k → Lof g H k ∨ k = w.heap.size := by
    rintro k ⟨b, y, base, hb, hr⟩
    rcases get_push hb with hb | ⟨rfl, _⟩
    · exact .inl ⟨b, y, base, hb, by rw [← hρ b (hlt hb)]; exact hr⟩
    · rw [Gh.at_same] at hr; cases hr; exact .inr rfl
  have hold : ∀ k, k < w.heap.size → (w.alloc (.loop r)).heap[k]? = w.heap[k]? := fun k hk => heap_alloc_old w _ k hk
  have hsh : ∀ k m, cellsN w k = some m → cellsN (w.alloc (.loop r)) k = some m := kp.shape
  refine ⟨⟨fun k hk => ?_, fun k hk hl => ?_, fun b hb => ?_, fun b cs hb => ?_, fun b r2 F2 hb => ?_, fun b b' k base base' y y' hb hb' hr hr' => ?_⟩, kp, ?_⟩
  · obtain ⟨m, hm⟩ := hH.scell k hk
    exact ⟨m, hsh k m hm⟩
  · rcases hlof k hl with h1 | h1
    · exact hH.sL k hk h1
    · have := hH.slt k hk; omega
  · have : H.length + 1 ≤ b := by simpa using hb
    rw [Gh.at_ne (by omega)]; exact hH.dom b (by omega)
  · rcases get_push hb with hb | ⟨rfl, he⟩
    · obtain ⟨k, base, c, e, h1, h2, h3, h4, h5⟩ := hH.blk b cs hb
      exact ⟨k, base, c, e, by rw [hρ b (hlt hb)]; exact h1, by rw [hold k (Array.getElem?_eq_some_iff.1 h2).1]; exact h2, h3, h4, fun i d hd => let ⟨v, p, q⟩ := h5 i d hd; ⟨v, p, q.keeps kp⟩⟩
    · cases he
  · rcases get_push hb with hb | ⟨rfl, he⟩
    · obtain ⟨k, h1, h2, h3⟩ := hH.loop b r2 F2 hb
      exact ⟨k, by rw [hρ b (hlt hb)]; exact h1, by rw [hold k (Array.getElem?_eq_some_iff.1 h2).1]; exact h2, h3.keeps kp⟩
    · cases he
      exact ⟨w.heap.size, Gh.at_same, heap_alloc_new w (.loop r), by rw [ht]; exact hF.keeps kp⟩
  · have lt : ∀ {b : Nat} {y : Blk} {k base : Nat}, H[b]? = some (some y) → g.ρ b = some (k, base) → k < w.heap.size := fun {b y k base} hb hr => Lof_lt hH ⟨b, y, base, hb, hr⟩
    rcases get_push hb with hb | ⟨rfl, he⟩ <;> rcases get_push hb' with hb' | ⟨rfl, he'⟩
    · rw [hρ b (hlt hb)] at hr
      rw [hρ b' (hlt hb')] at hr'
      exact hH.inj b b' k base base' y y' hb hb' hr hr'
    · rw [Gh.at_same] at hr'
      rw [hρ b (hlt hb)] at hr
      cases hr'
      exact absurd (lt hb hr) (Nat.lt_irrefl _)
    · rw [Gh.at_same] at hr
      rw [hρ b' (hlt hb')] at hr'
      cases hr
      exact absurd (lt hb' hr') (Nat.lt_irrefl _)
    · rfl
  · exact ⟨rfl, rfl, rfl, by simp, fun k hk _ => hold k hk, hsh, fun _ h => h, fun _ h => .inl h, fun k hk => (hlof k hk).imp id (fun h => by omega), fun b hb => hρ b (by omega)⟩

/-- A block is let go. -/
theorem drop_blk (hH : HRel w g H) (b : Nat) (N : Nat) : HRel w g (H.set b none) ∧ Ev N w g (Lof g H) w g (Lof g (H.set b none)) := by
  have get : ∀ {c : Nat} {x : Blk}, (H.set b none)[c]? = some (some x) → H[c]? = some (some x) := fun {c x} h => by
    by_cases e : c = b
    · subst e
      have := lt_of_getElem? h
      rw [List.getElem?_set_self (by simpa using this)] at h; cases h
    · rw [List.getElem?_set_ne (fun h => e h.symm)] at h; exact h
  have hlof : ∀ k, Lof g (H.set b none) k → Lof g H k := fun k ⟨c, x, base, hc, hr⟩ => ⟨c, x, base, get hc, hr⟩
  exact ⟨⟨hH.scell, fun k hk hl => hH.sL k hk (hlof k hl), fun c hc => hH.dom c (by simpa using hc), fun c cs hc => hH.blk c cs (get hc), fun c r F hc => hH.loop c r F (get hc), fun c c' k base base' x x' hc hc' => hH.inj c c' k base base' x x' (get hc) (get hc')⟩,
    ⟨rfl, rfl, rfl, Nat.le_refl _, fun _ _ _ => rfl, fun _ _ h => h, fun _ h => h, fun _ h => .inl h, fun k hk => .inl (hlof k hk), fun _ _ => rfl⟩⟩

theorem alloc_mark (hH : HRel w g H) (x : Option (List Deferred)) (N : Nat) : HRel (w.alloc (.deferred x)) g H ∧ Keeps w g (w.alloc (.deferred x)) g ∧ Ev N w g (Lof g H) (w.alloc (.deferred x)) g (Lof g H) := by
  have hold : ∀ k, k < w.heap.size → (w.alloc (.deferred x)).heap[k]? = w.heap[k]? := fun k hk => heap_alloc_old w _ k hk
  have hsh : ∀ k m, cellsN w k = some m → cellsN (w.alloc (.deferred x)) k = some m := fun k m h => by
    have hk := cellsN_lt h
    unfold cellsN at h ⊢
    rw [hold k hk]; exact h
  refine ⟨hH.beside hold (fun _ h => h) (fun _ h => .inl h) (fun k hk => let ⟨m, hm⟩ := hH.scell k hk; ⟨m, hsh k m hm⟩) hsh, ⟨fun k hk => hold k (hH.slt k hk), hsh, fun _ h => h, fun _ _ h => h⟩, ⟨rfl, rfl, rfl, by simp, fun k hk _ => hold k hk, hsh, fun _ h => h, fun _ h => .inl h, fun _ h => .inl h, fun _ _ => rfl⟩⟩

/-- A range over a function. -/
theorem W.rangeFunc {Q : Post} {f : Operand} {params : Array Nat} {assign body : Code} {gf : FuncId} {caps : List D} {R : Loop → D → Hp → Prop} (hf : F.eval f = some (.fn gf caps))
    (h : ∀ r : Loop, r.state = .ready → r.pending = none → r.params = params → r.assign = assign → r.body = body → r.tmps.size = n → FnTo P gf (.yield H.length :: caps) (H ++ [some (.loop r F)]) (R r))
    (k : ∀ (r : Loop) (d : D) (H' : Hp), R r d H' → ∃ r1 F1, H'[H.length]? = some (some (.loop r1 F1)) ∧ r1.state ≠ .busy ∧ jumpQ F Q r1.pending (H'.set H.length none)) : W P n N (.rangeFunc f params assign body) Q F H := by
  intro w g tm df hH hF hs hN b hfo k0 cs
  have hro : b.roundOf = none := hfo.elim id (fun h => by cases h)
  have hfr := evalT_of hF hf
  obtain ⟨vs, hv, hvn, hvr⟩ : ∃ vs : Array Value, evalT tm f = .func (.func gf) #[] vs ∧ vs.size = caps.length ∧ ∀ (i : Nat) (d : D) (v : Value), caps[i]? = some d → vs[i]? = some v → Rep w g d v := by
    generalize evalT tm f = y at hfr
    cases hfr with
    | fn hn h => exact ⟨_, rfl, hn, h⟩
  obtain ⟨hH1, kp1, ev1⟩ := alloc_mark hH (some []) N
  let r0 : Loop := { state := .ready, pending := none, fn := b.fn, tmps := tm, params := params, assign := assign, body := body, defers := w.heap.size }
  obtain ⟨hH2, kp2, ev2⟩ := alloc_loop hH1 (hF.keeps kp1) r0 rfl N hN
  have hsz1 : (w.alloc (.deferred (some []))).heap.size = w.heap.size + 1 := by simp
  have hargs : RepL ((w.alloc (.deferred (some []))).alloc (.loop r0)) (g.at H.length ((w.alloc (.deferred (some []))).heap.size, 0)) (.yield H.length :: caps) (.func (.yield (w.heap.size + 1)) #[] #[] :: vs.toList) := by
    refine ⟨by simp [hvn], fun i d v hd hv' => ?_⟩
    cases i with
    | zero =>
      cases hd; cases hv'
      refine .yield (base := 0) ?_
      rw [Gh.at_same, hsz1]
    | succ i => exact ((hvr i d v (by simpa using hd) (by simpa using hv')).keeps kp1).keeps kp2
  have hcall := h r0 rfl rfl rfl rfl rfl hs
  have hsteps := hcall.2 _ _ _ hH2 hargs
  let mark : List Deferred := [{ target := .collected w.heap.size, args := #[] }]
  obtain ⟨e, w3, fr, ⟨v, d, H', g', rfl, hR, ev3, hH3, hl3, hrep⟩, hcomes, _, hleave⟩ := hsteps (on b tm (mark ++ df) (.inRangeFunc (w.heap.size + 1) :: k0) :: cs)
  obtain ⟨r1, F1, hb1, hnb, hq⟩ := k r0 d H' hR
  obtain ⟨k1, hρ1, hk1, hH4, kp4, ev4⟩ := put_loop hH3 hb1 (r' := { r1 with state := .exhausted }) rfl N
  have hkk : k1 = w.heap.size + 1 := by
    rw [ev3.ρ H.length (by simp), Gh.at_same, hsz1] at hρ1
    simpa using hρ1.symm
  subst hkk
  obtain ⟨hH5, ev5⟩ := drop_blk hH4 H.length N
  rw [List.set_set] at hH5 ev5
  have hlen1 : (H ++ [some (.loop r0 F)] : Hp).length = H.length + 1 := by simp
  have hEv : Ev N w g (Lof g H) (w3.putObj (w.heap.size + 1) (.loop { r1 with state := .exhausted })) g' (Lof g' (H'.set H.length none)) :=
    (((ev1.trans ev2).trans (ev3.le (by rw [hlen1]; omega))).trans ev4).trans ev5
  have kp3 : Keeps _ _ w3 g' := ev3.keeps hH2 (by rw [hlen1]; exact Nat.le_refl _)
  have hFF : FRel (w3.putObj (w.heap.size + 1) (.loop { r1 with state := .exhausted })) g' F tm := (((hF.keeps kp1).keeps kp2).keeps kp3).keeps kp4
  have hmark : (w3.putObj (w.heap.size + 1) (.loop { r1 with state := .exhausted })).heap[w.heap.size]? = some (.deferred (some [])) := by
    rw [World.putObj_heap_other (by omega)]
    have h1 : ((w.alloc (.deferred (some []))).alloc (.loop r0)).heap[w.heap.size]? = some (.deferred (some [])) := by
      rw [heap_alloc_old _ _ _ (by rw [hsz1]; omega)]; exact heap_alloc_new w _
    rw [ev3.keep _ (by simp; omega) (fun hl => not_Lof_of_deferred hH2 h1 hl)]
    exact h1
  have hnxt : Nxt N w g H df (w3.putObj (w.heap.size + 1) (.loop { r1 with state := .exhausted })) g' (H'.set H.length none) (mark ++ df) :=
    ⟨hEv, hH5, by rw [List.length_set]; rw [hlen1] at hl3; omega, [w.heap.size], rfl, ⟨by simp, fun r hr => by simp at hr; subst hr; exact ⟨Nat.le_refl _, hmark⟩⟩⟩
  have s0 : step P (lone (on b tm df (.code (.rangeFunc f params assign body) :: k0)) cs w) = .next (lone (Frame.enter P gf (.func (.yield (w.heap.size + 1)) #[] #[] :: vs.toList).toArray .normal) (on b tm (mark ++ df) (.inRangeFunc (w.heap.size + 1) :: k0) :: cs) ((w.alloc (.deferred (some []))).alloc (.loop r0))) := by
    have hev : (⟨tm, df⟩ : Act).eval f = evalT tm f := by cases f <;> rfl
    have he := run_enterLoop_outer (P := P) (w := w) b.fn tm params assign body
    rw [← hro] at he
    refine stepR_rangeFunc (P := P) (b := b) (a := ⟨tm, df⟩) (k := k0) (cs := cs) (g := f) (w₁' := (w.alloc (.deferred (some []))).alloc (.loop r0)) (d := ⟨.fn (.func gf) vs, #[.func (.yield (w.heap.size + 1)) #[] #[]]⟩) he ?_ ?_
    · simp only [resolve, hev, hv, Deferred.ofValue]
      simp [Act.eval]
      rfl
    · simp only [invoke]
      rw [hcall.1]
      congr 2
      apply Array.ext'
      simp
  have s1 : Steps P (lone (on b tm df (.code (.rangeFunc f params assign body) :: k0)) cs w) (lone (on b tm (mark ++ df) ((r1.pending.map Item.code).toList ++ k0)) cs (w3.putObj (w.heap.size + 1) (.loop { r1 with state := .exhausted }))) := by
    refine .head s0 (Steps.trans hcomes (.head (step_leave_returned hleave) ?_))
    have hfin : (on b tm (mark ++ df) (.inRangeFunc (w.heap.size + 1) :: k0)).finish v = on b tm (mark ++ df) (.endRangeFunc (w.heap.size + 1) :: k0) := finish_atR_inRangeFunc (b := b) (a := ⟨tm, mark ++ df⟩) (k := k0) _ v
    rw [hfin]
    exact .one (stepR_endRangeFunc (P := P) (b := b) (a := ⟨tm, mark ++ df⟩) (k := k0) (cs := cs) (run_endLoop hk1 hnb))
  generalize w3.putObj (w.heap.size + 1) (.loop { r1 with state := .exhausted }) = w4 at hnxt hFF s1
  unfold jumpQ at hq
  split at hq
  · rename_i hp
    rw [hp] at s1
    simp only [Option.map_none, Option.toList_none, List.nil_append] at s1
    exact ⟨.normal, tm, _, _, ⟨F, _, g', hq, hnxt, hFF, hs⟩, s1⟩
  · rename_i hp
    rw [hp] at s1
    simp only [Option.map_some, Option.toList_some, List.cons_append, List.nil_append] at s1
    exact ⟨.ret, tm, _, _, ⟨F, _, g', hq, hnxt, hFF, hs⟩, k0, s1⟩
  · rename_i i hp
    rw [hp] at s1
    simp only [Option.map_some, Option.toList_some, List.cons_append, List.nil_append] at s1
    exact ⟨.exit i, tm, _, _, ⟨F, _, g', hq, hnxt, hFF, hs⟩, k0, rfl, s1⟩
  · exact hq.elim
end
end Go.V

/- The logic V, part 35: iterators. -/
namespace Go.V

section
variable {b : Bool} {P : Program} {n N : Nat} {all : Array Oper} {r : List Oper} {F : Fr} {H H1 : Hp} {L : List Ent} {K : Fr → Hp → Prop} {o : Oper}

/-- A call of a yield that does one certain thing. -/
theorem RK.callY {fo : Operand} {args : Array Operand} {at_ : Array TypeId} {y : Nat} {ds : List D} {d : D} (h : YTo P y ds H fun d' H' => d' = d ∧ H' = H1) (hl : H.length ≤ H1.length) (hw : wantedB all.toList F o = some true) (hd : dstB n o = true) (ho : o.op = .call { callee := .value fo, args, argTypes := at_ }) (hf : F.eval fo = some (.yield y)) (ha : evals F args.toList = some ds)
    (k : RK b P n N all r (putF F o.dst d) H1 (⟨d, [], [], some H1⟩ :: L) K) : RK b P n N all (o :: r) F H L K := by
  cases b with
  | false => exact SeqK.call (wantedB_spec hw) ho hf ha (fv := .yield y) (R := fun d' H' => d' = d ∧ H' = H1) h (dstB_spec hd) (fun d' H' ⟨e1, e2⟩ => by subst e1; subst e2; exact k)
  | true =>
    obtain ⟨es, F', H', h1, h2, h3⟩ := k
    exact ⟨_ :: es, F', H', .cons (e := ⟨d, [], [], some H1⟩) (.wild (wantedB_spec hw) ho hf ha (fv := .yield y) h) (dstB_spec hd) hl h1, by simpa using h2, h3⟩
end

/-- A value that names only the first n blocks. -/
inductive Cl (n : Nat) : D → Prop where
  | pure {d : D} (h : Pure d) : Cl n d
  | ptr {b off : Nat} (h : b < n) : Cl n (.ptr b off)
  | yield {b : Nat} (h : b < n) : Cl n (.yield b)
  | live {b off len cap sz : Nat} (h : b < n) : Cl n (.live b off len cap sz)

def ClL (n : Nat) : List D → Prop
  | [] => True
  | d :: ds => Cl n d ∧ ClL n ds
def ClF (n : Nat) : Fr → Prop
  | [] => True
  | (_, d) :: F => Cl n d ∧ ClF n F
def ClB (n : Nat) : Option Blk → Prop
  | none => True
  | some (.cells cs) => ClL n cs
  | some (.loop _ F) => ClF n F ∧ (F.map (·.1)).Nodup
def ClH (n : Nat) : Hp → Prop
  | [] => True
  | x :: H => ClB n x ∧ ClH n H

theorem ClL.get {n : Nat} : ∀ {cs : List D} {i : Nat} {d : D}, ClL n cs → cs[i]? = some d → Cl n d
  | _ :: _, 0, _, h, hd => by cases hd; exact h.1
  | _ :: _, i + 1, _, h, hd => h.2.get (by simpa using hd)
theorem ClH.get {n : Nat} : ∀ {H : Hp} {i : Nat} {x : Option Blk}, ClH n H → H[i]? = some x → ClB n x
  | _ :: _, 0, _, h, hd => by cases hd; exact h.1
  | _ :: _, i + 1, _, h, hd => h.2.get (by simpa using hd)

section
variable {σ Z : List Nat} {H : Hp} {n : Nat}
theorem Cl.ren {d : D} (h : Cl n d) (hσ : ∀ b, b < n → σ[b]? = some b) : Ren σ Z H d d := by
  cases h with
  | pure h => exact .wk h (.refl _)
  | ptr h => exact .ptr (hσ _ h)
  | yield h => exact .yield (hσ _ h)
  | live h => exact .live (hσ _ h)
theorem ClF.ren : ∀ {F G : Fr}, ClF n F → (F.map (·.1)).Nodup → (∀ t d, (t, d) ∈ F → G.get t = some d) → (∀ b, b < n → σ[b]? = some b) → FrRen σ Z H F G
  | [], _, _, _, _, _ => trivial
  | (t, d) :: F, G, h, hn, hg, hσ => ⟨⟨d, hg t d (by simp), h.1.ren hσ⟩, ClF.ren h.2 (List.nodup_cons.1 hn).2 (fun u e hu => hg u e (by simp [hu])) hσ⟩
theorem Fr.get_of_nodup : ∀ {F : Fr}, (F.map (·.1)).Nodup → ∀ t d, (t, d) ∈ F → F.get t = some d
  | (u, e) :: F, hn, t, d, h => by
    simp only [Fr.get]
    rcases List.mem_cons.1 h with h | h
    · cases h; rw [Nat.beq_refl]; rfl
    · have hne : Nat.beq u t = false := by
        cases hb : Nat.beq u t with
        | false => rfl
        | true =>
          obtain rfl := Nat.eq_of_beq_eq_true hb
          exact absurd (List.mem_map.2 ⟨(u, d), h, rfl⟩) (List.nodup_cons.1 hn).1
      rw [hne]
      exact Fr.get_of_nodup (List.nodup_cons.1 hn).2 t d h
theorem ClB.ren {x : Blk} (h : ClB n (some x)) (hσ : ∀ b, b < n → σ[b]? = some b) : BlkRen σ Z H x x := by
  cases x with
  | cells cs => exact ⟨Nat.le_refl _, fun i x y hx hy => by rw [hx] at hy; cases hy; exact (h.get hx).ren hσ⟩
  | loop r F => exact ⟨rfl, h.1.ren h.2 (Fr.get_of_nodup h.2) hσ⟩
theorem HpRen.cl (hσ : ∀ b, b < n → σ[b]? = some b) : ∀ {r : Hp} {k : Nat}, ClH n r → (∀ j, j < r.length → k + j ∉ Z) → (∀ j x, r[j]? = some x → H[k + j]? = some x) → HpRen σ Z H (List.range' k r.length) r
  | [], _, _, _, _ => trivial
  | none :: r, k, h, hz, hg => by
    rw [List.length_cons, List.range'_succ]
    exact HpRen.cl hσ h.2 (fun j hj => by rw [Nat.add_assoc, Nat.add_comm 1 j]; exact hz (j + 1) (by simpa using hj)) (fun j x hx => by rw [Nat.add_assoc, Nat.add_comm 1 j]; exact hg (j + 1) x (by simpa using hx))
  | some x :: r, k, h, hz, hg => by
    rw [List.length_cons, List.range'_succ]
    exact ⟨⟨hz 0 (by simp), x, hg 0 _ rfl, h.1.ren hσ⟩, HpRen.cl hσ h.2 (fun j hj => by rw [Nat.add_assoc, Nat.add_comm 1 j]; exact hz (j + 1) (by simpa using hj)) (fun j x hx => by rw [Nat.add_assoc, Nat.add_comm 1 j]; exact hg (j + 1) x (by simpa using hx))⟩
end

/-- The last block is fixed: it is read only from now on. -/
theorem To.fixLast {Y : Hp} {x : Option Blk} {F F' : Fr} {N : Nat} (hN : N ≤ Y.length) (hY : ClH Y.length Y) (hF : FrRen (List.range' 0 Y.length) [Y.length] (Y ++ [x]) F' F) : To N F' Y F (Y ++ [x]) := by
  have hσ : ∀ b, b < Y.length → (List.range' 0 Y.length)[b]? = some b := fun b hb => by
    rw [List.getElem?_range' hb]; simp
  refine .ren _ _ hN (fun b hb => hσ b (by omega)) (List.nodup_range' ..) hF (.cl hσ hY (fun j hj => by simp; omega) fun j y hy => ?_)
  rw [Nat.zero_add, List.getElem?_append_left (lt_of_getElem? hy)]; exact hy
theorem range_get {n b : Nat} (h : b < n) : (List.range' 0 n)[b]? = some b := by
  rw [List.getElem?_range' h]; simp
end Go.V

/- The logic V, part 36: ranges over iterators. -/
namespace Go.V

/-- Less may be told of what is left. -/
def toQ (N : Nat) (Q : Post) : Post := fun e F H => ∃ F' H', To N F' H' F H ∧ Q e F' H'
theorem W.post {P : Program} {n N : Nat} {c : Code} {Q : Post} {F : Fr} {H : Hp} (h : W P n N c (toQ N Q) F H) : W P n N c Q F H := by
  intro w g tm df hH hF hs hl
  refine (h w g tm df hH hF hs hl).mono fun e tm' df' w' ⟨F2, H2, g2, ⟨F3, H3, ht, q⟩, nx, r, hs2⟩ => ?_
  obtain ⟨g3, hH3, hF3, hN3, ev⟩ := ht.spec nx.hrel r nx.len
  exact ⟨F3, H3, g3, q, nx.trans (Nxt.same_df (df := df') ev hH3 hN3), hF3, hs2⟩

def busy (r : Loop) : Loop := { r with state := .busy }
def codeOf : Ex → Code
  | .normal => .skip
  | .ret => .ret
  | .exit i => .exit i
def ended (r : Loop) (j : Ex) : Loop := { r with state := .done, pending := some (codeOf j) }

/-- What a round leaves: the next state; it goes on, or jumps. -/
def roundJ (N : Nat) (r : Loop) (F : Fr) (H1 : Hp) (c : Bool) (j : Ex) : Post := fun e F' H =>
  To N [] (H1 ++ [some (.loop (busy r) F)]) F' H ∧ e = (bif c then .normal else j)

/-- What was made in between is let go. -/
theorem To.dropTail {Y T : Hp} {F : Fr} {N : Nat} (hN : N ≤ Y.length) (hY : ClH Y.length Y) : To N [] Y F (Y ++ T) := by
  have hσ : ∀ b, b < Y.length → (List.range' 0 Y.length)[b]? = some b := fun b hb => by
    rw [List.getElem?_range' hb]; simp
  refine .ren _ [] hN (fun b hb => hσ b (by omega)) (List.nodup_range' ..) trivial (.cl hσ hY (fun j hj => by simp) fun j y hy => ?_)
  rw [Nat.zero_add, List.getElem?_append_left (lt_of_getElem? hy)]; exact hy

section
variable {P : Program} {n N : Nat} {F : Fr} {H : Hp}

theorem round_yields {r : Loop} {H1 : Hp} {c : Bool} {j : Ex} {ds : List D} {asg bd : Code} {ps : Array Nat} (hj : j ≠ .normal) (hl : H.length = H1.length) (hs : r.state = .ready) (hpn : r.pending = none) (hps : r.params = ps) (hasg : r.assign = asg) (hbd : r.body = bd) (hn : r.tmps.size = n) (hdl : ds.length = ps.size) (hpn' : ∀ t ∈ ps.toList, t < n) (ha : noRF asg = true) (hb : noRF bd = true)
    (h : W P n (H.length + 1) asg (fun e F1 H2 => e = .normal ∧ H2[H.length]? = some (some (.loop r F)) ∧ W P n (H.length + 1) bd (roundJ (H.length + 1) r F H1 c j) F1 (H2.set H.length (some (.loop (busy r) F)))) (bindF ps.toList ds F) (H ++ [some (.loop r F)])) :
    YTo P H.length ds (H ++ [some (.loop r F)]) fun d H' => d = .bool c ∧ H' = H1 ++ [some (.loop (bif c then r else ended r j) F)] := by
  subst hps hasg hbd hn
  refine YTo.of_W (F := F) (r := r) (by simp) hs hpn hdl hpn' ha hb ?_
  have hlen : (H ++ [some (.loop r F)] : Hp).length = H.length + 1 := by simp
  rw [hlen]
  refine h.mono fun e F1 H2 ⟨e1, e2, hW⟩ => ⟨e1, e2, W.post (hW.mono fun e F2 H3 ⟨ht, he⟩ => ⟨[], _, ht, ?_⟩)⟩
  have hset : ∀ x, (H1 ++ [some (.loop (busy r) F)] : Hp).set H.length x = H1 ++ [x] := fun x => by rw [hl]; simp
  cases c with
  | true =>
    obtain rfl : e = .normal := he
    refine ⟨by rw [hl]; simp; rfl, rfl, ?_⟩
    rw [hset]; rfl
  | false =>
    obtain rfl : e = j := he
    cases e with
    | normal => exact absurd rfl hj
    | ret =>
      refine ⟨by rw [hl]; simp; rfl, rfl, ?_⟩
      rw [hset]; rfl
    | exit i =>
      refine ⟨by rw [hl]; simp; rfl, rfl, ?_⟩
      rw [hset]; rfl

/-- What an iterator does: it yields m times, unless it is stopped. -/
def IterSpec (P : Program) (gf : FuncId) (caps : List D) (m : Nat) (args : Nat → List D) : Prop :=
  ∀ (b N : Nat) (Y : Nat → Hp) (co : Nat → Bool), (∀ i, (Y i).length = N) → (∀ i, ClH N (Y i)) → b < N → (∀ i, i < m → (∀ j, j < i → co j = true) → YTo P b (args i) (Y i) fun d H' => d = .bool (co i) ∧ H' = Y (i + 1)) →
    FnTo P gf (.yield b :: caps) (Y 0) fun d H' => ∃ i, i ≤ m ∧ H' = Y i ∧ ((i = m ∧ ∀ j, j < i → co j = true) ∨ ∃ j, i = j + 1 ∧ co j = false ∧ ∀ k, k < j → co k = true)

def recAt (r : Loop) (co : Nat → Bool) (j : Ex) : Nat → Loop
  | 0 => r
  | i + 1 => bif co i then r else ended r j

theorem ClH.mono_app {m : Nat} : ∀ {H : Hp} {x : Option Blk}, ClH m H → ClB m x → ClH m (H ++ [x])
  | [], _, _, hx => ⟨hx, trivial⟩
  | _ :: H, _, h, hx => ⟨h.1, ClH.mono_app h.2 hx⟩

/-- A range over an iterator. -/
theorem W.iter {Q : Post} {f : Operand} {params : Array Nat} {asg bd : Code} {gf : FuncId} {caps : List D} {m : Nat} {args : Nat → List D} (hI : IterSpec P gf caps m args) (S : Nat → Hp) (co : Nat → Bool) (j : Ex) (N0 : Nat) (hj : j ≠ .normal) (hf : F.eval f = some (.fn gf caps)) (hS : ∀ i, (S i).length = N0) (hcl : ∀ i, ClH (N0 + 1) (S i)) (hcF : ClF (N0 + 1) F) (hnd : (F.map (·.1)).Nodup)
    (hdl : ∀ i, (args i).length = params.size) (hpn : ∀ t ∈ params.toList, t < n) (ha : noRF asg = true) (hb : noRF bd = true)
    (round : ∀ (r : Loop) i, i < m → (∀ k, k < i → co k = true) → W P n (N0 + 1) asg (fun e F1 H2 => e = .normal ∧ H2[N0]? = some (some (.loop r F)) ∧ W P n (N0 + 1) bd (roundJ (N0 + 1) r F (S (i + 1)) (co i) j) F1 (H2.set N0 (some (.loop (busy r) F)))) (bindF params.toList (args i) F) (S i ++ [some (.loop r F)]))
    (fin : (∀ k, k < m → co k = true) → Q .normal F (S m ++ [none])) (finJ : ∀ i, i < m → co i = false → (∀ k, k < i → co k = true) → Q j F (S (i + 1) ++ [none])) : W P n N (.rangeFunc f params asg bd) Q F (S 0) := by
  refine W.rangeFunc (R := fun r d H' => r.state = .ready ∧ r.pending = none ∧ ∃ i, i ≤ m ∧ H' = S i ++ [some (.loop (recAt r co j i) F)] ∧ ((i = m ∧ ∀ j, j < i → co j = true) ∨ ∃ j, i = j + 1 ∧ co j = false ∧ ∀ k, k < j → co k = true)) hf (fun r h1 h2 h3 h4 h5 h6 => ?_) ?_
  · rw [hS]
    refine FnTo.mono (hI N0 (N0 + 1) (fun i => S i ++ [some (.loop (recAt r co j i) F)]) co (fun i => by simp [hS]) (fun i => (hcl i).mono_app (x := some (.loop (recAt r co j i) F)) (show ClF _ F ∧ _ from ⟨hcF, hnd⟩)) (by omega) fun i hi hk => ?_) ?_
    case refine_2 => exact fun d H' h => ⟨h1, h2, h⟩
    have hr : recAt r co j i = r := by
      cases i with
      | zero => rfl
      | succ i => show (bif co i then r else ended r j) = r; rw [hk i (by omega)]; rfl
    have h := round_yields (H := S i) (H1 := S (i + 1)) (c := co i) (ds := args i) hj (by rw [hS, hS]) h1 h2 h3 h4 h5 h6 (hdl i) hpn ha hb (by rw [hS]; exact round r i hi hk)
    rw [hS] at h
    show YTo P N0 (args i) (S i ++ [some (.loop (recAt r co j i) F)]) fun d H' => d = .bool (co i) ∧ H' = S (i + 1) ++ [some (.loop (bif co i then r else ended r j) F)]
    rw [hr]; exact h
  · rintro r d H' ⟨h1, h2, i, hi, rfl, hc⟩
    have hg : (S i ++ [some (.loop (recAt r co j i) F)] : Hp)[N0]? = some (some (.loop (recAt r co j i) F)) := by rw [← hS i]; simp
    have hset : (S i ++ [some (.loop (recAt r co j i) F)] : Hp).set N0 none = S i ++ [none] := by rw [← hS i]; simp
    rw [hS]
    refine ⟨_, F, hg, ?_, ?_⟩
    · rcases hc with ⟨rfl, hc⟩ | ⟨k, rfl, hk, _⟩
      · have : recAt r co j i = r := by
          cases i with
          | zero => rfl
          | succ i => show (bif co i then r else ended r j) = r; rw [hc i (by omega)]; rfl
        rw [this, h1]; simp
      · show (bif co k then r else ended r j).state ≠ _
        rw [hk]; simp [ended]
    · rw [hset]
      rcases hc with ⟨rfl, hc⟩ | ⟨k, rfl, hk, hc⟩
      · have : recAt r co j i = r := by
          cases i with
          | zero => rfl
          | succ i => show (bif co i then r else ended r j) = r; rw [hc i (by omega)]; rfl
        rw [this, h2]
        exact fin hc
      · show jumpQ F Q (bif co k then r else ended r j).pending _
        rw [hk]
        have := finJ k (by omega) hk hc
        cases j with
        | normal => exact absurd rfl hj
        | ret => exact this
        | exit i => exact this
end
end Go.V

/- The logic V, part 37: arrays of four numbers in an input. -/
namespace Go.V
open Go.Deep Go.ChangeShapes

theorem Opens.arr4 {P : Program} {w : World} {t e : TypeId} {k : IntKind} (ht : P.underlying t = some (.array 4 e)) (he : P.underlying e = some (.int k)) (hc : P.cellsOf e = 1) (hct : P.cellsOf t = 4) :
    Opens P w t (fun x : Int × Int × Int × Int => [.int k x.1, .int k x.2.1, .int k x.2.2.1, .int k x.2.2.2]) (fun x => ((Lit.int k x.1).wf = true ∧ (Lit.int k x.2.1).wf = true) ∧ (Lit.int k x.2.2.1).wf = true ∧ (Lit.int k x.2.2.2).wf = true) := by
  intro H en held fuel cs x h
  obtain ⟨xs, m, _, _, hl, hn, hx⟩ := DataW.trod_array ht h
  rw [hct] at hl
  have at_ : ∀ i, i < 4 → ∃ n : Int, (Lit.int k n).wf = true ∧ RepL w (g0 w) [.int k n] ((cs.drop i).take 1) := fun i hi => by
    have h1 := hx i hi
    rw [hc, Nat.mul_one] at h1
    have h2 : xs[i]? = some (xs[i]'(by omega)) := List.getElem?_eq_getElem (by omega)
    rw [h2] at h1
    exact Opens.int he H en held m _ _ h1
  obtain ⟨a, ha, ra⟩ := at_ 0 (by omega)
  obtain ⟨b, hb, rb⟩ := at_ 1 (by omega)
  obtain ⟨c, hc', rc⟩ := at_ 2 (by omega)
  obtain ⟨d, hd, rd⟩ := at_ 3 (by omega)
  refine ⟨(a, b, c, d), ⟨⟨ha, hb⟩, hc', hd⟩, ?_⟩
  match cs, hl with
  | [c0, c1, c2, c3], _ => exact (((ra.app rb).app rc).app rd)
end Go.V
