/- The logic V, part 28: lists that grow. -/
import Derived.Test.YtcnblloiaambaaaV27
namespace Go.V

/-- A list that grows by append: nil, then a live row. -/
def accD {α : Type} (s b : Nat) : List α → D
  | [] => .snil
  | x :: xs => .live b 0 (x :: xs).length (x :: xs).length s

def accB {α : Type} (enc : α → List D) : List α → Option Blk
  | [] => none
  | x :: xs => some (.cells ((x :: xs).flatMap enc))

section
variable {α : Type} {enc : α → List D} {s : Nat}

theorem flat_len (hs : ∀ a, (enc a).length = s) : ∀ l : List α, (l.flatMap enc).length = l.length * s := flatMap_len hs

theorem frz_accS {H : Hp} {b : Nat} (hs : ∀ a, (enc a).length = s) (hp : ∀ a, ∀ d ∈ enc a, Pure d) {xs : List α} (hb : H[b]? = some (accB enc xs)) : Frz H (accD s b xs) (encS enc xs) := by
  cases xs with
  | nil => exact .pure .snil (.snil _)
  | cons x xs =>
    refine .live hb (by rw [flat_len hs]; omega) (flat_len hs _) fun i u v hu hv => ?_
    rw [Nat.zero_add] at hu
    have e := Option.some.inj (hu.symm.trans hv)
    subst e
    obtain ⟨a, _, ha⟩ := List.mem_flatMap.1 (List.mem_of_getElem? hu)
    exact .pure (hp a u ha) (.refl _)

/-- .. told with weaker cells. -/
theorem frz_accW {enc' : α → List D} {H : Hp} {b : Nat} (hs : ∀ a, (enc a).length = s) (hs' : ∀ a, (enc' a).length = s) (hp : ∀ a, ∀ d ∈ enc a, Pure d) (hw : ∀ a, WkL (enc a) (enc' a)) {xs : List α} (hb : H[b]? = some (accB enc xs)) (h0 : 0 < s) : Frz H (accD s b xs) (encS enc' xs) := by
  cases xs with
  | nil => exact .pure .snil (.snil _)
  | cons x xs =>
    refine .live hb (by rw [flat_len hs]; omega) (flat_len hs' _) fun i u v hu hv => ?_
    rw [Nat.zero_add] at hu
    have hi : i < (x :: xs).length * s := by rw [← flat_len hs]; exact lt_of_getElem? hu
    have hq : i / s < (x :: xs).length := Nat.div_lt_of_lt_mul (by rw [Nat.mul_comm]; exact hi)
    have hr : i % s < s := Nat.mod_lt _ h0
    have hdm : i = i / s * s + i % s := by rw [Nat.mul_comm]; exact (Nat.div_add_mod i s).symm
    have hu' : ((x :: xs).flatMap enc)[i]? = some u := hu
    rw [flat_get hs hq hr hdm] at hu'
    rw [flat_get hs' hq hr hdm] at hv
    exact .pure (hp _ u (List.mem_of_getElem? hu')) ((hw _).2 _ u v hu' hv)

theorem Ren.acc {σ Z : List Nat} {H : Hp} {b b' : Nat} {xs : List α} (h : σ[b']? = some b) : Ren σ Z H (accD s b xs) (accD s b' xs) := by
  cases xs with
  | nil => exact .wk .snil (.refl _)
  | cons x xs => exact .live h

theorem HpRen.acc {σ Z ss : List Nat} {H r : Hp} {i : Nat} {xs : List α} (hz : i ∉ Z) (hb : H[i]? = some (accB enc xs)) (hp : ∀ a, ∀ d ∈ enc a, Pure d) (k : HpRen σ Z H ss r) : HpRen σ Z H (i :: ss) (accB enc xs :: r) := by
  cases xs with
  | nil => exact k
  | cons x xs =>
    refine ⟨⟨hz, _, hb, Nat.le_refl _, fun j u v hu hv => ?_⟩, k⟩
    rw [hu] at hv
    cases hv
    obtain ⟨a, _, ha⟩ := List.mem_flatMap.1 (List.mem_of_getElem? hu)
    exact .wk (hp a u ha) (.refl _)

variable {P : Program} {n N : Nat} {all : Array Oper} {r : List Oper} {F : Fr} {H H1 : Hp} {K : Fr → Hp → Prop} {o : Oper}

theorem accD_app {b : Nat} {xs ys : List α} (h : 0 < ys.length) : accD s b (xs ++ ys) = .live b 0 (xs.length + ys.length) (xs.length + ys.length) s := by
  cases hx : xs ++ ys with
  | nil => rw [List.append_eq_nil_iff] at hx; rw [hx.2] at h; exact absurd h (Nat.lt_irrefl 0)
  | cons z zs => rw [accD, ← hx, List.length_append]

theorem accB_app {xs ys : List α} (h : 0 < ys.length) : accB enc (xs ++ ys) = some (.cells (xs.flatMap enc ++ ys.flatMap enc)) := by
  cases hx : xs ++ ys with
  | nil => rw [List.append_eq_nil_iff] at hx; rw [hx.2] at h; exact absurd h (Nat.lt_irrefl 0)
  | cons z zs => rw [accB, ← hx, List.flatMap_append]

/-- A list grows. -/
theorem RK.grow (l b s by_ : Nat) (xs ys : List α) {t e : TypeId} {x y : Operand} {d : D} {z : D} {cs : List D} {rd : List Nat} (hs : ∀ a, (enc a).length = s) (hl : H.length = l) (hw : wantedB all.toList F o = some true) (hd : dstB n o = true)
    (ho : o.op = .call { callee := .builtin .append, args := #[x, y], argTypes := #[t, t] }) (ht : elemOfSlice P t = some (e, s, by_)) (hz : zeroD P e = some z) (hzl : z.cells.length = s) (hx : F.eval x = some (accD s b xs)) (hy : F.eval y = some d) (hb : H[b]? = some (accB enc xs))
    (hsrc : Src H s d ys.length cs rd) (hcs : cs = ys.flatMap enc) (hm : 0 < ys.length) (hby : (xs.length + ys.length) * by_ ≤ 140737488355328) (h63 : xs.length + ys.length ≤ 9223372036854775807) (hp : H.setR b none = some H1)
    (k : RK false P n N all r (putF F o.dst (accD s l (xs ++ ys))) (H1 ++ [accB enc (xs ++ ys)]) [] K) : RK false P n N all (o :: r) F H [] K := by
  subst hcs
  obtain ⟨h1, h2⟩ := setR_spec hp
  rw [accD_app hm, accB_app hm] at k
  cases xs with
  | nil =>
    have hH1 : H1 = H := by
      rw [h2]
      apply List.ext_getElem?
      intro i
      by_cases hi : i = b
      · subst hi
        rw [List.getElem?_set_self h1, hb]; rfl
      · rw [List.getElem?_set_ne (fun e => hi e.symm)]
    rw [hH1] at k
    refine RK.appNew (L := []) l s by_ (ys.length) (ys.flatMap enc) (len := 0) (cs0 := []) hl hw hd ho ht hz hzl hx hy (.inl ⟨rfl, rfl, rfl⟩) hsrc hm (by omega) (by simpa using hby) (by simpa using h63) rfl (pushR_eq _ _) ?_
    simp at k
    exact k
  | cons a xs =>
    refine RK.app (L := []) (H1 := H1) l s by_ ((a :: xs).length + ys.length) ((a :: xs).flatMap enc ++ ys.flatMap enc) hl hw hd ho ht hz hzl hx hy hb (by rw [flat_len hs]; omega) hsrc rfl hby h63 ?_ hp (pushR_eq _ _) k
    rw [List.drop_zero, List.take_of_length_le (by rw [flat_len hs]; exact Nat.le_refl _)]

end

/-- What a round of a range to a fixed number leaves. -/
def rangeCQ (B B' : Nat) (N : Nat) (ti : Nat) (G : Nat → Fr) (Hs : Nat → Hp) (C : Nat → Prop) (i : Nat) (Q : Post) : Post := fun e F H =>
  match e with
  | .normal => C (i + 1) ∧ To N ((ti, .int .i64 (i : Int)) :: G (i + 1)) (Hs (i + 1)) F H
  | .exit j => bif Nat.beq j B' then C (i + 1) ∧ To N ((ti, .int .i64 (i : Int)) :: G (i + 1)) (Hs (i + 1)) F H
      else bif Nat.beq j B then Q .normal F H else Q (.exit j) F H
  | .ret => Q .ret F H

theorem W.rangeC {P : Program} {n N : Nat} {F : Fr} {H : Hp} {Q : Post} {B B' r1 r2 ti tc tj : Nat} {T1 T2 T3 T4 : TypeId} {o1 o2 o3 : Oper} {body : Code} (m : Nat) (G : Nat → Fr) (Hs : Nat → Hp) (C : Nat → Prop)
    (h1 : o1.op = .binOp .lss T1 (.tmp ti) (.const (.int .i64 (m : Int))) T2) (d1 : o1.dst = some tc) (g1 : o1.guard = none)
    (h2 : o2.op = .binOp .add T3 (.tmp ti) (.const (.int .i64 1)) T4) (d2 : o2.dst = some tj) (g2 : o2.guard = none)
    (h3 : o3.op = .move (.tmp tj)) (d3 : o3.dst = some ti) (g3 : o3.guard = none)
    (hn : (Nat.blt tc n && Nat.blt tj n && Nat.blt ti n && !Nat.beq tc ti && !Nat.beq tj ti && !Nat.beq B' B) = true) (hm : m ≤ 9223372036854775807)
    (c0 : C 0) (h0 : To N ((ti, .int .i64 (0 : Nat)) :: G 0) (Hs 0) F H)
    (hfree : ∀ i, (G i).get tj = none)
    (round : ∀ i, i < m → C i → W P n N body (rangeCQ B B' N ti G Hs C i Q) ((tc, .bool true) :: (ti, .int .i64 (i : Int)) :: G i) (Hs i))
    (done : C m → Q .normal ((tc, .bool false) :: (ti, .int .i64 (m : Int)) :: G m) (Hs m)) :
    W P n N (.block B (.loop (.seq (.region r1 #[o1] false) (.seq (.cond (.tmp tc) .skip (.exit B)) (.seq (.block B' body) (.region r2 #[o2, o3] false)))))) Q F H := by
  simp only [Bool.and_eq_true, Bool.not_eq_true'] at hn
  obtain ⟨⟨⟨⟨⟨n1, n2⟩, n3⟩, n4⟩, n7⟩, n9⟩ := hn
  have w1 : ∀ F, wantedB [o1] F o1 = some true := fun F => by simp [wantedB, g1]
  have w2 : ∀ F, wantedB [o2, o3] F o2 = some true := fun F => by simp [wantedB, g2]
  have w3 : ∀ F, wantedB [o2, o3] F o3 = some true := fun F => by simp [wantedB, g3]
  refine .block (.loopT (fun i => i ≤ m ∧ C i) (fun i => m - i) (fun i => (ti, .int .i64 (i : Int)) :: G i) Hs 0 ⟨Nat.zero_le _, c0⟩ h0 ?_)
  rintro i ⟨him, hC⟩
  have ev1 : vop P ((ti, .int .i64 (i : Int)) :: G i) o1.op = some (True, .bool (decide ((i : Int) < m))) := by
    rw [h1]
    simp only [vop, Fr.eval, Fr.get, Nat.beq_refl, cond_true, ofVal, ofScalar]
    rfl
  refine .sreg (.p (w1 _) (by simp [dstB, d1, n1]) ev1 trivial (.nil ?_ rfl))
  rw [d1]
  show W P n N _ _ ((tc, .bool (decide ((i : Int) < m))) :: (ti, .int .i64 (i : Int)) :: G i) (Hs i)
  have hc : Fr.eval ((tc, .bool (decide ((i : Int) < m))) :: (ti, .int .i64 (i : Int)) :: G i) (.tmp tc) = some (.bool (decide ((i : Int) < m))) := by
    simp only [Fr.eval, Fr.get, Nat.beq_refl, cond_true]
  refine .seq (.cond_dec hc (fun hlt => .skip ?_) (fun hge => .exit ?_))
  · have hlt' : i < m := by omega
    rw [decide_eq_true hlt]
    refine .seq (.block ((round i hlt' hC).mono fun e F' H' hq => ?_))
    have next : C (i + 1) ∧ To N ((ti, .int .i64 (i : Int)) :: G (i + 1)) (Hs (i + 1)) F' H' →
        W P n N (.region r2 #[o2, o3] false) (loopQ (fun i => m - i) i (fun a F H => (a ≤ m ∧ C a) ∧ To N ((ti, .int .i64 (a : Int)) :: G a) (Hs a) F H) (blockQ B Q)) F' H' := by
      rintro ⟨hC', hto⟩
      refine .to hto ?_
      have e2 : vop P ((ti, .int .i64 (i : Int)) :: G (i + 1)) o2.op = some (True, .int .i64 (IntKind.i64.wrap (i + 1))) := by
        rw [h2]
        simp only [vop, Fr.eval, Fr.get, Nat.beq_refl, cond_true, ofVal, ofScalar]
        rfl
      refine .reg (.pe (.int .i64 ((i + 1 : Nat) : Int)) (w2 _) (by simp [dstB, d2, n2]) e2 trivial (by rw [wrap64 (by omega) (by omega)]; rfl) ?_)
      rw [d2]
      have e3 : vop P ((tj, .int .i64 ((i + 1 : Nat) : Int)) :: (ti, .int .i64 (i : Int)) :: G (i + 1)) o3.op = some (True, .int .i64 ((i + 1 : Nat) : Int)) := by
        rw [h3]
        simp only [vop, Fr.eval, Fr.get, Nat.beq_refl, cond_true]
      refine .p (w3 _) (by simp [dstB, d3, n3]) e3 trivial (.nil ?_ rfl)
      rw [d3]
      refine ⟨i + 1, (by show m - (i + 1) < m - i; omega), ⟨by omega, hC'⟩, .same (fun t d' hd => ⟨d', ?_, .refl _⟩) rfl⟩
      simp only [putF, Fr.get] at hd ⊢
      cases hb : Nat.beq ti t with
      | true => rw [hb] at hd; exact hd
      | false =>
        rw [hb] at hd
        simp only [cond_false] at hd ⊢
        cases hb3 : Nat.beq tj t with
        | true =>
          obtain rfl := Nat.eq_of_beq_eq_true hb3
          rw [hfree] at hd
          cases hd
        | false => exact hd
    cases e with
    | normal => exact next hq
    | ret => exact hq
    | exit j =>
      simp only [rangeCQ] at hq
      show blockQ B' _ (.exit j) F' H'
      simp only [blockQ]
      cases hb : Nat.beq j B' with
      | true => rw [hb] at hq; exact next hq
      | false =>
        rw [hb] at hq
        simp only [cond_false] at hq ⊢
        simp only [thenQ, loopQ, blockQ]
        exact hq
  · have : i = m := by omega
    subst this
    rw [decide_eq_false hge]
    show blockQ B Q (.exit B) _ _
    simp only [blockQ, Nat.beq_refl, cond_true]
    exact done hC
end Go.V
