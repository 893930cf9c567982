/- The logic V, part 24: small rules for walking code. -/
import Derived.Test.YtcnblloiaambaaaV23
namespace Go.V
section
variable {P : Program} {n N : Nat} {F : Fr} {H : Hp} {Q : Post} {y : Code}

theorem W.sreg {id : Nat} {all : Array Oper} (h : RK false P n N all all.toList F H [] (fun F H => W P n N y Q F H)) : W P n N (.seq (.region id all false) y) Q F H :=
  .seq (.reg h)

theorem W.sdraw {id : Nat} {all : Array Oper} (hm : P.follows .mixedOrders = true) (hac : acyclic all = true) (ht : tempsOk all.toList = true) (h : RK true P n N all all.toList F H [] (fun F H => W P n N y Q F H)) : W P n N (.seq (.region id all true) y) Q F H :=
  .seq (.draw hm hac ht h)

theorem W.sskip (h : W P n N y Q F H) : W P n N (.seq .skip y) Q F H := .seq (.skip h)
theorem W.slabel {l : Nat} (h : W P n N y Q F H) : W P n N (.seq (.label l) y) Q F H := .seq (.label h)

theorem W.condT {c : Operand} {x z : Code} (hc : F.eval c = some (.bool true)) (h : W P n N x Q F H) : W P n N (.cond c x z) Q F H := .cond hc (fun _ => h) (fun h => by cases h)
theorem W.condF {c : Operand} {x z : Code} (hc : F.eval c = some (.bool false)) (h : W P n N z Q F H) : W P n N (.cond c x z) Q F H := .cond hc (fun h => by cases h) (fun _ => h)

theorem W.sexit {i : Nat} (h : Q (.exit i) F H) : W P n N (.seq (.exit i) y) Q F H := .seq (.exit h)
theorem W.sret (h : Q .ret F H) : W P n N (.seq .ret y) Q F H := .seq (.ret h)
end

theorem wrap64 {x : Int} (h1 : -9223372036854775808 ≤ x) (h2 : x ≤ 9223372036854775807) : IntKind.i64.wrap x = x := by
  unfold IntKind.wrap
  have hb : (2 ^ IntKind.i64.bits : Int) = 18446744073709551616 := by decide
  have hb' : (2 ^ (IntKind.i64.bits - 1) : Int) = 9223372036854775808 := by decide
  have hs : IntKind.i64.signed = true := rfl
  simp only [hb, hb', hs, Bool.true_and, decide_eq_true_eq]
  split <;> omega

theorem WkF.nil' {F : Fr} : ∀ t d', Fr.get [] t = some d' → ∃ d, F.get t = some d ∧ Wk d d' := fun _ _ h => by cases h

/-- F' tells less than F. -/
def FrWk : Fr → Fr → Prop
  | [], _ => True
  | (t, d') :: F', F => (∃ d, F.get t = some d ∧ Wk d d') ∧ FrWk F' F

theorem FrWk.get : ∀ {F' F : Fr}, FrWk F' F → ∀ t d', F'.get t = some d' → ∃ d, F.get t = some d ∧ Wk d d'
  | [], _, _, _, _, h => by cases h
  | (u, e) :: F', F, hr, t, d', h => by
    simp only [Fr.get] at h
    cases hb : Nat.beq u t with
    | true =>
      rw [hb] at h
      simp only [cond_true, Option.some.injEq] at h
      subst h
      obtain rfl := Nat.eq_of_beq_eq_true hb
      exact hr.1
    | false => rw [hb] at h; exact FrWk.get hr.2 t d' h

theorem To.wk {N : Nat} {F' F : Fr} {H : Hp} (h : FrWk F' F) : To N F' H F H := .same (FrWk.get h) rfl

theorem Wk.of_eq {d d' : D} (h : d = d') : Wk d d' := h ▸ .refl d
theorem Wk.tight {cs : List D} {n : Nat} {t : Bool} : Wk (.snap cs n t) (.snap cs n false) := .snap (Nat.le_refl _) (fun h => by cases h) (fun i x y hx hy => by rw [hx] at hy; cases hy; exact .refl _)

theorem W.wk {P : Program} {n N : Nat} {F F' : Fr} {H : Hp} {Q : Post} {c : Code} (h : FrWk F' F) (k : W P n N c Q F' H) : W P n N c Q F H := .to (.wk h) k

/-- What a round of a range leaves. -/
def rangeQ (B B' : Nat) (N : Nat) (ti tn : Nat) (m : Nat) (G : Nat → Fr) (Hs : Nat → Hp) (C : Nat → Prop) (i : Nat) (Q : Post) : Post := fun e F H =>
  match e with
  | .normal => C (i + 1) ∧ To N ((ti, .int .i64 (i : Int)) :: (tn, .int .i64 (m : Int)) :: G (i + 1)) (Hs (i + 1)) F H
  | .exit j => bif Nat.beq j B' then C (i + 1) ∧ To N ((ti, .int .i64 (i : Int)) :: (tn, .int .i64 (m : Int)) :: G (i + 1)) (Hs (i + 1)) F H
      else bif Nat.beq j B then Q .normal F H else Q (.exit j) F H
  | .ret => Q .ret F H

theorem W.range {P : Program} {n N : Nat} {F : Fr} {H : Hp} {Q : Post} {B B' r1 r2 ti tn tc tj : Nat} {T1 T2 T3 T4 : TypeId} {o1 o2 o3 : Oper} {body : Code} (m : Nat) (G : Nat → Fr) (Hs : Nat → Hp) (C : Nat → Prop)
    (h1 : o1.op = .binOp .lss T1 (.tmp ti) (.tmp tn) T2) (d1 : o1.dst = some tc) (g1 : o1.guard = none)
    (h2 : o2.op = .binOp .add T3 (.tmp ti) (.const (.int .i64 1)) T4) (d2 : o2.dst = some tj) (g2 : o2.guard = none)
    (h3 : o3.op = .move (.tmp tj)) (d3 : o3.dst = some ti) (g3 : o3.guard = none)
    (hn : (Nat.blt tc n && Nat.blt tj n && Nat.blt ti n && !Nat.beq tc ti && !Nat.beq tc tn && !Nat.beq ti tn && !Nat.beq tj ti && !Nat.beq tj tn && !Nat.beq B' B) = true) (hm : m ≤ 9223372036854775807)
    (c0 : C 0) (h0 : To N ((ti, .int .i64 (0 : Nat)) :: (tn, .int .i64 (m : Int)) :: G 0) (Hs 0) F H)
    (hfree : ∀ i, (G i).get tj = none)
    (round : ∀ i, i < m → C i → W P n N body (rangeQ B B' N ti tn m G Hs C i Q) ((tc, .bool true) :: (ti, .int .i64 (i : Int)) :: (tn, .int .i64 (m : Int)) :: G i) (Hs i))
    (done : C m → Q .normal ((tc, .bool false) :: (ti, .int .i64 (m : Int)) :: (tn, .int .i64 (m : Int)) :: G m) (Hs m)) :
    W P n N (.block B (.loop (.seq (.region r1 #[o1] false) (.seq (.cond (.tmp tc) .skip (.exit B)) (.seq (.block B' body) (.region r2 #[o2, o3] false)))))) Q F H := by
  simp only [Bool.and_eq_true, Bool.not_eq_true'] at hn
  obtain ⟨⟨⟨⟨⟨⟨⟨⟨n1, n2⟩, n3⟩, n4⟩, n5⟩, n6⟩, n7⟩, n8⟩, n9⟩ := hn
  have w1 : ∀ F, wantedB [o1] F o1 = some true := fun F => by simp [wantedB, g1]
  have w2 : ∀ F, wantedB [o2, o3] F o2 = some true := fun F => by simp [wantedB, g2]
  have w3 : ∀ F, wantedB [o2, o3] F o3 = some true := fun F => by simp [wantedB, g3]
  refine .block (.loopT (fun i => i ≤ m ∧ C i) (fun i => m - i) (fun i => (ti, .int .i64 (i : Int)) :: (tn, .int .i64 (m : Int)) :: G i) Hs 0 ⟨Nat.zero_le _, c0⟩ h0 ?_)
  rintro i ⟨him, hC⟩
  have ev1 : vop P ((ti, .int .i64 (i : Int)) :: (tn, .int .i64 (m : Int)) :: G i) o1.op = some (True, .bool (decide ((i : Int) < m))) := by
    rw [h1]
    simp only [vop, Fr.eval, Fr.get, Nat.beq_refl, cond_true, n6, cond_false]
    rfl
  refine .sreg (.p (w1 _) (by simp [dstB, d1, n1]) ev1 trivial (.nil ?_ rfl))
  rw [d1]
  show W P n N _ _ ((tc, .bool (decide ((i : Int) < m))) :: (ti, .int .i64 (i : Int)) :: (tn, .int .i64 (m : Int)) :: G i) (Hs i)
  have hc : Fr.eval ((tc, .bool (decide ((i : Int) < m))) :: (ti, .int .i64 (i : Int)) :: (tn, .int .i64 (m : Int)) :: G i) (.tmp tc) = some (.bool (decide ((i : Int) < m))) := by
    simp only [Fr.eval, Fr.get, Nat.beq_refl, cond_true]
  refine .seq (.cond_dec hc (fun hlt => .skip ?_) (fun hge => .exit ?_))
  · have hlt' : i < m := by omega
    rw [decide_eq_true hlt]
    refine .seq (.block ((round i hlt' hC).mono fun e F' H' hq => ?_))
    have next : C (i + 1) ∧ To N ((ti, .int .i64 (i : Int)) :: (tn, .int .i64 (m : Int)) :: G (i + 1)) (Hs (i + 1)) F' H' →
        W P n N (.region r2 #[o2, o3] false) (loopQ (fun i => m - i) i (fun a F H => (a ≤ m ∧ C a) ∧ To N ((ti, .int .i64 (a : Int)) :: (tn, .int .i64 (m : Int)) :: G a) (Hs a) F H) (blockQ B Q)) F' H' := by
      rintro ⟨hC', hto⟩
      refine .to hto ?_
      have e2 : vop P ((ti, .int .i64 (i : Int)) :: (tn, .int .i64 (m : Int)) :: G (i + 1)) o2.op = some (True, .int .i64 (IntKind.i64.wrap (i + 1))) := by
        rw [h2]
        simp only [vop, Fr.eval, Fr.get, Nat.beq_refl, cond_true, ofVal, ofScalar]
        rfl
      refine .reg (.pe (.int .i64 ((i + 1 : Nat) : Int)) (w2 _) (by simp [dstB, d2, n2]) e2 trivial (by rw [wrap64 (by omega) (by omega)]; rfl) ?_)
      rw [d2]
      have e3 : vop P ((tj, .int .i64 ((i + 1 : Nat) : Int)) :: (ti, .int .i64 (i : Int)) :: (tn, .int .i64 (m : Int)) :: G (i + 1)) o3.op = some (True, .int .i64 ((i + 1 : Nat) : Int)) := by
        rw [h3]
        simp only [vop, Fr.eval, Fr.get, Nat.beq_refl, cond_true]
      refine .p (w3 _) (by simp [dstB, d3, n3]) e3 trivial (.nil ?_ rfl)
      rw [d3]
      refine ⟨i + 1, (by show m - (i + 1) < m - i; omega), ⟨by omega, hC'⟩, .same (fun t d' hd => ⟨d', ?_, .refl _⟩) rfl⟩
      simp only [putF, Fr.get] at hd ⊢
      cases hb : Nat.beq ti t with
      | true => rw [hb] at hd; exact hd
      | false =>
        rw [hb] at hd
        simp only [cond_false] at hd ⊢
        cases hb2 : Nat.beq tn t with
        | true =>
          obtain rfl := Nat.eq_of_beq_eq_true hb2
          simp only [n8, Nat.beq_refl, cond_false, cond_true] at hd ⊢
          exact hd
        | false =>
          rw [hb2] at hd
          simp only [cond_false] at hd ⊢
          cases hb3 : Nat.beq tj t with
          | true =>
            obtain rfl := Nat.eq_of_beq_eq_true hb3
            rw [hfree] at hd
            cases hd
          | false => exact hd
    cases e with
    | normal => exact next hq
    | ret => exact hq
    | exit j =>
      simp only [rangeQ] at hq
      show blockQ B' _ (.exit j) F' H'
      simp only [blockQ]
      cases hb : Nat.beq j B' with
      | true => rw [hb] at hq; exact next hq
      | false =>
        rw [hb] at hq
        simp only [cond_false] at hq ⊢
        simp only [thenQ, loopQ, blockQ]
        exact hq
  · have : i = m := by omega
    subst this
    rw [decide_eq_false hge]
    show blockQ B Q (.exit B) _ _
    simp only [blockQ, Nat.beq_refl, cond_true]
    exact done hC

end Go.V
