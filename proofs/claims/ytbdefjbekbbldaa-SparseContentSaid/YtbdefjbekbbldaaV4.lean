/- The logic V, part 38: shifts by a number of places that is not fixed. -/
import Derived.Test.YtbdefjbekbbldaaV3
set_option linter.unusedVariables false
set_option linter.unusedSimpArgs false
set_option linter.unnecessarySimpa false
namespace Go.V
section
variable {b : Bool} {P : Program} {n N : Nat} {all : Array Oper} {r : List Oper} {F : Fr} {H : Hp} {L : List Ent} {K : Fr → Hp → Prop} {o : Oper}
/-- A shift to the left that drops what goes over. -/
theorem RK.shlw (c : Int) {t t' : TypeId} {x y : Operand} {k' : IntKind} {a j : Int} (hw : wantedB all.toList F o = some true) (hd : dstB n o = true) (ho : o.op = .binOp .shl t x y t') (hx : F.eval x = some (.int .u32 a)) (hy : F.eval y = some (.int k' j)) (h0 : 0 ≤ j) (hc : (2 ^ (min j.toNat 32) : Int) = c)
    (kk : RK b P n N all r (putF F o.dst (.int .u32 (a * c % 4294967296))) H (⟨.int .u32 (a * c % 4294967296), [], [], none⟩ :: L) K) : RK b P n N all (o :: r) F H L K := by
  subst hc
  have hv : vop P F o.op = some (0 ≤ j, .int .u32 (IntKind.u32.wrap (a * 2 ^ (min j.toNat 32)))) := by
    rw [ho]
    simp only [vop, hx, hy, binD, isSh, Bool.or_true, cond_true]
    rfl
  exact .pe _ hw hd hv h0 (by rw [wrap32_mod]) kk
/-- A high part and a low part. -/
theorem RK.orp (s : Nat) {t t' : TypeId} {x y : Operand} {a c : Int} (hw : wantedB all.toList F o = some true) (hd : dstB n o = true) (ho : o.op = .binOp .or t x y t') (hx : F.eval x = some (.int .u32 a)) (hy : F.eval y = some (.int .u32 c)) (h0 : 0 ≤ a) (h1 : a < 4294967296) (hm : a % 2 ^ s = 0) (h2 : 0 ≤ c) (h3 : c < 2 ^ s) (h4 : c < 4294967296) (h5 : a + c < 4294967296)
    (k : RK b P n N all r (putF F o.dst (.int .u32 (a + c))) H (⟨.int .u32 (a + c), [], [], none⟩ :: L) K) : RK b P n N all (o :: r) F H L K := by
  have hv : vop P F o.op = some (True, .int .u32 (IntKind.u32.wrap ((BitVec.ofInt 32 a ||| BitVec.ofInt 32 c).toNat))) := by
    rw [ho]
    simp only [vop, hx, hy, binD, decide_true, Bool.true_or, cond_true]
    rfl
  refine .pe _ hw hd hv trivial ?_ k
  rw [BitVec.toNat_or, ofInt_nat h0 (by omega), ofInt_nat h2 (by omega)]
  have e : a.toNat = a.toNat / 2 ^ s * 2 ^ s := by
    have h6 : a.toNat % 2 ^ s = 0 := by
      have : ((a.toNat % 2 ^ s : Nat) : Int) = 0 := by rw [Int.natCast_emod, Int.toNat_of_nonneg h0, Int.natCast_pow]; exact hm
      omega
    have := Nat.div_add_mod a.toNat (2 ^ s)
    rw [Nat.mul_comm] at this; omega
  rw [e, or_parts (show c.toNat < 2 ^ s from by
    have h7 : ((c.toNat : Nat) : Int) < ((2 ^ s : Nat) : Int) := by rw [Int.toNat_of_nonneg h2, Int.natCast_pow]; exact h3
    exact Int.ofNat_lt.1 h7), ← e]
  rw [wrap32 (by omega) (by omega)]
  congr 1
  omega
/-- .. the low part first. -/
theorem RK.orq (s : Nat) {t t' : TypeId} {x y : Operand} {a c : Int} (hw : wantedB all.toList F o = some true) (hd : dstB n o = true) (ho : o.op = .binOp .or t x y t') (hx : F.eval x = some (.int .u32 c)) (hy : F.eval y = some (.int .u32 a)) (h2 : 0 ≤ c) (h3 : c < 2 ^ s) (h0 : 0 ≤ a) (h1 : a < 4294967296) (h5 : c + a < 4294967296) (hm : a % 2 ^ s = 0)
    (k : RK b P n N all r (putF F o.dst (.int .u32 (c + a))) H (⟨.int .u32 (c + a), [], [], none⟩ :: L) K) : RK b P n N all (o :: r) F H L K := by
  have hv : vop P F o.op = some (True, .int .u32 (IntKind.u32.wrap ((BitVec.ofInt 32 c ||| BitVec.ofInt 32 a).toNat))) := by
    rw [ho]
    simp only [vop, hx, hy, binD, decide_true, Bool.true_or, cond_true]
    rfl
  refine .pe _ hw hd hv trivial ?_ k
  rw [BitVec.toNat_or, ofInt_nat h0 (by omega), ofInt_nat h2 (by omega), Nat.or_comm]
  have e : a.toNat = a.toNat / 2 ^ s * 2 ^ s := by
    have h6 : a.toNat % 2 ^ s = 0 := by
      have : ((a.toNat % 2 ^ s : Nat) : Int) = 0 := by rw [Int.natCast_emod, Int.toNat_of_nonneg h0, Int.natCast_pow]; exact hm
      omega
    have := Nat.div_add_mod a.toNat (2 ^ s)
    rw [Nat.mul_comm] at this; omega
  rw [e, or_parts (show c.toNat < 2 ^ s from by
    have h7 : ((c.toNat : Nat) : Int) < ((2 ^ s : Nat) : Int) := by rw [Int.toNat_of_nonneg h2, Int.natCast_pow]; exact h3
    exact Int.ofNat_lt.1 h7), ← e]
  rw [wrap32 (by omega) (by omega)]
  congr 1
  omega
/-- Several ways through a region that meet. -/
theorem RK.joinR {σ : Type} {y : Code} {Q : Post} (C : σ → Prop) (G : σ → Fr) (Hs : σ → Hp) (h : RK b P n N all r F H L (fun F H => ∃ s, C s ∧ To N (G s) (Hs s) F H)) (k : ∀ s, C s → W P n N y Q (G s) (Hs s)) :
    RK b P n N all r F H L (fun F H => W P n N y Q F H) := RK.mono h fun F H ⟨s, hc, ht⟩ => W.to ht (k s hc)
end
/-- What was made last is let go. -/
theorem To.cut {Y : Hp} (T : Hp) {F' F : Fr} {N : Nat} (hN : N ≤ Y.length) (hY : ClH Y.length Y) (hF : FrRen (List.range' 0 Y.length) [] (Y ++ T) F' F) : To N F' Y F (Y ++ T) := by
  have hσ : ∀ b, b < Y.length → (List.range' 0 Y.length)[b]? = some b := fun b hb => by
    rw [List.getElem?_range' hb]; simp
  refine .ren _ [] hN (fun b hb => hσ b (by omega)) (List.nodup_range' ..) hF (.cl hσ hY (fun j hj => by simp) fun j y hy => ?_)
  rw [Nat.zero_add, List.getElem?_append_left (lt_of_getElem? hy)]; exact hy
/-- The end of a row is forgotten. -/
theorem BlkRen.pre {σ Z : List Nat} {H : Hp} {xs ys : List D} (hp : ∀ d ∈ xs, Pure d) : BlkRen σ Z H (.cells (xs ++ ys)) (.cells xs) :=
  ⟨by rw [List.length_append]; omega, fun i x y hx hy => by
    have hi := (List.getElem?_eq_some_iff.1 hy).1
    rw [List.getElem?_append_left hi, hy] at hx
    cases hx
    exact .wk (hp _ (List.mem_of_getElem? hy)) (.refl _)⟩
end Go.V
