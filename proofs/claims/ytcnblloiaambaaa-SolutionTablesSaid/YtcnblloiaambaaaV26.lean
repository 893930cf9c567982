/- The logic V, part 26: the rules for operations on live memory. -/
import Derived.Test.YtcnblloiaambaaaV25
namespace Go.V

theorem pushR_spec : ∀ {H : Hp} {x : Blk} {H' : Hp}, H.pushR x = some H' → H' = H ++ [some x]
  | [], x, H', h => by simpa [Hp.pushR] using h.symm
  | y :: r, x, H', h => by
    simp only [Hp.pushR] at h
    split at h
    · rename_i r' hr
      cases h
      rw [pushR_spec hr]; rfl
    · cases h

theorem setR_spec : ∀ {H : Hp} {b : Nat} {x : Option Blk} {H' : Hp}, H.setR b x = some H' → b < H.length ∧ H' = H.set b x
  | [], _, _, _, h => by simp [Hp.setR] at h
  | y :: r, 0, x, H', h => by
    simp only [Hp.setR, Option.some.injEq] at h
    subst h
    exact ⟨by simp, rfl⟩
  | y :: r, b + 1, x, H', h => by
    simp only [Hp.setR] at h
    split at h
    · rename_i r' hr
      cases h
      obtain ⟨h1, h2⟩ := setR_spec hr
      exact ⟨by simpa using h1, by rw [h2]; rfl⟩
    · cases h

section
variable {b : Bool} {P : Program} {n N : Nat} {all : Array Oper} {r : List Oper} {F : Fr} {H H' : Hp} {L : List Ent} {K : Fr → Hp → Prop} {o : Oper} {t : Nat} {Q : Post}

theorem RK.push (l : Nat) {d : D} {rd : List Nat} {x : Blk} (hl : H.length = l) (hw : wantedB all.toList F o = some true) (hd : dstB n o = true) (h : HStep P F H H.length o d rd [(H.length, some x)]) (hp : H.pushR x = some H')
    (k : RK b P n N all r (putF F o.dst d) H' (⟨d, rd, [(l, some x)], none⟩ :: L) K) : RK b P n N all (o :: r) F H L K := by
  subst hl
  refine .step hw hd h ?_
  have : applyW H [(H.length, some x)] = H' := by
    rw [pushR_spec hp]
    simp [applyW, putAt]
  rw [this]
  exact k

theorem RK.setB {d : D} {rd : List Nat} {bb : Nat} {x : Blk} (hw : wantedB all.toList F o = some true) (hd : dstB n o = true) (h : HStep P F H H.length o d rd [(bb, some x)]) (hp : H.setR bb (some x) = some H')
    (k : RK b P n N all r (putF F o.dst d) H' (⟨d, rd, [(bb, some x)], none⟩ :: L) K) : RK b P n N all (o :: r) F H L K := by
  refine .step hw hd h ?_
  obtain ⟨h1, h2⟩ := setR_spec hp
  have : applyW H [(bb, some x)] = H' := by
    rw [h2]
    simp [applyW, putAt, h1]
  rw [this]
  exact k

theorem RK.alloc (l : Nat) {t : TypeId} {z : D} (hl : H.length = l) (hw : wantedB all.toList F o = some true) (hd : dstB n o = true) (ho : o.op = .alloc t) (hz : zeroD P t = some z) (hn : z.notTup = true) (hp : H.pushR (.cells z.cells) = some H')
    (k : RK b P n N all r (putF F o.dst (.ptr l 0)) H' (⟨.ptr l 0, [], [(l, some (.cells z.cells))], none⟩ :: L) K) : RK b P n N all (o :: r) F H L K := by
  subst hl
  exact .push _ rfl hw hd (.alloc ho hz hn) hp k

theorem RK.box (l : Nat) {t : TypeId} {x : Operand} {d : D} (hl : H.length = l) (hw : wantedB all.toList F o = some true) (hd : dstB n o = true) (ho : o.op = .box t x) (hx : F.eval x = some d) (hn : d.notTup = true) (hp : H.pushR (.cells d.cells) = some H')
    (k : RK b P n N all r (putF F o.dst (.ptr l 0)) H' (⟨.ptr l 0, [], [(l, some (.cells d.cells))], none⟩ :: L) K) : RK b P n N all (o :: r) F H L K := by
  subst hl
  exact .push _ rfl hw hd (.box ho hx hn) hp k

theorem RK.store {t : TypeId} {x y : Operand} {bb off : Nat} {cs rs : List D} {d : D} (hw : wantedB all.toList F o = some true) (hd : dstB n o = true) (ho : o.op = .store t x y) (hx : F.eval x = some (.ptr bb off)) (hy : F.eval y = some d) (hs : tySize P t = some d.cells.length) (hn : d.notTup = true)
    (hb : H[bb]? = some (some (.cells cs))) (hr : overR cs off d.cells = some rs) (hp : H.setR bb (some (.cells rs)) = some H')
    (k : RK b P n N all r (putF F o.dst (.tup [])) H' (⟨.tup [], [bb], [(bb, some (.cells rs))], none⟩ :: L) K) : RK b P n N all (o :: r) F H L K :=
  .setB hw hd (.store ho hx hy hs hn hb hr) hp k

/-- A cell of live memory is read. -/
theorem RK.ldl {t : TypeId} {x : Operand} {u : TypeDesc} {bb off : Nat} {cs : List D} {d : D} (hw : wantedB all.toList F o = some true) (hd : dstB n o = true) (ho : o.op = .load t x) (hx : F.eval x = some (.ptr bb off)) (hu : P.underlying t = some u) (ha : isAggB u = false) (hs : (tySize P t).isSome = true)
    (hb : H[bb]? = some (some (.cells cs))) (hc : cs[off]? = some d) (k : RK b P n N all r (putF F o.dst d) H (⟨d, [bb], [], none⟩ :: L) K) : RK b P n N all (o :: r) F H L K :=
  .step hw hd (.load ho hx hu ha hs hb hc) k

theorem RK.ldla {t : TypeId} {x : Operand} {u : TypeDesc} {s bb off : Nat} {cs rs : List D} (hw : wantedB all.toList F o = some true) (hd : dstB n o = true) (ho : o.op = .load t x) (hx : F.eval x = some (.ptr bb off)) (hu : P.underlying t = some u) (ha : isAggB u = true) (hs : tySize P t = some s)
    (hb : H[bb]? = some (some (.cells cs))) (hc : takeR cs off s = some rs) (k : RK b P n N all r (putF F o.dst (.agg rs)) H (⟨.agg rs, [bb], [], none⟩ :: L) K) : RK b P n N all (o :: r) F H L K :=
  .step hw hd (.loadA ho hx hu ha hs hb hc) k

/-- An element's address in a live slice. -/
theorem RK.ixl (j of : Nat) {ty e : TypeId} {x i : Operand} {bb off len c sz s : Nat} {kk : IntKind} {m : Int} (hw : wantedB all.toList F o = some true) (hd : dstB n o = true) (ho : o.op = .indexAddr ty x i) (hu : P.underlying ty = some (.slice e)) (hs : tySize P e = some s) (hx : F.eval x = some (.live bb off len c sz)) (hi : F.eval i = some (.int kk m))
    (hj : m = (j : Int)) (hlt : j < len) (he : off + j * s = of) (k : RK b P n N all r (putF F o.dst (.ptr bb of)) H (⟨.ptr bb of, [], [], none⟩ :: L) K) : RK b P n N all (o :: r) F H L K := by
  subst hj; subst he
  refine .step hw hd (.pure (pre := 0 ≤ (j : Int) ∧ (j : Int) < len) ?_ ⟨by omega, by omega⟩) k
  rw [ho]
  simp only [vop, hu, hx, hi, hs, Int.toNat_natCast]

/-- A piece of a fixed row. -/
theorem RK.sl (s l h : Nat) {d : D} {ty e : TypeId} {x : Operand} {lo hi : Option Operand} {cs : List D} {len : Nat} {tt : Bool} {li hh : Int} (hw : wantedB all.toList F o = some true) (hd : dstB n o = true) (ho : o.op = .slice ty x lo hi none) (hu : P.underlying ty = some (.slice e)) (hs : tySize P e = some s) (hx : F.eval x = some (.snap cs len tt))
    (hlo : bound F lo 0 = some li) (hhi : bound F hi len = some hh) (el : li = (l : Int)) (eh : hh = (h : Int)) (hlh : l ≤ h) (hle : h ≤ len) (he : D.snap ((cs.drop (l * s)).take ((h - l) * s)) (h - l) (tt && decide (h = len)) = d)
    (k : RK b P n N all r (putF F o.dst d) H (⟨d, [], [], none⟩ :: L) K) : RK b P n N all (o :: r) F H L K := by
  subst el; subst eh; subst he
  refine .step hw hd (.pure (pre := 0 ≤ (l : Int) ∧ (l : Int) ≤ h ∧ (h : Int) ≤ len) ?_ ⟨by omega, by omega, by omega⟩) k
  rw [ho]
  simp only [vop, hu, hx, hs, hlo, lenD, hhi, sliceD2, Int.toNat_natCast, Int.natCast_inj]

/-- A piece of a live row. -/
theorem RK.sll (s l h : Nat) {ty e : TypeId} {x : Operand} {lo hi : Option Operand} {bb off len c : Nat} {li hh : Int} (hw : wantedB all.toList F o = some true) (hd : dstB n o = true) (ho : o.op = .slice ty x lo hi none) (hu : P.underlying ty = some (.slice e)) (hs : tySize P e = some s) (hx : F.eval x = some (.live bb off len c s))
    (hlo : bound F lo 0 = some li) (hhi : bound F hi len = some hh) (el : li = (l : Int)) (eh : hh = (h : Int)) (hlh : l ≤ h) (hle : h ≤ c)
    (k : RK b P n N all r (putF F o.dst (.live bb (off + l * s) (h - l) (c - l) s)) H (⟨.live bb (off + l * s) (h - l) (c - l) s, [], [], none⟩ :: L) K) : RK b P n N all (o :: r) F H L K := by
  subst el; subst eh
  refine .step hw hd (.pure (pre := 0 ≤ (l : Int) ∧ (l : Int) ≤ h ∧ (h : Int) ≤ c) ?_ ⟨by omega, by omega, by omega⟩) k
  rw [ho]
  simp only [vop, hu, hx, hs, hlo, lenD, hhi, sliceD2, Nat.beq_refl, cond_true, Int.toNat_natCast]

theorem RK.make (l m s by_ : Nat) (cs : List D) {t e : TypeId} {x c : Operand} {k1 k2 : IntKind} {i : Int} {z : D} (hl : H.length = l) (hw : wantedB all.toList F o = some true) (hd : dstB n o = true) (ho : o.op = .makeSlice t x c) (ht : elemOfSlice P t = some (e, s, by_)) (hx : F.eval x = some (.int k1 i)) (hc : F.eval c = some (.int k2 i)) (hz : zeroD P e = some z)
      (hzl : z.cells.length = s) (hzn : z.notTup = true) (hs : 1 ≤ s) (hi : i = m) (hb : (m : Int) * by_ ≤ 281474976710656) (h63 : m ≤ 9223372036854775807) (hcs : repR m z.cells = cs) (hp : H.pushR (.cells cs) = some H')
      (k : RK b P n N all r (putF F o.dst (.live l 0 m m s)) H' (⟨.live l 0 m m s, [], [(l, some (.cells cs))], none⟩ :: L) K) : RK b P n N all (o :: r) F H L K := by
  subst hl; subst hi; subst hcs
  have h := HStep.make (P := P) (F := F) (H := H) (nx := H.length) ho ht hx hc hz hzl hzn hs (by omega) hb (by omega)
  rw [Int.toNat_natCast] at h
  exact .push _ rfl hw hd h hp k

theorem rep_ints (k : IntKind) (v : Int) : ∀ n, repR n [D.int k v] = (List.replicate n v).map (.int k)
  | 0 => rfl
  | n + 1 => by rw [List.replicate_succ, List.map_cons, ← rep_ints k v n]; rfl

theorem To.heap {N : Nat} {F' : Fr} (h : FrWk F' F) (hH : H' = H) : To N F' H' F H := .same (FrWk.get h) hH

/-- An append to a nil or to a tight fixed row. -/
theorem RK.appNew (l s by_ ln : Nat) (cs' : List D) {t e : TypeId} {x y : Operand} {m len : Nat} {d d0 : D} {z : D} {cs cs0 : List D} {rd : List Nat} (hl : H.length = l) (hw : wantedB all.toList F o = some true) (hd : dstB n o = true) (ho : o.op = .call { callee := .builtin .append, args := #[x, y], argTypes := #[t, t] }) (ht : elemOfSlice P t = some (e, s, by_)) (hz : zeroD P e = some z) (hzl : z.cells.length = s)
      (hx : F.eval x = some d0) (hy : F.eval y = some d) (hd0 : (d0 = .snil ∧ len = 0 ∧ cs0 = []) ∨ (d0 = .snap cs0 len true ∧ cs0.length = len * s)) (hsrc : Src H s d m cs rd) (hm : 0 < m) (hln : len + m = ln) (hb : ln * by_ ≤ 140737488355328) (h63 : ln ≤ 9223372036854775807) (hcs : cs0 ++ cs = cs') (hp : H.pushR (.cells cs') = some H')
      (k : RK b P n N all r (putF F o.dst (.live l 0 ln ln s)) H' (⟨.live l 0 ln ln s, rd, [(l, some (.cells cs'))], none⟩ :: L) K) : RK b P n N all (o :: r) F H L K := by
  subst hl; subst hln; subst hcs
  exact .push _ rfl hw hd (.appendNew ho ht hz hzl hx hd0 hy hsrc hm h63 hb) hp k

/-- An append of nothing. -/
theorem RK.app0 {t e : TypeId} {x y : Operand} {s by_ : Nat} {d d0 : D} {cs : List D} {rd : List Nat} (hw : wantedB all.toList F o = some true) (hd : dstB n o = true) (ho : o.op = .call { callee := .builtin .append, args := #[x, y], argTypes := #[t, t] }) (ht : elemOfSlice P t = some (e, s, by_))
      (hx : F.eval x = some d0) (hy : F.eval y = some d) (hd0 : d0 = .snil ∨ ∃ c l t, d0 = .snap c l t) (hsrc : Src H s d 0 cs rd)
      (k : RK b P n N all r (putF F o.dst d0) H (⟨d0, rd, [], none⟩ :: L) K) : RK b P n N all (o :: r) F H L K :=
  .step hw hd (.appendSame ho ht hx hd0 hy hsrc) k

/-- An append to a live row: the old one is let go. -/
theorem RK.app (l s by_ ln : Nat) (cs' : List D) {t e : TypeId} {x y : Operand} {m len bb off c : Nat} {d : D} {z : D} {cs cs0 : List D} {rd : List Nat} {H1 : Hp} (hl : H.length = l) (hw : wantedB all.toList F o = some true) (hd : dstB n o = true) (ho : o.op = .call { callee := .builtin .append, args := #[x, y], argTypes := #[t, t] }) (ht : elemOfSlice P t = some (e, s, by_)) (hz : zeroD P e = some z) (hzl : z.cells.length = s)
      (hx : F.eval x = some (.live bb off len c s)) (hy : F.eval y = some d) (hb : H[bb]? = some (some (.cells cs0))) (hle : off + len * s ≤ cs0.length) (hsrc : Src H s d m cs rd) (hln : len + m = ln) (hby : ln * by_ ≤ 140737488355328) (h63 : ln ≤ 9223372036854775807)
      (hcs : (cs0.drop off).take (len * s) ++ cs = cs') (hp1 : H.setR bb none = some H1) (hp : H1.pushR (.cells cs') = some H')
      (k : RK b P n N all r (putF F o.dst (.live l 0 ln ln s)) H' (⟨.live l 0 ln ln s, bb :: rd, [(bb, none), (l, some (.cells cs'))], none⟩ :: L) K) : RK b P n N all (o :: r) F H L K := by
  subst hl; subst hln; subst hcs
  refine .step hw hd (.appendMv ho ht hz hzl hx hb hle hy hsrc h63 hby) ?_
  obtain ⟨h1, h2⟩ := setR_spec hp1
  have : applyW H [(bb, none), (H.length, some (.cells ((cs0.drop off).take (len * s) ++ cs)))] = H' := by
    rw [pushR_spec hp, h2]
    simp [applyW, putAt]
  rw [this]
  exact k

/-- An append to a live row within what it may fill. -/
theorem RK.appIn {t e : TypeId} {x y : Operand} {s by_ m len bb off c : Nat} {d : D} {cs cs0 rs : List D} {rd : List Nat} (hw : wantedB all.toList F o = some true) (hd : dstB n o = true) (ho : o.op = .call { callee := .builtin .append, args := #[x, y], argTypes := #[t, t] }) (ht : elemOfSlice P t = some (e, s, by_))
      (hx : F.eval x = some (.live bb off len c s)) (hy : F.eval y = some d) (hb : H[bb]? = some (some (.cells cs0))) (hsrc : Src H s d m cs rd) (hc : len + m ≤ c) (hr : overR cs0 (off + len * s) cs = some rs) (hp : H.setR bb (some (.cells rs)) = some H')
      (k : RK b P n N all r (putF F o.dst (.live bb off (len + m) c s)) H' (⟨.live bb off (len + m) c s, bb :: rd, [(bb, some (.cells rs))], none⟩ :: L) K) : RK b P n N all (o :: r) F H L K :=
  .setB hw hd (.appendIn ho ht hx hb hy hsrc hc hr) hp k

theorem RK.clear {t e : TypeId} {x : Operand} {s by_ len bb off c : Nat} {z : D} {cs0 rs : List D} (hw : wantedB all.toList F o = some true) (hd : dstB n o = true) (ho : o.op = .call { callee := .builtin .clear, args := #[x], argTypes := #[t] }) (ht : elemOfSlice P t = some (e, s, by_)) (hz : zeroD P e = some z) (hzl : z.cells.length = s) (hzn : z.notTup = true) (hs1 : 1 ≤ s)
      (hx : F.eval x = some (.live bb off len c s)) (hb : H[bb]? = some (some (.cells cs0))) (hr : overR cs0 off (repR len z.cells) = some rs) (hp : H.setR bb (some (.cells rs)) = some H')
      (k : RK b P n N all r (putF F o.dst (.tup [])) H' (⟨.tup [], [bb], [(bb, some (.cells rs))], none⟩ :: L) K) : RK b P n N all (o :: r) F H L K :=
  .setB hw hd (.clear ho ht hz hzl hzn hs1 hx hb hr) hp k

theorem RK.copy {t t' e : TypeId} {x y : Operand} {s by_ n1 m len bb off c : Nat} {d : D} {cs cs0 rs : List D} {rd : List Nat} (hw : wantedB all.toList F o = some true) (hd : dstB n o = true) (ho : o.op = .call { callee := .builtin .copy, args := #[x, y], argTypes := #[t, t'] }) (ht : elemOfSlice P t = some (e, s, by_))
      (hx : F.eval x = some (.live bb off len c s)) (hy : F.eval y = some d) (hb : H[bb]? = some (some (.cells cs0))) (hsrc : Src H s d n1 cs rd) (hm : m = min n1 len) (hr : overR cs0 off (cs.take (m * s)) = some rs) (hp : H.setR bb (some (.cells rs)) = some H')
      (k : RK b P n N all r (putF F o.dst (.int .i64 m)) H' (⟨.int .i64 m, bb :: rd, [(bb, some (.cells rs))], none⟩ :: L) K) : RK b P n N all (o :: r) F H L K :=
  .setB hw hd (.copy ho ht hx hb hy hsrc hm hr) hp k

/-- Each of the frame's values is without live memory: the heap may be forgotten. -/
def FrPure : Fr → Fr → Prop
  | [], _ => True
  | (t, d) :: F', F => (F.get t = some d ∧ Pure d) ∧ FrPure F' F

theorem FrPure.ren {σ Z : List Nat} : ∀ {F' F : Fr}, FrPure F' F → FrRen σ Z H F' F
  | [], _, _ => trivial
  | (_, _) :: _, _, h => ⟨⟨_, h.1.1, .wk h.1.2 (.refl _)⟩, FrPure.ren h.2⟩

theorem To.pure {F' : Fr} (h : FrPure F' F) : To 0 F' [] F H :=
  .ren [] [] (Nat.le_refl _) (fun b hb => absurd hb (Nat.not_lt_zero b)) .nil h.ren trivial

theorem Ren.bel {m : Nat} {Z : List Nat} {d : D} (h : Bel m d) : Ren (List.range m) Z H d d := by
  have pt : ∀ b, b < m → (List.range m)[b]? = some b := fun b hb => by simp [hb]
  have same : ∀ {cs : List D}, (∀ d ∈ cs, Ren (List.range m) Z H d d) → ∀ (i : Nat) (x y : D), cs[i]? = some x → cs[i]? = some y → Ren (List.range m) Z H x y := fun h i x y hx hy => by
    rw [hx] at hy; cases hy; exact h x (List.mem_of_getElem? hx)
  induction h with
  | bool b => exact .wk (.bool _) (.refl _)
  | int k n => exact .wk (.int _ _) (.refl _)
  | str s => exact .wk (.str _) (.refl _)
  | pnil => exact .wk .pnil (.refl _)
  | ptr h => exact .ptr (pt _ h)
  | sptr h ih => exact .sptr (Nat.le_refl _) (same ih)
  | snil => exact .wk .snil (.refl _)
  | snap h ih => exact .snap (Nat.le_refl _) (fun h => h) (same ih)
  | live h => exact .live (pt _ h)
  | fn h ih => exact .fn rfl (same ih)
  | yield h => exact .yield (pt _ h)
  | fnil => exact .wk .fnil (.refl _)
  | iface h ih => exact .iface ih
  | inil => exact .wk .inil (.refl _)
  | agg h ih => exact .agg rfl (same ih)
  | tup h ih => exact .tup rfl (same ih)

/-- Each of the frame's values leads to the first m blocks only. -/
def FrBel (m : Nat) : Fr → Fr → Prop
  | [], _ => True
  | (t, d) :: F', F => (F.get t = some d ∧ Bel m d) ∧ FrBel m F' F

theorem FrBel.ren {m : Nat} {Z : List Nat} : ∀ {F' F : Fr}, FrBel m F' F → FrRen (List.range m) Z H F' F
  | [], _, _ => trivial
  | (_, _) :: _, _, h => ⟨⟨_, h.1.1, .bel h.1.2⟩, FrBel.ren h.2⟩

theorem HpRen.trunc {G : Hp} {m : Nat} : ∀ {A B : Hp}, m = (A ++ B).length → belHp m B → (∀ (b : Nat) (r : Loop) (F : Fr), B[b]? ≠ some (some (.loop r F))) → HpRen (List.range m) [] (A ++ B ++ G) (List.range' A.length B.length) B
  | A, [], _, _, _ => trivial
  | A, none :: B, hm, hb, hl => by
    have := HpRen.trunc (G := G) (A := A ++ [none]) (B := B) (by simpa using hm) hb (fun b r F h => hl (b + 1) r F (by simpa using h))
    simp only [List.append_assoc, List.singleton_append, List.length_append, List.length_cons, List.length_nil] at this
    simpa [List.range'_succ, HpRen] using this
  | A, some (.loop r F) :: B, hm, hb, hl => absurd rfl (hl 0 r F)
  | A, some (.cells cs) :: B, hm, hb, hl => by
    have := HpRen.trunc (G := G) (A := A ++ [some (.cells cs)]) (B := B) (by simpa using hm) hb.2 (fun b r F h => hl (b + 1) r F (by simpa using h))
    simp only [List.append_assoc, List.singleton_append, List.length_append, List.length_cons, List.length_nil] at this
    simp only [List.length_cons, List.range'_succ, HpRen]
    refine ⟨⟨by simp, .cells cs, by simp, ⟨Nat.le_refl _, fun i x y hx hy => ?_⟩⟩, by simpa using this⟩
    rw [hx] at hy; cases hy
    exact .bel (hb.1 x (List.mem_of_getElem? hx))

/-- Blocks at the heap's end are let go. -/
theorem To.trunc {N : Nat} {F' : Fr} (G : Hp) (he : H = H' ++ G) (hN : N ≤ H'.length) (hl : noLoopB H' = true) (hF : FrBel H'.length F' F) (hH : belHp H'.length H') : To N F' H' F H := by
  subst he
  refine .ren (List.range H'.length) [] hN (fun b hb => by rw [List.getElem?_range]; omega) List.nodup_range hF.ren ?_
  have := HpRen.trunc (G := G) (m := H'.length) (A := []) (B := H') rfl hH (noLoopB_spec hl)
  rw [List.nil_append] at this
  rw [List.range_eq_range'] at this ⊢
  exact this

def BelL (m : Nat) : List D → Prop
  | [] => True
  | d :: r => Bel m d ∧ BelL m r

theorem BelL.mem {m : Nat} : ∀ {ds : List D}, BelL m ds → ∀ d ∈ ds, Bel m d
  | [], _, _, h => by cases h
  | x :: r, hp, d, h => by
    rcases List.mem_cons.1 h with rfl | h
    · exact hp.1
    · exact BelL.mem hp.2 d h

theorem BelL.of {m : Nat} {ds : List D} (h : ∀ d ∈ ds, Pure d) : BelL m ds := by
  induction ds with
  | nil => trivial
  | cons x r ih => exact ⟨(h x (by simp)).bel, ih (fun d hd => h d (by simp [hd]))⟩

theorem BelL.map {m : Nat} {α : Type} {f : α → D} {xs : List α} (h : ∀ x, Pure (f x)) : BelL m (xs.map f) := .of (by
  intro d hd
  obtain ⟨x, _, rfl⟩ := List.mem_map.1 hd
  exact h x)

theorem overR_of : ∀ (cs : List D) (off : Nat) (xs : List D), off + xs.length ≤ cs.length → overR cs off xs = some (cs.take off ++ xs ++ cs.drop (off + xs.length))
  | cs, 0, [], _ => by simp [overR]
  | [], 0, x :: xs, h => by simp at h
  | c :: cs, 0, x :: xs, h => by
    have := overR_of cs 0 xs (by simpa using h)
    simp only [overR, this]
    simp
  | [], off + 1, xs, h => by simp at h
  | c :: cs, off + 1, xs, h => by
    have := overR_of cs off xs (by simp at h; omega)
    simp only [overR, this]
    simp [Nat.add_right_comm]

theorem over1 {α : Type} {f : α → D} {xs : List α} {off : Nat} {v : α} {d : D} (hd : d = f v) (h : off < xs.length) : overR (xs.map f) off [d] = some ((xs.set off v).map f) := by
  subst hd
  rw [overR_of _ _ _ (by simp; omega)]
  congr 1
  rw [List.set_eq_take_append_cons_drop, if_pos h]
  simp

theorem frz_map {α : Type} {f : α → D} {H : Hp} {b c : Nat} {xs : List α} (hb : H[b]? = some (some (.cells (xs.map f)))) (hp : ∀ x ∈ xs, Pure (f x)) {n : Nat} (hn : n = xs.length) : Frz H (.live b 0 n c 1) (.snap (xs.map f) xs.length false) := by
  subst hn
  refine .live hb (by simp) (by simp) fun i x y hx hy => ?_
  rw [Nat.zero_add, hy] at hx
  cases hx
  obtain ⟨z, hz, rfl⟩ := List.mem_map.1 (List.mem_of_getElem? hy)
  exact .pure (hp z hz) (.refl _)

theorem frz_encI {k : IntKind} {H : Hp} {b c n : Nat} {xs : List Int} (hb : H[b]? = some (some (.cells (xs.map (.int k))))) (hn : n = xs.length) : Frz H (.live b 0 n c 1) (encI k xs) :=
  frz_map hb (fun _ _ => .int _ _) hn

/-- The state between two pieces of code. -/
def midQ (N : Nat) (G : Fr) (H1 : Hp) : Post := fun e F H => match e with
  | .normal => To N G H1 F H
  | _ => False

theorem W.mid {x y : Code} (G : Fr) (H1 : Hp) (h : W P n N x (midQ N G H1) F H) (k : W P n N y Q G H1) : W P n N (.seq x y) Q F H :=
  .seq (h.mono fun e F' H' hq => by
    cases e with
    | normal => exact .to hq k
    | exit i => exact hq.elim
    | ret => exact hq.elim)

/-- The same, with something that is known there. -/
def midPQ (N : Nat) (p : Prop) (G : Fr) (H1 : Hp) (Q : Post) : Post := fun e F H => match e with
  | .normal => p ∧ To N G H1 F H
  | e => Q e F H

theorem W.midP {x y : Code} (p : Prop) (G : Fr) (H1 : Hp) (h : W P n N x (midPQ N p G H1 Q) F H) (k : p → W P n N y Q G H1) : W P n N (.seq x y) Q F H :=
  .seq (h.mono fun e F' H' hq => by
    cases e with
    | normal => exact .to hq.2 (k hq.1)
    | exit i => exact hq
    | ret => exact hq)

theorem pushR_eq : ∀ (H : Hp) (x : Blk), H.pushR x = some (H ++ [some x])
  | [], _ => rfl
  | y :: r, x => by simp [Hp.pushR, pushR_eq r x]

theorem setR_eq : ∀ {H : Hp} {b : Nat} (x : Option Blk), b < H.length → H.setR b x = some (H.set b x)
  | [], _, _, h => by simp at h
  | y :: r, 0, x, _ => rfl
  | y :: r, b + 1, x, h => by simp [Hp.setR, setR_eq (H := r) (b := b) x (by simpa using h)]

theorem Ren.frz {σ : List Nat} {d d' : D} (h : Frz H d d') : Ren σ (List.range H.length) H d d' := by
  have mem : ∀ {b : Nat} {x : Blk}, H[b]? = some (some x) → b ∈ List.range H.length := fun h => by
    rw [List.mem_range]; exact lt_of_getElem? h
  induction h with
  | pure hp hw => exact .wk hp hw
  | live hb hn hd h ih => exact .fixL (mem hb) hb hn hd ih
  | snap hn ht h ih => exact .snap hn ht ih
  | ptr hb hd h ih => exact .fixP (mem hb) hb hd ih
  | sptr hn h ih => exact .sptr hn ih
  | fn hn h ih => exact .fn hn ih
  | iface h ih => exact .iface ih
  | agg hn h ih => exact .agg hn ih
  | tup hn h ih => exact .tup hn ih

/-- Each of the frame's values is told without live memory. -/
def FrFrz (H : Hp) : Fr → Fr → Prop
  | [], _ => True
  | (t, d') :: F', F => (∃ d, F.get t = some d ∧ Frz H d d') ∧ FrFrz H F' F

theorem FrFrz.ren {σ : List Nat} : ∀ {F' F : Fr}, FrFrz H F' F → FrRen σ (List.range H.length) H F' F
  | [], _, _ => trivial
  | (_, _) :: _, _, h => ⟨let ⟨d, h1, h2⟩ := h.1; ⟨d, h1, .frz h2⟩, FrFrz.ren h.2⟩

/-- All live memory is fixed. -/
theorem To.frz {F' : Fr} (h : FrFrz H F' F) : To 0 F' [] F H :=
  .ren [] (List.range H.length) (Nat.le_refl _) (fun b hb => absurd hb (Nat.not_lt_zero b)) .nil h.ren trivial

theorem frz_pre {α : Type} {f : α → D} {H : Hp} {b c : Nat} {xs : List α} {rest : List D} (hb : H[b]? = some (some (.cells (xs.map f ++ rest)))) (hp : ∀ x ∈ xs, Pure (f x)) {n : Nat} (hn : n = xs.length) : Frz H (.live b 0 n c 1) (.snap (xs.map f) xs.length false) := by
  subst hn
  refine .live hb (by simp) (by simp) fun i x y hx hy => ?_
  have hi := lt_of_getElem? hy
  rw [Nat.zero_add, List.getElem?_append_left hi, hy] at hx
  cases hx
  obtain ⟨z, hz, rfl⟩ := List.mem_map.1 (List.mem_of_getElem? hy)
  exact .pure (hp z hz) (.refl _)

/-- A call of a plain function that may change the heap. -/
theorem RK.callF {f : FuncId} {args : Array Operand} {at_ : Array TypeId} {ds : List D} {R : D → Hp → Prop} (h : FnTo P f ds H R) (hw : wantedB all.toList F o = some true) (hd : dstB n o = true) (ho : o.op = .call { callee := .value (.func f), args, argTypes := at_ }) (ha : evals F args.toList = some ds)
    (k : ∀ d H', R d H' → RK false P n N all r (putF F o.dst d) H' [] K) : RK false P n N all (o :: r) F H L K :=
  .callR (fv := .fn f []) (R := R) (by show FnTo P f (ds ++ []) H R; rw [List.append_nil]; exact h) hw hd ho rfl ha k

end
end Go.V
