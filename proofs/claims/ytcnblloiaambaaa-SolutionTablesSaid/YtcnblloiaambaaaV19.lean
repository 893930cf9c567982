/- The logic V, part 19: regions that draw their order: the steps, and where they may be carried out. -/
import Derived.Test.YtcnblloiaambaaaV18
namespace Go.V

structure Ent where
  d : D
  rd : List Nat
  wr : List (Nat × Option Blk)
  wild : Option Hp
  deriving Inhabited

def Ent.after (e : Ent) (H : Hp) : Hp := match e.wild with
  | some H' => H'
  | none => applyW H e.wr

def idsOf (wr : List (Nat × Option Blk)) : List Nat := wr.map (·.1)

def Ent.touches (e : Ent) : Bool := !e.rd.isEmpty || !e.wr.isEmpty || e.wild.isSome
def Ent.writes (e : Ent) : Bool := !e.wr.isEmpty || e.wild.isSome
def Ent.writesB (e : Ent) (b : Nat) : Bool := e.wild.isSome || (idsOf e.wr).contains b

def opTemps (o : Oper) : List Nat := o.op.operands.toList.filterMap fun | .tmp t => some t | _ => none
def guardTemps (all : List Oper) (o : Oper) : List Nat := match o.guard with
  | none => []
  | some (j, _) => match all[j]? with
    | some oj => match oj.dst with
      | some t => [t]
      | none => []
    | none => []

def AgF (T : List Nat) (F F' : Fr) : Prop := ∀ t ∈ T, F'.get t = F.get t
def AgH (ids : List Nat) (H H' : Hp) : Prop := ∀ b ∈ ids, ∀ x, H[b]? = some (some x) → H'[b]? = some (some x)

section
variable {P : Program} {F F' : Fr} {H H' : Hp} {o : Oper} {all : List Oper}

theorem eval_congr (h : AgF (opTemps o) F F') : ∀ x ∈ o.op.operands, F'.eval x = F.eval x := by
  intro x hx
  cases x with
  | tmp t =>
    refine h t ?_
    unfold opTemps
    rw [List.mem_filterMap]
    exact ⟨.tmp t, by simpa using hx, rfl⟩
  | _ => rfl

theorem evals_congr : ∀ (xs : List Operand), (∀ x ∈ xs, F'.eval x = F.eval x) → evals F' xs = evals F xs
  | [], _ => rfl
  | x :: r, h => by
    simp only [evals]
    rw [h x (by simp), evals_congr r (fun y hy => h y (by simp [hy]))]

theorem bound_congr {x : Option Operand} {n : Int} (h : ∀ y, x = some y → F'.eval y = F.eval y) : bound F' x n = bound F x n := by
  cases x with
  | none => rfl
  | some y => simp only [bound, h y rfl]

theorem parts_congr (parts : List (Nat × Operand)) (h : ∀ x ∈ parts.map (·.2), F'.eval x = F.eval x) : (parts.map fun (x : Nat × Operand) => (x.1, F'.eval x.2)) = parts.map fun (x : Nat × Operand) => (x.1, F.eval x.2) := by
  apply List.map_congr_left
  intro p hp
  rw [h p.2 (List.mem_map.2 ⟨p, hp, rfl⟩)]

theorem vop_congr (op : Op) (h : ∀ x ∈ op.operands, F'.eval x = F.eval x) : vop P F' op = vop P F op := by
  cases op with
  | move x | assign x => simp only [vop]; rw [h x (by simp [Op.operands])]
  | pick c a b => simp only [vop]; rw [h c (by simp [Op.operands]), h a (by simp [Op.operands]), h b (by simp [Op.operands])]
  | binOp op t x y t' => simp only [vop]; rw [h x (by simp [Op.operands]), h y (by simp [Op.operands])]
  | unOp op t x => simp only [vop]; rw [h x (by simp [Op.operands])]
  | convert s t x => simp only [vop]; rw [h x (by simp [Op.operands])]
  | build t parts =>
    have := parts_congr (F := F) (F' := F') parts.toList (fun x hx => h x (by simpa [Op.operands] using hx))
    simp only [vop]
    simp only [this]
  | buildSlice t n parts =>
    have := parts_congr (F := F) (F' := F') parts.toList (fun x hx => h x (by simpa [Op.operands] using hx))
    simp only [vop]
    simp only [this]
  | load t x => simp only [vop]; rw [h x (by simp [Op.operands])]
  | nilCheck x => simp only [vop]; rw [h x (by simp [Op.operands])]
  | makeInterface t x => simp only [vop]; rw [h x (by simp [Op.operands])]
  | makeFunc f a c =>
    cases f with
    | func f =>
      simp only [vop]
      rw [evals_congr c.toList (fun x hx => h x (by simp [Op.operands]; exact .inr (by simpa using hx)))]
    | _ => rfl
  | fieldAddr t x i => simp only [vop]; rw [h x (by simp [Op.operands])]
  | field t x i => simp only [vop]; rw [h x (by simp [Op.operands])]
  | indexAddr t x i => simp only [vop]; rw [h x (by simp [Op.operands]), h i (by simp [Op.operands])]
  | index t x i => simp only [vop]; rw [h x (by simp [Op.operands]), h i (by simp [Op.operands])]
  | extract x i => simp only [vop]; rw [h x (by simp [Op.operands])]
  | typeAssert x a b ok => simp only [vop]; rw [h x (by simp [Op.operands])]
  | slice t x lo hi mx =>
    simp only [vop]
    rw [h x (by simp [Op.operands])]
    have h1 : ∀ n, bound F' lo n = bound F lo n := fun n => bound_congr fun y hy => h y (by subst hy; simp [Op.operands])
    have h2 : ∀ n, bound F' hi n = bound F hi n := fun n => bound_congr fun y hy => h y (by subst hy; simp [Op.operands])
    simp only [h1, h2]
    cases mx with
    | none => rfl
    | some y =>
      have hy := h y (by simp [Op.operands])
      simp only [hy]
  | call c =>
    obtain ⟨callee, args, at_⟩ := c
    cases callee with
    | builtin b =>
      have ha : ∀ x ∈ args.toList, F'.eval x = F.eval x := fun x hx => h x (by simp [Op.operands, Call.operands]; simpa using hx)
      generalize hal : args.toList = al at ha
      cases b <;> try rfl
      all_goals
        simp only [vop, hal]
        generalize at_.toList = tl
        match al, ha, tl with
        | [], _, [] | [], _, [_] | [], _, [_, _] | [], _, _ :: _ :: _ :: _ => rfl
        | [x], ha, [] | [x], ha, [_] | [x], ha, [_, _] | [x], ha, _ :: _ :: _ :: _ => first | rfl | rw [ha x (by simp)] | (dsimp only; rw [ha x (by simp)])
        | [x, y], ha, [] | [x, y], ha, [_] | [x, y], ha, [_, _] | [x, y], ha, _ :: _ :: _ :: _ => first | rfl | rw [ha x (by simp), ha y (by simp)] | (dsimp only; rw [ha x (by simp), ha y (by simp)])
        | _ :: _ :: _ :: _, _, [] | _ :: _ :: _ :: _, _, [_] | _ :: _ :: _ :: _, _, [_, _] | _ :: _ :: _ :: _, _, _ :: _ :: _ :: _ => rfl
    | value f => rfl
    | invoke r m => rfl
  | _ => rfl

theorem Src.congr {s n : Nat} {d : D} {cs : List D} {rd : List Nat} (h : Src H s d n cs rd) (hh : AgH rd H H') : Src H' s d n cs rd := by
  cases h with
  | snil => exact .snil
  | snap h => exact .snap h
  | live hb h => exact .live (hh _ (by simp) _ hb) h

theorem HStep.congr {nx : Nat} {d : D} {rd : List Nat} {wr : List (Nat × Option Blk)} (h : HStep P F H nx o d rd wr) (hf : ∀ x ∈ o.op.operands, F'.eval x = F.eval x) (hh : AgH rd H H') : HStep P F' H' nx o d rd wr := by
  cases h with
  | pure h hp => exact .pure (by rw [vop_congr o.op hf]; exact h) hp
  | pickT ho hc ht h => exact .pickT ho (by rw [hf _ (by rw [ho]; simp [Op.operands])]; exact hc) ht (by rw [hf _ (by rw [ho]; simp [Op.operands])]; exact h)
  | pickF ho hc ht h => exact .pickF ho (by rw [hf _ (by rw [ho]; simp [Op.operands])]; exact hc) ht (by rw [hf _ (by rw [ho]; simp [Op.operands])]; exact h)
  | loadS ho hx hu ha hd => exact .loadS ho (by rw [hf _ (by rw [ho]; simp [Op.operands])]; exact hx) hu ha hd
  | loadSA ho hx hu ha hs hd => exact .loadSA ho (by rw [hf _ (by rw [ho]; simp [Op.operands])]; exact hx) hu ha hs hd
  | alloc ho hz hn => exact .alloc ho hz hn
  | box ho hx hn => exact .box ho (by rw [hf _ (by rw [ho]; simp [Op.operands])]; exact hx) hn
  | make ho ht hl hc hz hzl hzn hs h0 hb h63 => exact .make ho ht (by rw [hf _ (by rw [ho]; simp [Op.operands])]; exact hl) (by rw [hf _ (by rw [ho]; simp [Op.operands])]; exact hc) hz hzl hzn hs h0 hb h63
  | load ho hx hu ha hs hb hd => exact .load ho (by rw [hf _ (by rw [ho]; simp [Op.operands])]; exact hx) hu ha hs (hh _ (by simp) _ hb) hd
  | loadA ho hx hu ha hs hb hd => exact .loadA ho (by rw [hf _ (by rw [ho]; simp [Op.operands])]; exact hx) hu ha hs (hh _ (by simp) _ hb) hd
  | store ho hx hy hs hn hb hr => exact .store ho (by rw [hf _ (by rw [ho]; simp [Op.operands])]; exact hx) (by rw [hf _ (by rw [ho]; simp [Op.operands])]; exact hy) hs hn (hh _ (by simp) _ hb) hr
  | sliceArr ho ht hs hx hb hn => exact .sliceArr ho ht hs (by rw [hf _ (by rw [ho]; simp [Op.operands])]; exact hx) (hh _ (by simp) _ hb) hn
  | appendNew ho ht hz hzl hx hd0 hy hsrc hn h63 hb => exact .appendNew ho ht hz hzl (by rw [hf _ (by rw [ho]; simp [Op.operands, Call.operands])]; exact hx) hd0 (by rw [hf _ (by rw [ho]; simp [Op.operands, Call.operands])]; exact hy) (hsrc.congr hh) hn h63 hb
  | appendSame ho ht hx hd0 hy hsrc => exact .appendSame ho ht (by rw [hf _ (by rw [ho]; simp [Op.operands, Call.operands])]; exact hx) hd0 (by rw [hf _ (by rw [ho]; simp [Op.operands, Call.operands])]; exact hy) (hsrc.congr hh)
  | appendMv ho ht hz hzl hx hb hl hy hsrc h63 hby => exact .appendMv ho ht hz hzl (by rw [hf _ (by rw [ho]; simp [Op.operands, Call.operands])]; exact hx) (hh _ (by simp) _ hb) hl (by rw [hf _ (by rw [ho]; simp [Op.operands, Call.operands])]; exact hy) (hsrc.congr fun b hb => hh b (by simp [hb])) h63 hby
  | appendIn ho ht hx hb hy hsrc hc hr => exact .appendIn ho ht (by rw [hf _ (by rw [ho]; simp [Op.operands, Call.operands])]; exact hx) (hh _ (by simp) _ hb) (by rw [hf _ (by rw [ho]; simp [Op.operands, Call.operands])]; exact hy) (hsrc.congr fun b hb => hh b (by simp [hb])) hc hr
  | copy ho ht hx hb hy hsrc hm hr => exact .copy ho ht (by rw [hf _ (by rw [ho]; simp [Op.operands, Call.operands])]; exact hx) (hh _ (by simp) _ hb) (by rw [hf _ (by rw [ho]; simp [Op.operands, Call.operands])]; exact hy) (hsrc.congr fun b hb => hh b (by simp [hb])) hm hr
  | clear ho ht hz hzl hzn hs1 hx hb hr => exact .clear ho ht hz hzl hzn hs1 (by rw [hf _ (by rw [ho]; simp [Op.operands, Call.operands])]; exact hx) (hh _ (by simp) _ hb) hr
  | clear0 ho ht hx => exact .clear0 ho ht (by rw [hf _ (by rw [ho]; simp [Op.operands, Call.operands])]; exact hx)

/-- A step that makes no block goes with every number for a new one; the heap's length stays. -/
theorem HStep.nx {nx : Nat} {d : D} {rd : List Nat} {wr : List (Nat × Option Blk)} (h : HStep P F H nx o d rd wr) (hn : nx ∉ idsOf wr) (nx' : Nat) : HStep P F H nx' o d rd wr ∧ (applyW H wr).length = H.length := by
  cases h with
  | pure h hp => exact ⟨.pure h hp, rfl⟩
  | pickT ho hc ht h => exact ⟨.pickT ho hc ht h, rfl⟩
  | pickF ho hc ht h => exact ⟨.pickF ho hc ht h, rfl⟩
  | loadS ho hx hu ha hd => exact ⟨.loadS ho hx hu ha hd, rfl⟩
  | loadSA ho hx hu ha hs hd => exact ⟨.loadSA ho hx hu ha hs hd, rfl⟩
  | alloc ho hz hn' => simp [idsOf] at hn
  | box ho hx hn' => simp [idsOf] at hn
  | make ho => simp [idsOf] at hn
  | load ho hx hu ha hs hb hd => exact ⟨.load ho hx hu ha hs hb hd, rfl⟩
  | loadA ho hx hu ha hs hb hd => exact ⟨.loadA ho hx hu ha hs hb hd, rfl⟩
  | store ho hx hy hs hn' hb hr => exact ⟨.store ho hx hy hs hn' hb hr, by simp [applyW, putAt, lt_of_getElem? hb]⟩
  | sliceArr ho ht hs hx hb hn' => exact ⟨.sliceArr ho ht hs hx hb hn', rfl⟩
  | appendNew ho => simp [idsOf] at hn
  | appendSame ho ht hx hd0 hy hsrc => exact ⟨.appendSame ho ht hx hd0 hy hsrc, rfl⟩
  | appendMv ho => simp [idsOf] at hn
  | appendIn ho ht hx hb hy hsrc hc hr => exact ⟨.appendIn ho ht hx hb hy hsrc hc hr, by simp [applyW, putAt, lt_of_getElem? hb]⟩
  | copy ho ht hx hb hy hsrc hm hr => exact ⟨.copy ho ht hx hb hy hsrc hm hr, by simp [applyW, putAt, lt_of_getElem? hb]⟩
  | clear ho ht hz hzl hzn hs1 hx hb hr => exact ⟨.clear ho ht hz hzl hzn hs1 hx hb hr, by simp [applyW, putAt, lt_of_getElem? hb]⟩
  | clear0 ho ht hx => exact ⟨.clear0 ho ht hx, rfl⟩

/-- A new block's number is the heap's length. -/
theorem HStep.newLen {nx : Nat} {d : D} {rd : List Nat} {wr : List (Nat × Option Blk)} (_ : HStep P F H nx o d rd wr) (hn : nx ∈ idsOf wr) : nx < (applyW H wr).length := by
  have key : ∀ (wr : List (Nat × Option Blk)) (H : Hp), nx < H.length → nx < (applyW H wr).length := by
    intro wr
    induction wr with
    | nil => intro H h; exact h
    | cons p wr ih =>
      intro H h
      obtain ⟨b, x⟩ := p
      cases x with
      | none => exact ih _ (by simpa using h)
      | some x => exact ih _ (by have := putAt_length H b x; omega)
  rename_i h
  cases h <;> simp [idsOf] at hn
  case alloc => simp only [applyW]; exact (putAt_length _ _ _).2
  case box => simp only [applyW]; exact (putAt_length _ _ _).2
  case make => simp only [applyW]; exact (putAt_length _ _ _).2
  case store ho hx hy hs hn' hb hr => subst hn; simp only [applyW]; exact (putAt_length _ _ _).2
  case appendNew => simp only [applyW]; exact (putAt_length _ _ _).2
  case appendMv => simp only [applyW]; exact (putAt_length _ _ _).2
  case appendIn => subst hn; simp only [applyW]; exact (putAt_length _ _ _).2
  case copy => subst hn; simp only [applyW]; exact (putAt_length _ _ _).2
  case clear => subst hn; simp only [applyW]; exact (putAt_length _ _ _).2

/-- One step of a region that draws its order, at a state of the order of the text. -/
inductive DStep (P : Program) (all : List Oper) (F : Fr) (H : Hp) (nx : Nat) (o : Oper) : Ent → Prop where
  | skip (hw : Wanted all F o false) : DStep P all F H nx o ⟨.tup [], [], [], none⟩
  | op {d : D} {rd : List Nat} {wr : List (Nat × Option Blk)} (hw : Wanted all F o true) (h : HStep P F H nx o d rd wr) : DStep P all F H nx o ⟨d, rd, wr, none⟩
  | call {fo : Operand} {args : Array Operand} {at_ : Array TypeId} {fv : D} {ds : List D} {d : D} {rd : List Nat} {wr : List (Nat × Option Blk)} (hw : Wanted all F o true) (ho : o.op = .call { callee := .value fo, args, argTypes := at_ }) (hf : F.eval fo = some fv) (ha : evals F args.toList = some ds)
      (hwr : ∀ p ∈ wr, p.1 ∈ rd ∧ p.1 ≠ nx ∧ ∃ x, H[p.1]? = some (some x)) (h : ∀ H', AgH rd H H' → ValTo P fv ds H' fun d' H'' => d' = d ∧ H'' = applyW H' wr) : DStep P all F H nx o ⟨d, rd, wr, none⟩
  | wild {fo : Operand} {args : Array Operand} {at_ : Array TypeId} {fv : D} {ds : List D} {d : D} {H' : Hp} (hw : Wanted all F o true) (ho : o.op = .call { callee := .value fo, args, argTypes := at_ }) (hf : F.eval fo = some fv) (ha : evals F args.toList = some ds)
      (h : ValTo P fv ds H fun d' H'' => d' = d ∧ H'' = H') : DStep P all F H nx o ⟨d, [], [], some H'⟩

theorem Wanted.congr {v : Bool} (h : Wanted all F o v) (hf : AgF (guardTemps all o) F F') : Wanted all F' o v := by
  rcases h with h | ⟨j, want, oj, t, b, hg, ho, ht, hb, hv⟩ | ⟨hv, j, want, oj, t, ds, hg, ho, ht, hb⟩
  · exact .inl h
  · refine .inr (.inl ⟨j, want, oj, t, b, hg, ho, ht, ?_, hv⟩)
    rw [hf t (by simp [guardTemps, hg, ho, ht])]
    exact hb
  · refine .inr (.inr ⟨hv, j, want, oj, t, ds, hg, ho, ht, ?_⟩)
    rw [hf t (by simp [guardTemps, hg, ho, ht])]
    exact hb

theorem DStep.congr {nx : Nat} {e : Ent} (h : DStep P all F H nx o e) (hf : AgF (opTemps o ++ guardTemps all o) F F') (hh : AgH e.rd H H') (hwild : e.wild.isSome = true → H' = H) : DStep P all F' H' nx o e := by
  have h1 : AgF (opTemps o) F F' := fun t ht => hf t (by simp [ht])
  have h2 : AgF (guardTemps all o) F F' := fun t ht => hf t (by simp [ht])
  have h3 := eval_congr h1
  cases h with
  | skip hw => exact .skip (hw.congr h2)
  | op hw h => exact .op (hw.congr h2) (h.congr h3 hh)
  | call hw ho hf' ha hwr h =>
    refine .call (hw.congr h2) ho (by rw [h3 _ (by rw [ho]; simp [Op.operands, Call.operands])]; exact hf') ?_ (fun p hp => ?_) (fun H'' hag => h H'' fun b hb x hx => hag b hb x (hh b hb x hx))
    · rw [evals_congr _ (fun x hx => h3 x (by rw [ho]; simp [Op.operands, Call.operands]; exact .inr (by simpa using hx)))]; exact ha
    · obtain ⟨a, b, x, hx⟩ := hwr p hp
      exact ⟨a, b, x, hh _ a x hx⟩
  | wild hw ho hf' ha h =>
    have := hwild rfl
    subst this
    refine .wild (hw.congr h2) ho (by rw [h3 _ (by rw [ho]; simp [Op.operands, Call.operands])]; exact hf') ?_ h
    rw [evals_congr _ (fun x hx => h3 x (by rw [ho]; simp [Op.operands, Call.operands]; exact .inr (by simpa using hx)))]; exact ha

inductive DrawD (P : Program) (n : Nat) (all : List Oper) : List Oper → Fr → Hp → List Ent → Fr → Hp → Prop where
  | nil {F : Fr} {H : Hp} : DrawD P n all [] F H [] F H
  | cons {o : Oper} {r : List Oper} {F F' : Fr} {H H' : Hp} {e : Ent} {es : List Ent} (h : DStep P all F H H.length o e) (hd : dstOk n o) (hl : H.length ≤ (e.after H).length) (rest : DrawD P n all r (putF F o.dst e.d) (e.after H) es F' H') :
      DrawD P n all (o :: r) F H (e :: es) F' H'

end
end Go.V
