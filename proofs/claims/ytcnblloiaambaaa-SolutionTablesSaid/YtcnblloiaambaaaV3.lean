/- The logic V, part 3: the machine's steps through code, at a frame that may be a round of a range over a function. -/
import Derived.Test.YtcnblloiaambaaaV2
namespace Go.V

def on (b : Frame) (tm : Array Value) (df : List Deferred) (todo : List Item) : Frame := { b with tmps := tm, todo := todo, defers := df, mode := .run }

def evalT (tm : Array Value) : Operand → Value
  | .tmp t => tm.getD t undef
  | .const v => v
  | .global g => .pointer (some ⟨g, 0, none⟩)
  | .func f => .func (.func f) #[] #[]

theorem eval_on (b : Frame) (tm : Array Value) (df : List Deferred) (todo : List Item) (x : Operand) : (on b tm df todo).eval x = evalT tm x := by cases x <;> rfl
theorem eval_on' (b : Frame) (tm : Array Value) (df : List Deferred) (todo : List Item) : (on b tm df todo).eval = evalT tm := funext (eval_on b tm df todo)

def putV (tm : Array Value) : Option Tmp → Value → Array Value
  | some d, v => tm.setIfInBounds d v
  | none, _ => tm

section steps
variable {P : Program} {b : Frame} {tm : Array Value} {df : List Deferred} {k : List Item} {cs : List Frame} {w : World}
theorem st_skip : step P (lone (on b tm df (.code .skip :: k)) cs w) = .next (lone (on b tm df k) cs w) := step_lone_go (by simp [stepG, stepG.exec, on])
theorem st_label {l : Nat} : step P (lone (on b tm df (.code (.label l) :: k)) cs w) = .next (lone (on b tm df k) cs w) := step_lone_go (by simp [stepG, stepG.exec, on])
theorem st_inBlock {i : Nat} : step P (lone (on b tm df (.inBlock i :: k)) cs w) = .next (lone (on b tm df k) cs w) := step_lone_go (by simp [stepG, stepG.exec, on])
theorem st_inScope {c : Code} : step P (lone (on b tm df (.inScope c :: k)) cs w) = .next (lone (on b tm df k) cs w) := step_lone_go (by simp [stepG, stepG.exec, on])
theorem st_seq {x y : Code} : step P (lone (on b tm df (.code (.seq x y) :: k)) cs w) = .next (lone (on b tm df (.code x :: .code y :: k)) cs w) := step_lone_go (by simp [stepG, stepG.exec, on])
theorem st_cond {c : Operand} {x y : Code} {t : Bool} (h : evalT tm c = .bool t) :
    step P (lone (on b tm df (.code (.cond c x y) :: k)) cs w) = .next (lone (on b tm df (.code (if t then x else y) :: k)) cs w) :=
  step_lone_go (by
    have := eval_on b tm df (.code (.cond c x y) :: k) c
    simp only [on] at this
    simp [stepG, stepG.exec, on, this, h])
theorem st_block {i : Nat} {c : Code} : step P (lone (on b tm df (.code (.block i c) :: k)) cs w) = .next (lone (on b tm df (.code c :: .inBlock i :: k)) cs w) := step_lone_go (by simp [stepG, stepG.exec, on])
theorem st_scope {c : Code} : step P (lone (on b tm df (.code (.scope c) :: k)) cs w) = .next (lone (on b tm df (.code c :: .inScope c :: k)) cs w) := step_lone_go (by simp [stepG, stepG.exec, on])
theorem st_loop {c : Code} : step P (lone (on b tm df (.code (.loop c) :: k)) cs w) = .next (lone (on b tm df (.code c :: .inLoop c :: k)) cs w) := step_lone_go (by simp [stepG, stepG.exec, on])
theorem st_inLoop {c : Code} : step P (lone (on b tm df (.inLoop c :: k)) cs w) = .next (lone (on b tm df (.code c :: .inLoop c :: k)) cs w) := step_lone_go (by simp [stepG, stepG.exec, on])
theorem st_exit {i : Nat} {k' : List Item} (h : exitTo i k = some k') : step P (lone (on b tm df (.code (.exit i) :: k)) cs w) = .next (lone (on b tm df k') cs w) :=
  step_lone_go (by simp [stepG, stepG.exec, on, h])
theorem st_region {i : Nat} {ops : Array Oper} : step P (lone (on b tm df (.code (.region i ops false) :: k)) cs w) = .next (lone (on b tm df (.inRegion ops (List.range ops.size) :: k)) cs w) :=
  step_lone_go (by simp [stepG, stepG.exec, on])
theorem st_region_draw {i : Nat} {ops : Array Oper} :
    step P (lone (on b tm df (.code (.region i ops true) :: k)) cs w) =
      .next (lone (on b tm df (.inRegion ops (Region.schedule (P.follows .mixedOrders) ops (w.tape w.drawn (.order b.fn i))) :: k)) cs { w with drawn := w.drawn + 1 }) :=
  step_lone_go (by simp [stepG, stepG.exec, on, choose, Sem.run, Question.forced, Question.cut])
theorem st_region_end {ops : Array Oper} : step P (lone (on b tm df (.inRegion ops [] :: k)) cs w) = .next (lone (on b tm df k) cs w) := step_lone_go (by simp [stepG, stepG.exec, on])

theorem finish_on (ops : Array Oper) (i : Nat) (rest : List Nat) (v : Value) :
    (on b tm df (.inRegion ops (i :: rest) :: k)).finish v = on b (putV tm ((ops[i]?).bind (·.dst)) v) df (.inRegion ops rest :: k) := by
  cases h : (ops[i]?).bind (·.dst) <;> simp [Frame.finish, on, putV, h]

variable {ops : Array Oper} {i : Nat} {rest : List Nat} {o : Oper}
theorem st_op_skip (ho : ops[i]? = some o) (hw : Region.wanted o (yielded ops tm) = false) :
    step P (lone (on b tm df (.inRegion ops (i :: rest) :: k)) cs w) = .next (lone (on b (putV tm o.dst undef) df (.inRegion ops rest :: k)) cs w) := by
  have hf := finish_on (b := b) (tm := tm) (df := df) (k := k) ops i rest undef
  rw [ho] at hf
  rw [show o.dst = (some o).bind (·.dst) from rfl, ← hf]
  exact step_lone_go (by simp [stepG, stepG.exec, on, ho, hw])

theorem stG_op (ho : ops[i]? = some o) (hw : Region.wanted o (yielded ops tm) = true) (hd : ∀ c, o.op ≠ .defer c) :
    stepG P true { frame := on b tm df (.inRegion ops (i :: rest) :: k), callers := cs, status := .running, dying := none } w =
      stepG.apply P true (on b tm df (.inRegion ops (i :: rest) :: k)) cs none (execOp (evalT tm) o) w := by
  have he := eval_on' b tm df (.inRegion ops (i :: rest) :: k)
  simp only [on] at he
  cases hr : b.roundOf with
  | none =>
    rw [hr] at he
    simp [stepG, stepG.exec, stepG.oper, Frame.oper?, on, ho, hw, he, hr]
  | some l =>
    rw [hr] at he
    cases hop : o.op with
    | defer c => exact absurd hop (hd c)
    | _ => simp [stepG, stepG.exec, stepG.oper, Frame.oper?, on, ho, hw, he, hr, hop]

theorem st_op_value {v : Value} {w' : World} (ho : ops[i]? = some o) (hw : Region.wanted o (yielded ops tm) = true) (hd : ∀ c, o.op ≠ .defer c)
    (hr : (execOp (evalT tm) o).run P w = .ok (.value v) w') :
    step P (lone (on b tm df (.inRegion ops (i :: rest) :: k)) cs w) = .next (lone (on b (putV tm o.dst v) df (.inRegion ops rest :: k)) cs w') := by
  have hf := finish_on (b := b) (tm := tm) (df := df) (k := k) ops i rest v
  rw [ho] at hf
  rw [show o.dst = (some o).bind (·.dst) from rfl, ← hf]
  refine step_lone_go ?_
  rw [stG_op ho hw hd]
  simp [stepG.apply, hr]

theorem st_op_unit {w' : World} (ho : ops[i]? = some o) (hw : Region.wanted o (yielded ops tm) = true) (hd : ∀ c, o.op ≠ .defer c)
    (hr : (execOp (evalT tm) o).run P w = .ok .skip w') :
    step P (lone (on b tm df (.inRegion ops (i :: rest) :: k)) cs w) = .next (lone (on b (putV tm o.dst undef) df (.inRegion ops rest :: k)) cs w') := by
  have hf := finish_on (b := b) (tm := tm) (df := df) (k := k) ops i rest undef
  rw [ho] at hf
  rw [show o.dst = (some o).bind (·.dst) from rfl, ← hf]
  refine step_lone_go ?_
  rw [stG_op ho hw hd]
  simp [stepG.apply, hr]

theorem st_op_enter {f : FuncId} {args : Array Value} {w' : World} (ho : ops[i]? = some o) (hw : Region.wanted o (yielded ops tm) = true) (hd : ∀ c, o.op ≠ .defer c)
    (hr : (execOp (evalT tm) o).run P w = .ok (.enter f args) w') :
    step P (lone (on b tm df (.inRegion ops (i :: rest) :: k)) cs w) = .next (lone (Frame.enter P f args .normal) (on b tm df (.inRegion ops (i :: rest) :: k) :: cs) w') := by
  refine step_lone_go ?_
  rw [stG_op ho hw hd]
  simp [stepG.apply, hr, on]

theorem st_op_round {l : Nat} {f : FuncId} {tmps : Array Value} {assign body : Code} {w' : World} (ho : ops[i]? = some o) (hw : Region.wanted o (yielded ops tm) = true) (hd : ∀ c, o.op ≠ .defer c)
    (hr : (execOp (evalT tm) o).run P w = .ok (.round l f tmps assign body) w') :
    step P (lone (on b tm df (.inRegion ops (i :: rest) :: k)) cs w) = .next (lone (Frame.round l f tmps assign body .normal) (on b tm df (.inRegion ops (i :: rest) :: k) :: cs) w') := by
  refine step_lone_go ?_
  rw [stG_op ho hw hd]
  simp [stepG.apply, hr, on]
end steps

/-- How a piece of code is left. -/
inductive Ex where
  | normal
  | exit (i : Nat)
  | ret

def Reach (P : Program) (m : Machine) (b : Frame) (k : List Item) (cs : List Frame) (tm : Array Value) (df : List Deferred) (w : World) : Ex → Prop
  | .normal => Steps P m (lone (on b tm df k) cs w)
  | .exit i => ∃ k', exitTo i k' = exitTo i k ∧ Steps P m (lone (on b tm df (.code (.exit i) :: k')) cs w)
  | .ret => ∃ k', Steps P m (lone (on b tm df (.code .ret :: k')) cs w)

theorem Reach.of_steps {P : Program} {m m₁ : Machine} {b : Frame} {k : List Item} {cs : List Frame} {tm : Array Value} {df : List Deferred} {w : World} {e : Ex}
    (h : Steps P m m₁) (h' : Reach P m₁ b k cs tm df w e) : Reach P m b k cs tm df w e := by
  cases e with
  | normal => exact h.trans h'
  | exit i => obtain ⟨k', a, s⟩ := h'; exact ⟨k', a, h.trans s⟩
  | ret => obtain ⟨k', s⟩ := h'; exact ⟨k', h.trans s⟩

def CodeTo (P : Program) (c : Code) (tm : Array Value) (df : List Deferred) (w : World) (R : Ex → Array Value → List Deferred → World → Prop) : Prop :=
  ∀ (b : Frame) (k : List Item) (cs : List Frame), ∃ e tm' df' w', R e tm' df' w' ∧ Reach P (lone (on b tm df (.code c :: k)) cs w) b k cs tm' df' w' e

section rules
variable {P : Program} {tm : Array Value} {df : List Deferred} {w : World} {R R' : Ex → Array Value → List Deferred → World → Prop}

theorem CodeTo.mono {c : Code} (h : CodeTo P c tm df w R) (hr : ∀ e tm df w, R e tm df w → R' e tm df w) : CodeTo P c tm df w R' :=
  fun b k cs => let ⟨e, tm', df', w', r, s⟩ := h b k cs; ⟨e, tm', df', w', hr _ _ _ _ r, s⟩

theorem CodeTo.skip (h : R .normal tm df w) : CodeTo P .skip tm df w R := fun _ _ _ => ⟨.normal, tm, df, w, h, .one st_skip⟩
theorem CodeTo.label {l : Nat} (h : R .normal tm df w) : CodeTo P (.label l) tm df w R := fun _ _ _ => ⟨.normal, tm, df, w, h, .one st_label⟩
theorem CodeTo.exit {i : Nat} (h : R (.exit i) tm df w) : CodeTo P (.exit i) tm df w R := fun _ k _ => ⟨.exit i, tm, df, w, h, k, rfl, .refl _ _⟩
theorem CodeTo.ret (h : R .ret tm df w) : CodeTo P .ret tm df w R := fun _ k _ => ⟨.ret, tm, df, w, h, k, .refl _ _⟩

theorem CodeTo.seq {x y : Code} (h : CodeTo P x tm df w fun e tm df w => match e with | .normal => CodeTo P y tm df w R | e => R e tm df w) : CodeTo P (.seq x y) tm df w R := by
  intro b k cs
  obtain ⟨e, tm₁, df₁, w₁, hq, hr⟩ := h b (.code y :: k) cs
  cases e with
  | normal =>
    obtain ⟨e₂, tm₂, df₂, w₂, hq₂, hr₂⟩ := hq b k cs
    exact ⟨e₂, tm₂, df₂, w₂, hq₂, .of_steps (.head st_seq hr) hr₂⟩
  | exit i =>
    obtain ⟨k', hk, s⟩ := hr
    exact ⟨.exit i, tm₁, df₁, w₁, hq, k', hk.trans (by simp [exitTo]), .head st_seq s⟩
  | ret =>
    obtain ⟨k', s⟩ := hr
    exact ⟨.ret, tm₁, df₁, w₁, hq, k', .head st_seq s⟩

theorem CodeTo.cond {c : Operand} {x y : Code} {t : Bool} (hc : evalT tm c = .bool t) (h : CodeTo P (if t then x else y) tm df w R) : CodeTo P (.cond c x y) tm df w R :=
  fun b k cs => let ⟨e, tm', df', w', q, r⟩ := h b k cs; ⟨e, tm', df', w', q, .of_steps (.one (st_cond hc)) r⟩

theorem CodeTo.block {i : Nat} {c : Code} (h : CodeTo P c tm df w fun e tm df w => match e with
      | .exit j => if j = i then R .normal tm df w else R (.exit j) tm df w
      | e => R e tm df w) : CodeTo P (.block i c) tm df w R := by
  intro b k cs
  obtain ⟨e, tm₁, df₁, w₁, hq, hr⟩ := h b (.inBlock i :: k) cs
  cases e with
  | normal => exact ⟨.normal, tm₁, df₁, w₁, hq, .head st_block (Steps.trans hr (.one st_inBlock))⟩
  | exit j =>
    obtain ⟨k', hk, s⟩ := hr
    by_cases hij : j = i
    · subst hij
      simp only [if_true] at hq
      refine ⟨.normal, tm₁, df₁, w₁, hq, .head st_block (Steps.trans s (.one (st_exit ?_)))⟩
      rw [hk]; simp [exitTo]
    · simp only [hij, if_false] at hq
      refine ⟨.exit j, tm₁, df₁, w₁, hq, k', ?_, .head st_block s⟩
      rw [hk]
      have : (i == j) = false := by simp; exact fun h => hij h.symm
      simp [exitTo, this]
  | ret =>
    obtain ⟨k', s⟩ := hr
    exact ⟨.ret, tm₁, df₁, w₁, hq, k', .head st_block s⟩

theorem CodeTo.scope {c : Code} (h : CodeTo P c tm df w R) : CodeTo P (.scope c) tm df w R := by
  intro b k cs
  obtain ⟨e, tm₁, df₁, w₁, hq, hr⟩ := h b (.inScope c :: k) cs
  cases e with
  | normal => exact ⟨.normal, tm₁, df₁, w₁, hq, .head st_scope (Steps.trans hr (.one st_inScope))⟩
  | exit j =>
    obtain ⟨k', hk, s⟩ := hr
    exact ⟨.exit j, tm₁, df₁, w₁, hq, k', by rw [hk]; simp [exitTo], .head st_scope s⟩
  | ret =>
    obtain ⟨k', s⟩ := hr
    exact ⟨.ret, tm₁, df₁, w₁, hq, k', .head st_scope s⟩

/-- A loop: by any well-founded descent. 'I' holds at the head of each round. -/
theorem CodeTo.loop {c : Code} (I : Nat → Array Value → List Deferred → World → Prop) {n : Nat} (h0 : I n tm df w)
    (round : ∀ n tm df w, I n tm df w → CodeTo P c tm df w fun e tm' df' w' => match e with
      | .normal => ∃ m, m < n ∧ I m tm' df' w'
      | e => R e tm' df' w') : CodeTo P (.loop c) tm df w R := by
  intro b k cs
  have key : ∀ n tm df w, I n tm df w → ∃ e tm' df' w', R e tm' df' w' ∧ Reach P (lone (on b tm df (.code c :: .inLoop c :: k)) cs w) b k cs tm' df' w' e := by
    intro n
    induction n using Nat.strongRecOn with
    | _ n ih =>
      intro tm df w hI
      obtain ⟨e, tm₁, df₁, w₁, hq, hr⟩ := round n tm df w hI b (.inLoop c :: k) cs
      cases e with
      | normal =>
        obtain ⟨m, hm, hI₁⟩ := hq
        obtain ⟨e₂, tm₂, df₂, w₂, hq₂, hr₂⟩ := ih m hm tm₁ df₁ w₁ hI₁
        exact ⟨e₂, tm₂, df₂, w₂, hq₂, .of_steps (Steps.trans hr (.one st_inLoop)) hr₂⟩
      | exit i =>
        obtain ⟨k', hk, s⟩ := hr
        exact ⟨.exit i, tm₁, df₁, w₁, hq, k', by rw [hk]; simp [exitTo], s⟩
      | ret =>
        obtain ⟨k', s⟩ := hr
        exact ⟨.ret, tm₁, df₁, w₁, hq, k', s⟩
  obtain ⟨e, tm', df', w', hq, hr⟩ := key n tm df w h0
  exact ⟨e, tm', df', w', hq, .of_steps (.one st_loop) hr⟩
end rules

/-- The operations of a region in a given order. -/
def OpsTo (P : Program) (ops : Array Oper) (sched : List Nat) (tm : Array Value) (w : World) (R : Array Value → World → Prop) : Prop :=
  ∀ (b : Frame) (df : List Deferred) (k : List Item) (cs : List Frame), ∃ tm' w', R tm' w' ∧
    Steps P (lone (on b tm df (.inRegion ops sched :: k)) cs w) (lone (on b tm' df (.inRegion ops [] :: k)) cs w')

section ops
variable {P : Program} {tm : Array Value} {w : World} {ops : Array Oper} {R : Array Value → World → Prop}

theorem CodeTo.region {i : Nat} {df : List Deferred} {Q : Ex → Array Value → List Deferred → World → Prop} (h : OpsTo P ops (List.range ops.size) tm w fun tm w => Q .normal tm df w) :
    CodeTo P (.region i ops false) tm df w Q :=
  fun b k cs => let ⟨tm', w', q, s⟩ := h b df k cs; ⟨.normal, tm', df, w', q, .head st_region (s.trans (.one st_region_end))⟩

theorem CodeTo.region_draw {i : Nat} {df : List Deferred} {Q : Ex → Array Value → List Deferred → World → Prop}
    (h : ∀ t, OpsTo P ops (Region.schedule (P.follows .mixedOrders) ops t) tm { w with drawn := w.drawn + 1 } fun tm w => Q .normal tm df w) :
    CodeTo P (.region i ops true) tm df w Q :=
  fun b k cs => let ⟨tm', w', q, s⟩ := h _ b df k cs; ⟨.normal, tm', df, w', q, .head st_region_draw (s.trans (.one st_region_end))⟩

theorem OpsTo.nil (h : R tm w) : OpsTo P ops [] tm w R := fun _ _ _ _ => ⟨tm, w, h, .refl _ _⟩

variable {i : Nat} {rest : List Nat} {o : Oper}
theorem OpsTo.skip (ho : ops[i]? = some o) (hw : Region.wanted o (yielded ops tm) = false) (h : OpsTo P ops rest (putV tm o.dst undef) w R) : OpsTo P ops (i :: rest) tm w R :=
  fun b df k cs => let ⟨tm', w', r, s⟩ := h b df k cs; ⟨tm', w', r, .head (st_op_skip ho hw) s⟩

theorem OpsTo.value {v : Value} {w' : World} (ho : ops[i]? = some o) (hw : Region.wanted o (yielded ops tm) = true) (hd : ∀ c, o.op ≠ .defer c)
    (hr : (execOp (evalT tm) o).run P w = .ok (.value v) w') (h : OpsTo P ops rest (putV tm o.dst v) w' R) : OpsTo P ops (i :: rest) tm w R :=
  fun b df k cs => let ⟨tm', w', r, s⟩ := h b df k cs; ⟨tm', w', r, .head (st_op_value ho hw hd hr) s⟩

theorem OpsTo.unit {w' : World} (ho : ops[i]? = some o) (hw : Region.wanted o (yielded ops tm) = true) (hd : ∀ c, o.op ≠ .defer c)
    (hr : (execOp (evalT tm) o).run P w = .ok .skip w') (h : OpsTo P ops rest (putV tm o.dst undef) w' R) : OpsTo P ops (i :: rest) tm w R :=
  fun b df k cs => let ⟨tm', w', r, s⟩ := h b df k cs; ⟨tm', w', r, .head (st_op_unit ho hw hd hr) s⟩

/-- What a call gives back, to whatever frame called: through a function's body or a round. -/
def CallTo (P : Program) (nx : Next) (w : World) (R : Value → World → Prop) : Prop :=
  (∃ f args, nx = .enter f args ∧ Calls P f args w fun e w' => ∃ v, e = .returned v ∧ R v w') ∨
  (∃ l f tmps assign body, nx = .round l f tmps assign body ∧ ∀ c cs, ∃ v w', R v w' ∧ Steps P (lone (Frame.round l f tmps assign body .normal) (c :: cs) w) (lone (c.finish v) cs w'))

theorem OpsTo.call {nx : Next} {w' : World} (ho : ops[i]? = some o) (hw : Region.wanted o (yielded ops tm) = true) (hd : ∀ c, o.op ≠ .defer c)
    (hr : (execOp (evalT tm) o).run P w = .ok nx w') (h : CallTo P nx w' fun v w'' => OpsTo P ops rest (putV tm o.dst v) w'' R) : OpsTo P ops (i :: rest) tm w R := by
  intro b df k cs
  have hf := fun v => finish_on (b := b) (tm := tm) (df := df) (k := k) ops i rest v
  rw [ho] at hf
  rcases h with ⟨f, args, rfl, h⟩ | ⟨l, f, tmps, assign, body, rfl, h⟩
  · obtain ⟨e, w₁, fr, ⟨v, rfl, hR⟩, hcomes, _, hleave⟩ := h (on b tm df (.inRegion ops (i :: rest) :: k) :: cs)
    obtain ⟨tm', w₂, r, s⟩ := hR b df k cs
    refine ⟨tm', w₂, r, .head (st_op_enter ho hw hd hr) (Steps.trans hcomes (.head (step_leave_returned hleave) ?_))⟩
    rw [hf]; exact s
  · obtain ⟨v, w₁, hR, hst⟩ := h (on b tm df (.inRegion ops (i :: rest) :: k)) cs
    obtain ⟨tm', w₂, r, s⟩ := hR b df k cs
    refine ⟨tm', w₂, r, .head (st_op_round ho hw hd hr) (Steps.trans hst ?_)⟩
    rw [hf]; exact s
end ops
end Go.V
