/- The logic V, part 16: regions in the order of the text; calls. -/
import Derived.Test.YtcnblloiaambaaaV15
namespace Go.V

def putF (F : Fr) : Option Nat → D → Fr
  | some t, d => (t, d) :: F
  | none, _ => F

/-- Is the operation carried out? -/
def Wanted (all : List Oper) (F : Fr) (o : Oper) (v : Bool) : Prop :=
  (o.guard = none ∧ v = true) ∨ (∃ j want oj t b, o.guard = some (j, want) ∧ all[j]? = some oj ∧ oj.dst = some t ∧ F.get t = some (.bool b) ∧ (b == want) = v) ∨
  (v = false ∧ ∃ j want oj t ds, o.guard = some (j, want) ∧ all[j]? = some oj ∧ oj.dst = some t ∧ F.get t = some (.tup ds))

section
variable {P : Program} {w w' : World} {g g' : Gh} {H H' : Hp} {F F' : Fr} {tm : Array Value} {n N : Nat} {o : Oper} {all : Array Oper}

theorem Wanted.run {v : Bool} (h : Wanted all.toList F o v) (hF : FRel w g F tm) : Region.wanted o (yielded all tm) = v := by
  rcases h with ⟨hg, rfl⟩ | ⟨j, want, oj, t, b, hg, ho, ht, hb, hv⟩ | ⟨rfl, j, want, oj, t, ds, hg, ho, ht, hb⟩
  · simp [Region.wanted, hg]
  · obtain ⟨x, hx, hr⟩ := hF t _ hb
    obtain rfl := rep_bool hr
    have ho' : all[j]? = some oj := by simpa using ho
    simp only [Region.wanted, hg, yielded, ho', Option.bind_some, ht, hx]
    rw [← hv]
    cases b <;> cases want <;> rfl
  · obtain ⟨x, hx, hr⟩ := hF t _ hb
    have ho' : all[j]? = some oj := by simpa using ho
    have hy : yielded all tm j = none := by
      simp only [yielded, ho', Option.bind_some, ht, hx]
      cases hr; rfl
    simp only [Region.wanted, hg, hy]
    rfl

def dstOk (n : Nat) (o : Oper) : Prop := ∀ t, o.dst = some t → t < n

theorem put_rel (hF : FRel w g F tm) (hs : tm.size = n) (hd : dstOk n o) {d : D} {v : Value} (hr : Rep w g d v) : FRel w g (putF F o.dst d) (putV tm o.dst v) ∧ (putV tm o.dst v).size = n := by
  cases ho : o.dst with
  | none => exact ⟨hF, hs⟩
  | some t =>
    have htn := hd t ho
    refine ⟨fun u e he => ?_, by simpa [putV] using hs⟩
    simp only [putF, Fr.get] at he
    cases hb : Nat.beq t u with
    | true =>
      rw [hb] at he
      simp only [cond_true, Option.some.injEq] at he
      subst he
      obtain rfl := Nat.eq_of_beq_eq_true hb
      exact ⟨v, by simp [putV, hs, htn], hr⟩
    | false =>
      rw [hb] at he
      have hne : t ≠ u := fun e => by subst e; rw [Nat.beq_refl] at hb; cases hb
      obtain ⟨x, hx, hrx⟩ := hF u e he
      exact ⟨x, by simp only [putV]; rw [Array.getElem?_setIfInBounds_ne hne]; exact hx, hrx⟩

/-- A call of a yield value. -/
def YTo (P : Program) (b : Nat) (ds : List D) (H : Hp) (R : D → Hp → Prop) : Prop :=
  ∀ (w : World) (g : Gh) (vs : List Value), HRel w g H → RepL w g ds vs → ∃ k nx, g.ρ b = some (k, 0) ∧ (Instr.yield k vs.toArray).run P w = .ok nx w ∧
    CallTo P nx w fun v w' => ∃ d H' g', R d H' ∧ Ev H.length w g (Lof g H) w' g' (Lof g' H') ∧ HRel w' g' H' ∧ H.length ≤ H'.length ∧ Rep w' g' d v

/-- A call of a function value. -/
def ValTo (P : Program) (fv : D) (ds : List D) (H : Hp) (R : D → Hp → Prop) : Prop :=
  match fv with
  | .fn f caps => FnTo P f (ds ++ caps) H R
  | .yield b => YTo P b ds H R
  | _ => False

theorem ValTo.call {fo : Operand} {args : Array Operand} {at_ : Array TypeId} {fv : D} {ds : List D} {R : D → Hp → Prop} (ho : o.op = .call { callee := .value fo, args, argTypes := at_ }) (hf : F.eval fo = some fv) (ha : evals F args.toList = some ds)
    (h : ValTo P fv ds H R) (hH : HRel w g H) (hF : FRel w g F tm) : ∃ nx, (execOp (evalT tm) o).run P w = .ok nx w ∧
      CallTo P nx w fun v w' => ∃ d H' g', R d H' ∧ Ev H.length w g (Lof g H) w' g' (Lof g' H') ∧ HRel w' g' H' ∧ H.length ≤ H'.length ∧ Rep w' g' d v := by
  have hargs := evals_rep hF _ _ ha
  have hfr := evalT_of hF hf
  cases fv with
  | fn f caps =>
    obtain ⟨he, hc⟩ := h
    obtain ⟨vs, hv, hn, hrc⟩ : ∃ vs : Array Value, evalT tm fo = .func (.func f) #[] vs ∧ vs.size = caps.length ∧ ∀ (i : Nat) (d : D) (v : Value), caps[i]? = some d → vs[i]? = some v → Rep w g d v := by
      generalize evalT tm fo = y at hfr
      cases hfr with
      | fn hn h => exact ⟨_, rfl, hn, h⟩
    have hall : RepL w g (ds ++ caps) ((args.toList.map (evalT tm)) ++ vs.toList) := by
      refine ⟨by have := hargs.1; simp at this; simp [hn, this], fun i d v hd hv => ?_⟩
      rw [List.getElem?_append] at hd hv
      rw [hargs.1] at hv
      split at hd
      · rename_i hi; rw [if_pos hi] at hv; exact hargs.2 i d v hd hv
      · rename_i hi; rw [if_neg hi] at hv; exact hrc _ d v hd (by simpa using hv)
    refine ⟨.enter f ((args.toList.map (evalT tm)) ++ vs.toList).toArray, ?_, .inl ⟨f, _, rfl, (hc w g _ hH hall).mono fun e w' ⟨v, d, H', g', e1, r⟩ => ⟨v, e1, d, H', g', r⟩⟩⟩
    rw [execOp]
    simp only [ho, resolve, hv, Deferred.ofValue, Sem.run_bind, Sem.run_pure, Result.andThen_ok, invoke]
    rw [he]
    congr 2
    apply Array.ext'
    simp
  | yield b =>
    obtain ⟨k, nx, hρ, hy, hc⟩ := h w g _ hH hargs
    obtain ⟨hv⟩ : evalT tm fo = .func (.yield k) #[] #[] ∧ True := by
      generalize evalT tm fo = y at hfr
      cases hfr with
      | yield h => rw [hρ] at h; cases h; exact ⟨rfl, trivial⟩
    refine ⟨nx, ?_, hc⟩
    rw [execOp]
    simp only [ho, resolve, hv, Deferred.ofValue, Sem.run_bind, Sem.run_pure, Result.andThen_ok, invoke]
    rw [← hy]
    congr 1
    congr 1
    apply Array.ext'
    simp
  | _ => exact h.elim

theorem noDefer_value {fo : Operand} {args : Array Operand} {at_ : Array TypeId} (ho : o.op = .call { callee := .value fo, args, argTypes := at_ }) : ∀ c, o.op ≠ .defer c := by
  intro c h; rw [ho] at h; cases h

theorem HStep.noDefer {nx : Nat} {d : D} {rd : List Nat} {wr : List (Nat × Option Blk)} (h : HStep P F H nx o d rd wr) : ∀ c, o.op ≠ .defer c := by
  intro c hc
  cases h with
  | pure h _ => rw [hc] at h; simp [vop] at h
  | pickT ho | pickF ho | loadS ho | loadSA ho | alloc ho | box ho | make ho | load ho | loadA ho | store ho | sliceArr ho | appendNew ho | appendSame ho | appendMv ho | appendIn ho | copy ho | clear ho | clear0 ho => rw [hc] at ho; cases ho

/-- A region carried out in the order of its text, from the operations 'r' on. -/
def SeqK (P : Program) (n N : Nat) (all : Array Oper) (r : List Oper) (F : Fr) (H : Hp) (K : Fr → Hp → Prop) : Prop :=
  ∀ (i : Nat), all.toList.drop i = r → ∀ (w : World) (g : Gh) (tm : Array Value), HRel w g H → FRel w g F tm → tm.size = n → N ≤ H.length →
    OpsTo P all (List.range' i r.length) tm w fun tm' w' => ∃ F' H' g', K F' H' ∧ Ev N w g (Lof g H) w' g' (Lof g' H') ∧ HRel w' g' H' ∧ N ≤ H'.length ∧ FRel w' g' F' tm' ∧ tm'.size = n

theorem OpsTo.mono {sched : List Nat} {R R' : Array Value → World → Prop} (h : OpsTo P all sched tm w R) (hr : ∀ tm w, R tm w → R' tm w) : OpsTo P all sched tm w R' :=
  fun b df k cs => let ⟨tm', w', r, s⟩ := h b df k cs; ⟨tm', w', hr _ _ r, s⟩

variable {r : List Oper} {K : Fr → Hp → Prop} {Q : Post}

theorem W.region_seq {id : Nat} (h : SeqK P n N all all.toList F H (Q .normal)) : W P n N (.region id all false) Q F H := by
  intro w g tm df hH hF hs hl
  have h1 := h 0 (by simp) w g tm hH hF hs hl
  rw [Array.length_toList, ← List.range_eq_range'] at h1
  exact .region (h1.mono fun tm' w' ⟨F', H', g', q, ev, hr, hl', hf, hs'⟩ => ⟨F', H', g', q, .same_df ev hr hl', hf, hs'⟩)

theorem SeqK.nil (h : K F H) : SeqK P n N all [] F H K :=
  fun _ _ _ g _ hH hF hs hl => .nil ⟨F, H, g, h, .refl _ _ _ _, hH, hl, hF, hs⟩

theorem drop_cons {l r : List Oper} {i : Nat} (h : l.drop i = o :: r) : l[i]? = some o ∧ l.drop (i + 1) = r := by
  have h1 : l[i]? = some o := by
    have : (l.drop i)[0]? = some o := by rw [h]; rfl
    rwa [List.getElem?_drop, Nat.add_zero] at this
  refine ⟨h1, ?_⟩
  rw [← List.drop_drop, h]
  rfl

theorem SeqK.skip (hw : Wanted all.toList F o false) (hd : dstOk n o) (k : SeqK P n N all r (putF F o.dst (.tup [])) H K) : SeqK P n N all (o :: r) F H K := by
  intro i hi w g tm hH hF hs hl
  obtain ⟨ho, hi'⟩ := drop_cons hi
  obtain ⟨hF', hs'⟩ := put_rel hF hs hd (d := .tup []) (v := undef) (.tup rfl (by simp))
  simp only [List.length_cons, List.range'_succ]
  exact .skip (by simpa using ho) (hw.run hF) (k (i + 1) hi' w g _ hH hF' hs' hl)

theorem SeqK.step {d : D} {rd : List Nat} {wr : List (Nat × Option Blk)} (hw : Wanted all.toList F o true) (h : HStep P F H H.length o d rd wr) (hd : dstOk n o) (hlen : H.length ≤ (applyW H wr).length) (k : SeqK P n N all r (putF F o.dst d) (applyW H wr) K) : SeqK P n N all (o :: r) F H K := by
  intro i hi w g tm hH hF hs hl
  obtain ⟨ho, hi'⟩ := drop_cons hi
  have ho' : all[i]? = some o := by simpa using ho
  obtain ⟨v, w', g', hrun, hdid, hrep⟩ := h.sound (N := N) hH hF (hH.dom _ (Nat.le_refl _)) hl
  obtain ⟨hF', hs'⟩ := put_rel (hF.keeps hdid.kp) hs hd hrep
  have k' := (k (i + 1) hi' w' g' _ hdid.hrel hF' hs' (by omega)).mono (R' := fun tm' w2 => ∃ F' H' g2, K F' H' ∧ Ev N w g (Lof g H) w2 g2 (Lof g2 H') ∧ HRel w2 g2 H' ∧ N ≤ H'.length ∧ FRel w2 g2 F' tm' ∧ tm'.size = n)
    fun tm' w2 ⟨F', H', g2, q, ev, rest⟩ => ⟨F', H', g2, q, hdid.ev.trans ev, rest⟩
  simp only [List.length_cons, List.range'_succ]
  rcases hrun with hrun | ⟨hrun, rfl⟩
  · exact .value ho' (hw.run hF) h.noDefer hrun k'
  · exact .unit ho' (hw.run hF) h.noDefer hrun k'

theorem SeqK.call {fo : Operand} {args : Array Operand} {at_ : Array TypeId} {fv : D} {ds : List D} {R : D → Hp → Prop} (hw : Wanted all.toList F o true) (ho : o.op = .call { callee := .value fo, args, argTypes := at_ }) (hf : F.eval fo = some fv) (ha : evals F args.toList = some ds)
    (h : ValTo P fv ds H R) (hd : dstOk n o) (k : ∀ d H', R d H' → SeqK P n N all r (putF F o.dst d) H' K) : SeqK P n N all (o :: r) F H K := by
  intro i hi w g tm hH hF hs hl
  obtain ⟨hoi, hi'⟩ := drop_cons hi
  have ho' : all[i]? = some o := by simpa using hoi
  obtain ⟨nx, hrun, hcall⟩ := h.call ho hf ha hH hF
  simp only [List.length_cons, List.range'_succ]
  refine .call ho' (hw.run hF) (noDefer_value ho) hrun ?_
  have step : ∀ v w', (∃ d H' g', R d H' ∧ Ev H.length w g (Lof g H) w' g' (Lof g' H') ∧ HRel w' g' H' ∧ H.length ≤ H'.length ∧ Rep w' g' d v) →
      OpsTo P all (List.range' (i + 1) r.length) (putV tm o.dst v) w' fun tm' w2 => ∃ F' H' g2, K F' H' ∧ Ev N w g (Lof g H) w2 g2 (Lof g2 H') ∧ HRel w2 g2 H' ∧ N ≤ H'.length ∧ FRel w2 g2 F' tm' ∧ tm'.size = n := by
    rintro v w' ⟨d, H', g', hR, ev, hH', hl', hrep⟩
    have kp := ev.keeps hH (Nat.le_refl _)
    obtain ⟨hF', hs'⟩ := put_rel (hF.keeps kp) hs hd hrep
    exact (k d H' hR (i + 1) hi' w' g' _ hH' hF' hs' (by omega)).mono fun tm' w2 ⟨F', H2, g2, q, ev2, rest⟩ => ⟨F', H2, g2, q, (ev.le hl).trans ev2, rest⟩
  rcases hcall with ⟨f, a, rfl, hc⟩ | ⟨l, f, tmps, assign, body, rfl, hc⟩
  · exact .inl ⟨f, a, rfl, hc.mono fun e w' ⟨v, e1, r⟩ => ⟨v, e1, step v w' r⟩⟩
  · exact .inr ⟨l, f, tmps, assign, body, rfl, fun c cs => let ⟨v, w', r, s⟩ := hc c cs; ⟨v, w', step v w' r, s⟩⟩

end
end Go.V
