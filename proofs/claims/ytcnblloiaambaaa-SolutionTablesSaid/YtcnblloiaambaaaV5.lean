/- The logic V, part 5: functions: from a body's judgement to a call's, and what calls give their callers. -/
import Derived.Test.YtcnblloiaambaaaV4
import Derived.Laws.AppendOwn
import Derived.Laws.MakeOwn
import Derived.Laws.Slices
namespace Go.V

def argsFr : Nat → List D → Fr
  | _, [] => []
  | i, d :: r => (i, d) :: argsFr (i + 1) r

def resL (P : Program) (F : Fr) (H : Hp) : List ResultVar → Option (List D)
  | [] => some []
  | .tmp t :: r => match F.get t, resL P F H r with
    | some d, some ds => some (d :: ds)
    | _, _ => none
  | .cell a t :: r => match F.get a, P.underlying t, tySize P t, resL P F H r with
    | some (.ptr b off), some u, some s, some ds => match H[b]? with
      | some (some (.cells cs)) => bif isAggB u then match takeR cs off s with
          | some x => some (.agg x :: ds)
          | none => none
        else match cs[off]? with
          | some d => some (d :: ds)
          | none => none
      | _ => none
    | _, _, _, _ => none

def resD (P : Program) (rs : List ResultVar) (F : Fr) (H : Hp) : Option D := match resL P F H rs with
  | some [d] => some d
  | some ds => some (.tup ds)
  | none => none

def retQ (P : Program) (fn : Func) (R : D → Hp → Prop) : Post := fun e F H =>
  match e with
  | .exit _ => False
  | _ => ∃ d, resD P fn.results.toList F H = some d ∧ R d H

theorem takeR_spec : ∀ (cs : List D) (o n : Nat) (r : List D), takeR cs o n = some r → r.length = n ∧ ∀ i, i < n → ∃ d, cs[o + i]? = some d ∧ r[i]? = some d
  | cs, 0, 0, r, h => by
    cases cs <;> (simp only [takeR, Option.some.injEq] at h; subst h; exact ⟨rfl, fun i hi => absurd hi (Nat.not_lt_zero i)⟩)
  | [], 0, n + 1, r, h => by simp [takeR] at h
  | c :: cs, 0, n + 1, r, h => by
    simp only [takeR] at h
    split at h
    · rename_i r' hr
      cases h
      obtain ⟨hl, hi⟩ := takeR_spec cs 0 n r' hr
      refine ⟨by simp [hl], fun i hi' => ?_⟩
      cases i with
      | zero => exact ⟨c, by simp, by simp⟩
      | succ i =>
        obtain ⟨d, h1, h2⟩ := hi i (by omega)
        refine ⟨d, ?_, by simpa using h2⟩
        rw [show 0 + (i + 1) = (0 + i) + 1 by omega]
        simpa using h1
    · cases h
  | [], o + 1, n, r, h => by simp [takeR] at h
  | c :: cs, o + 1, n, r, h => by
    simp only [takeR] at h
    obtain ⟨hl, hi⟩ := takeR_spec cs o n r h
    refine ⟨hl, fun i hi' => ?_⟩
    obtain ⟨d, h1, h2⟩ := hi i hi'
    refine ⟨d, ?_, h2⟩
    rw [show o + 1 + i = (o + i) + 1 by omega]
    simpa using h1

theorem isAgg_run (P : Program) (w : World) {t : TypeId} {u : TypeDesc} (hu : P.underlying t = some u) : (isAgg t).run P w = .ok (isAggB u) w := by
  simp only [isAgg, underlying, Sem.run_bind, run_program, Result.andThen_ok, hu]
  cases u <;> rfl

theorem tySize_info {P : Program} {t : TypeId} {s : Nat} (h : tySize P t = some s) : ∃ i, P.info? t = some i ∧ i.size = s := by
  unfold tySize at h
  split at h
  · rename_i i hi; exact ⟨i, hi, by simpa using h⟩
  · cases h

theorem sizeOf_run (P : Program) (w : World) {t : TypeId} {s : Nat} (h : tySize P t = some s) : (sizeOf t).run P w = .ok s w := by
  obtain ⟨i, hi, rfl⟩ := tySize_info h
  simp [sizeOf, typeInfo, hi]

theorem add_none (k base n : Nat) : (⟨k, base, none⟩ : Addr).add n = ⟨k, base + n, none⟩ := by unfold Addr.add; split <;> simp_all

/-- A value read out of cells: one cell, or an aggregate. -/
theorem loadVar_agg (P : Program) (w : World) {t : TypeId} {u : TypeDesc} {s k base : Nat} (hu : P.underlying t = some u) (ha : isAggB u = true) (hs : tySize P t = some s)
    (vs : List Value) (hl : vs.length = s) (hc : ∀ j v, vs[j]? = some v → w.cell? ⟨k, base + j, none⟩ = some v) :
    (loadVar t ⟨k, base, none⟩).run P w = .ok (.agg vs.toArray) w := by
  have := run_loadCells_list (P := P) (w := w) ⟨k, base, none⟩ vs (fun j v hj => by rw [add_none]; exact hc j v hj)
  simp only [loadVar, Sem.run_bind, isAgg_run P w hu, ha, sizeOf_run P w hs, Result.andThen_ok, if_true]
  rw [← hl]
  simp [this]

theorem loadVar_one (P : Program) (w : World) {t : TypeId} {u : TypeDesc} {k base : Nat} (hu : P.underlying t = some u) (ha : isAggB u = false)
    {v : Value} (hc : w.cell? ⟨k, base, none⟩ = some v) : (loadVar t ⟨k, base, none⟩).run P w = .ok v w := by
  simp [loadVar, isAgg_run P w hu, ha, hc]

section
variable {P : Program} {w : World} {g : Gh} {H : Hp} {F : Fr} {tm : Array Value}

/-- Reading from a live block. -/
theorem load_live (hH : HRel w g H) {b off : Nat} {cs : List D} (hb : H[b]? = some (some (.cells cs))) {k base : Nat} (hρ : g.ρ b = some (k, base)) {t : TypeId} {u : TypeDesc} {s : Nat} (hu : P.underlying t = some u) (hs : tySize P t = some s) :
    (isAggB u = true → ∀ r, takeR cs off s = some r → ∃ v, (loadVar t ⟨k, base + off, none⟩).run P w = .ok v w ∧ Rep w g (.agg r) v) ∧
    (isAggB u = false → ∀ d, cs[off]? = some d → ∃ v, (loadVar t ⟨k, base + off, none⟩).run P w = .ok v w ∧ Rep w g d v) := by
  obtain ⟨k', base', c, e, hρ', hk, hsz, hone, hcell⟩ := hH.blk b cs hb
  rw [hρ] at hρ'
  obtain ⟨rfl, rfl⟩ : k = k' ∧ base = base' := by simpa using hρ'
  constructor
  · intro ha r hr
    obtain ⟨hl, hi⟩ := takeR_spec cs off s r hr
    have hv : ∀ i, i < s → ∃ v d, c[base + off + i]? = some v ∧ r[i]? = some d ∧ cs[off + i]? = some d ∧ Rep w g d v := by
      intro i hi'
      obtain ⟨d, h1, h2⟩ := hi i hi'
      obtain ⟨v, h3, h4⟩ := hcell (off + i) d h1
      exact ⟨v, d, by rw [Nat.add_assoc]; exact h3, h2, h1, h4⟩
    refine ⟨.agg ((List.range s).map fun i => (c[base + off + i]?).getD default).toArray, loadVar_agg P w hu ha hs _ (by simp) ?_, ?_⟩
    · intro j v hj
      have hj0 := hj
      rw [List.getElem?_map, List.getElem?_range] at hj
      · simp only [Option.map_some, Option.some.injEq] at hj
        subst hj
        have hjs : j < s := by
          rcases Nat.lt_or_ge j s with h | h
          · exact h
          · rw [List.getElem?_map, List.getElem?_eq_none (by simpa using h)] at hj0; cases hj0
        obtain ⟨v, d, h1, _⟩ := hv j hjs
        simp [World.cell?, hk, h1]
      · rcases Nat.lt_or_ge j s with h | h
        · exact h
        · rw [List.getElem?_map, List.getElem?_eq_none (by simpa using h)] at hj0; cases hj0
    · refine .agg (by simp [hl]) (fun d hd => ?_) ?_
      · obtain ⟨i, hi', rfl⟩ := List.getElem_of_mem hd
        obtain ⟨_, d, _, h2, h3, _⟩ := hv i (by omega)
        have : r[i] = d := by rw [List.getElem?_eq_getElem hi'] at h2; simpa using h2
        rw [this]
        exact hone d (List.mem_of_getElem? h3)
      · intro i d v hd hv'
        have his : i < s := by
          rw [← hl]
          exact (List.getElem?_eq_some_iff.1 hd).1
        obtain ⟨v', d', h1, h2, _, h4⟩ := hv i his
        rw [hd] at h2
        cases h2
        simp only [List.getElem?_toArray, List.getElem?_map, List.getElem?_range his, Option.map_some, Option.some.injEq, h1, Option.getD_some] at hv'
        subst hv'
        exact h4
  · intro ha d hd
    obtain ⟨v, h3, h4⟩ := hcell off d hd
    exact ⟨v, loadVar_one P w hu ha (by simp [World.cell?, hk, h3]), h4⟩

def resV (tm : Array Value) : ResultVar → Sem Value
  | .tmp t => pure (tm.getD t undef)
  | .cell a t => do loadVar t (← asAddr (tm.getD a undef))

theorem results_eq (fn : Func) (tm : Array Value) : results fn tm = (do
    let vs ← fn.results.mapM (resV tm)
    pure (if h : vs.size = 1 then vs[0] else .tuple vs)) := by
  unfold results
  congr 1

theorem resL_run (hH : HRel w g H) (hF : FRel w g F tm) : ∀ (rs : List ResultVar) (ds : List D), resL P F H rs = some ds →
    ∃ vs : List Value, (rs.mapM (resV tm)).run P w = .ok vs w ∧ RepL w g ds vs
  | [], ds, h => by
    simp only [resL, Option.some.injEq] at h
    subst h
    exact ⟨[], rfl, rfl, by simp⟩
  | .tmp t :: r, ds, h => by
    simp only [resL] at h
    split at h
    · rename_i d ds' hd hds
      cases h
      obtain ⟨vs, hr, hl, hrep⟩ := resL_run hH hF r ds' hds
      obtain ⟨v, hv, hrv⟩ := hF t d hd
      refine ⟨v :: vs, ?_, by simp [hl], ?_⟩
      · simp [resV, hr, Array.getD_eq_getD_getElem?, hv]
      · intro i x y hx hy
        cases i with
        | zero => simp only [List.getElem?_cons_zero, Option.some.injEq] at hx hy; subst hx; subst hy; exact hrv
        | succ i => exact hrep i x y (by simpa using hx) (by simpa using hy)
    · cases h
  | .cell a t :: r, ds, h => by
    simp only [resL] at h
    split at h
    · rename_i b off u s ds' ha hu hs hds
      obtain ⟨vs, hr, hl, hrep⟩ := resL_run hH hF r ds' hds
      obtain ⟨v, hv, hrv⟩ := hF a _ ha
      cases hrv with
      | @ptr _ _ k base hρ =>
        have key : ∀ d, (∃ v, (loadVar t ⟨k, base + off, none⟩).run P w = .ok v w ∧ Rep w g d v) → ∃ vs : List Value,
            ((ResultVar.cell a t :: r).mapM (resV tm)).run P w = .ok vs w ∧ RepL w g (d :: ds') vs := by
          rintro d ⟨x, hx, hrx⟩
          refine ⟨x :: vs, ?_, by simp [hl], ?_⟩
          · simp [resV, Array.getD_eq_getD_getElem?, hv, asAddr, hr, hx]
          · intro i y z hy hz
            cases i with
            | zero => simp only [List.getElem?_cons_zero, Option.some.injEq] at hy hz; subst hy; subst hz; exact hrx
            | succ i => exact hrep i y z (by simpa using hy) (by simpa using hz)
        split at h
        · rename_i cs hb
          have ld := load_live (P := P) hH hb hρ (off := off) hu hs
          cases hagg : isAggB u with
          | true =>
            rw [hagg] at h
            simp only [cond_true] at h
            split at h
            · rename_i x hx
              cases h
              exact key _ (ld.1 hagg _ hx)
            · cases h
          | false =>
            rw [hagg] at h
            simp only [cond_false] at h
            split at h
            · rename_i d hd
              cases h
              exact key _ (ld.2 hagg _ hd)
            · cases h
        · cases h
    · cases h

theorem results_run (hH : HRel w g H) (hF : FRel w g F tm) {fn : Func} {d : D} (h : resD P fn.results.toList F H = some d) :
    ∃ v, (results fn tm).run P w = .ok v w ∧ Rep w g d v := by
  unfold resD at h
  have hm : fn.results = fn.results.toList.toArray := by simp
  cases hr : resL P F H fn.results.toList with
  | none => rw [hr] at h; cases h
  | some ds =>
    rw [hr] at h
    obtain ⟨vs, hrun, hl, hrep⟩ := resL_run hH hF _ ds hr
    have hrun' : (fn.results.mapM (resV tm)).run P w = .ok vs.toArray w := by
      rw [hm, List.mapM_toArray]
      simp [hrun]
    rw [results_eq, Sem.run_bind, hrun', Result.andThen_ok]
    match ds, vs, hl with
    | [x], [v], _ =>
      simp only [Option.some.injEq] at h
      subst h
      exact ⟨v, by simp [pure], hrep 0 x v rfl rfl⟩
    | [], [], _ =>
      simp only [Option.some.injEq] at h
      subst h
      exact ⟨.tuple #[], by simp [pure], .tup rfl (by simp)⟩
    | x :: y :: z, vs, hl =>
      simp only [Option.some.injEq] at h
      subst h
      refine ⟨.tuple vs.toArray, ?_, .tup (by simpa using hl) (fun i d v hd hv => hrep i d v hd (by simpa using hv))⟩
      simp [pure]
      intro h1
      simp [hl] at h1
end

/-- The frame at its return. -/
def rets (b : Frame) (tm : Array Value) (df : List Deferred) (todo : List Item) : Frame := { on b tm df todo with mode := .returning }

theorem st_ret {P : Program} {b : Frame} {tm : Array Value} {df : List Deferred} {k : List Item} {cs : List Frame} {w : World} (hb : b.roundOf = none) :
    step P (lone (on b tm df (.code .ret :: k)) cs w) = .next (lone (rets b tm df (.code .ret :: k)) cs w) :=
  step_lone_go (by simp [stepG, stepG.exec, on, rets, hb])

theorem st_end {P : Program} {b : Frame} {tm : Array Value} {df : List Deferred} {cs : List Frame} {w : World} (hb : b.roundOf = none) :
    step P (lone (on b tm df []) cs w) = .next (lone (rets b tm df []) cs w) :=
  step_lone_go (by simp [stepG, stepG.exec, on, rets, hb])

def setObjW (w : World) (r : Nat) (o : Obj) : World := { w with heap := w.heap.setIfInBounds r o }

theorem st_unwind {P : Program} {b : Frame} {tm : Array Value} {df : List Deferred} {todo : List Item} {cs : List Frame} {w : World} {r : Nat} {ds : List Deferred} (hr : w.heap[r]? = some (.deferred (some ds))) :
    step P (lone (rets b tm (markOf r :: df) todo) cs w) = .next (lone (rets b tm (ds ++ df) todo) cs (setObjW w r (.deferred none))) :=
  step_lone_go (by
    have hrun : (Instr.takeDeferred r).run P w = .ok ds (setObjW w r (.deferred none)) := by
      simp [Instr.takeDeferred, getObj, setObj, Sem.run, hr, setObjW]
    simp [stepG, rets, on, unwind, markOf, hrun])

theorem unwind_all {P : Program} {b : Frame} {tm : Array Value} {todo : List Item} {cs : List Frame} : ∀ (rs : List Nat) (w : World) {B : Nat}, Marks B w rs →
    ∃ w', Steps P (lone (rets b tm (rs.map markOf) todo) cs w) (lone (rets b tm [] todo) cs w') ∧ w'.os = w.os ∧ w'.tape = w.tape ∧ w'.output = w.output ∧ w'.heap.size = w.heap.size ∧
      ∀ k, k ∉ rs → w'.heap[k]? = w.heap[k]?
  | [], w, _, _ => ⟨w, .refl _ _, rfl, rfl, rfl, rfl, fun _ _ => rfl⟩
  | r :: rs, w, B, m => by
    have hr := (m.ge r (by simp)).2
    have hd := List.pairwise_cons.1 m.desc
    have m' : Marks B (setObjW w r (.deferred none)) rs := ⟨hd.2, fun x hx => ⟨(m.ge x (by simp [hx])).1, by
      have hne : r ≠ x := by have := hd.1 x hx; omega
      simp only [setObjW, Array.getElem?_setIfInBounds_ne hne]
      exact (m.ge x (by simp [hx])).2⟩⟩
    obtain ⟨w', s, a1, a2, a3, a4, a5⟩ := unwind_all rs _ m'
    refine ⟨w', .head (st_unwind hr) s, a1, a2, a3, by rw [a4]; simp [setObjW], fun k hk => ?_⟩
    rw [a5 k (fun h => hk (by simp [h]))]
    have hne : r ≠ k := fun h => hk (by simp [h])
    simp only [setObjW, Array.getElem?_setIfInBounds_ne hne]

theorem argsFr_rel {w : World} {g : Gh} : ∀ (args : List D) (i : Nat) (vs : List Value) (tm : Array Value), vs.length = args.length →
    (∀ (j : Nat) (d : D) (v : Value), args[j]? = some d → vs[j]? = some v → Rep w g d v) → (∀ j v, vs[j]? = some v → tm[i + j]? = some v) → FRel w g (argsFr i args) tm
  | [], _, _, _, _, _, _ => fun t d h => by cases h
  | a :: args, i, [], tm, hl, _, _ => by simp at hl
  | a :: args, i, v :: vs, tm, hl, hr, ht => by
    intro t d hd
    simp only [argsFr, Fr.get] at hd
    cases hb : Nat.beq i t with
    | true =>
      rw [hb] at hd
      simp only [cond_true, Option.some.injEq] at hd
      subst hd
      have : i = t := Nat.eq_of_beq_eq_true hb
      subst this
      exact ⟨v, ht 0 v rfl, hr 0 a v rfl rfl⟩
    | false =>
      rw [hb] at hd
      exact argsFr_rel args (i + 1) vs tm (by simpa using hl) (fun j d v h1 h2 => hr (j + 1) d v (by simpa using h1) (by simpa using h2))
        (fun j v h => by rw [show i + 1 + j = i + (j + 1) by omega]; exact ht (j + 1) v (by simpa using h)) t d hd

theorem FnTo.of_W {P : Program} {f : FuncId} {fn : Func} {c : Code} {args : List D} {H : Hp} {R : D → Hp → Prop} (he : Enters P f) (hf : P.funcs[f]? = some fn) (hb : fn.body = some c)
    (hn : args.length ≤ fn.ntmps) (h : W P fn.ntmps H.length c (retQ P fn R) (argsFr 0 args) H) : FnTo P f args H R := by
  refine ⟨he, fun w g vs hH hA cs => ?_⟩
  let b : Frame := { (default : Frame) with fn := f, kind := .normal }
  have hro : b.roundOf = none := rfl
  have hvs : vs.length = args.length := hA.1
  have henter : Frame.enter P f vs.toArray .normal = on b (vs.toArray ++ Array.replicate (fn.ntmps - vs.toArray.size) undef) [] [.code c] := by
    simp [Frame.enter, on, hf, hb, b]
    rfl
  have hF : FRel w g (argsFr 0 args) (vs.toArray ++ Array.replicate (fn.ntmps - vs.toArray.size) undef) :=
    argsFr_rel args 0 vs _ hvs hA.2 (fun j v hj => by
      have hlt : j < vs.length := (List.getElem?_eq_some_iff.1 hj).1
      rw [Nat.zero_add, Array.getElem?_append_left (by simpa using hlt)]
      simpa using hj)
  obtain ⟨e, tm1, df1, w1, ⟨F1, H1, g1, hq, nx, fr, sz⟩, hreach⟩ := h w g _ [] hH hF (by simp; omega) (Nat.le_refl _) b [] cs
  rw [← henter] at hreach
  obtain ⟨rs, hdf, hm⟩ := nx.marks
  rw [List.append_nil] at hdf
  have fin : ∀ todo, Steps P (lone (Frame.enter P f vs.toArray .normal) cs w) (lone (rets b tm1 df1 todo) cs w1) → (∃ d, resD P fn.results.toList F1 H1 = some d ∧ R d H1) →
      ∃ e w' fr, (∃ v d H' g', e = Ending.returned v ∧ R d H' ∧ Ev H.length w g (Lof g H) w' g' (Lof g' H') ∧ HRel w' g' H' ∧ H.length ≤ H'.length ∧ Rep w' g' d v) ∧
        Comes P (lone (Frame.enter P f vs.toArray .normal) cs w) (lone fr cs w') e ∧ fr.fn = f ∧ fr.leaving P w' e := by
    rintro todo hs ⟨d, hd, hR⟩
    rw [hdf] at hs
    obtain ⟨w2, s2, o1, o2, o3, o4, o5⟩ := unwind_all (P := P) (b := b) (tm := tm1) (todo := todo) (cs := cs) rs w1 hm
    have hnc : ∀ k, (∃ x ∈ rs, x = k) → ∃ x, w1.heap[k]? = some (.deferred x) := fun k ⟨x, hx, e⟩ => ⟨_, e ▸ (hm.ge x hx).2⟩
    have hcell : ∀ k n, cellsN w1 k = some n → w2.heap[k]? = w1.heap[k]? := fun k n hk => o5 k (fun hx => by
      obtain ⟨x, hx⟩ := hnc k ⟨k, hx, rfl⟩
      unfold cellsN at hk; rw [hx] at hk; cases hk)
    have kp : Keeps w1 g1 w2 g1 := ⟨fun k hk => let ⟨n, hn⟩ := nx.hrel.scell k hk; hcell k n hn, fun k n hk => by
      have := hcell k n hk
      unfold cellsN at hk ⊢; rw [this]; exact hk, fun _ h => h, fun _ _ h => h⟩
    have hH2 : HRel w2 g1 H1 := by
      refine ⟨fun k hk => let ⟨n, hn⟩ := nx.hrel.scell k hk; ⟨n, kp.shape k n hn⟩, nx.hrel.sL, nx.hrel.dom, ?_, ?_, nx.hrel.inj⟩
      · intro b cs hb
        obtain ⟨k, base, c, e, h1, h2, h3, h4, h5⟩ := nx.hrel.blk b cs hb
        refine ⟨k, base, c, e, h1, ?_, h3, h4, fun i d hd => let ⟨v, a, b⟩ := h5 i d hd; ⟨v, a, b.keeps kp⟩⟩
        rw [hcell k c.size (by simp [cellsN, h2])]; exact h2
      · intro b r F hb
        obtain ⟨k, h1, h2, h3⟩ := nx.hrel.loop b r F hb
        refine ⟨k, h1, ?_, h3.keeps kp⟩
        rw [o5 k (fun hx => by obtain ⟨x, hx⟩ := hnc k ⟨k, hx, rfl⟩; rw [hx] at h2; cases h2)]; exact h2
    obtain ⟨v, hrun, hrep⟩ := results_run hH2 (fr.keeps kp) hd
    refine ⟨.returned v, w2, rets b tm1 [] todo, ⟨v, d, H1, g1, rfl, hR, ?_, hH2, nx.len, hrep⟩, Steps.trans hs s2, rfl, rfl, rfl, rfl, fn, hf, hrun⟩
    refine ⟨o1.trans nx.ev.os, o2.trans nx.ev.tape, o3.trans nx.ev.output, by rw [o4]; exact nx.ev.size, fun k hk hn => ?_, fun k n hk => kp.shape k n (nx.ev.shape k n hk), nx.ev.s1, nx.ev.s2, nx.ev.l2, nx.ev.ρ⟩
    rw [o5 k (fun hx => by have := (hm.ge k hx).1; omega)]
    exact nx.ev.keep k hk hn
  cases e with
  | normal => exact fin [] (Steps.trans hreach (.one (st_end hro))) hq
  | exit i => exact hq.elim
  | ret =>
    obtain ⟨k', hk'⟩ := hreach
    exact fin _ (Steps.trans hk' (.one (st_ret hro))) hq

theorem FnTo.mono {P : Program} {f : FuncId} {args : List D} {H : Hp} {R R' : D → Hp → Prop} (h : FnTo P f args H R) (hr : ∀ d H, R d H → R' d H) : FnTo P f args H R' :=
  ⟨h.1, fun w g vs a b => (h.2 w g vs a b).mono fun _ _ ⟨v, d, H', g', e, r, s⟩ => ⟨v, d, H', g', e, hr _ _ r, s⟩⟩

/-- The function computes d from the arguments, whatever lies in the heap, and leaves the heap alone. -/
def PureFn (P : Program) (f : FuncId) (args : List D) (d : D) : Prop := ∀ H, FnTo P f args H fun d' H' => d' = d ∧ H' = H

section
variable {w w' : World} {g g' g1 : Gh} {H H' H1 : Hp}
/-- A caller's heap, over a call that ran beside it. -/
theorem HRel.beside {S' : Nat → Prop} (h : HRel w g H) (hk : ∀ k, k < w.heap.size → w'.heap[k]? = w.heap[k]?) (hs : ∀ k, g.S k → S' k) (hs2 : ∀ k, S' k → g.S k ∨ w.heap.size ≤ k)
    (hc : ∀ k, S' k → ∃ n, cellsN w' k = some n) (hsh : ∀ k n, cellsN w k = some n → cellsN w' k = some n) : HRel w' { S := S', ρ := g.ρ } H := by
  have kp : Keeps w g w' { S := S', ρ := g.ρ } := ⟨fun k hk' => hk k (h.slt k hk'), hsh, hs, fun _ _ h => h⟩
  refine ⟨hc, ?_, h.dom, ?_, ?_, h.inj⟩
  · rintro k hk' ⟨b, x, base, hb, hr⟩
    rcases hs2 k hk' with h1 | h1
    · exact h.sL k h1 ⟨b, x, base, hb, hr⟩
    · have : k < w.heap.size := by
        cases x with
        | cells cs =>
          obtain ⟨k', base', c, e, hρ', hk'', _⟩ := h.blk b cs hb
          simp only at hr
          rw [hr] at hρ'
          obtain ⟨rfl, _⟩ : k = k' ∧ base = base' := by simpa using hρ'
          exact (Array.getElem?_eq_some_iff.1 hk'').1
        | loop r F =>
          obtain ⟨k', hρ', hk'', _⟩ := h.loop b r F hb
          simp only at hr
          rw [hr] at hρ'
          obtain ⟨rfl, _⟩ : k = k' ∧ base = 0 := by simpa using hρ'
          exact (Array.getElem?_eq_some_iff.1 hk'').1
      omega
  · intro b cs hb
    obtain ⟨k, base, c, e, h1, h2, h3, h4, h5⟩ := h.blk b cs hb
    exact ⟨k, base, c, e, h1, by rw [hk k (Array.getElem?_eq_some_iff.1 h2).1]; exact h2, h3, h4, fun i d hd => let ⟨v, a, b⟩ := h5 i d hd; ⟨v, a, b.keeps kp⟩⟩
  · intro b r F hb
    obtain ⟨k, h1, h2, h3⟩ := h.loop b r F hb
    exact ⟨k, h1, by rw [hk k (Array.getElem?_eq_some_iff.1 h2).1]; exact h2, h3.keeps kp⟩

theorem Lof_cells (h : HRel w g H) {k : Nat} (hl : Lof g H k) (hno : ∀ (b : Nat) (r : Loop) (F : Fr), H[b]? ≠ some (some (.loop r F))) : ∃ n, cellsN w k = some n := by
  obtain ⟨b, x, base, hb, hr⟩ := hl
  cases x with
  | cells cs =>
    obtain ⟨k', base', c, e, hρ', hk', _⟩ := h.blk b cs hb
    rw [hr] at hρ'
    obtain ⟨rfl, _⟩ : k = k' ∧ base = base' := by simpa using hρ'
    exact ⟨c.size, by simp [cellsN, hk']⟩
  | loop r F => exact absurd hb (hno b r F)
end

theorem HRel.nil {w : World} {S : Nat → Prop} (h : ∀ k, S k → ∃ n, cellsN w k = some n) : HRel w { S := S, ρ := fun _ => none } [] :=
  { scell := h
    sL := by rintro k _ ⟨b, x, base, hb, _⟩; cases hb
    dom := fun _ _ => rfl
    blk := by intro b cs h; cases h
    loop := by intro b r F h; cases h
    inj := by intro b b' k base base' x x' h; cases h }

/-- Run on an empty heap: the result, let go of all live memory, is what the function gives beside any heap. -/
theorem PureFn.of_nil {P : Program} {f : FuncId} {args : List D} {d : D} (hp : ∀ a ∈ args, Pure a)
    (h : FnTo P f args [] fun d' H' => Frz H' d' d ∧ ∀ (b : Nat) (r : Loop) (F : Fr), H'[b]? ≠ some (some (.loop r F))) : PureFn P f args d := by
  intro H
  refine ⟨h.1, fun w g vs hH hA => ?_⟩
  have hH0 : HRel w { S := g.S, ρ := fun _ => none } [] := HRel.nil hH.scell
  have hA0 : RepL w { S := g.S, ρ := fun _ => none } args vs := ⟨hA.1, fun i d v hd hv => Rep.ofPure (g := g) (g' := { S := g.S, ρ := fun _ => none }) (fun _ h => h) (hA.2 i d v hd hv) (hp d (List.mem_of_getElem? hd))⟩
  refine (h.2 w _ vs hH0 hA0).mono ?_
  rintro e w' ⟨v, d', H', g1, rfl, ⟨hz, hno⟩, ev, hH', _, hrep⟩
  have hL0 : ∀ k, ¬ Lof { S := g.S, ρ := fun _ => none } [] k := by rintro k ⟨b, x, base, hb, _⟩; cases hb
  have hkeep : ∀ k, k < w.heap.size → w'.heap[k]? = w.heap[k]? := fun k hk => ev.keep k hk (hL0 k)
  have hs2 : ∀ k, (g1.S k ∨ Lof g1 H' k) → g.S k ∨ w.heap.size ≤ k := by
    rintro k (h1 | h1)
    · rcases ev.s2 k h1 with h2 | h2 | h2
      · exact .inl h2
      · exact (hL0 k h2).elim
      · exact .inr h2
    · rcases ev.l2 k h1 with h2 | h2
      · exact (hL0 k h2).elim
      · exact .inr h2
  refine ⟨v, d, H, { S := fun k => g1.S k ∨ Lof g1 H' k, ρ := g.ρ }, rfl, ⟨rfl, rfl⟩, ?_, ?_, Nat.le_refl _, ?_⟩
  · exact ⟨ev.os, ev.tape, ev.output, ev.size, fun k hk _ => hkeep k hk, ev.shape, fun k hk => .inl (ev.s1 k hk), fun k hk => (hs2 k hk).imp id .inr, fun k hk => .inl hk, fun _ _ => rfl⟩
  · exact hH.beside hkeep (fun k hk => .inl (ev.s1 k hk)) hs2 (fun k hk => hk.elim (hH'.scell k) (fun h => Lof_cells hH' h hno)) ev.shape
  · exact hrep.frz hH' (fun k hk => hk) hz

/-- A call with live slices as arguments, of a function whose result has no memory in it. -/
theorem FnTo.borrow {P : Program} {f : FuncId} {args args' : List D} {H : Hp} {d : D} (hz : args'.length = args.length ∧ ∀ (i : Nat) (x y : D), args[i]? = some x → args'[i]? = some y → Frz H x y)
    (hno : ∀ (b : Nat) (r : Loop) (F : Fr), H[b]? ≠ some (some (.loop r F))) (hd : d.flat = true) (h : PureFn P f args' d) : FnTo P f args H fun d' H' => d' = d ∧ H' = H := by
  refine ⟨(h []).1, fun w g vs hH hA => ?_⟩
  have hc : ∀ k, g.S k ∨ Lof g H k → ∃ n, cellsN w k = some n := fun k hk => hk.elim (hH.scell k) (fun h => Lof_cells hH h hno)
  have hH0 : HRel w { S := fun k => g.S k ∨ Lof g H k, ρ := fun _ => none } [] := HRel.nil hc
  have hA0 : RepL w { S := fun k => g.S k ∨ Lof g H k, ρ := fun _ => none } args' vs := ⟨hA.1.trans hz.1.symm, fun i d' v hd' hv => by
    have hi : i < args.length := by rw [← hz.1]; exact (List.getElem?_eq_some_iff.1 hd').1
    exact (hA.2 i args[i] v (by simp) hv).frz hH (fun k hk => hk) (hz.2 i args[i] d' (by simp) hd')⟩
  refine ((h []).2 w _ vs hH0 hA0).mono ?_
  rintro e w' ⟨v, d', H', g1, rfl, ⟨rfl, rfl⟩, ev, hH', _, hrep⟩
  have hL0 : ∀ k, ¬ Lof { S := fun k => g.S k ∨ Lof g H k, ρ := fun _ => none } [] k := by rintro k ⟨b, x, base, hb, _⟩; cases hb
  have hkeep : ∀ k, k < w.heap.size → w'.heap[k]? = w.heap[k]? := fun k hk => ev.keep k hk (hL0 k)
  refine ⟨v, d', H, g, rfl, ⟨rfl, rfl⟩, ?_, ?_, Nat.le_refl _, ?_⟩
  · exact ⟨ev.os, ev.tape, ev.output, ev.size, fun k hk _ => hkeep k hk, ev.shape, fun k hk => hk, fun k hk => .inl hk, fun k hk => .inl hk, fun _ _ => rfl⟩
  · exact hH.beside hkeep (fun k hk => hk) (fun k hk => .inl hk) (fun k hk => let ⟨n, hn⟩ := hH.scell k hk; ⟨n, ev.shape k n hn⟩) ev.shape
  · cases d' <;> first | (cases hd; done) | (cases hrep; constructor)
end Go.V
