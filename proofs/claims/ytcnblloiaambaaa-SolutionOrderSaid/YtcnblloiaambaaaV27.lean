/- The logic V, part 27: from what an input reads as to what is told of it. -/
import Derived.Test.YtcnblloiaambaaaV26
import Derived.Deep.Slices
import Derived.ChangeSame
import Derived.Below
namespace Go.V
open Go.Deep Go.ChangeShapes

/-- All that lies in rows is fixed. -/
def g0 (w : World) : Gh := { S := fun k => ∃ n, cellsN w k = some n, ρ := fun _ => none }

theorem g0_rel (w : World) : HRel w (g0 w) [] := HRel.nil fun _ h => h

/-- What the cells of a type read as: the D's of some plain value. -/
def Opens {α : Type} (P : Program) (w : World) (t : TypeId) (enc : α → List D) (p : α → Prop) : Prop :=
  ∀ (H : Type) (en : TypeId × Value → H) (held : Bool) (fuel : Nat) (cs : List Value) (x : DataW H × List MemPlace),
    DataW.trod en P w 0 (fun _ => true) held fuel t cs = some x → ∃ a, p a ∧ RepL w (g0 w) (enc a) cs

theorem RepL.one {w : World} {g : Gh} {d : D} {v : Value} (h : Rep w g d v) : RepL w g [d] [v] :=
  ⟨rfl, fun i e u he hu => by
    cases i with
    | zero => simp at he hu; subst he; subst hu; exact h
    | succ i => simp at he⟩

theorem RepL.app {w : World} {g : Gh} {d e : List D} {v u : List Value} (h : RepL w g d v) (k : RepL w g e u) : RepL w g (d ++ e) (v ++ u) := by
  refine ⟨by simp [h.1, k.1], fun i x y hx hy => ?_⟩
  rw [List.getElem?_append] at hx hy
  rw [h.1] at hy
  split at hx
  · rename_i hi; rw [if_pos hi] at hy; exact h.2 i x y hx hy
  · rename_i hi; rw [if_neg hi] at hy; exact k.2 _ x y hx hy

section
variable {P : Program} {w : World}

theorem Opens.int {t : TypeId} {k : IntKind} (ht : P.underlying t = some (.int k)) : Opens P w t (fun n : Int => [.int k n]) (fun n => (Lit.int k n).wf = true) := by
  intro H en held fuel cs x h
  obtain ⟨n, rfl, _, hw⟩ := DataW.trod_int ht h
  exact ⟨n, hw, .one (.int k n)⟩

theorem Opens.bool {t : TypeId} (ht : P.underlying t = some .bool) : Opens P w t (fun b : Bool => [.bool b]) (fun _ => True) := by
  intro H en held fuel cs x h
  obtain ⟨b, rfl, _⟩ := DataW.trod_bool ht h
  exact ⟨b, trivial, .one (.bool b)⟩

theorem Opens.pair {α β : Type} {t : TypeId} {f0 f1 : Field} {ea : α → List D} {eb : β → List D} {pa : α → Prop} {pb : β → Prop} (ht : P.underlying t = some (.struct #[f0, f1]))
    (o0 : f0.offset = 0) (o1 : f1.offset = P.cellsOf f0.type) (hc : P.cellsOf t = P.cellsOf f0.type + P.cellsOf f1.type) (ha : Opens P w f0.type ea pa) (hb : Opens P w f1.type eb pb) :
    Opens P w t (fun x : α × β => ea x.1 ++ eb x.2) (fun x => pa x.1 ∧ pb x.2) := by
  intro H en held fuel cs x h
  obtain ⟨y0, y1, n, rfl, hl, h0, h1⟩ := trod_struct2 ht h
  obtain ⟨a, ha1, ha2⟩ := ha H en held _ _ _ h0
  obtain ⟨b, hb1, hb2⟩ := hb H en held _ _ _ h1
  refine ⟨(a, b), ⟨ha1, hb1⟩, ?_⟩
  have : cs = (cs.drop f0.offset).take (P.cellsOf f0.type) ++ (cs.drop f1.offset).take (P.cellsOf f1.type) := by
    rw [o0, o1, List.drop_zero, List.take_of_length_le (l := cs.drop _) (by rw [List.length_drop]; omega), List.take_append_drop]
  rw [this]
  exact ha2.app hb2

theorem flatMap_len {α : Type} {f : α → List D} {s : Nat} (hs : ∀ a, (f a).length = s) : ∀ l : List α, (l.flatMap f).length = l.length * s
  | [] => by simp
  | x :: l => by rw [List.flatMap_cons, List.length_append, hs, flatMap_len hs l, List.length_cons, Nat.add_mul]; omega

theorem Opens.slice {α : Type} {t e : TypeId} {s : Nat} {enc : α → List D} {p : α → Prop} (ht : P.underlying t = some (.slice e)) (hc : P.cellsOf e = s) (h0 : 0 < s) (hs : ∀ a, (enc a).length = s) (h1 : ∀ a, ∀ d ∈ enc a, d.one = true) (he : Opens P w e enc p) :
    Opens P w t (fun xs : List α => [encS enc xs]) (fun xs => xs.length ≤ maxLen ∧ ∀ x ∈ xs, p x) := by
  intro H en held fuel cs x h
  rcases open_slice ht h with ⟨rfl, _⟩ | ⟨a, len, cap, m, n, Dd, Pl, rfl, hb, hl, hm, hmm, rfl, hx⟩
  · exact ⟨[], ⟨Nat.zero_le _, fun x h => by cases h⟩, .one (.snapNil _ _)⟩
  have hmc : m = cap := hmm
  subst hmc
  have hlm := hl
  have spot : 0 < m → a = ⟨a.block, a.off, none⟩ := by
    intro hp
    obtain ⟨cs', h2, _⟩ := hx 0 hp
    obtain ⟨_, hcl, hcc⟩ := World.cells?_some h2
    rw [hc] at hcl
    have h3 := hcc 0 (by omega)
    rw [List.getElem?_eq_getElem (by omega)] at h3
    have h4 : (a.add (0 * P.cellsOf e)).add 0 = a := by simp [Addr.add]
    rw [h4] at h3
    unfold World.cell? at h3
    split at h3
    · cases hsp : a.spot with
      | none => obtain ⟨k, off, sp⟩ := a; simp only at hsp; subst hsp; rfl
      | some z => rw [hsp] at h3; simp at h3
    · cases h3
  have each : ∀ i, i < len → ∃ q : α, p q ∧ ∃ cs', w.cells? 0 (a.add (i * s)) s = some cs' ∧ RepL w (g0 w) (enc q) cs' := by
    intro i hi
    obtain ⟨cs', h2, h3⟩ := hx i (by omega)
    obtain ⟨q, hq, hr⟩ := he H en held _ _ _ h3
    rw [hc] at h2
    exact ⟨q, hq, cs', h2, hr⟩
  have lst : ∃ xs : List α, xs.length = len ∧ ∀ i q, xs[i]? = some q → p q ∧ ∃ cs', w.cells? 0 (a.add (i * s)) s = some cs' ∧ RepL w (g0 w) (enc q) cs' := by
    clear hl hm hmm hx hlm h
    induction len with
    | zero => exact ⟨[], rfl, fun i q hq => by simp at hq⟩
    | succ len ih =>
      obtain ⟨xs, hxl, hxs⟩ := ih (fun i hi => each i (by omega))
      obtain ⟨q, hq⟩ := each len (by omega)
      refine ⟨xs ++ [q], by simp [hxl], fun i r hr => ?_⟩
      rw [List.getElem?_append] at hr
      split at hr
      · exact hxs i r hr
      · rename_i hi
        have : i = len := by
          have := lt_of_getElem? hr
          simp at this; omega
        subst this
        rw [hxl, Nat.sub_self] at hr
        simp at hr
        subst hr
        exact hq
  obtain ⟨xs, hxl, hxs⟩ := lst
  refine ⟨xs, ⟨by omega, fun y hy => ?_⟩, .one ?_⟩
  · obtain ⟨i, hi, rfl⟩ := List.getElem_of_mem hy
    exact (hxs i _ (List.getElem?_eq_getElem hi)).1
  · have hfl := flatMap_len hs xs
    rcases Nat.eq_zero_or_pos m with hm0 | hm0
    · subst hm0
      have hl0 : len = 0 := by omega
      subst hl0
      have : xs = [] := List.eq_nil_of_length_eq_zero hxl
      subst this
      exact .snapNil _ _
    · obtain ⟨k, off, sp⟩ := a
      have hsp := spot hm0
      simp only [Addr.mk.injEq, true_and] at hsp
      subst hsp
      subst hxl
      have cell : ∀ i, i < (xs.flatMap enc).length → ∃ d v, (xs.flatMap enc)[i]? = some d ∧ w.cell? ⟨k, off + i, none⟩ = some v ∧ Rep w (g0 w) d v := by
        intro i hi
        rw [hfl] at hi
        have hq : i / s < xs.length := Nat.div_lt_of_lt_mul (by rw [Nat.mul_comm]; exact hi)
        have hr : i % s < s := Nat.mod_lt _ h0
        have hdm : i = i / s * s + i % s := by rw [Nat.mul_comm]; exact (Nat.div_add_mod i s).symm
        obtain ⟨_, cs', h2, h3⟩ := hxs (i / s) xs[i / s] (List.getElem?_eq_getElem hq)
        obtain ⟨_, hcl, hcc⟩ := World.cells?_some h2
        have h4 := hcc (i % s) hr
        rw [add_add, ← hdm, add_none] at h4
        have hel : i % s < (enc xs[i / s]).length := by rw [hs]; exact hr
        refine ⟨(enc xs[i / s])[i % s], cs'[i % s]'(by omega), ?_, ?_, h3.2 (i % s) _ _ (List.getElem?_eq_getElem hel) (List.getElem?_eq_getElem (by omega))⟩
        · rw [flat_get hs hq hr hdm, List.getElem?_eq_getElem hel]
        · rw [h4, List.getElem?_eq_getElem (by omega)]
      refine .snap (fun i => (w.cell? ⟨k, off + i, none⟩).getD default) (fun hne => ?_) (fun d hd => ?_) hl (by simp) (fun i hi => ?_) (fun i d hd => ?_)
      · obtain ⟨d, v, _, h3, _⟩ := cell 0 (List.length_pos_iff.2 hne)
        unfold World.cell? at h3
        split at h3
        · rename_i c _ _ hk
          exact ⟨c.size, by simp only [cellsN]; simp only at hk; rw [hk]⟩
        · cases h3
      · obtain ⟨x, _, hx2⟩ := List.mem_flatMap.1 hd
        exact h1 x d hx2
      · obtain ⟨d, v, _, h3, _⟩ := cell i hi
        simp [h3]
      · obtain ⟨d', v, h2, h3, h4⟩ := cell i (lt_of_getElem? hd)
        rw [hd] at h2; cases h2
        simpa [h3] using h4
theorem RepL.cons {g : Gh} {d : D} {v : Value} {ds : List D} {vs : List Value} (h : RepL w g [d] [v]) (k : RepL w g ds vs) : RepL w g (d :: ds) (v :: vs) := h.app k
theorem RepL.nil {g : Gh} : RepL w g [] [] := ⟨rfl, by simp⟩

/-- A law that gives true of its arguments' values gives true, and leaves what was there. -/
theorem PureFn.calls {f : FuncId} {args : List D} (h : PureFn P f args (.bool true)) {vs : List Value} (hr : RepL w (g0 w) args vs) :
    Calls P f vs.toArray w fun e w' => e = .returned (.bool true) ∧ Go.RowKit.Below w.heap.size w w' := by
  refine ((h []).2 w (g0 w) vs (g0_rel w) hr).mono ?_
  rintro e w' ⟨v, d', H', g1, rfl, ⟨rfl, rfl⟩, ev, _, _, hrep⟩
  have hL : ∀ k, ¬ Lof (g0 w) [] k := by rintro k ⟨b, x, base, hb, _⟩; cases hb
  refine ⟨by cases hrep; rfl, ev.os, ev.tape, ev.output, ev.size, fun k hk => ev.keep k hk (hL k)⟩

end
end Go.V
