/- The logic V, part 4: the judgements for code and functions, and their structural rules. -/
import Derived.Test.YtcnblloiaambaaaV3
namespace Go.V

def markOf (r : Nat) : Deferred := { target := .collected r, args := #[] }

/-- The marks that ranges over functions have left since the heap had B blocks, the youngest first. -/
structure Marks (B : Nat) (w : World) (rs : List Nat) : Prop where
  desc : rs.Pairwise (· > ·)
  ge : ∀ r ∈ rs, B ≤ r ∧ w.heap[r]? = some (.deferred (some []))

structure Nxt (N : Nat) (w : World) (g : Gh) (H : Hp) (df : List Deferred) (w' : World) (g' : Gh) (H' : Hp) (df' : List Deferred) : Prop where
  ev : Ev N w g (Lof g H) w' g' (Lof g' H')
  hrel : HRel w' g' H'
  len : N ≤ H'.length
  marks : ∃ rs, df' = rs.map markOf ++ df ∧ Marks w.heap.size w' rs

section
variable {w w1 w2 w' : World} {g g1 g2 g' : Gh} {H H1 H2 H' : Hp} {df df1 df2 df' : List Deferred} {N M : Nat}

theorem not_Lof_of_deferred (h : HRel w g H) {r : Nat} {x : Option (List Deferred)} (hr : w.heap[r]? = some (.deferred x)) : ¬ Lof g H r := by
  rintro ⟨b, y, base, hb, hρ⟩
  cases y with
  | cells cs =>
    obtain ⟨k, base', c, e, hρ', hk, _⟩ := h.blk b cs hb
    rw [hρ] at hρ'
    simp only [Option.some.injEq, Prod.mk.injEq] at hρ'
    rw [← hρ'.1, hr] at hk
    cases hk
  | loop r' F =>
    obtain ⟨k, hρ', hk, _⟩ := h.loop b r' F hb
    rw [hρ] at hρ'
    simp only [Option.some.injEq, Prod.mk.injEq] at hρ'
    rw [← hρ'.1, hr] at hk
    cases hk

theorem Marks.keep {B : Nat} {rs : List Nat} {L' : Nat → Prop} (m : Marks B w rs) (h : HRel w g H) (e : Ev N w g (Lof g H) w' g' L') : Marks B w' rs :=
  ⟨m.desc, fun r hr => by
    have hlt : r < w.heap.size := (Array.getElem?_eq_some_iff.1 (m.ge r hr).2).1
    exact ⟨(m.ge r hr).1, (e.keep r hlt (not_Lof_of_deferred h (m.ge r hr).2)).trans (m.ge r hr).2⟩⟩

theorem Nxt.refl (h : HRel w g H) (hN : N ≤ H.length) : Nxt N w g H df w g H df := ⟨.refl _ _ _ _, h, hN, [], by simp, ⟨.nil, by simp⟩⟩

theorem Nxt.trans (a : Nxt N w g H df w1 g1 H1 df1) (b : Nxt N w1 g1 H1 df1 w2 g2 H2 df2) : Nxt N w g H df w2 g2 H2 df2 := by
  refine ⟨a.ev.trans b.ev, b.hrel, b.len, ?_⟩
  obtain ⟨r1, e1, m1⟩ := a.marks
  obtain ⟨r2, e2, m2⟩ := b.marks
  refine ⟨r2 ++ r1, by rw [e2, e1]; simp, ?_, ?_⟩
  · refine List.pairwise_append.2 ⟨m2.desc, m1.desc, fun x hx y hy => ?_⟩
    have h1 := (m2.ge x hx).1
    have h2 : y < w1.heap.size := (Array.getElem?_eq_some_iff.1 (m1.ge y hy).2).1
    omega
  · intro r hr
    rcases List.mem_append.1 hr with h | h
    · exact ⟨Nat.le_trans a.ev.size (m2.ge r h).1, (m2.ge r h).2⟩
    · exact (m1.keep a.hrel b.ev).ge r h

theorem Nxt.same_df (e : Ev N w g (Lof g H) w' g' (Lof g' H')) (h : HRel w' g' H') (hl : N ≤ H'.length) : Nxt N w g H df w' g' H' df := ⟨e, h, hl, [], by simp, ⟨.nil, by simp⟩⟩
end

abbrev Post := Ex → Fr → Hp → Prop

/-- Code: from every state that the frame and the heap describe the machine comes to one that Q describes. n: the number of slots; N: how many of the heap's blocks belong to the outside. -/
def W (P : Program) (n N : Nat) (c : Code) (Q : Post) (F : Fr) (H : Hp) : Prop :=
  ∀ (w : World) (g : Gh) (tm : Array Value) (df : List Deferred), HRel w g H → FRel w g F tm → tm.size = n → N ≤ H.length →
    CodeTo P c tm df w fun e tm' df' w' => ∃ F' H' g', Q e F' H' ∧ Nxt N w g H df w' g' H' df' ∧ FRel w' g' F' tm' ∧ tm'.size = n

/-- A function with a Go body. -/
def Enters (P : Program) (f : FuncId) : Prop := ∀ (args : Array Value) (w : World), (callFunc f args).run P w = .ok (.enter f args) w

def FnTo (P : Program) (f : FuncId) (args : List D) (H : Hp) (R : D → Hp → Prop) : Prop :=
  Enters P f ∧ ∀ (w : World) (g : Gh) (vs : List Value), HRel w g H → RepL w g args vs → Calls P f vs.toArray w fun e w' =>
    ∃ v d H' g', e = .returned v ∧ R d H' ∧ Ev H.length w g (Lof g H) w' g' (Lof g' H') ∧ HRel w' g' H' ∧ H.length ≤ H'.length ∧ Rep w' g' d v

section rules
variable {P : Program} {n N : Nat} {Q Q' : Post} {F F' : Fr} {H H' : Hp}

theorem W.mono {c : Code} (h : W P n N c Q F H) (hq : ∀ e F H, Q e F H → Q' e F H) : W P n N c Q' F H :=
  fun w g tm df a b hs hl => (h w g tm df a b hs hl).mono fun _ _ _ _ ⟨F', H', g', q, r⟩ => ⟨F', H', g', hq _ _ _ q, r⟩

theorem W.skip (h : Q .normal F H) : W P n N .skip Q F H := fun _ _ _ _ a b hs hl => .skip ⟨F, H, _, h, .refl a hl, b, hs⟩
theorem W.label {l : Nat} (h : Q .normal F H) : W P n N (.label l) Q F H := fun _ _ _ _ a b hs hl => .label ⟨F, H, _, h, .refl a hl, b, hs⟩
theorem W.exit {i : Nat} (h : Q (.exit i) F H) : W P n N (.exit i) Q F H := fun _ _ _ _ a b hs hl => .exit ⟨F, H, _, h, .refl a hl, b, hs⟩
theorem W.ret (h : Q .ret F H) : W P n N .ret Q F H := fun _ _ _ _ a b hs hl => .ret ⟨F, H, _, h, .refl a hl, b, hs⟩

/-- What follows 'x' in a sequence. -/
def thenQ (P : Program) (n N : Nat) (y : Code) (Q : Post) : Post
  | .normal, F, H => W P n N y Q F H
  | e, F, H => Q e F H

theorem W.seq {x y : Code} (h : W P n N x (thenQ P n N y Q) F H) : W P n N (.seq x y) Q F H := by
  intro w g tm df a b hs hl
  refine .seq ((h w g tm df a b hs hl).mono fun e tm1 df1 w1 ⟨F1, H1, g1, q, nx, fr, sz⟩ => ?_)
  cases e with
  | normal => exact (q w1 g1 tm1 df1 nx.hrel fr sz nx.len).mono fun e tm2 df2 w2 ⟨F2, H2, g2, q2, nx2, fr2, sz2⟩ => ⟨F2, H2, g2, q2, nx.trans nx2, fr2, sz2⟩
  | exit i => exact ⟨F1, H1, g1, q, nx, fr, sz⟩
  | ret => exact ⟨F1, H1, g1, q, nx, fr, sz⟩

def blockQ (i : Nat) (Q : Post) : Post
  | .exit j, F, H => bif Nat.beq j i then Q .normal F H else Q (.exit j) F H
  | e, F, H => Q e F H

theorem W.block {i : Nat} {c : Code} (h : W P n N c (blockQ i Q) F H) : W P n N (.block i c) Q F H := by
  intro w g tm df a b hs hl
  refine .block ((h w g tm df a b hs hl).mono fun e tm1 df1 w1 ⟨F1, H1, g1, q, r⟩ => ?_)
  cases e with
  | normal => exact ⟨F1, H1, g1, q, r⟩
  | exit j =>
    simp only [blockQ] at q
    by_cases hj : j = i
    · subst hj
      have : Nat.beq j j = true := Nat.beq_refl j
      rw [this] at q
      simp only [if_true]
      exact ⟨F1, H1, g1, q, r⟩
    · have : Nat.beq j i = false := by cases hb : Nat.beq j i; rfl; exact absurd (Nat.eq_of_beq_eq_true hb) hj
      rw [this] at q
      simp only [hj, if_false]
      exact ⟨F1, H1, g1, q, r⟩
  | ret => exact ⟨F1, H1, g1, q, r⟩

theorem W.scope {c : Code} (h : W P n N c Q F H) : W P n N (.scope c) Q F H :=
  fun w g tm df a b hs hl => .scope (h w g tm df a b hs hl)

theorem evalT_of {w : World} {g : Gh} {F : Fr} {tm : Array Value} (hF : FRel w g F tm) {x : Operand} {d : D} (h : F.eval x = some d) : Rep w g d (evalT tm x) := by
  cases x with
  | tmp t =>
    obtain ⟨v, hv, hr⟩ := hF t d h
    simp only [evalT, Array.getD_eq_getD_getElem?, hv, Option.getD_some]
    exact hr
  | const v =>
    simp only [Fr.eval] at h
    simp only [evalT]
    have scalar : ∀ {v : Value} {d : D}, ofScalar v = some d → Rep w g d v ∧ d.one = true := by
      intro v d h
      unfold ofScalar at h
      split at h <;> first | (cases h; exact ⟨by constructor, rfl⟩) | (cases h)
    have scalars : ∀ {vs : List Value} {ds : List D}, ofScalars vs = some ds → vs.length = ds.length ∧ (∀ d ∈ ds, d.one = true) ∧ ∀ (i : Nat) (d : D) (v : Value), ds[i]? = some d → vs[i]? = some v → Rep w g d v := by
      intro vs
      induction vs with
      | nil => intro ds h; simp only [ofScalars, Option.some.injEq] at h; subst h; exact ⟨rfl, by simp, by simp⟩
      | cons v r ih =>
        intro ds h
        simp only [ofScalars] at h
        split at h
        · rename_i d' ds' h1 h2
          cases h
          obtain ⟨hl, h1', hr⟩ := ih h2
          obtain ⟨hs, ho⟩ := scalar h1
          refine ⟨by simp [hl], ?_, ?_⟩
          · intro x hx
            rcases List.mem_cons.1 hx with rfl | hx
            · exact ho
            · exact h1' x hx
          · intro i x y hx hy
            cases i with
            | zero => simp only [List.getElem?_cons_zero, Option.some.injEq] at hx hy; subst hx; subst hy; exact hs
            | succ i => exact hr i x y (by simpa using hx) (by simpa using hy)
        · cases h
    unfold ofVal at h
    split at h
    · rename_i cs
      split at h
      · rename_i ds hds
        cases h
        obtain ⟨hl, h1, hr⟩ := scalars hds
        exact .agg (by simpa using hl) h1 (fun i d v hd hv => hr i d v hd (by simpa using hv))
      · cases h
    · rename_i cs
      split at h
      · rename_i ds hds
        cases h
        obtain ⟨hl, h1, hr⟩ := scalars hds
        exact .tup (by simpa using hl) (fun i d v hd hv => hr i d v hd (by simpa using hv))
      · cases h
    · exact (scalar h).1
  | func f =>
    simp only [Fr.eval, Option.some.injEq] at h
    subst h
    exact .fn (by simp) (by simp)
  | global g => simp [Fr.eval] at h

theorem W.cond {c : Operand} {x y : Code} {b : Bool} (hc : F.eval c = some (.bool b)) (ht : b = true → W P n N x Q F H) (hf : b = false → W P n N y Q F H) : W P n N (.cond c x y) Q F H := by
  intro w g tm df a hF hs hl
  have hr := evalT_of hF hc
  have he : evalT tm c = .bool b := by
    generalize evalT tm c = v at hr
    cases hr; rfl
  refine .cond he ?_
  cases b with
  | true => exact ht rfl w g tm df a hF hs hl
  | false => exact hf rfl w g tm df a hF hs hl

theorem W.cond_dec {c : Operand} {x y : Code} {p : Prop} {i : Decidable p} (hc : F.eval c = some (.bool (decide p))) (ht : p → W P n N x Q F H) (hf : ¬ p → W P n N y Q F H) : W P n N (.cond c x y) Q F H :=
  .cond hc (fun h => ht (of_decide_eq_true h)) (fun h => hf (of_decide_eq_false h))

theorem W.cond_ndec {c : Operand} {x y : Code} {p : Prop} {i : Decidable p} (hc : F.eval c = some (.bool (!decide p))) (ht : ¬ p → W P n N x Q F H) (hf : p → W P n N y Q F H) : W P n N (.cond c x y) Q F H :=
  .cond hc (fun h => ht (by simpa using h)) (fun h => hf (by simpa using h))

def loopQ {α : Type} (μ : α → Nat) (a : α) (I : α → Fr → Hp → Prop) (Q : Post) : Post
  | .normal, F, H => ∃ a', μ a' < μ a ∧ I a' F H
  | e, F, H => Q e F H

theorem W.loop {c : Code} {α : Type} (μ : α → Nat) (I : α → Fr → Hp → Prop) (a0 : α) (h0 : I a0 F H)
    (round : ∀ a F H, I a F H → W P n N c (loopQ μ a I Q) F H) : W P n N (.loop c) Q F H := by
  intro w g tm df hH hF hs hl
  refine .loop (fun m tm1 df1 w1 => ∃ a F1 H1 g1, μ a = m ∧ I a F1 H1 ∧ Nxt N w g H df w1 g1 H1 df1 ∧ FRel w1 g1 F1 tm1 ∧ tm1.size = n) (n := μ a0)
    ⟨a0, F, H, g, rfl, h0, .refl hH hl, hF, hs⟩ ?_
  rintro m tm1 df1 w1 ⟨a, F1, H1, g1, rfl, hI, nx, fr, sz⟩
  refine ((round a F1 H1 hI) w1 g1 tm1 df1 nx.hrel fr sz nx.len).mono fun e tm2 df2 w2 ⟨F2, H2, g2, q, nx2, fr2, sz2⟩ => ?_
  cases e with
  | normal =>
    obtain ⟨a', hlt, hI'⟩ := q
    exact ⟨μ a', hlt, a', F2, H2, g2, rfl, hI', nx.trans nx2, fr2, sz2⟩
  | exit i => exact ⟨F2, H2, g2, q, nx.trans nx2, fr2, sz2⟩
  | ret => exact ⟨F2, H2, g2, q, nx.trans nx2, fr2, sz2⟩

/-- G tells no more than F. -/
def Fr.le (G F : Fr) : Prop := ∀ t d, G.get t = some d → F.get t = some d

def Fr.sub : Fr → Fr → Prop
  | [], _ => True
  | (t, d) :: G, F => F.get t = some d ∧ Fr.sub G F

theorem Fr.sub_le {G F : Fr} (h : G.sub F) : G.le F := by
  induction G with
  | nil => intro t d h; cases h
  | cons x G ih =>
    obtain ⟨t, d⟩ := x
    intro u e hu
    simp only [Fr.get] at hu
    cases hb : Nat.beq t u with
    | true =>
      rw [hb] at hu
      simp only [cond_true, Option.some.injEq] at hu
      subst hu
      have : t = u := Nat.eq_of_beq_eq_true hb
      subst this
      exact h.1
    | false =>
      rw [hb] at hu
      exact ih h.2 u e hu

theorem W.weaken {c : Code} {G : Fr} (hle : G.sub F) (h : W P n N c Q G H) : W P n N c Q F H :=
  fun w g tm df a b hs hl => h w g tm df a (fun t d hd => b t d (Fr.sub_le hle t d hd)) hs hl

/-- A loop over states: at the head of each round the frame tells at least 'Fs a' and the heap is 'Hs a'. -/
theorem W.loopS {c : Code} {α : Type} (C : α → Prop) (μ : α → Nat) (Fs : α → Fr) (Hs : α → Hp) (a0 : α) (hc : C a0) (hF : (Fs a0).sub F) (hH : H = Hs a0)
    (round : ∀ a, C a → W P n N c (loopQ μ a (fun a F H => C a ∧ (Fs a).sub F ∧ H = Hs a) Q) (Fs a) (Hs a)) : W P n N (.loop c) Q F H := by
  refine .loop μ (fun a F H => C a ∧ (Fs a).sub F ∧ H = Hs a) a0 ⟨hc, hF, hH⟩ ?_
  rintro a F1 H1 ⟨h1, h2, rfl⟩
  exact (round a h1).weaken h2

def belFr (m : Nat) : Fr → Prop
  | [] => True
  | (_, d) :: F => Bel m d ∧ belFr m F

theorem belFr_get {m : Nat} {F : Fr} (h : belFr m F) {t : Nat} {d : D} (hd : F.get t = some d) : Bel m d := by
  induction F with
  | nil => cases hd
  | cons x F ih =>
    obtain ⟨u, e⟩ := x
    simp only [Fr.get] at hd
    cases hb : Nat.beq u t with
    | true => rw [hb] at hd; simp only [cond_true, Option.some.injEq] at hd; subst hd; exact h.1
    | false => rw [hb] at hd; exact ih h.2 hd

def belHp (m : Nat) : Hp → Prop
  | [] => True
  | none :: H => belHp m H
  | some (.cells cs) :: H => (∀ d ∈ cs, Bel m d) ∧ belHp m H
  | some (.loop _ F) :: H => belFr m F ∧ belHp m H

theorem belHp_cells {m : Nat} {H : Hp} (h : belHp m H) {b : Nat} {cs : List D} (hb : H[b]? = some (some (.cells cs))) : ∀ d ∈ cs, Bel m d := by
  induction H generalizing b with
  | nil => cases hb
  | cons x H ih =>
    cases b with
    | zero =>
      simp only [List.getElem?_cons_zero, Option.some.injEq] at hb
      subst hb
      exact h.1
    | succ b =>
      simp only [List.getElem?_cons_succ] at hb
      cases x with
      | none => exact ih h hb
      | some x => cases x with
        | cells c => exact ih h.2 hb
        | loop r F => exact ih h.2 hb

theorem belHp_loop {m : Nat} {H : Hp} (h : belHp m H) {b : Nat} {r : Loop} {F : Fr} (hb : H[b]? = some (some (.loop r F))) : belFr m F := by
  induction H generalizing b with
  | nil => cases hb
  | cons x H ih =>
    cases b with
    | zero =>
      simp only [List.getElem?_cons_zero, Option.some.injEq] at hb
      subst hb
      exact h.1
    | succ b =>
      simp only [List.getElem?_cons_succ] at hb
      cases x with
      | none => exact ih h hb
      | some x => cases x with
        | cells c => exact ih h.2 hb
        | loop r F => exact ih h.2 hb

theorem get_append_left {H1 G : Hp} {b : Nat} {x : Option Blk} (h : H1[b]? = some x) : (H1 ++ G)[b]? = some x := by
  have hb : b < H1.length := (List.getElem?_eq_some_iff.1 h).1
  rw [List.getElem?_append_left hb]; exact h

def Gh.cut (g : Gh) (m : Nat) : Gh := { S := g.S, ρ := fun b => if b < m then g.ρ b else none }

theorem Rep.cut {w : World} {g : Gh} {m : Nat} {d : D} {v : Value} (h : Rep w g d v) (hb : Bel m d) : Rep w (g.cut m) d v :=
  Rep.bel (g := g) (g' := g.cut m) (fun _ h => h) (fun b hb => by simp [Gh.cut, hb]) h hb

/-- Blocks at the heap's end are let go, if nothing that stays leads to them. -/
theorem HRel.trunc {w : World} {g : Gh} {H1 G : Hp} (h : HRel w g (H1 ++ G)) (hb : belHp H1.length H1) :
    HRel w (g.cut H1.length) H1 := by
  refine ⟨h.scell, ?_, fun b hb => by simp [Gh.cut, Nat.not_lt.2 hb], ?_, ?_, ?_⟩
  · rintro k hk ⟨b, x, base, hb, hr⟩
    have hlt : b < H1.length := (List.getElem?_eq_some_iff.1 hb).1
    simp only [Gh.cut, hlt, if_true] at hr
    exact h.sL k hk ⟨b, x, base, get_append_left hb, hr⟩
  · intro b cs hc
    have hlt : b < H1.length := (List.getElem?_eq_some_iff.1 hc).1
    obtain ⟨k, base, c, e, h1, h2, h3, h4, h5⟩ := h.blk b cs (get_append_left hc)
    refine ⟨k, base, c, e, by simp [Gh.cut, hlt, h1], h2, h3, h4, fun i d hd => ?_⟩
    obtain ⟨v, hv, hr⟩ := h5 i d hd
    exact ⟨v, hv, hr.cut (belHp_cells hb hc d (List.mem_of_getElem? hd))⟩
  · intro b r F hc
    have hlt : b < H1.length := (List.getElem?_eq_some_iff.1 hc).1
    obtain ⟨k, h1, h2, h3⟩ := h.loop b r F (get_append_left hc)
    refine ⟨k, by simp [Gh.cut, hlt, h1], h2, fun t d hd => ?_⟩
    obtain ⟨v, hv, hr⟩ := h3 t d hd
    exact ⟨v, hv, hr.cut (belFr_get (belHp_loop hb hc) hd)⟩
  · intro b b' k base base' x x' hx hx' hr hr'
    have hlt : b < H1.length := (List.getElem?_eq_some_iff.1 hx).1
    have hlt' : b' < H1.length := (List.getElem?_eq_some_iff.1 hx').1
    simp only [Gh.cut, hlt, hlt', if_true] at hr hr'
    exact h.inj b b' k base base' x x' (get_append_left hx) (get_append_left hx') hr hr'

theorem W.trunc {c : Code} {H1 G : Hp} (hN : N ≤ H1.length) (hb : belHp H1.length H1) (hf : belFr H1.length F) (h : W P n N c Q F H1) : W P n N c Q F (H1 ++ G) := by
  intro w g tm df a hF hs hl
  have a' := a.trunc hb
  have hF' : FRel w (g.cut H1.length) F tm := fun t d hd =>
    let ⟨v, hv, hr⟩ := hF t d hd
    ⟨v, hv, hr.cut (belFr_get hf hd)⟩
  refine (h w _ tm df a' hF' hs hN).mono fun e tm1 df1 w1 ⟨F1, H2, g1, q, nx, fr, sz⟩ => ⟨F1, H2, g1, q, ?_, fr, sz⟩
  have hL : ∀ k, Lof (g.cut H1.length) H1 k → Lof g (H1 ++ G) k := by
    rintro k ⟨b, x, base, hx, hr⟩
    have hlt : b < H1.length := (List.getElem?_eq_some_iff.1 hx).1
    simp only [Gh.cut, hlt, if_true] at hr
    exact ⟨b, x, base, get_append_left hx, hr⟩
  refine ⟨⟨nx.ev.os, nx.ev.tape, nx.ev.output, nx.ev.size, fun k hk hn => nx.ev.keep k hk (fun h => hn (hL k h)), nx.ev.shape, nx.ev.s1, fun k hk => ?_, fun k hk => ?_, fun b hb => ?_⟩, nx.hrel, nx.len, nx.marks⟩
  · rcases nx.ev.s2 k hk with h | h | h
    · exact .inl h
    · exact .inr (.inl (hL k h))
    · exact .inr (.inr h)
  · rcases nx.ev.l2 k hk with h | h
    · exact .inl (hL k h)
    · exact .inr h
  · rw [nx.ev.ρ b hb]; simp [Gh.cut, Nat.lt_of_lt_of_le hb hN]
end rules
end Go.V
