/- The logic V, part 22: less may be told of a state: values weakened, blocks renumbered, let go, or fixed. -/
import Derived.Test.YtcnblloiaambaaaV21
namespace Go.V

def WkL (ds ds' : List D) : Prop := ds'.length = ds.length ∧ ∀ (i : Nat) (x y : D), ds[i]? = some x → ds'[i]? = some y → Wk x y

theorem WkL.nil : WkL [] [] := ⟨rfl, by simp⟩
theorem WkL.cons {x y : D} {ds ds' : List D} (h : Wk x y) (t : WkL ds ds') : WkL (x :: ds) (y :: ds') := by
  refine ⟨by simp [t.1], fun i a b ha hb => ?_⟩
  cases i with
  | zero => simp only [List.getElem?_cons_zero, Option.some.injEq] at ha hb; subst ha; subst hb; exact h
  | succ i => exact t.2 i a b (by simpa using ha) (by simpa using hb)

section
variable {P : Program} {w w' : World} {g g' : Gh} {H H' : Hp} {F F' : Fr} {n N : Nat} {ds ds' : List D} {vs : List Value}

theorem RepL.wk (h : RepL w g ds vs) (hw : WkL ds ds') : RepL w g ds' vs := by
  refine ⟨h.1.trans hw.1.symm, fun i y v hy hv => ?_⟩
  obtain ⟨x, hx⟩ := get_both (Nat.le_of_eq hw.1) hy
  exact (h.2 i x v hx hv).wk (hw.2 i x y hx hy)

theorem FnTo.args {f : FuncId} {args args' : List D} {R : D → Hp → Prop} (h : FnTo P f args' H R) (hw : WkL args args') : FnTo P f args H R :=
  ⟨h.1, fun w g vs hH hA => h.2 w g vs hH (hA.wk hw)⟩

theorem PureFn.args {f : FuncId} {args args' : List D} {d : D} (h : PureFn P f args' d) (hw : WkL args args') : PureFn P f args d := fun H => (h H).args hw

/-- A value of a state (the first) as it is told of another: blocks have other numbers there, and the blocks of Z are fixed. -/
inductive Ren (σ Z : List Nat) (H : Hp) : D → D → Prop where
  | wk {d d' : D} (hp : Pure d) (hw : Wk d d') : Ren σ Z H d d'
  | ptr {b b' off : Nat} (h : σ[b']? = some b) : Ren σ Z H (.ptr b off) (.ptr b' off)
  | yield {b b' : Nat} (h : σ[b']? = some b) : Ren σ Z H (.yield b) (.yield b')
  | live {b b' off len c sz : Nat} (h : σ[b']? = some b) : Ren σ Z H (.live b off len c sz) (.live b' off len c sz)
  | fixL {b off len c sz : Nat} {cs ds : List D} (hz : b ∈ Z) (hb : H[b]? = some (some (.cells cs))) (hn : off + len * sz ≤ cs.length) (hd : ds.length = len * sz)
      (h : ∀ (i : Nat) (x y : D), cs[off + i]? = some x → ds[i]? = some y → Ren σ Z H x y) : Ren σ Z H (.live b off len c sz) (.snap ds len false)
  | fixP {b off : Nat} {cs ds : List D} (hz : b ∈ Z) (hb : H[b]? = some (some (.cells cs))) (hd : ds.length ≤ cs.length)
      (h : ∀ (i : Nat) (x y : D), cs[i]? = some x → ds[i]? = some y → Ren σ Z H x y) : Ren σ Z H (.ptr b off) (.sptr ds off)
  | snap {cs cs' : List D} {n : Nat} {t t' : Bool} (hn : cs'.length ≤ cs.length) (ht : t' = true → t = true) (h : ∀ (i : Nat) (x y : D), cs[i]? = some x → cs'[i]? = some y → Ren σ Z H x y) : Ren σ Z H (.snap cs n t) (.snap cs' n t')
  | sptr {cs cs' : List D} {off : Nat} (hn : cs'.length ≤ cs.length) (h : ∀ (i : Nat) (x y : D), cs[i]? = some x → cs'[i]? = some y → Ren σ Z H x y) : Ren σ Z H (.sptr cs off) (.sptr cs' off)
  | iface {t : TypeId} {d d' : D} (h : Ren σ Z H d d') : Ren σ Z H (.iface t d) (.iface t d')
  | fn {f : FuncId} {cs cs' : List D} (hn : cs'.length = cs.length) (h : ∀ (i : Nat) (x y : D), cs[i]? = some x → cs'[i]? = some y → Ren σ Z H x y) : Ren σ Z H (.fn f cs) (.fn f cs')
  | agg {cs cs' : List D} (hn : cs'.length = cs.length) (h : ∀ (i : Nat) (x y : D), cs[i]? = some x → cs'[i]? = some y → Ren σ Z H x y) : Ren σ Z H (.agg cs) (.agg cs')
  | tup {cs cs' : List D} (hn : cs'.length = cs.length) (h : ∀ (i : Nat) (x y : D), cs[i]? = some x → cs'[i]? = some y → Ren σ Z H x y) : Ren σ Z H (.tup cs) (.tup cs')

theorem Ren.one {σ Z : List Nat} {d d' : D} (h : Ren σ Z H d d') : d'.one = d.one := by
  cases h with
  | wk h hw => exact hw.one
  | _ => rfl

def Fixed (g : Gh) (Z : List Nat) (H : Hp) (k : Nat) : Prop := ∃ b ∈ Z, ∃ cs base, H[b]? = some (some (.cells cs)) ∧ g.ρ b = some (k, base)

theorem Rep.ren {σ Z : List Nat} (hH : HRel w g H) (hS : ∀ k, g.S k ∨ Fixed g Z H k → g'.S k) (hσ : ∀ b' b, σ[b']? = some b → g'.ρ b' = g.ρ b) {d d' : D} (hr : Ren σ Z H d d') : ∀ {v}, Rep w g d v → Rep w g' d' v := by
  have nz : ∀ {cs cs' : List D}, cs'.length ≤ cs.length → cs' ≠ [] → cs ≠ [] := fun hn hne e => hne (List.eq_nil_of_length_eq_zero (by rw [e] at hn; simpa using hn))
  induction hr with
  | wk hp hw => exact fun h => (h.ofPure (fun k hk => hS k (.inl hk)) hp).wk hw
  | ptr h =>
    intro v hr
    cases hr with
    | ptr hρ => exact .ptr ((hσ _ _ h).trans hρ)
  | yield h =>
    intro v hr
    cases hr with
    | yield hρ => exact .yield ((hσ _ _ h).trans hρ)
  | live h =>
    intro v hr
    cases hr with
    | live hρ hx hl hc hn => exact .live ((hσ _ _ h).trans hρ) hx hl hc hn
  | @fixL b off len c sz cs ds hz hb hn hd h ih =>
    intro v hr
    cases hr with
    | @live _ _ _ _ _ k base x cap hρ hx hl hc hnn =>
      obtain ⟨k', base', arr, e, hρ', hk, hsz, hone, hcell⟩ := hH.blk b cs hb
      rw [hρ] at hρ'
      obtain ⟨rfl, rfl⟩ : k = k' ∧ base = base' := by simpa using hρ'
      have hcs : ∀ i : Nat, i < ds.length → ∃ xd yd v, cs[off + i]? = some xd ∧ ds[i]? = some yd ∧ arr[base + off + i]? = some v ∧ Rep w g' yd v := by
        intro i hi
        have h1 : off + i < cs.length := by omega
        refine ⟨cs[off + i], ds[i], ?_⟩
        obtain ⟨v, hv, hrv⟩ := hcell (off + i) cs[off + i] (by simp)
        exact ⟨v, by simp, by simp, by rw [Nat.add_assoc]; exact hv, ih i _ _ (by simp) (by simp) hrv⟩
      have h1 : ∀ d ∈ ds, d.one = true := by
        intro d hd'
        obtain ⟨i, hi, rfl⟩ := List.getElem_of_mem hd'
        obtain ⟨xd, yd, v, hx, hy, _⟩ := hcs i hi
        have : ds[i] = yd := by simpa [hi] using hy
        rw [this, (h i xd yd hx hy).one]
        exact hone _ (List.mem_of_getElem? hx)
      refine .snap (fun i => (arr[base + off + i]?).getD default) (fun _ => hS k (.inr ⟨b, hz, cs, base, hb, hρ⟩)) h1 (Nat.le_trans hl hc) (by simp) ?_ ?_
      · intro i hi
        have hcap : cap ≠ 0 := by
          rintro rfl
          have : len = 0 := by omega
          subst this
          simp [hd] at hi
        have hxe : x = base + off := hx.resolve_left hcap
        subst hxe
        obtain ⟨_, _, v, _, _, hv, _⟩ := hcs i hi
        simp [World.cell?, hk, hv]
      · intro i d hd'
        have hi := lt_of_getElem? hd'
        obtain ⟨_, yd, v, _, hy, hv, hr⟩ := hcs i hi
        rw [hd'] at hy
        obtain rfl : d = yd := by simpa using hy
        simpa [hv] using hr
  | @fixP b off cs ds hz hb hd h ih =>
    intro v hr
    cases hr with
    | @ptr _ _ k base hρ =>
      obtain ⟨k', base', arr, e, hρ', hk, hsz, hone, hcell⟩ := hH.blk b cs hb
      rw [hρ] at hρ'
      obtain ⟨rfl, rfl⟩ : k = k' ∧ base = base' := by simpa using hρ'
      refine .sptr (fun i => (arr[base + i]?).getD default) (fun _ => hS k (.inr ⟨b, hz, cs, base, hb, hρ⟩)) (ones_of hd (fun i x y hx hy => (h i x y hx hy).one) hone) ?_ ?_
      · intro i hi
        obtain ⟨v, hv, _⟩ := hcell i cs[i] (by simp)
        simp [World.cell?, hk, hv]
      · intro i y hy
        obtain ⟨x, hx⟩ := get_both hd hy
        obtain ⟨v, hv, hrv⟩ := hcell i x hx
        simpa [hv] using ih i x y hx hy hrv
  | @snap cs cs' n t t' hn ht h ih =>
    intro v hr
    cases hr with
    | snap f hS' h1 hl ht' hc hr =>
      refine .snap f (fun hne => hS _ (.inl (hS' (nz hn hne)))) (ones_of hn (fun i x y hx hy => (h i x y hx hy).one) h1) hl (fun e => ht' (ht e)) (fun i hi => hc i (by omega)) ?_
      intro i y hy
      obtain ⟨x, hx⟩ := get_both hn hy
      exact ih i x y hx hy (hr i x hx)
    | snapNil a t =>
      have : cs' = [] := List.eq_nil_of_length_eq_zero (by simpa using hn)
      subst this
      exact .snapNil _ _
  | @sptr cs cs' off hn h ih =>
    intro v hr
    cases hr with
    | sptr f hS' h1 hc hr =>
      refine .sptr f (fun hne => hS _ (.inl (hS' (nz hn hne)))) (ones_of hn (fun i x y hx hy => (h i x y hx hy).one) h1) (fun i hi => hc i (by omega)) ?_
      intro i y hy
      obtain ⟨x, hx⟩ := get_both hn hy
      exact ih i x y hx hy (hr i x hx)
  | iface h ih =>
    intro v hr
    cases hr with
    | iface hr => exact .iface (ih hr)
  | fn hn h ih =>
    intro v hr
    cases hr with
    | fn hn' hr =>
      refine .fn (hn'.trans hn.symm) fun i y v hy hv => ?_
      obtain ⟨x, hx⟩ := get_both (Nat.le_of_eq hn) hy
      exact ih i x y hx hy (hr i x v hx hv)
  | agg hn h ih =>
    intro v hr
    cases hr with
    | agg hn' h1 hr =>
      refine .agg (hn'.trans hn.symm) (ones_of (Nat.le_of_eq hn) (fun i x y hx hy => (h i x y hx hy).one) h1) fun i y v hy hv => ?_
      obtain ⟨x, hx⟩ := get_both (Nat.le_of_eq hn) hy
      exact ih i x y hx hy (hr i x v hx hv)
  | tup hn h ih =>
    intro v hr
    cases hr with
    | tup hn' hr =>
      refine .tup (hn'.trans hn.symm) fun i y v hy hv => ?_
      obtain ⟨x, hx⟩ := get_both (Nat.le_of_eq hn) hy
      exact ih i x y hx hy (hr i x v hx hv)

/-- F' tells no more than F, but for the numbers of the blocks. -/
def FrRen (σ Z : List Nat) (H : Hp) : Fr → Fr → Prop
  | [], _ => True
  | (t, d') :: F', F => (∃ d, F.get t = some d ∧ Ren σ Z H d d') ∧ FrRen σ Z H F' F

theorem FrRen.get {σ Z : List Nat} : ∀ {F' : Fr}, FrRen σ Z H F' F → ∀ {t d'}, F'.get t = some d' → ∃ d, F.get t = some d ∧ Ren σ Z H d d'
  | [], _, _, _, h => by cases h
  | (u, e) :: F', hr, t, d', h => by
    simp only [Fr.get] at h
    cases hb : Nat.beq u t with
    | true =>
      rw [hb] at h
      simp only [cond_true, Option.some.injEq] at h
      subst h
      obtain rfl := Nat.eq_of_beq_eq_true hb
      exact hr.1
    | false => rw [hb] at h; exact FrRen.get hr.2 h

def BlkRen (σ Z : List Nat) (H : Hp) : Blk → Blk → Prop
  | .cells cs, .cells cs' => cs'.length ≤ cs.length ∧ ∀ (i : Nat) (x y : D), cs[i]? = some x → cs'[i]? = some y → Ren σ Z H x y
  | .loop r F, .loop r' F' => r = r' ∧ FrRen σ Z H F' F
  | _, _ => False

def HpRen (σ Z : List Nat) (H : Hp) : List Nat → Hp → Prop
  | [], [] => True
  | _ :: ss, none :: r => HpRen σ Z H ss r
  | s :: ss, some x' :: r => (s ∉ Z ∧ ∃ x, H[s]? = some (some x) ∧ BlkRen σ Z H x x') ∧ HpRen σ Z H ss r
  | _, _ => False

theorem HpRen.get {σ Z : List Nat} : ∀ {ss : List Nat} {r : Hp}, HpRen σ Z H ss r → ∀ {b : Nat} {x' : Blk}, r[b]? = some (some x') → ∃ s x, ss[b]? = some s ∧ s ∉ Z ∧ H[s]? = some (some x) ∧ BlkRen σ Z H x x'
  | [], [], _, _, _, h => by cases h
  | _ :: ss, none :: r, hr, b, x', h => by
    cases b with
    | zero => cases h
    | succ b => simpa using HpRen.get (ss := ss) hr (by simpa using h)
  | s :: ss, some y :: r, hr, b, x', h => by
    cases b with
    | zero =>
      simp only [List.getElem?_cons_zero, Option.some.injEq] at h
      subst h
      obtain ⟨⟨h1, x, h2, h3⟩, _⟩ := hr
      exact ⟨s, x, rfl, h1, h2, h3⟩
    | succ b => simpa using HpRen.get (ss := ss) hr.2 (by simpa using h)

theorem HpRen.length {σ Z : List Nat} : ∀ {ss : List Nat} {r : Hp}, HpRen σ Z H ss r → ss.length = r.length
  | [], [], _ => rfl
  | _ :: ss, none :: r, hr => by simp [HpRen.length (ss := ss) (r := r) hr]
  | s :: ss, some y :: r, hr => by simp [HpRen.length (ss := ss) (r := r) hr.2]

/-- Less is told. -/
inductive To (N : Nat) (F' : Fr) (H' : Hp) (F : Fr) (H : Hp) : Prop where
  | same (hF : ∀ t d', F'.get t = some d' → ∃ d, F.get t = some d ∧ Wk d d') (hH : H' = H) : To N F' H' F H
  | ren (σ Z : List Nat) (hN : N ≤ H'.length) (hlo : ∀ b, b < N → σ[b]? = some b) (hd : σ.Nodup) (hF : FrRen σ Z H F' F) (hH : HpRen σ Z H σ H') : To N F' H' F H

theorem W.to {c : Code} {Q : Post} (ht : To N F' H' F H) (h : W P n N c Q F' H') : W P n N c Q F H := by
  cases ht with
  | same hF hH =>
    subst hH
    exact fun w g tm df a b hs hl => h w g tm df a (fun t d hd => let ⟨e, h1, h2⟩ := hF t d hd; let ⟨v, h3, h4⟩ := b t e h1; ⟨v, h3, h4.wk h2⟩) hs hl
  | ren σ Z hN hlo hnd hFr hHp =>
    intro w g tm df hH hF hs hl
    have hlen : σ.length = H'.length := hHp.length
    let g' : Gh := { S := fun k => g.S k ∨ Fixed g Z H k, ρ := fun b => match σ[b]? with | some s => g.ρ s | none => none }
    have hσ : ∀ b' b, σ[b']? = some b → g'.ρ b' = g.ρ b := fun b' b h => by simp only [g', h]
    have hrep : ∀ {d d' v}, Ren σ Z H d d' → Rep w g d v → Rep w g' d' v := fun hr hv => hv.ren hH (fun k hk => hk) hσ hr
    have hρ : ∀ b, b < N → g'.ρ b = g.ρ b := fun b hb => hσ b b (hlo b hb)
    have get : ∀ {b : Nat} {x' : Blk}, H'[b]? = some (some x') → ∃ s x, σ[b]? = some s ∧ s ∉ Z ∧ H[s]? = some (some x) ∧ BlkRen σ Z H x x' := fun h => hHp.get h
    have hLof : ∀ k, Lof g' H' k → ∃ (b s : Nat) (x : Blk) (base : Nat), σ[b]? = some s ∧ s ∉ Z ∧ H[s]? = some (some x) ∧ g.ρ s = some (k, base) := by
      rintro k ⟨b, x', base, hb, hr⟩
      obtain ⟨s, x, h1, h2, h3, _⟩ := get hb
      exact ⟨b, s, x, base, h1, h2, h3, by rw [← hσ b s h1]; exact hr⟩
    have hFrame : ∀ {G' G : Fr} {tm : Array Value}, FrRen σ Z H G' G → FRel w g G tm → FRel w g' G' tm := fun hr hF t d hd =>
      let ⟨e, h1, h2⟩ := hr.get hd
      let ⟨v, h3, h4⟩ := hF t e h1
      ⟨v, h3, hrep h2 h4⟩
    have hH2 : HRel w g' H' := by
      refine ⟨?_, ?_, ?_, ?_, ?_, ?_⟩
      · rintro k (hk | ⟨b, hz, cs, base, hb, hr⟩)
        · exact hH.scell k hk
        · obtain ⟨k', base', c, e, hρ', hk, _⟩ := hH.blk b cs hb
          rw [hr] at hρ'
          obtain ⟨rfl, rfl⟩ : k = k' ∧ base = base' := by simpa using hρ'
          exact ⟨c.size, by simp [cellsN, hk]⟩
      · rintro k hk hl
        obtain ⟨b, s, x, base, h1, h2, h3, h4⟩ := hLof k hl
        rcases hk with hk | ⟨b2, hz, cs, base2, hb2, hr2⟩
        · exact hH.sL k hk ⟨s, x, base, h3, h4⟩
        · have := hH.inj b2 s k base2 base _ _ hb2 h3 hr2 h4
          exact h2 (this ▸ hz)
      · intro b hb
        simp only [g']
        rw [List.getElem?_eq_none (by omega)]
      · intro b cs' hb
        obtain ⟨s, x, h1, h2, h3, h4⟩ := get hb
        cases x with
        | loop r F => exact h4.elim
        | cells cs =>
          obtain ⟨k, base, c, e, e1, e2, e3, e4, e5⟩ := hH.blk s cs h3
          refine ⟨k, base, c, e, by rw [hσ b s h1]; exact e1, e2, by have := h4.1; omega, ones_of h4.1 (fun i x y hx hy => (h4.2 i x y hx hy).one) e4, fun i y hy => ?_⟩
          obtain ⟨x, hx⟩ := get_both h4.1 hy
          obtain ⟨v, hv, hr⟩ := e5 i x hx
          exact ⟨v, hv, hrep (h4.2 i x y hx hy) hr⟩
      · intro b r F'' hb
        obtain ⟨s, x, h1, h2, h3, h4⟩ := get hb
        cases x with
        | cells cs => exact h4.elim
        | loop r' F2 =>
          obtain ⟨rfl, h5⟩ := h4
          obtain ⟨k, e1, e2, e3⟩ := hH.loop s _ F2 h3
          exact ⟨k, by rw [hσ b s h1]; exact e1, e2, hFrame h5 e3⟩
      · intro b b' k base base' x x' hx hx' hr hr'
        obtain ⟨s, y, h1, h2, h3, _⟩ := get hx
        obtain ⟨s', y', h1', h2', h3', _⟩ := get hx'
        rw [hσ b s h1] at hr
        rw [hσ b' s' h1'] at hr'
        have := hH.inj s s' k base base' y y' h3 h3' hr hr'
        subst this
        exact (List.getElem?_inj (lt_of_getElem? h1) hnd).1 (h1.trans h1'.symm)
    have ev : Ev N w g (Lof g H) w g' (Lof g' H') := ⟨rfl, rfl, rfl, Nat.le_refl _, fun _ _ _ => rfl, fun _ _ h => h, fun k hk => .inl hk, fun k hk => hk.imp id (fun ⟨b, _, cs, base, hb, hr⟩ => .inl ⟨b, _, base, hb, hr⟩),
      fun k hk => let ⟨_, s, x, base, _, _, h3, h4⟩ := hLof k hk; .inl ⟨s, x, base, h3, h4⟩, hρ⟩
    refine (h w g' tm df hH2 (hFrame hFr hF) hs hN).mono fun e tm' df' w' ⟨F2, H2, g2, q, nx, r⟩ => ⟨F2, H2, g2, q, ?_, r⟩
    exact (Nxt.same_df (df := df) ev hH2 hN).trans nx

theorem W.loopT {c : Code} {Q : Post} {α : Type} (C : α → Prop) (μ : α → Nat) (Fs : α → Fr) (Hs : α → Hp) (a0 : α) (hc : C a0) (h0 : To N (Fs a0) (Hs a0) F H)
    (round : ∀ a, C a → W P n N c (loopQ μ a (fun a F H => C a ∧ To N (Fs a) (Hs a) F H) Q) (Fs a) (Hs a)) : W P n N (.loop c) Q F H := by
  refine .to h0 (.loop μ (fun a F H => C a ∧ To N (Fs a) (Hs a) F H) a0 ⟨hc, .same (fun t d h => ⟨d, h, .refl d⟩) rfl⟩ ?_)
  rintro a F1 H1 ⟨h1, h2⟩
  exact (round a h1).to h2

end
end Go.V
