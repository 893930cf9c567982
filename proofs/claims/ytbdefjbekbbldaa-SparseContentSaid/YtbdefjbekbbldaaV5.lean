/- The logic V, part 39: code that names no live memory, beside any heap. -/
import Derived.Test.YtbdefjbekbbldaaV4
set_option linter.unusedVariables false
set_option linter.unusedSimpArgs false
set_option linter.unnecessarySimpa false
namespace Go.V
theorem FrFrz.get {H : Hp} : ∀ {F' F : Fr}, FrFrz H F' F → ∀ {t d'}, F'.get t = some d' → ∃ d, F.get t = some d ∧ Frz H d d'
  | [], _, _, _, _, h => by cases h
  | (u, x) :: F', F, h, t, d', hd => by
    unfold Fr.get at hd
    cases hb : Nat.beq u t with
    | true =>
      rw [hb] at hd
      cases hd
      obtain rfl := Nat.eq_of_beq_eq_true hb
      exact h.1
    | false =>
      rw [hb] at hd
      exact FrFrz.get h.2 hd
/-- Run on an empty heap: what is left, let go of all live memory, is what the code leaves beside any heap. -/
theorem W.beside {P : Program} {n N : Nat} {c : Code} {F : Fr} {H : Hp} {Q Q' : Post} (hF : ∀ t d, F.get t = some d → Pure d)
    (hq : ∀ e F0 H0, Q e F0 H0 → ∃ F', Q' e F' H ∧ FrFrz H0 F' F0 ∧ noLoopB H0 = true) (h : W P n 0 c Q F []) : W P n N c Q' F H := by
  intro w g tm df hH hFr hn hN
  have hH0 : HRel w { S := g.S, ρ := fun _ => none } [] := HRel.nil hH.scell
  have hF0 : FRel w { S := g.S, ρ := fun _ => none } F tm := fun t d hd => let ⟨v, h1, h2⟩ := hFr t d hd; ⟨v, h1, Rep.ofPure (g := g) (g' := { S := g.S, ρ := fun _ => none }) (fun _ h => h) h2 (hF t d hd)⟩
  refine (h w _ tm df hH0 hF0 hn (Nat.zero_le _)).mono ?_
  rintro e tm' df' w' ⟨F0, H0, g1, hQ, nx, hF1, hs⟩
  obtain ⟨F', hQ', hfz, hno'⟩ := hq e F0 H0 hQ
  have hno := noLoopB_spec hno'
  have ev := nx.ev
  have hH' := nx.hrel
  have hL0 : ∀ k, ¬ Lof { S := g.S, ρ := fun _ => none } [] k := by rintro k ⟨b, x, base, hb, _⟩; cases hb
  have hkeep : ∀ k, k < w.heap.size → w'.heap[k]? = w.heap[k]? := fun k hk => ev.keep k hk (hL0 k)
  have hs2 : ∀ k, (g1.S k ∨ Lof g1 H0 k) → g.S k ∨ w.heap.size ≤ k := by
    rintro k (h1 | h1)
    · rcases ev.s2 k h1 with h2 | h2 | h2
      · exact .inl h2
      · exact (hL0 k h2).elim
      · exact .inr h2
    · rcases ev.l2 k h1 with h2 | h2
      · exact (hL0 k h2).elim
      · exact .inr h2
  refine ⟨F', H, { S := fun k => g1.S k ∨ Lof g1 H0 k, ρ := g.ρ }, hQ', ⟨?_, ?_, hN, nx.marks⟩, ?_, hs⟩
  · exact ⟨ev.os, ev.tape, ev.output, ev.size, fun k hk _ => hkeep k hk, ev.shape, fun k hk => .inl (ev.s1 k hk), fun k hk => (hs2 k hk).imp id .inr, fun k hk => .inl hk, fun _ _ => rfl⟩
  · exact hH.beside hkeep (fun k hk => .inl (ev.s1 k hk)) hs2 (fun k hk => hk.elim (hH'.scell k) (fun h => Lof_cells hH' h hno)) ev.shape
  · intro t d' hd
    obtain ⟨d, h1, h2⟩ := hfz.get hd
    obtain ⟨v, h3, h4⟩ := hF1 t d h1
    exact ⟨v, h3, h4.frz hH' (fun k hk => hk) h2⟩
/-- Values with other numbers of blocks. -/
def RenL (σ : List Nat) (H : Hp) : List D → List D → Prop
  | [], [] => True
  | d :: ds, e :: es => Ren σ [] H d e ∧ RenL σ H ds es
  | _, _ => False
theorem RenL.rep {σ : List Nat} {H : Hp} {w : World} {g g' : Gh} (hH : HRel w g H) (hS : ∀ k, g.S k → g'.S k) (hσ : ∀ b' b, σ[b']? = some b → g'.ρ b' = g.ρ b) : ∀ {ds es : List D} {vs : List Value}, RenL σ H ds es → RepL w g ds vs → RepL w g' es vs
  | [], [], vs, _, h => ⟨h.1, fun i d v hd _ => by cases hd⟩
  | [], _ :: _, _, h, _ => h.elim
  | _ :: _, [], _, h, _ => h.elim
  | d :: ds, e :: es, [], _, h => absurd h.1 (by simp)
  | d :: ds, e :: es, v :: vs, h, hr => by
    have h0 : Rep w g' e v := (hr.2 0 d v rfl rfl).ren hH (fun k hk => hk.elim (hS k) fun ⟨b, hb, _⟩ => by cases hb) hσ h.1
    have h1 : RepL w g' es vs := RenL.rep hH hS hσ h.2 ⟨by have := hr.1; simpa using this, fun i x u hx hu => hr.2 (i + 1) x u hx hu⟩
    refine ⟨by simp [h1.1], fun i x u hx hu => ?_⟩
    cases i with
    | zero => cases hx; cases hu; exact h0
    | succ i => exact h1.2 i x u hx hu
/-- A function that only reads one row, beside any heap. -/
theorem FnTo.sub {P : Program} {f : FuncId} {args args' : List D} {H : Hp} {b : Nat} {cs : List D} {d0 : D} (hb : H[b]? = some (some (.cells cs))) (hcs : ∀ d ∈ cs, Pure d) (hd0 : Pure d0) (ha : RenL [b] H args' args)
    (h : FnTo P f args [some (.cells cs)] fun d H' => d = d0 ∧ H' = [some (.cells cs)]) : FnTo P f args' H fun d H' => d = d0 ∧ H' = H := by
  refine ⟨h.1, fun w g vs hH hA => ?_⟩
  obtain ⟨k0, base0, c0, e0, q1, q2, q3, q4, q5⟩ := hH.blk b cs hb
  let g0 : Gh := { S := g.S, ρ := fun c => if c = 0 then g.ρ b else none }
  have g00 : g0.ρ 0 = some (k0, base0) := by show (if 0 = 0 then g.ρ b else none) = _; rw [if_pos rfl]; exact q1
  have hl0 : ∀ (g' : Gh), g'.ρ 0 = some (k0, base0) → ∀ k, Lof g' [some (.cells cs)] k ↔ k = k0 := fun g' hg' k => by
    constructor
    · rintro ⟨c, x, base, hc, hr⟩
      cases c with
      | zero => rw [hg'] at hr; cases hr; rfl
      | succ c => cases hc
    · rintro rfl
      exact ⟨0, _, base0, rfl, hg'⟩
  have hk0 : Lof g H k0 := ⟨b, _, base0, hb, q1⟩
  have hH0 : HRel w g0 [some (.cells cs)] := by
    refine ⟨hH.scell, fun k hk hl => ?_, fun c hc => ?_, fun c cs' hc => ?_, fun c r F hc => ?_, fun c c' k base base' x x' hc hc' _ _ => ?_⟩
    · rw [hl0 g0 g00] at hl
      subst hl
      exact hH.sL _ hk hk0
    · show (if c = 0 then g.ρ b else none) = none
      rw [if_neg (by simp at hc; omega)]
    · cases c with
      | zero =>
        cases hc
        exact ⟨k0, base0, c0, e0, g00, q2, q3, q4, fun i d hd => let ⟨v, p, q⟩ := q5 i d hd; ⟨v, p, Rep.ofPure (g := g) (g' := g0) (fun _ h => h) q (hcs d (List.mem_of_getElem? hd))⟩⟩
      | succ c => cases hc
    · cases c with
      | zero => cases hc
      | succ c => cases hc
    · cases c with
      | zero =>
        cases c' with
        | zero => rfl
        | succ c' => cases hc'
      | succ c => cases hc
  have hA0 : RepL w g0 args vs := RenL.rep (g' := g0) hH (fun _ h => h) (fun b' b1 hs => by
    cases b' with
    | zero => cases hs; show (if 0 = 0 then g.ρ b else none) = g.ρ b; rw [if_pos rfl]
    | succ b' => cases hs) ha hA
  refine (h.2 w g0 vs hH0 hA0).mono ?_
  rintro e w' ⟨v, d', H', g1, rfl, ⟨rfl, rfl⟩, ev, hH', _, hrep⟩
  have g10 : g1.ρ 0 = some (k0, base0) := by rw [ev.ρ 0 (by simp)]; exact g00
  have hlof : ∀ k, Lof g H k → k < w.heap.size := fun k hk => Lof_lt hH hk
  have hkeep : ∀ k, k < w.heap.size → k ≠ k0 → w'.heap[k]? = w.heap[k]? := fun k hk hne => ev.keep k hk fun hl => hne ((hl0 g0 g00 k).1 hl)
  let g2 : Gh := { S := g1.S, ρ := g.ρ }
  have kp : Keeps w g w' g2 := ⟨fun k hk => hkeep k (hH.slt k hk) fun he => hH.sL k hk (he ▸ hk0), ev.shape, fun k hk => ev.s1 k hk, fun _ _ h => h⟩
  refine ⟨v, d', H, g2, rfl, ⟨rfl, rfl⟩, ?_, ?_, Nat.le_refl _, Rep.ofPure (g := g1) (g' := g2) (fun _ h => h) hrep hd0⟩
  · exact ⟨ev.os, ev.tape, ev.output, ev.size, fun k hk hn => hkeep k hk fun he => hn (he ▸ hk0), ev.shape, fun k hk => ev.s1 k hk, fun k hk => by
      rcases ev.s2 k hk with h1 | h1 | h1
      · exact .inl h1
      · exact .inr (.inl (by rw [(hl0 g0 g00 k).1 h1]; exact hk0))
      · exact .inr (.inr h1), fun k hk => .inl hk, fun _ _ => rfl⟩
  · refine ⟨hH'.scell, fun k hk hl => ?_, hH.dom, fun c cs' hc => ?_, fun c r F hc => ?_, hH.inj⟩
    · rcases ev.s2 k hk with h1 | h1 | h1
      · exact hH.sL k h1 hl
      · exact hH'.sL k hk ((hl0 g1 g10 k).2 ((hl0 g0 g00 k).1 h1))
      · have := hlof k hl; omega
    · by_cases hcb : c = b
      · subst hcb
        rw [hb] at hc
        cases hc
        obtain ⟨k, base, c1, e1, r1, r2, r3, r4, r5⟩ := hH'.blk 0 cs rfl
        rw [g10] at r1
        cases r1
        exact ⟨k0, base0, c1, e1, q1, r2, r3, r4, fun i d hd => let ⟨u, p, q⟩ := r5 i d hd; ⟨u, p, Rep.ofPure (g := g1) (g' := g2) (fun _ h => h) q (hcs d (List.mem_of_getElem? hd))⟩⟩
      · obtain ⟨k, base, c1, e1, r1, r2, r3, r4, r5⟩ := hH.blk c cs' hc
        have hne : k ≠ k0 := fun he => by
          subst he
          exact hcb (hH.inj c b _ _ _ _ _ hc hb r1 q1)
        exact ⟨k, base, c1, e1, r1, by rw [hkeep k (Array.getElem?_eq_some_iff.1 r2).1 hne]; exact r2, r3, r4, fun i d hd => let ⟨u, p, q⟩ := r5 i d hd; ⟨u, p, q.keeps kp⟩⟩
    · obtain ⟨k, r1, r2, r3⟩ := hH.loop c r F hc
      have hne : k ≠ k0 := fun he => by
        subst he
        have := hH.inj c b _ _ _ _ _ hc hb r1 q1
        subst this
        rw [hb] at hc
        cases hc
      exact ⟨k, r1, by rw [hkeep k (Array.getElem?_eq_some_iff.1 r2).1 hne]; exact r2, r3.keeps kp⟩
/-- What a function made beside its result may be forgotten. -/
theorem FnTo.drop {P : Program} {f : FuncId} {args : List D} {H : Hp} {d0 : D} (hd0 : Pure d0) (hB : belHp H.length H) (h : FnTo P f args H fun d H' => d = d0 ∧ ∃ T, H' = H ++ T) : FnTo P f args H fun d H' => d = d0 ∧ H' = H := by
  refine ⟨h.1, fun w g vs hH hA => (h.2 w g vs hH hA).mono ?_⟩
  rintro e w' ⟨v, d', H', g1, rfl, ⟨rfl, T, rfl⟩, ev, hH', _, hrep⟩
  have hc : ∀ b, b < H.length → (g1.cut H.length).ρ b = g1.ρ b := fun b hb => if_pos hb
  refine ⟨v, d', H, g1.cut H.length, rfl, ⟨rfl, rfl⟩, ?_, hH'.trunc hB, Nat.le_refl _, Rep.ofPure (g := g1) (g' := g1.cut H.length) (fun _ h => h) hrep hd0⟩
  exact ⟨ev.os, ev.tape, ev.output, ev.size, ev.keep, ev.shape, ev.s1, ev.s2, fun k ⟨b, x, base, hb, hr⟩ => ev.l2 k ⟨b, x, base, get_append_left hb, by rw [← hc b (lt_of_getElem? hb)]; exact hr⟩, fun b hb => by rw [hc b hb]; exact ev.ρ b hb⟩
end Go.V
