/- The logic V, part 13: what becomes of the heap's description where a block is made, written, or moved. -/
import Derived.Test.YtcnblloiaambaaaV12
namespace Go.V

def putAt (H : Hp) (b : Nat) (x : Blk) : Hp := if b < H.length then H.set b (some x) else H ++ List.replicate (b - H.length) none ++ [some x]

theorem putAt_len (H : Hp) (x : Blk) : putAt H H.length x = H ++ [some x] := by simp [putAt]

theorem putAt_length (H : Hp) (b : Nat) (x : Blk) : H.length ≤ (putAt H b x).length ∧ b < (putAt H b x).length := by
  unfold putAt
  split
  · simp; assumption
  · simp; omega

theorem putAt_length_le {H : Hp} {b : Nat} {x : Blk} {c : Nat} (h1 : H.length ≤ c) (h2 : b < c) : (putAt H b x).length ≤ c := by
  unfold putAt
  split
  · simpa using h1
  · simp; omega

theorem putAt_same (H : Hp) (b : Nat) (x : Blk) : (putAt H b x)[b]? = some (some x) := by
  unfold putAt
  split
  · rename_i h; rw [List.getElem?_set_self h]
  · rename_i h
    have h0 : (H ++ List.replicate (b - H.length) none).length = b := by simp; omega
    rw [List.getElem?_append_right (by omega), h0, Nat.sub_self]
    rfl

theorem putAt_other {H : Hp} {b c : Nat} {x y : Blk} (h : c ≠ b) : (putAt H b x)[c]? = some (some y) ↔ H[c]? = some (some y) := by
  unfold putAt
  split
  · rw [List.getElem?_set_ne (fun e => h e.symm)]
  · rename_i hb
    by_cases hc : c < H.length
    · rw [List.getElem?_append_left (by simp; omega), List.getElem?_append_left hc]
    · rw [List.getElem?_eq_none (l := H) (by omega)]
      constructor
      · intro he
        by_cases hc2 : c < b
        · rw [List.getElem?_append_left (by simp; omega), List.getElem?_append_right (by omega)] at he
          rw [List.getElem?_replicate] at he
          split at he <;> cases he
        · rw [List.getElem?_eq_none (by simp; omega)] at he
          cases he
      · intro he; cases he

theorem putAt_mem {H : Hp} {b c : Nat} {x y : Blk} (h : (putAt H b x)[c]? = some (some y)) : (c = b ∧ y = x) ∨ (c ≠ b ∧ H[c]? = some (some y)) := by
  by_cases hc : c = b
  · subst hc
    rw [putAt_same] at h
    exact .inl ⟨rfl, by simpa using h.symm⟩
  · exact .inr ⟨hc, (putAt_other hc).1 h⟩

theorem set_mem {H : Hp} {b c : Nat} {x : Option Blk} {y : Blk} (h : (H.set b x)[c]? = some (some y)) : (c = b ∧ x = some y) ∨ (c ≠ b ∧ H[c]? = some (some y)) := by
  by_cases hc : c = b
  · subst hc
    have hl : c < H.length := by have := (List.getElem?_eq_some_iff.1 h).1; simpa using this
    rw [List.getElem?_set_self hl] at h
    exact .inl ⟨rfl, by simpa using h⟩
  · rw [List.getElem?_set_ne (fun e => hc e.symm)] at h
    exact .inr ⟨hc, h⟩

structure Did (N nx : Nat) (w : World) (g : Gh) (H : Hp) (w' : World) (g' : Gh) (H' : Hp) : Prop where
  ev : Ev N w g (Lof g H) w' g' (Lof g' H')
  hrel : HRel w' g' H'
  kp : Keeps w g w' g'
  only : ∀ c, c ≠ nx → g'.ρ c = g.ρ c

section
variable {P : Program} {w w' w1 : World} {g g' g1 : Gh} {H H' H1 : Hp} {N nx : Nat}

theorem Did.trans (a : Did N nx w g H w1 g1 H1) (b : Did N nx w1 g1 H1 w' g' H') : Did N nx w g H w' g' H' :=
  ⟨a.ev.trans b.ev, b.hrel, ⟨fun k hk => (b.kp.cells k (a.kp.S k hk)).trans (a.kp.cells k hk), fun k n h => b.kp.shape k n (a.kp.shape k n h), fun k h => b.kp.S k (a.kp.S k h), fun c x h => b.kp.ρ c x (a.kp.ρ c x h)⟩, fun c hc => (b.only c hc).trans (a.only c hc)⟩

theorem Grew.did (e : Grew w g w' g') (h : HRel w g H) (N : Nat) : Did N nx w g H w' g' H :=
  ⟨e.ev N, e.hrel h, (e.ev H.length).keeps h (Nat.le_refl _), fun _ _ => by rw [e.ρ]⟩

def Gh.at (g : Gh) (b : Nat) (x : Nat × Nat) : Gh := { S := g.S, ρ := fun c => if c = b then some x else g.ρ c }

theorem Gh.at_ne {b c : Nat} {x : Nat × Nat} (h : c ≠ b) : (g.at b x).ρ c = g.ρ c := by simp [Gh.at, h]
theorem Gh.at_same {b : Nat} {x : Nat × Nat} : (g.at b x).ρ b = some x := by simp [Gh.at]

theorem Lof_lt (h : HRel w g H) {k : Nat} (hk : Lof g H k) : k < w.heap.size := by
  obtain ⟨b, x, base, hb, hr⟩ := hk
  cases x with
  | cells cs =>
    obtain ⟨k', base', c, e, hρ', hk', _⟩ := h.blk b cs hb
    rw [hr] at hρ'
    obtain ⟨rfl, _⟩ : k = k' ∧ base = base' := by simpa using hρ'
    exact (Array.getElem?_eq_some_iff.1 hk').1
  | loop r F =>
    obtain ⟨k', hρ', hk', _⟩ := h.loop b r F hb
    rw [hr] at hρ'
    obtain ⟨rfl, _⟩ : k = k' ∧ base = 0 := by simpa using hρ'
    exact (Array.getElem?_eq_some_iff.1 hk').1

theorem keeps_alloc (w : World) (g : Gh) (hH : HRel w g H) (o : Obj) {nx : Nat} (hn : g.ρ nx = none) : Keeps w g (w.alloc o) (g.at nx (w.heap.size, 0)) :=
  ⟨fun k hk => heap_alloc_old w _ k (hH.slt k hk), fun k n hk => by
    have := heap_alloc_old w o k (cellsN_lt hk)
    unfold cellsN at hk ⊢; rw [this]; exact hk, fun _ h => h, fun b x hb => by
    rw [Gh.at_ne (fun e => by subst e; rw [hn] at hb; cases hb)]; exact hb⟩

/-- A new block. -/
theorem did_alloc (hH : HRel w g H) {nx : Nat} (hn : g.ρ nx = none) (hN : N ≤ nx) {cs : List D} {c : Array Value} {e : TypeId} (hc : RepL w g cs (c.toList.take cs.length)) (h1 : ∀ d ∈ cs, d.one = true) :
    Did N nx w g H (w.alloc (.cells c e)) (g.at nx (w.heap.size, 0)) (putAt H nx (.cells cs)) := by
  have kp := keeps_alloc w g hH (.cells c e) hn
  have hLof : ∀ k, Lof (g.at nx (w.heap.size, 0)) (putAt H nx (.cells cs)) k → Lof g H k ∨ k = w.heap.size := by
    rintro k ⟨b, x, base, hb, hr⟩
    rcases putAt_mem hb with ⟨rfl, rfl⟩ | ⟨hne, hb'⟩
    · rw [Gh.at_same] at hr
      exact .inr (by simpa using (Prod.mk.inj (Option.some.inj hr)).1.symm)
    · rw [Gh.at_ne hne] at hr
      exact .inl ⟨b, x, base, hb', hr⟩
  have hsz : (w.alloc (.cells c e)).heap.size = w.heap.size + 1 := by simp
  have hcl : cs.length ≤ c.size := by
    have := hc.1
    simp only [List.length_take, Array.length_toList] at this
    omega
  refine ⟨⟨rfl, rfl, rfl, by omega, fun k hk _ => heap_alloc_old w _ k hk, kp.shape, fun _ h => h, fun k h => .inl h, fun k hk => (hLof k hk).imp id (fun h => by omega), fun b hb => Gh.at_ne (by omega)⟩, ?_, kp, fun _ hc => Gh.at_ne hc⟩
  refine ⟨fun k hk => let ⟨n, hn⟩ := hH.scell k hk; ⟨n, kp.shape k n hn⟩, ?_, ?_, ?_, ?_, ?_⟩
  · intro k hk hl
    rcases hLof k hl with h | h
    · exact hH.sL k hk h
    · have := hH.slt k hk; omega
  · intro b hb
    have hl := putAt_length H nx (.cells cs)
    rw [Gh.at_ne (by omega)]
    exact hH.dom b (by omega)
  · intro b ds hb
    rcases putAt_mem hb with ⟨rfl, he⟩ | ⟨hne, hb'⟩
    · cases he
      refine ⟨w.heap.size, 0, c, e, Gh.at_same, heap_alloc_new w _, by omega, h1, fun i d hd => ?_⟩
      have hi := lt_of_getElem? hd
      have hi' : i < c.size := by omega
      refine ⟨c[i], by simp [hi'], (hc.2 i d c[i] hd ?_).keeps kp⟩
      rw [List.getElem?_take]
      simp [hi, hi']
    · obtain ⟨k, base, c', e', h1', h2, h3, h4, h5⟩ := hH.blk b ds hb'
      exact ⟨k, base, c', e', by rw [Gh.at_ne hne]; exact h1', by rw [heap_alloc_old w _ k (Array.getElem?_eq_some_iff.1 h2).1]; exact h2, h3, h4, fun i d hd => let ⟨v, a, b⟩ := h5 i d hd; ⟨v, a, b.keeps kp⟩⟩
  · intro b r F hb
    rcases putAt_mem hb with ⟨rfl, he⟩ | ⟨hne, hb'⟩
    · cases he
    · obtain ⟨k, h1', h2, h3⟩ := hH.loop b r F hb'
      exact ⟨k, by rw [Gh.at_ne hne]; exact h1', by rw [heap_alloc_old w _ k (Array.getElem?_eq_some_iff.1 h2).1]; exact h2, h3.keeps kp⟩
  · intro b b' k base base' x x' hx hx' hr hr'
    rcases putAt_mem hx with ⟨rfl, _⟩ | ⟨hne, hb⟩ <;> rcases putAt_mem hx' with ⟨h2, _⟩ | ⟨hne', hb'⟩
    · exact h2.symm
    · rw [Gh.at_same] at hr
      rw [Gh.at_ne hne'] at hr'
      have h3 : k = w.heap.size := (Prod.mk.inj (Option.some.inj hr)).1.symm
      have := Lof_lt hH ⟨b', x', base', hb', hr'⟩
      omega
    · subst h2
      rw [Gh.at_same] at hr'
      rw [Gh.at_ne hne] at hr
      have h3 : k = w.heap.size := (Prod.mk.inj (Option.some.inj hr')).1.symm
      have := Lof_lt hH ⟨b, x, base, hb, hr⟩
      omega
    · rw [Gh.at_ne hne] at hr
      rw [Gh.at_ne hne'] at hr'
      exact hH.inj b b' k base base' x x' hb hb' hr hr'

theorem keeps_setRow (hH : HRel w g H) {k : Nat} (hk : Lof g H k) {c c' : Array Value} {e : TypeId} {fr : Nat × Nat} (hw : w.heap[k]? = some (.cells c e fr)) (hs : c'.size = c.size) : Keeps w g (w.setRow k c') g :=
  ⟨fun j hj => setRow_other w k j c' (fun e => hH.sL j hj (e ▸ hk)), fun j n hj => by
    by_cases he : j = k
    · subst he
      unfold cellsN at hj ⊢
      rw [hw] at hj
      rw [setRow_heap w j c c' e fr hw]
      simpa [hs] using hj
    · have := setRow_other w k j c' he
      unfold cellsN at hj ⊢; rw [this]; exact hj, fun _ h => h, fun _ _ h => h⟩

/-- A live block's cells are written. -/
theorem did_store (hH : HRel w g H) {b : Nat} {cs cs' : List D} (hb : H[b]? = some (some (.cells cs))) {k base : Nat} (hρ : g.ρ b = some (k, base)) {c c' : Array Value} {e : TypeId} (hw : w.heap[k]? = some (.cells c e (0, 0))) (hs : c'.size = c.size)
    (hl : base + cs'.length ≤ c.size) (h1 : ∀ d ∈ cs', d.one = true) (hc : ∀ (i : Nat) (d : D), cs'[i]? = some d → ∃ v, c'[base + i]? = some v ∧ Rep w g d v) :
    Did N nx w g H (w.setRow k c') g (H.set b (some (.cells cs'))) := by
  have hLk : Lof g H k := ⟨b, _, base, hb, hρ⟩
  have kp := keeps_setRow hH hLk hw hs
  have hLof : ∀ j, Lof g (H.set b (some (.cells cs'))) j → Lof g H j := by
    rintro j ⟨b', x, base', hb', hr⟩
    rcases set_mem hb' with ⟨rfl, _⟩ | ⟨hne, hb''⟩
    · rw [hρ] at hr
      have : k = j := (Prod.mk.inj (Option.some.inj hr)).1
      exact this ▸ hLk
    · exact ⟨b', x, base', hb'', hr⟩
  have old : ∀ b' x, b' ≠ b → H[b']? = some (some x) → ∀ j base', g.ρ b' = some (j, base') → j ≠ k := fun b' x hne hx j base' hr he => hne (hH.inj b' b k base' base x _ hx hb (he ▸ hr) hρ)
  refine ⟨⟨rfl, rfl, rfl, by simp, fun j hj hn => setRow_other w k j c' (fun e => hn (e ▸ hLk)), kp.shape, fun _ h => h, fun _ h => .inl h, fun j hj => .inl (hLof j hj), fun _ _ => rfl⟩, ?_, kp, fun _ _ => rfl⟩
  refine ⟨fun j hj => let ⟨n, hn⟩ := hH.scell j hj; ⟨n, kp.shape j n hn⟩, fun j hj hl => hH.sL j hj (hLof j hl), fun b' hb' => hH.dom b' (by simpa using hb'), ?_, ?_, ?_⟩
  · intro b' ds hb'
    rcases set_mem hb' with ⟨rfl, he⟩ | ⟨hne, hb''⟩
    · cases he
      exact ⟨k, base, c', e, hρ, setRow_heap w k c c' e _ hw, by omega, h1, fun i d hd => let ⟨v, a, b⟩ := hc i d hd; ⟨v, a, b.keeps kp⟩⟩
    · obtain ⟨j, base', c1, e1, x1, x2, x3, x4, x5⟩ := hH.blk b' ds hb''
      exact ⟨j, base', c1, e1, x1, by rw [setRow_other w k j c' (old b' _ hne hb'' j base' x1)]; exact x2, x3, x4, fun i d hd => let ⟨v, a, b⟩ := x5 i d hd; ⟨v, a, b.keeps kp⟩⟩
  · intro b' r F hb'
    rcases set_mem hb' with ⟨rfl, he⟩ | ⟨hne, hb''⟩
    · cases he
    · obtain ⟨j, x1, x2, x3⟩ := hH.loop b' r F hb''
      exact ⟨j, x1, by rw [setRow_other w k j c' (old b' _ hne hb'' j 0 x1)]; exact x2, x3.keeps kp⟩
  · intro b1 b2 j base1 base2 x x' hx hx' hr hr'
    have get : ∀ {b1 : Nat} {x : Blk}, (H.set b (some (.cells cs')))[b1]? = some (some x) → ∃ y, H[b1]? = some (some y) := fun h => by
      rcases set_mem h with ⟨rfl, _⟩ | ⟨_, h⟩
      · exact ⟨_, hb⟩
      · exact ⟨_, h⟩
    obtain ⟨y, hy⟩ := get hx
    obtain ⟨y', hy'⟩ := get hx'
    exact hH.inj b1 b2 j base1 base2 y y' hy hy' hr hr'

/-- A live block is let go. -/
theorem did_kill (hH : HRel w g H) (b : Nat) : Did N nx w g H w g (H.set b none) := by
  have mem : ∀ {c : Nat} {y : Blk}, (H.set b none)[c]? = some (some y) → H[c]? = some (some y) := fun h => by
    rcases set_mem h with ⟨_, h⟩ | ⟨_, h⟩
    · cases h
    · exact h
  have hLof : ∀ j, Lof g (H.set b none) j → Lof g H j := fun j ⟨b', x, base', hb', hr⟩ => ⟨b', x, base', mem hb', hr⟩
  exact ⟨⟨rfl, rfl, rfl, Nat.le_refl _, fun _ _ _ => rfl, fun _ _ h => h, fun _ h => h, fun _ h => .inl h, fun j hj => .inl (hLof j hj), fun _ _ => rfl⟩,
    ⟨hH.scell, fun k hk hl => hH.sL k hk (hLof k hl), fun b' hb' => hH.dom b' (by simpa using hb'), fun b' cs h => hH.blk b' cs (mem h), fun b' r F h => hH.loop b' r F (mem h), fun b1 b2 k base1 base2 x x' hx hx' => hH.inj b1 b2 k base1 base2 x x' (mem hx) (mem hx')⟩,
    .refl _ _, fun _ _ => rfl⟩

/-- The same real block under a new number, from a place further on. -/
theorem did_rename (hH : HRel w g H) {b nx : Nat} {cs cs' : List D} (hb : H[b]? = some (some (.cells cs))) {k base off : Nat} (hρ : g.ρ b = some (k, base)) (hn : g.ρ nx = none) (hN : N ≤ nx)
    (hcs : ∀ (i : Nat) (d : D), cs'[i]? = some d → cs[off + i]? = some d) (hle : cs' ≠ [] → off + cs'.length ≤ cs.length) (hle' : base + off ≤ (cellsN w k).getD 0) :
    Did N nx w g H w (g.at nx (k, base + off)) (putAt (H.set b none) nx (.cells cs')) := by
  have hnb : nx ≠ b := fun e => by subst e; rw [hn] at hρ; cases hρ
  have mem : ∀ {c : Nat} {y : Blk}, (H.set b none)[c]? = some (some y) → c ≠ b ∧ H[c]? = some (some y) := fun h => by
    rcases set_mem h with ⟨_, h⟩ | ⟨h1, h⟩
    · cases h
    · exact ⟨h1, h⟩
  obtain ⟨k', base', c, e, hρ', hk, hsz, hone, hcell⟩ := hH.blk b cs hb
  rw [hρ] at hρ'
  obtain ⟨rfl, rfl⟩ : k = k' ∧ base = base' := by simpa using hρ'
  have kp : Keeps w g w (g.at nx (k, base + off)) := ⟨fun _ _ => rfl, fun _ _ h => h, fun _ h => h, fun c x hc => by
    rw [Gh.at_ne (fun e => by subst e; rw [hn] at hc; cases hc)]; exact hc⟩
  have hLof : ∀ j, Lof (g.at nx (k, base + off)) (putAt (H.set b none) nx (.cells cs')) j → Lof g H j := by
    rintro j ⟨b', x, base', hb', hr⟩
    rcases putAt_mem hb' with ⟨rfl, _⟩ | ⟨hne, hb''⟩
    · rw [Gh.at_same] at hr
      have : k = j := (Prod.mk.inj (Option.some.inj hr)).1
      exact this ▸ ⟨b, _, base, hb, hρ⟩
    · rw [Gh.at_ne hne] at hr
      exact ⟨b', x, base', (mem hb'').2, hr⟩
  refine ⟨⟨rfl, rfl, rfl, Nat.le_refl _, fun _ _ _ => rfl, fun _ _ h => h, fun _ h => h, fun _ h => .inl h, fun j hj => .inl (hLof j hj), fun c hc => Gh.at_ne (by omega)⟩, ?_, kp, fun _ hc => Gh.at_ne hc⟩
  refine ⟨hH.scell, fun j hj hl => hH.sL j hj (hLof j hl), ?_, ?_, ?_, ?_⟩
  · intro b' hb'
    have hl := putAt_length (H.set b none) nx (.cells cs')
    rw [Gh.at_ne (by omega)]
    exact hH.dom b' (by simp at hl; omega)
  · intro b' ds hb'
    rcases putAt_mem hb' with ⟨rfl, he⟩ | ⟨hne, hb''⟩
    · cases he
      refine ⟨k, base + off, c, e, Gh.at_same, hk, ?_, fun d hd => ?_, fun i d hd => ?_⟩
      · by_cases hcs0 : cs' = []
        · subst hcs0
          simp only [cellsN, hk, Option.getD_some] at hle'
          simpa using hle'
        · have := hle hcs0; omega
      · obtain ⟨i, hi, rfl⟩ := List.getElem_of_mem hd
        exact hone _ (List.mem_of_getElem? (hcs i _ (by simp)))
      · obtain ⟨v, hv, hr⟩ := hcell (off + i) d (hcs i d hd)
        exact ⟨v, by rw [Nat.add_assoc]; exact hv, hr.keeps kp⟩
    · obtain ⟨j, base', c1, e1, x1, x2, x3, x4, x5⟩ := hH.blk b' ds (mem hb'').2
      exact ⟨j, base', c1, e1, by rw [Gh.at_ne hne]; exact x1, x2, x3, x4, fun i d hd => let ⟨v, a, b⟩ := x5 i d hd; ⟨v, a, b.keeps kp⟩⟩
  · intro b' r F hb'
    rcases putAt_mem hb' with ⟨rfl, he⟩ | ⟨hne, hb''⟩
    · cases he
    · obtain ⟨j, x1, x2, x3⟩ := hH.loop b' r F (mem hb'').2
      exact ⟨j, by rw [Gh.at_ne hne]; exact x1, x2, x3.keeps kp⟩
  · intro b1 b2 j base1 base2 x x' hx hx' hr hr'
    rcases putAt_mem hx with ⟨rfl, _⟩ | ⟨hne, hb1⟩ <;> rcases putAt_mem hx' with ⟨h2, _⟩ | ⟨hne', hb2⟩
    · exact h2.symm
    · rw [Gh.at_same] at hr
      rw [Gh.at_ne hne'] at hr'
      have h3 : k = j := (Prod.mk.inj (Option.some.inj hr)).1
      subst h3
      exact absurd (hH.inj b2 b k base2 base x' _ (mem hb2).2 hb hr' hρ) (mem hb2).1
    · subst h2
      rw [Gh.at_same] at hr'
      rw [Gh.at_ne hne] at hr
      have h3 : k = j := (Prod.mk.inj (Option.some.inj hr')).1
      subst h3
      exact absurd (hH.inj b1 b k base1 base x _ (mem hb1).2 hb hr hρ) (mem hb1).1
    · rw [Gh.at_ne hne] at hr
      rw [Gh.at_ne hne'] at hr'
      exact hH.inj b1 b2 j base1 base2 x x' (mem hb1).2 (mem hb2).2 hr hr'
end
end Go.V
