/- The logic V, part 2: what abstract values, frames and heaps say of a world; how worlds may go on. -/
import Derived.Test.YtcnblloiaambaaaV1
namespace Go.V

theorem world_ext_heap {w w' : World} (h1 : w'.heap = w.heap) (h2 : w'.tape = w.tape) (h3 : w'.drawn = w.drawn) (h4 : w'.os = w.os) (h5 : w'.output = w.output) : w' = w := by
  cases w; cases w'; simp_all

/-- The ghost: which real blocks are never written again; where the abstract blocks lie. -/
structure Gh where
  S : Nat → Prop
  ρ : Nat → Option (Nat × Nat)

def cellsN (w : World) (k : Nat) : Option Nat := match w.heap[k]? with
  | some (.cells c _ _) => some c.size
  | _ => none

def D.one : D → Bool
  | .agg _ | .tup _ => false
  | _ => true

inductive Rep (w : World) (g : Gh) : D → Value → Prop where
  | bool (b : Bool) : Rep w g (.bool b) (.bool b)
  | int (k : IntKind) (n : Int) : Rep w g (.int k n) (.int k n)
  | str (s : ByteArray) : Rep w g (.str s) (.string s)
  | pnil : Rep w g .pnil (.pointer none)
  | ptr {b off k base : Nat} (h : g.ρ b = some (k, base)) : Rep w g (.ptr b off) (.pointer (some ⟨k, base + off, none⟩))
  | sptr {cs : List D} {off k base : Nat} (f : Nat → Value) (hS : cs ≠ [] → g.S k) (h1 : ∀ d ∈ cs, d.one = true)
      (hc : ∀ i : Nat, i < cs.length → w.cell? ⟨k, base + i, none⟩ = some (f i)) (hr : ∀ (i : Nat) (d : D), cs[i]? = some d → Rep w g d (f i)) :
      Rep w g (.sptr cs off) (.pointer (some ⟨k, base + off, none⟩))
  | snil : Rep w g .snil (.slice none 0 0)
  | snap {cs : List D} {len : Nat} {tight : Bool} {k base cap : Nat} (f : Nat → Value) (hS : cs ≠ [] → g.S k) (h1 : ∀ d ∈ cs, d.one = true)
      (hl : len ≤ cap) (ht : tight = true → cap = len)
      (hc : ∀ i : Nat, i < cs.length → w.cell? ⟨k, base + i, none⟩ = some (f i)) (hr : ∀ (i : Nat) (d : D), cs[i]? = some d → Rep w g d (f i)) :
      Rep w g (.snap cs len tight) (.slice (some ⟨k, base, none⟩) len cap)
  | snapNil (a : Option Addr) (tight : Bool) : Rep w g (.snap [] 0 tight) (.slice a 0 0)
  | live {b off len c sz k base x cap : Nat} (h : g.ρ b = some (k, base)) (hx : cap = 0 ∨ x = base + off) (hl : len ≤ c) (hc : c ≤ cap)
      (hn : cap = 0 ∨ ∃ n, cellsN w k = some n ∧ x + cap * sz ≤ n) :
      Rep w g (.live b off len c sz) (.slice (some ⟨k, x, none⟩) len cap)
  | fn {f : FuncId} {ds : List D} {vs : Array Value} (hn : vs.size = ds.length) (h : ∀ (i : Nat) (d : D) (v : Value), ds[i]? = some d → vs[i]? = some v → Rep w g d v) :
      Rep w g (.fn f ds) (.func (.func f) #[] vs)
  | yield {b k base : Nat} (h : g.ρ b = some (k, base)) : Rep w g (.yield b) (.func (.yield k) #[] #[])
  | fnil : Rep w g .fnil .nilFunc
  | iface {t : TypeId} {d : D} {v : Value} (h : Rep w g d v) : Rep w g (.iface t d) (.iface t v)
  | inil : Rep w g .inil .nilIface
  | agg {cs : List D} {vs : Array Value} (hn : vs.size = cs.length) (h1 : ∀ d ∈ cs, d.one = true) (h : ∀ (i : Nat) (d : D) (v : Value), cs[i]? = some d → vs[i]? = some v → Rep w g d v) :
      Rep w g (.agg cs) (.agg vs)
  | tup {cs : List D} {vs : Array Value} (hn : vs.size = cs.length) (h : ∀ (i : Nat) (d : D) (v : Value), cs[i]? = some d → vs[i]? = some v → Rep w g d v) :
      Rep w g (.tup cs) (.tuple vs)

def RepL (w : World) (g : Gh) (ds : List D) (vs : List Value) : Prop :=
  vs.length = ds.length ∧ ∀ (i : Nat) (d : D) (v : Value), ds[i]? = some d → vs[i]? = some v → Rep w g d v

def FRel (w : World) (g : Gh) (F : Fr) (tm : Array Value) : Prop := ∀ t d, F.get t = some d → ∃ v, tm[t]? = some v ∧ Rep w g d v

/-- The real blocks that the live abstract blocks lie in. -/
def Lof (g : Gh) (H : Hp) (k : Nat) : Prop := ∃ b x base, H[b]? = some (some x) ∧ g.ρ b = some (k, base)

structure HRel (w : World) (g : Gh) (H : Hp) : Prop where
  scell : ∀ k, g.S k → ∃ n, cellsN w k = some n
  sL : ∀ k, g.S k → ¬ Lof g H k
  dom : ∀ b, H.length ≤ b → g.ρ b = none
  blk : ∀ b cs, H[b]? = some (some (.cells cs)) → ∃ k base c e, g.ρ b = some (k, base) ∧ w.heap[k]? = some (.cells c e (0, 0)) ∧ base + cs.length ≤ c.size ∧
    (∀ d ∈ cs, d.one = true) ∧ ∀ (i : Nat) (d : D), cs[i]? = some d → ∃ v, c[base + i]? = some v ∧ Rep w g d v
  loop : ∀ b r F, H[b]? = some (some (.loop r F)) → ∃ k, g.ρ b = some (k, 0) ∧ w.heap[k]? = some (.loop r) ∧ FRel w g F r.tmps
  inj : ∀ b b' k base base' x x', H[b]? = some (some x) → H[b']? = some (some x') → g.ρ b = some (k, base) → g.ρ b' = some (k, base') → b = b'

/-- How a world may go on: what was not live is as it was. -/
structure Ev (N : Nat) (w : World) (g : Gh) (L : Nat → Prop) (w' : World) (g' : Gh) (L' : Nat → Prop) : Prop where
  os : w'.os = w.os
  tape : w'.tape = w.tape
  output : w'.output = w.output
  size : w.heap.size ≤ w'.heap.size
  keep : ∀ k, k < w.heap.size → ¬ L k → w'.heap[k]? = w.heap[k]?
  shape : ∀ k n, cellsN w k = some n → cellsN w' k = some n
  s1 : ∀ k, g.S k → g'.S k
  s2 : ∀ k, g'.S k → g.S k ∨ L k ∨ w.heap.size ≤ k
  l2 : ∀ k, L' k → L k ∨ w.heap.size ≤ k
  ρ : ∀ b, b < N → g'.ρ b = g.ρ b

section
variable {w w' w1 w2 : World} {g g' g1 g2 : Gh} {L L' L1 L2 : Nat → Prop} {H H' : Hp} {F : Fr} {tm : Array Value} {d d' : D} {v : Value} {ds : List D} {vs : List Value}

theorem Ev.refl (N : Nat) (w : World) (g : Gh) (L : Nat → Prop) : Ev N w g L w g L :=
  ⟨rfl, rfl, rfl, Nat.le_refl _, fun _ _ _ => rfl, fun _ _ h => h, fun _ h => h, fun _ h => .inl h, fun _ h => .inl h, fun _ _ => rfl⟩

theorem Ev.trans {N : Nat} (a : Ev N w g L w1 g1 L1) (b : Ev N w1 g1 L1 w2 g2 L2) : Ev N w g L w2 g2 L2 := by
  refine ⟨b.os.trans a.os, b.tape.trans a.tape, b.output.trans a.output, Nat.le_trans a.size b.size, ?_, fun k n h => b.shape k n (a.shape k n h), fun k h => b.s1 k (a.s1 k h), ?_, ?_, fun c h => (b.ρ c h).trans (a.ρ c h)⟩
  · intro k hk hL
    rw [b.keep k (Nat.lt_of_lt_of_le hk a.size) (fun h => (a.l2 k h).elim hL (fun h => absurd hk (Nat.not_lt.2 h)))]
    exact a.keep k hk hL
  · intro k h
    rcases b.s2 k h with h | h | h
    · exact a.s2 k h
    · exact .inr (a.l2 k h)
    · exact .inr (.inr (Nat.le_trans a.size h))
  · intro k h
    rcases b.l2 k h with h | h
    · exact a.l2 k h
    · exact .inr (Nat.le_trans a.size h)

theorem cell?_eq_of_heap {w w' : World} {a : Addr} (h : w'.heap[a.block]? = w.heap[a.block]?) : w'.cell? a = w.cell? a := by simp [World.cell?, h]

def oneV : Value → Bool
  | .agg _ | .tuple _ => false
  | _ => true

theorem Rep.one (h : Rep w g d v) (h1 : d.one = true) : oneV v = true := by
  cases h <;> first | rfl | (simp [D.one] at h1)

/-- What was live or fixed under g reads the same under g'. -/
structure Keeps (w : World) (g : Gh) (w' : World) (g' : Gh) : Prop where
  cells : ∀ k, g.S k → w'.heap[k]? = w.heap[k]?
  shape : ∀ k n, cellsN w k = some n → cellsN w' k = some n
  S : ∀ k, g.S k → g'.S k
  ρ : ∀ b x, g.ρ b = some x → g'.ρ b = some x

theorem Rep.keeps (e : Keeps w g w' g') (h : Rep w g d v) : Rep w' g' d v := by
  induction h with
  | bool b => exact .bool b
  | int k n => exact .int k n
  | str s => exact .str s
  | pnil => exact .pnil
  | ptr h => exact .ptr (e.ρ _ _ h)
  | sptr f hS h1 hc hr ih =>
    refine .sptr f (fun h => e.S _ (hS h)) h1 (fun i hi => ?_) ih
    rw [← hc i hi]
    exact cell?_eq_of_heap (e.cells _ (hS (fun h => by rw [h] at hi; simp at hi)))
  | snil => exact .snil
  | snap f hS h1 hl ht hc hr ih =>
    refine .snap f (fun h => e.S _ (hS h)) h1 hl ht (fun i hi => ?_) ih
    rw [← hc i hi]
    exact cell?_eq_of_heap (e.cells _ (hS (fun h => by rw [h] at hi; simp at hi)))
  | snapNil a t => exact .snapNil a t
  | live h hx hl hc hn => exact .live (e.ρ _ _ h) hx hl hc (hn.imp id fun ⟨n, a, b⟩ => ⟨n, e.shape _ _ a, b⟩)
  | fn hn h ih => exact .fn hn ih
  | yield h => exact .yield (e.ρ _ _ h)
  | fnil => exact .fnil
  | iface h ih => exact .iface ih
  | inil => exact .inil
  | agg hn h1 h ih => exact .agg hn h1 ih
  | tup hn h ih => exact .tup hn ih

theorem cellsN_lt {k n : Nat} (h : cellsN w k = some n) : k < w.heap.size := by
  unfold cellsN at h
  split at h
  · rename_i hk; exact (Array.getElem?_eq_some_iff.1 hk).1
  · cases h

theorem HRel.slt (h : HRel w g H) (k : Nat) (hk : g.S k) : k < w.heap.size := let ⟨_, hn⟩ := h.scell k hk; cellsN_lt hn

theorem HRel.sok (h : HRel w g H) : ∀ k, g.S k → k < w.heap.size ∧ ¬ Lof g H k := fun k hk => ⟨h.slt k hk, h.sL k hk⟩

theorem Ev.keeps {N : Nat} (e : Ev N w g (Lof g H) w' g' L') (h : HRel w g H) (hN : H.length ≤ N) : Keeps w g w' g' :=
  ⟨fun k hk => e.keep k (h.slt k hk) (h.sL k hk), e.shape, e.s1, fun b x hb => by
    rw [e.ρ b, hb]
    rcases Nat.lt_or_ge b H.length with h1 | h1
    · exact Nat.lt_of_lt_of_le h1 hN
    · rw [h.dom b h1] at hb; cases hb⟩

theorem Keeps.refl (w : World) (g : Gh) : Keeps w g w g := ⟨fun _ _ => rfl, fun _ _ h => h, fun _ h => h, fun _ _ h => h⟩

theorem Ev.le {N M : Nat} (e : Ev N w g L w' g' L') (h : M ≤ N) : Ev M w g L w' g' L' :=
  { e with ρ := fun b hb => e.ρ b (Nat.lt_of_lt_of_le hb h) }

theorem RepL.keeps (e : Keeps w g w' g') (h : RepL w g ds vs) : RepL w' g' ds vs :=
  ⟨h.1, fun i d v a b => (h.2 i d v a b).keeps e⟩

theorem FRel.keeps (e : Keeps w g w' g') (h : FRel w g F tm) : FRel w' g' F tm :=
  fun t d hd => let ⟨v, a, b⟩ := h t d hd; ⟨v, a, b.keeps e⟩

/-- No live memory anywhere in it. -/
inductive Pure : D → Prop where
  | bool (b : Bool) : Pure (.bool b)
  | int (k : IntKind) (n : Int) : Pure (.int k n)
  | str (s : ByteArray) : Pure (.str s)
  | pnil : Pure .pnil
  | sptr {cs : List D} {off : Nat} (h : ∀ d ∈ cs, Pure d) : Pure (.sptr cs off)
  | snil : Pure .snil
  | snap {cs : List D} {len : Nat} {t : Bool} (h : ∀ d ∈ cs, Pure d) : Pure (.snap cs len t)
  | fn {f : FuncId} {ds : List D} (h : ∀ d ∈ ds, Pure d) : Pure (.fn f ds)
  | fnil : Pure .fnil
  | iface {t : TypeId} {d : D} (h : Pure d) : Pure (.iface t d)
  | inil : Pure .inil
  | agg {cs : List D} (h : ∀ d ∈ cs, Pure d) : Pure (.agg cs)
  | tup {cs : List D} (h : ∀ d ∈ cs, Pure d) : Pure (.tup cs)

theorem Rep.ofPure {w : World} {g g' : Gh} (hS : ∀ k, g.S k → g'.S k) {d : D} {v : Value} (h : Rep w g d v) : Pure d → Rep w g' d v := by
  induction h with
  | bool b => exact fun _ => .bool b
  | int k n => exact fun _ => .int k n
  | str s => exact fun _ => .str s
  | pnil => exact fun _ => .pnil
  | ptr h => exact fun hp => by cases hp
  | sptr f hs h1 hc hr ih =>
    intro hp
    cases hp with
    | sptr hp => exact .sptr f (fun h => hS _ (hs h)) h1 hc (fun i d hd => ih i d hd (hp d (List.mem_of_getElem? hd)))
  | snil => exact fun _ => .snil
  | snap f hs h1 hl ht hc hr ih =>
    intro hp
    cases hp with
    | snap hp => exact .snap f (fun h => hS _ (hs h)) h1 hl ht hc (fun i d hd => ih i d hd (hp d (List.mem_of_getElem? hd)))
  | snapNil a t => exact fun _ => .snapNil a t
  | live h hx hl hc hn => exact fun hp => by cases hp
  | fn hn h ih =>
    intro hp
    cases hp with
    | fn hp => exact .fn hn (fun i d v hd hv => ih i d v hd hv (hp d (List.mem_of_getElem? hd)))
  | yield h => exact fun hp => by cases hp
  | fnil => exact fun _ => .fnil
  | iface h ih =>
    intro hp
    cases hp with
    | iface hp => exact .iface (ih hp)
  | inil => exact fun _ => .inil
  | agg hn h1 h ih =>
    intro hp
    cases hp with
    | agg hp => exact .agg hn h1 (fun i d v hd hv => ih i d v hd hv (hp d (List.mem_of_getElem? hd)))
  | tup hn h ih =>
    intro hp
    cases hp with
    | tup hp => exact .tup hn (fun i d v hd hv => ih i d v hd hv (hp d (List.mem_of_getElem? hd)))

/-- No live memory but blocks below m. -/
inductive Bel (m : Nat) : D → Prop where
  | bool (b : Bool) : Bel m (.bool b)
  | int (k : IntKind) (n : Int) : Bel m (.int k n)
  | str (s : ByteArray) : Bel m (.str s)
  | pnil : Bel m .pnil
  | ptr {b off : Nat} (h : b < m) : Bel m (.ptr b off)
  | sptr {cs : List D} {off : Nat} (h : ∀ d ∈ cs, Bel m d) : Bel m (.sptr cs off)
  | snil : Bel m .snil
  | snap {cs : List D} {len : Nat} {t : Bool} (h : ∀ d ∈ cs, Bel m d) : Bel m (.snap cs len t)
  | live {b off len c sz : Nat} (h : b < m) : Bel m (.live b off len c sz)
  | fn {f : FuncId} {ds : List D} (h : ∀ d ∈ ds, Bel m d) : Bel m (.fn f ds)
  | yield {b : Nat} (h : b < m) : Bel m (.yield b)
  | fnil : Bel m .fnil
  | iface {t : TypeId} {d : D} (h : Bel m d) : Bel m (.iface t d)
  | inil : Bel m .inil
  | agg {cs : List D} (h : ∀ d ∈ cs, Bel m d) : Bel m (.agg cs)
  | tup {cs : List D} (h : ∀ d ∈ cs, Bel m d) : Bel m (.tup cs)

theorem Rep.bel {m : Nat} (hS : ∀ k, g.S k → g'.S k) (hρ : ∀ b, b < m → g'.ρ b = g.ρ b) (h : Rep w g d v) : Bel m d → Rep w g' d v := by
  induction h with
  | bool b => exact fun _ => .bool b
  | int k n => exact fun _ => .int k n
  | str s => exact fun _ => .str s
  | pnil => exact fun _ => .pnil
  | ptr h => exact fun hp => by cases hp with | ptr hb => exact .ptr ((hρ _ hb).trans h)
  | sptr f hs h1 hc hr ih =>
    intro hp
    cases hp with
    | sptr hp => exact .sptr f (fun h => hS _ (hs h)) h1 hc (fun i d hd => ih i d hd (hp d (List.mem_of_getElem? hd)))
  | snil => exact fun _ => .snil
  | snap f hs h1 hl ht hc hr ih =>
    intro hp
    cases hp with
    | snap hp => exact .snap f (fun h => hS _ (hs h)) h1 hl ht hc (fun i d hd => ih i d hd (hp d (List.mem_of_getElem? hd)))
  | snapNil a t => exact fun _ => .snapNil a t
  | live h hx hl hc hn => exact fun hp => by cases hp with | live hb => exact .live ((hρ _ hb).trans h) hx hl hc hn
  | fn hn h ih =>
    intro hp
    cases hp with
    | fn hp => exact .fn hn (fun i d v hd hv => ih i d v hd hv (hp d (List.mem_of_getElem? hd)))
  | yield h => exact fun hp => by cases hp with | yield hb => exact .yield ((hρ _ hb).trans h)
  | fnil => exact fun _ => .fnil
  | iface h ih =>
    intro hp
    cases hp with
    | iface hp => exact .iface (ih hp)
  | inil => exact fun _ => .inil
  | agg hn h1 h ih =>
    intro hp
    cases hp with
    | agg hp => exact .agg hn h1 (fun i d v hd hv => ih i d v hd hv (hp d (List.mem_of_getElem? hd)))
  | tup hn h ih =>
    intro hp
    cases hp with
    | tup hp => exact .tup hn (fun i d v hd hv => ih i d v hd hv (hp d (List.mem_of_getElem? hd)))

theorem Pure.bel {m : Nat} (h : Pure d) : Bel m d := by
  induction h with
  | bool b => exact .bool b
  | int k n => exact .int k n
  | str s => exact .str s
  | pnil => exact .pnil
  | sptr h ih => exact .sptr ih
  | snil => exact .snil
  | snap h ih => exact .snap ih
  | fn h ih => exact .fn ih
  | fnil => exact .fnil
  | iface h ih => exact .iface ih
  | inil => exact .inil
  | agg h ih => exact .agg ih
  | tup h ih => exact .tup ih

/-- What tells less of a value: a nil slice may be told as an empty one. -/
inductive Wk : D → D → Prop where
  | refl (d : D) : Wk d d
  | snil (t : Bool) : Wk .snil (.snap [] 0 t)
  | snap {cs cs' : List D} {n : Nat} {t t' : Bool} (hn : cs'.length ≤ cs.length) (ht : t' = true → t = true) (h : ∀ (i : Nat) (x y : D), cs[i]? = some x → cs'[i]? = some y → Wk x y) : Wk (.snap cs n t) (.snap cs' n t')
  | sptr {cs cs' : List D} {off : Nat} (hn : cs'.length ≤ cs.length) (h : ∀ (i : Nat) (x y : D), cs[i]? = some x → cs'[i]? = some y → Wk x y) : Wk (.sptr cs off) (.sptr cs' off)
  | iface {t : TypeId} {d d' : D} (h : Wk d d') : Wk (.iface t d) (.iface t d')
  | fn {f : FuncId} {cs cs' : List D} (hn : cs'.length = cs.length) (h : ∀ (i : Nat) (x y : D), cs[i]? = some x → cs'[i]? = some y → Wk x y) : Wk (.fn f cs) (.fn f cs')
  | agg {cs cs' : List D} (hn : cs'.length = cs.length) (h : ∀ (i : Nat) (x y : D), cs[i]? = some x → cs'[i]? = some y → Wk x y) : Wk (.agg cs) (.agg cs')
  | tup {cs cs' : List D} (hn : cs'.length = cs.length) (h : ∀ (i : Nat) (x y : D), cs[i]? = some x → cs'[i]? = some y → Wk x y) : Wk (.tup cs) (.tup cs')

theorem Wk.one {d d' : D} (h : Wk d d') : d'.one = d.one := by cases h <;> rfl

theorem get_both {cs cs' : List D} (hn : cs'.length ≤ cs.length) {i : Nat} {y : D} (hy : cs'[i]? = some y) : ∃ x, cs[i]? = some x := by
  have hi : i < cs'.length := by
    rcases Nat.lt_or_ge i cs'.length with h | h
    · exact h
    · simp [List.getElem?_eq_none h] at hy
  exact ⟨cs[i], by simp⟩

theorem ones_of {cs cs' : List D} (hn : cs'.length ≤ cs.length) (h : ∀ (i : Nat) (x y : D), cs[i]? = some x → cs'[i]? = some y → y.one = x.one) (h1 : ∀ d ∈ cs, d.one = true) : ∀ d ∈ cs', d.one = true := by
  intro d hd
  obtain ⟨i, hi, rfl⟩ := List.getElem_of_mem hd
  obtain ⟨x, hx⟩ := get_both hn (i := i) (y := cs'[i]) (by simp)
  rw [h i x _ hx (by simp)]
  exact h1 x (List.mem_of_getElem? hx)

theorem Rep.wk {w : World} {g : Gh} {d d' : D} (hw : Wk d d') : ∀ {v}, Rep w g d v → Rep w g d' v := by
  induction hw with
  | refl d => exact fun h => h
  | snil t => intro v h; cases h; exact .snapNil _ t
  | @snap cs cs' n t t' hn ht h ih =>
    intro v hr
    cases hr with
    | snap f hS h1 hl ht' hc hr =>
      refine .snap f (fun hne => hS (fun e => hne (List.eq_nil_of_length_eq_zero (by rw [e] at hn; simpa using hn)))) (ones_of hn (fun i x y hx hy => (h i x y hx hy).one) h1) hl (fun e => ht' (ht e)) (fun i hi => hc i (by omega)) ?_
      intro i y hy
      obtain ⟨x, hx⟩ := get_both hn hy
      exact ih i x y hx hy (hr i x hx)
    | snapNil a t =>
      have : cs' = [] := List.eq_nil_of_length_eq_zero (by simpa using hn)
      subst this
      exact .snapNil _ _
  | @sptr cs cs' off hn h ih =>
    intro v hr
    cases hr with
    | sptr f hS h1 hc hr =>
      refine .sptr f (fun hne => hS (fun e => hne (List.eq_nil_of_length_eq_zero (by rw [e] at hn; simpa using hn)))) (ones_of hn (fun i x y hx hy => (h i x y hx hy).one) h1) (fun i hi => hc i (by omega)) ?_
      intro i y hy
      obtain ⟨x, hx⟩ := get_both hn hy
      exact ih i x y hx hy (hr i x hx)
  | iface h ih =>
    intro v hr
    cases hr with
    | iface hr => exact .iface (ih hr)
  | fn hn h ih =>
    intro v hr
    cases hr with
    | fn hn' hr =>
      refine .fn (hn'.trans hn.symm) fun i y v hy hv => ?_
      obtain ⟨x, hx⟩ := get_both (Nat.le_of_eq hn) hy
      exact ih i x y hx hy (hr i x v hx hv)
  | agg hn h ih =>
    intro v hr
    cases hr with
    | agg hn' h1 hr =>
      refine .agg (hn'.trans hn.symm) (ones_of (Nat.le_of_eq hn) (fun i x y hx hy => (h i x y hx hy).one) h1) fun i y v hy hv => ?_
      obtain ⟨x, hx⟩ := get_both (Nat.le_of_eq hn) hy
      exact ih i x y hx hy (hr i x v hx hv)
  | tup hn h ih =>
    intro v hr
    cases hr with
    | tup hn' hr =>
      refine .tup (hn'.trans hn.symm) fun i y v hy hv => ?_
      obtain ⟨x, hx⟩ := get_both (Nat.le_of_eq hn) hy
      exact ih i x y hx hy (hr i x v hx hv)

/-- What a value is once all live memory is let go: live slices become snapshots. -/
inductive Frz (H : Hp) : D → D → Prop where
  | pure {d d' : D} (h : Pure d) (hw : Wk d d') : Frz H d d'
  | live {b off len c sz : Nat} {cs ds : List D} (hb : H[b]? = some (some (.cells cs))) (hn : off + len * sz ≤ cs.length) (hd : ds.length = len * sz)
      (h : ∀ (i : Nat) (x y : D), cs[off + i]? = some x → ds[i]? = some y → Frz H x y) : Frz H (.live b off len c sz) (.snap ds len false)
  | snap {cs cs' : List D} {n : Nat} {t t' : Bool} (hn : cs'.length ≤ cs.length) (ht : t' = true → t = true) (h : ∀ (i : Nat) (x y : D), cs[i]? = some x → cs'[i]? = some y → Frz H x y) : Frz H (.snap cs n t) (.snap cs' n t')
  | ptr {b off : Nat} {cs ds : List D} (hb : H[b]? = some (some (.cells cs))) (hd : ds.length ≤ cs.length)
      (h : ∀ (i : Nat) (x y : D), cs[i]? = some x → ds[i]? = some y → Frz H x y) : Frz H (.ptr b off) (.sptr ds off)
  | sptr {cs cs' : List D} {off : Nat} (hn : cs'.length ≤ cs.length) (h : ∀ (i : Nat) (x y : D), cs[i]? = some x → cs'[i]? = some y → Frz H x y) : Frz H (.sptr cs off) (.sptr cs' off)
  | fn {f : FuncId} {cs cs' : List D} (hn : cs'.length = cs.length) (h : ∀ (i : Nat) (x y : D), cs[i]? = some x → cs'[i]? = some y → Frz H x y) : Frz H (.fn f cs) (.fn f cs')
  | iface {t : TypeId} {d d' : D} (h : Frz H d d') : Frz H (.iface t d) (.iface t d')
  | agg {cs ds : List D} (hn : ds.length = cs.length) (h : ∀ (i : Nat) (x y : D), cs[i]? = some x → ds[i]? = some y → Frz H x y) : Frz H (.agg cs) (.agg ds)
  | tup {cs ds : List D} (hn : ds.length = cs.length) (h : ∀ (i : Nat) (x y : D), cs[i]? = some x → ds[i]? = some y → Frz H x y) : Frz H (.tup cs) (.tup ds)

theorem Frz.one {H : Hp} {d d' : D} (h : Frz H d d') : d'.one = d.one := by
  cases h with
  | pure h hw => exact hw.one
  | _ => rfl

theorem Rep.frz {w : World} {g g' : Gh} {H : Hp} (hH : HRel w g H) (hS : ∀ k, g.S k ∨ Lof g H k → g'.S k) {d d' : D} (hf : Frz H d d') : ∀ {v}, Rep w g d v → Rep w g' d' v := by
  induction hf with
  | pure hp hw => exact fun h => (h.ofPure (fun k hk => hS k (.inl hk)) hp).wk hw
  | @live b off len c sz cs ds hb hn hd h ih =>
    intro v hr
    cases hr with
    | @live _ _ _ _ _ k base x cap hρ hx hl hc hnn =>
      obtain ⟨k', base', arr, e, hρ', hk, hsz, hone, hcell⟩ := hH.blk b cs hb
      rw [hρ] at hρ'
      obtain ⟨rfl, rfl⟩ : k = k' ∧ base = base' := by simpa using hρ'
      have hcs : ∀ i : Nat, i < ds.length → ∃ xd yd v, cs[off + i]? = some xd ∧ ds[i]? = some yd ∧ arr[base + off + i]? = some v ∧ Rep w g' yd v := by
        intro i hi
        have h1 : off + i < cs.length := by omega
        refine ⟨cs[off + i], ds[i], ?_⟩
        obtain ⟨v, hv, hrv⟩ := hcell (off + i) cs[off + i] (by simp)
        exact ⟨v, by simp, by simp, by rw [Nat.add_assoc]; exact hv, ih i _ _ (by simp) (by simp) hrv⟩
      have h1 : ∀ d ∈ ds, d.one = true := by
        intro d hd'
        obtain ⟨i, hi, rfl⟩ := List.getElem_of_mem hd'
        obtain ⟨xd, yd, v, hx, hy, _⟩ := hcs i hi
        have : ds[i] = yd := by simpa [hi] using hy
        rw [this, (h i xd yd hx hy).one]
        exact hone _ (List.mem_of_getElem? hx)
      refine .snap (fun i => (arr[base + off + i]?).getD default) (fun _ => hS k (.inr ⟨b, _, base, hb, hρ⟩)) h1 (Nat.le_trans hl hc) (by simp) ?_ ?_
      · intro i hi
        have hcap : cap ≠ 0 := by
          rintro rfl
          have : len = 0 := by omega
          subst this
          simp [hd] at hi
        have hxe : x = base + off := hx.resolve_left hcap
        subst hxe
        obtain ⟨_, _, v, _, _, hv, _⟩ := hcs i hi
        simp [World.cell?, hk, hv]
      · intro i d hd'
        have hi : i < ds.length := by
          rcases Nat.lt_or_ge i ds.length with h | h
          · exact h
          · simp [List.getElem?_eq_none h] at hd'
        obtain ⟨_, yd, v, _, hy, hv, hr⟩ := hcs i hi
        rw [hd'] at hy
        obtain rfl : d = yd := by simpa using hy
        simpa [hv] using hr
  | @ptr b off cs ds hb hd h ih =>
    intro v hr
    cases hr with
    | @ptr _ _ k base hρ =>
      obtain ⟨k', base', arr, e, hρ', hk, hsz, hone, hcell⟩ := hH.blk b cs hb
      rw [hρ] at hρ'
      obtain ⟨rfl, rfl⟩ : k = k' ∧ base = base' := by simpa using hρ'
      refine .sptr (fun i => (arr[base + i]?).getD default) (fun _ => hS k (.inr ⟨b, _, base, hb, hρ⟩)) (ones_of hd (fun i x y hx hy => (h i x y hx hy).one) hone) ?_ ?_
      · intro i hi
        obtain ⟨v, hv, _⟩ := hcell i cs[i] (by simp)
        simp [World.cell?, hk, hv]
      · intro i y hy
        obtain ⟨x, hx⟩ := get_both hd hy
        obtain ⟨v, hv, hrv⟩ := hcell i x hx
        simpa [hv] using ih i x y hx hy hrv
  | @sptr cs cs' off hn h ih =>
    intro v hr
    cases hr with
    | sptr f hS' h1 hc hr =>
      refine .sptr f (fun hne => hS _ (.inl (hS' (fun e => hne (List.eq_nil_of_length_eq_zero (by rw [e] at hn; simpa using hn)))))) (ones_of hn (fun i x y hx hy => (h i x y hx hy).one) h1) (fun i hi => hc i (by omega)) ?_
      intro i y hy
      obtain ⟨x, hx⟩ := get_both hn hy
      exact ih i x y hx hy (hr i x hx)
  | fn hn h ih =>
    intro v hr
    cases hr with
    | fn hn' hr =>
      refine .fn (hn'.trans hn.symm) fun i y v hy hv => ?_
      obtain ⟨x, hx⟩ := get_both (Nat.le_of_eq hn) hy
      exact ih i x y hx hy (hr i x v hx hv)
  | @snap cs cs' n t t' hn ht h ih =>
    intro v hr
    cases hr with
    | snap f hS' h1 hl ht' hc hr =>
      refine .snap f (fun hne => hS _ (.inl (hS' (fun e => hne (List.eq_nil_of_length_eq_zero (by rw [e] at hn; simpa using hn)))))) (ones_of hn (fun i x y hx hy => (h i x y hx hy).one) h1) hl (fun e => ht' (ht e)) (fun i hi => hc i (by omega)) ?_
      intro i y hy
      obtain ⟨x, hx⟩ := get_both hn hy
      exact ih i x y hx hy (hr i x hx)
    | snapNil a t =>
      have : cs' = [] := List.eq_nil_of_length_eq_zero (by simpa using hn)
      subst this
      exact .snapNil _ _
  | iface h ih =>
    intro v hr
    cases hr with
    | iface hr => exact .iface (ih hr)
  | @agg cs ds hn h ih =>
    intro v hr
    cases hr with
    | agg hn' h1' hr =>
      refine .agg (hn'.trans hn.symm) (ones_of (Nat.le_of_eq hn) (fun i x y hx hy => (h i x y hx hy).one) h1') fun i d v hd hv => ?_
      have hi : i < cs.length := by
        rw [← hn]
        rcases Nat.lt_or_ge i ds.length with h | h
        · exact h
        · simp [List.getElem?_eq_none h] at hd
      exact ih i cs[i] d (by simp) hd (hr i cs[i] v (by simp) hv)
  | @tup cs ds hn h ih =>
    intro v hr
    cases hr with
    | tup hn' hr =>
      refine .tup (hn'.trans hn.symm) fun i d v hd hv => ?_
      have hi : i < cs.length := by
        rw [← hn]
        rcases Nat.lt_or_ge i ds.length with h | h
        · exact h
        · simp [List.getElem?_eq_none h] at hd
      exact ih i cs[i] d (by simp) hd (hr i cs[i] v (by simp) hv)

theorem Rep.cells (h : Rep w g d v) : RepL w g d.cells v.cells.toList := by
  cases h with
  | agg hn h1 h =>
    refine ⟨by simpa [D.cells, Value.cells] using hn, fun i d v hd hv => h i d v hd (by simpa [Value.cells] using hv)⟩
  | _ =>
    refine ⟨rfl, fun i d v hd hv => ?_⟩
    cases i with
    | zero =>
      simp only [D.cells, Value.cells, List.getElem?_cons_zero, Option.some.injEq] at hd hv
      subst hd; subst hv
      first
        | assumption
        | constructor <;> assumption
    | succ i => simp [D.cells] at hd

theorem Rep.cells_one (h : Rep w g d v) (hn : d.notTup = true) : ∀ x ∈ d.cells, x.one = true := by
  cases h with
  | agg hn h1 h => exact h1
  | tup hn' h => simp [D.notTup] at hn
  | _ => intro x hx; simp only [D.cells, List.mem_singleton] at hx; subst hx; rfl

end
end Go.V
