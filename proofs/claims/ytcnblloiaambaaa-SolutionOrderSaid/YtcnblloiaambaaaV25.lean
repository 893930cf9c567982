/- The logic V, part 25: functions that compute values. -/
import Derived.Test.YtcnblloiaambaaaV24
namespace Go.V

def noLoopB : Hp → Bool
  | [] => true
  | some (.loop _ _) :: _ => false
  | _ :: r => noLoopB r

theorem noLoopB_spec : ∀ {H : Hp}, noLoopB H = true → ∀ (b : Nat) (r : Loop) (F : Fr), H[b]? ≠ some (some (.loop r F))
  | [], _, b, r, F => by simp
  | none :: H, h, b, r, F => by
    cases b with
    | zero => simp
    | succ b => simpa using noLoopB_spec (H := H) h b r F
  | some (.cells _) :: H, h, b, r, F => by
    cases b with
    | zero => simp
    | succ b => simpa using noLoopB_spec (H := H) h b r F
  | some (.loop _ _) :: H, h, b, r, F => by cases h

def PureL : List D → Prop
  | [] => True
  | d :: r => Pure d ∧ PureL r

theorem PureL.mem : ∀ {ds : List D}, PureL ds → ∀ d ∈ ds, Pure d
  | [], _, _, h => by cases h
  | x :: r, hp, d, h => by
    rcases List.mem_cons.1 h with rfl | h
    · exact hp.1
    · exact PureL.mem hp.2 d h

theorem PureL.of {ds : List D} (h : ∀ d ∈ ds, Pure d) : PureL ds := by
  induction ds with
  | nil => trivial
  | cons x r ih => exact ⟨h x (by simp), ih (fun d hd => h d (by simp [hd]))⟩

theorem FrzL.nil {H : Hp} : FrzL H [] [] := ⟨rfl, by simp⟩
theorem FrzL.cons {H : Hp} {x y : D} {ds ds' : List D} (h : Frz H x y) (t : FrzL H ds ds') : FrzL H (x :: ds) (y :: ds') := by
  refine ⟨by simp [t.1], fun i a b ha hb => ?_⟩
  cases i with
  | zero => simp only [List.getElem?_cons_zero, Option.some.injEq] at ha hb; subst ha; subst hb; exact h
  | succ i => exact t.2 i a b (by simpa using ha) (by simpa using hb)

theorem FrzL.pure {H : Hp} {ds : List D} (h : ∀ d ∈ ds, Pure d) : FrzL H ds ds :=
  ⟨rfl, fun i x y hx hy => by rw [hx] at hy; cases hy; exact .pure (h x (List.mem_of_getElem? hx)) (.refl _)⟩

theorem Frz.tupL {H : Hp} {ds ds' : List D} (h : FrzL H ds ds') : Frz H (.tup ds) (.tup ds') := .tup h.1 h.2
theorem Frz.aggL {H : Hp} {ds ds' : List D} (h : FrzL H ds ds') : Frz H (.agg ds) (.agg ds') := .agg h.1 h.2
theorem Frz.eq {H : Hp} {d d' : D} (hp : Pure d) (h : d = d') : Frz H d d' := h ▸ .pure hp (.refl _)
theorem Frz.bool {H : Hp} {a b : Bool} (h : a = b) : Frz H (.bool a) (.bool b) := .eq (.bool _) (by rw [h])
theorem Frz.int {H : Hp} {k : IntKind} {a b : Int} (h : a = b) : Frz H (.int k a) (.int k b) := .eq (.int _ _) (by rw [h])

def pureQ (P : Program) (fn : Func) (d : D) : Post := fun e F H =>
  match e with
  | .exit _ => False
  | _ => ∃ d', resD P fn.results.toList F H = some d' ∧ Frz H d' d ∧ noLoopB H = true

theorem PureFn.of_W {P : Program} {f : FuncId} {fn : Func} {c : Code} {args : List D} {d : D} (hp : PureL args) (he : ∀ (args : Array Value) (w : World), (callFunc f args).run P w = .ok (.enter f args) w) (hf : P.funcs[f]? = some fn) (hb : fn.body = some c)
    (hn : Nat.ble args.length fn.ntmps = true) (h : W P fn.ntmps 0 c (pureQ P fn d) (argsFr 0 args) []) : PureFn P f args d :=
  .of_nil hp.mem (.of_W he hf hb (Nat.le_of_ble_eq_true hn) (h.mono fun e F H hq => by
    cases e with
    | exit i => exact hq
    | normal => obtain ⟨d', h1, h2, h3⟩ := hq; exact ⟨d', h1, h2, noLoopB_spec h3⟩
    | ret => obtain ⟨d', h1, h2, h3⟩ := hq; exact ⟨d', h1, h2, noLoopB_spec h3⟩))

/-- A list of whole numbers. -/
def encI (k : IntKind) (xs : List Int) : D := .snap (xs.map (.int k)) xs.length false

theorem encI_pure (k : IntKind) (xs : List Int) : Pure (encI k xs) := .snap (by
  intro d hd
  obtain ⟨x, _, rfl⟩ := List.mem_map.1 hd
  exact .int _ _)

/-- A list of values of one cell each. -/
def encL {α : Type} (f : α → D) (xs : List α) : D := .snap (xs.map f) xs.length false

theorem encL_pure {α : Type} {f : α → D} {xs : List α} (h : ∀ x ∈ xs, Pure (f x)) : Pure (encL f xs) := .snap (by
  intro d hd
  obtain ⟨x, hx, rfl⟩ := List.mem_map.1 hd
  exact h x hx)

theorem map_get {α β : Type} {f : α → β} {xs : List α} {i off : Nat} (h : i < xs.length) (ho : off = i) : (xs.map f)[off]? = some (f xs[i]) := by
  subst ho; simp [h]

/-- A list of values of several cells each. -/
def encS {α : Type} (f : α → List D) (xs : List α) : D := .snap (xs.flatMap f) xs.length false

theorem encS_pure {α : Type} {f : α → List D} {xs : List α} (h : ∀ x ∈ xs, ∀ d ∈ f x, Pure d) : Pure (encS f xs) := .snap (by
  intro d hd
  obtain ⟨x, hx, hd⟩ := List.mem_flatMap.1 hd
  exact h x hx d hd)

theorem flat_get {α : Type} {f : α → List D} {s : Nat} (hs : ∀ x, (f x).length = s) : ∀ {xs : List α} {i j off : Nat} (h : i < xs.length) (_ : j < s) (_ : off = i * s + j), (xs.flatMap f)[off]? = (f xs[i])[j]?
  | [], i, j, _, h, _, _ => by simp at h
  | x :: xs, 0, j, _, h, hj, rfl => by
    simp only [List.flatMap_cons, List.getElem_cons_zero]
    rw [List.getElem?_append_left (by rw [hs]; omega)]
    congr 1
    omega
  | x :: xs, i + 1, j, _, h, hj, rfl => by
    simp only [List.flatMap_cons, List.getElem_cons_succ]
    rw [List.getElem?_append_right (by rw [hs, Nat.add_mul]; omega)]
    refine flat_get hs (by simpa using h) hj ?_
    rw [hs, Nat.add_mul]
    omega

theorem takeR_of : ∀ (s : Nat) (cs : List D) (off : Nat) (r : List D), 0 < s → r.length = s → (∀ j, j < s → cs[off + j]? = r[j]?) → takeR cs off s = some r
  | 0, _, _, _, h0, _, _ => absurd h0 (Nat.lt_irrefl 0)
  | s + 1, [], 0, r, _, hl, h => by
    have := h 0 (by omega)
    cases r with
    | nil => simp at hl
    | cons a r => simp at this
  | 1, c :: cs, 0, r, _, hl, h => by
    match r, hl with
    | [a], _ =>
      have h0 := h 0 (by omega)
      simp at h0
      subst h0
      cases cs <;> rfl
  | s + 2, c :: cs, 0, r, _, hl, h => by
    cases r with
    | nil => simp at hl
    | cons a r =>
      have h0 := h 0 (by omega)
      simp at h0
      subst h0
      have := takeR_of (s + 1) cs 0 r (by omega) (by simpa using hl) (fun j hj => by have := h (j + 1) (by omega); simpa [Nat.add_assoc] using this)
      simp [takeR, this]
  | s + 1, [], off + 1, r, _, hl, h => by
    have := h 0 (by omega)
    cases r with
    | nil => simp at hl
    | cons a r => simp at this
  | s + 1, c :: cs, off + 1, r, _, hl, h => by
    have := takeR_of (s + 1) cs off r (by omega) hl (fun j hj => by have := h j hj; rw [show off + 1 + j = (off + j) + 1 by omega] at this; simpa using this)
    simpa [takeR] using this

theorem flat_take {α : Type} {f : α → List D} {s : Nat} (hs : ∀ x, (f x).length = s) (h0 : 0 < s) {xs : List α} {i off : Nat} (h : i < xs.length) (ho : off = i * s) : takeR (xs.flatMap f) off s = some (f xs[i]) :=
  takeR_of _ _ _ _ h0 (hs _) fun j hj => by subst ho; exact flat_get hs h hj rfl

end Go.V
