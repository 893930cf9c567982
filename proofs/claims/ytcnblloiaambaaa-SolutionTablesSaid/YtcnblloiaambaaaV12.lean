/- The logic V, part 12: vop is sound: literals of slices, len, cap, max, min; and all operations together. -/
import Derived.Test.YtcnblloiaambaaaV11
namespace Go.V
section
variable {P : Program} {w w' : World} {g g' : Gh} {H : Hp} {F : Fr} {tm : Array Value} {o : Oper} {pre : Prop} {d : D}

theorem repR_rep {z : D} {zv : Value} (hz : RepL w g z.cells zv.cells.toList) (h1 : ∀ d ∈ z.cells, d.one = true) (s n : Nat) (hs : z.cells.length = s) (hp : 1 ≤ s) :
    RepL w g (repR n z.cells) ((Array.range (n * s)).map (fun i => zv.cells[i % zv.cells.size]!)).toList ∧ ∀ d ∈ repR n z.cells, d.one = true := by
  have hzs : zv.cells.size = s := by have := hz.1; simp only [Array.length_toList] at this; omega
  have hlen : ∀ n, (repR n z.cells).length = n * s := by
    intro n
    induction n with
    | zero => simp [repR]
    | succ n ih => simp only [repR, List.length_append, ih, hs, Nat.add_mul, Nat.one_mul]; omega
  have hget : ∀ n (i : Nat), i < n * s → (repR n z.cells)[i]? = z.cells[i % s]? := by
    intro n
    induction n with
    | zero => intro i hi; simp at hi
    | succ n ih =>
      intro i hi
      simp only [repR]
      rw [List.getElem?_append]
      split
      · rw [Nat.mod_eq_of_lt (by omega)]
      · rw [hs]
        have : (i - s) % s = i % s := by rw [Nat.mod_eq_sub_mod (a := i) (by omega)]
        rw [ih (i - s) (by rw [Nat.add_mul] at hi; omega), this]
  refine ⟨⟨by simp [hlen], fun i d v hd hv => ?_⟩, ?_⟩
  · have hi : i < n * s := by rw [← hlen n]; exact lt_of_getElem? hd
    rw [hget n i hi] at hd
    have hm : i % s < s := Nat.mod_lt _ hp
    simp only [Array.toList_map, List.getElem?_map, Array.toList_range, List.getElem?_range hi, Option.map_some, Option.some.injEq] at hv
    subst hv
    refine hz.2 _ d _ hd ?_
    rw [hzs]
    have hm' : i % s < zv.cells.size := by omega
    simp [hm']
  · intro d hd
    obtain ⟨i, hi, rfl⟩ := List.getElem_of_mem hd
    have h := hget n i (by rw [← hlen n]; exact hi)
    rw [List.getElem?_eq_getElem hi] at h
    exact h1 _ (List.mem_of_getElem? h.symm)

theorem rep_of_list {cs : List D} {A : Array Value} {k : Nat} {e : TypeId} {fr : Nat × Nat} (hw : w.heap[k]? = some (.cells A e fr)) (hA : RepL w g cs A.toList) :
    (∀ i : Nat, i < cs.length → w.cell? ⟨k, 0 + i, none⟩ = some ((A[i]?).getD default)) ∧ ∀ (i : Nat) (d : D), cs[i]? = some d → Rep w g d ((A[i]?).getD default) := by
  have hl : A.size = cs.length := by simpa using hA.1
  constructor
  · intro i hi
    have : i < A.size := by omega
    simp [World.cell?, hw, this]
  · intro i d hd
    have : i < A.size := by have := lt_of_getElem? hd; omega
    exact hA.2 i d _ hd (by simp [this])

theorem gives_buildSlice {t : TypeId} {n : Nat} {parts : Array (Nat × Operand)} (ho : o.op = .buildSlice t n parts) (hH : HRel w g H) (hF : FRel w g F tm) (h : vop P F o.op = some (pre, d)) : Gives P tm o w g d := by
  rw [ho] at h
  simp only [vop] at h
  split at h
  · rename_i e s by_ hel
    cases hc : (Nat.ble (n * s) 16777216 && Nat.ble 1 s) with
    | false => rw [hc] at h; cases h
    | true =>
      rw [hc] at h
      simp only [cond_true] at h
      simp only [Bool.and_eq_true, Nat.ble_eq] at hc
      split at h
      · rename_i z hz
        cases hzc : (Nat.beq z.cells.length s && z.notTup) with
        | false => rw [hzc] at h; cases h
        | true =>
          rw [hzc] at h
          simp only [cond_true] at h
          simp only [Bool.and_eq_true] at hzc
          have hzl := Nat.eq_of_beq_eq_true hzc.1
          split at h
          · rename_i cs hcs
            cases h
            obtain ⟨zv, hzr, hzrep⟩ := zeroD_run (P := P) (w := w) (g := g) hz
            have hsl : P.underlying t = some (.slice e) ∧ tySize P e = some s := by
              unfold elemOfSlice at hel
              split at hel
              · rename_i e' hu
                split at hel
                · rename_i i hi
                  simp only [Option.some.injEq, Prod.mk.injEq] at hel
                  obtain ⟨rfl, rfl, _⟩ := hel
                  exact ⟨hu, by simp [tySize, hi]⟩
                · cases hel
              · cases hel
            obtain ⟨hR, hR1⟩ := repR_rep (w := w) (g := g) hzrep.cells (hzrep.cells_one hzc.2) s n hzl hc.2
            obtain ⟨A', e1, e2, e3⟩ := fillR_rep _ hF parts.toList _ cs _ hcs hR hR1
            have hg' := Grew.alloc w g A' e
            refine ⟨.slice (some ⟨w.heap.size, 0, none⟩) n n, _, _, ?_, hg', ?_⟩
            · rw [execOp]
              have hparts : (parts.map fun (x : Nat × Operand) => (x.1, evalT tm x.2)).toList = parts.toList.map fun (i, x) => (i, evalT tm x) := by simp
              simp only [ho, Instr.buildSlice, Sem.run_bind, underlying_run hsl.1, Result.andThen_ok, sizeOf_run P w hsl.2]
              rw [if_neg (by omega)]
              simp only [Sem.run_bind, Sem.run_pure, Result.andThen_ok]
              by_cases hn0 : n * s = 0
              · have : n = 0 := by rcases Nat.mul_eq_zero.1 hn0 with h | h; exact h; omega
                subst this
                simp only [Nat.zero_mul, if_true, Sem.run_pure, Result.andThen_ok, hparts]
                simp only [Nat.zero_mul] at e1
                have e1' : Instr.fill (fun i => some (i * s, s)) (Array.map (fun x => (#[] : Array Value)[x % (#[] : Array Value).size]!) (Array.range 0)) (parts.toList.map fun (i, x) => (i, evalT tm x)) = some A' := by
                  rw [show (Array.range 0 : Array Nat) = #[] from rfl, Array.map_empty] at e1 ⊢; exact e1
                simp only [e1', newRow, Sem.run_bind, run_newObj, Result.andThen_ok, Sem.run_pure]
                rfl
              · rw [if_neg hn0]
                simp only [Sem.run_bind, hzr, Result.andThen_ok, Sem.run_pure, hparts, e1, newRow, run_newObj]
                rfl
            · have hl : A'.size = cs.length := by simpa using e2.1
              have kp := (hg'.ev (H := H) H.length).keeps hH (Nat.le_refl _)
              have hr := rep_of_list (heap_alloc_new w (.cells A' e)) (e2.keeps kp)
              exact .snap _ (fun _ => .inr rfl) e3 (Nat.le_refl _) (fun _ => rfl) hr.1 hr.2
          · cases h
      · cases h
  · cases h

theorem gives_builtin {b : Builtin} {args : Array Operand} {at_ : Array TypeId} (ho : o.op = .call { callee := .builtin b, args, argTypes := at_ }) (hF : FRel w g F tm) (h : vop P F o.op = some (pre, d)) : Gives P tm o w g d := by
  have ex : ∀ {v : Value}, (builtin b at_ o.type (args.map fun | .const _ => true | _ => false) (args.map (evalT tm))).run P w = .ok (.value v) w → (execOp (evalT tm) o).run P w = .ok (.value v) w := fun hr => by
    rw [execOp]
    simp only [ho, resolve, invoke, Sem.run_bind, Sem.run_pure, Result.andThen_ok]
    exact hr
  rw [ho] at h
  cases b <;> simp only [vop] at h <;> try (cases h; done)
  case len =>
    split at h
    · rename_i t x hat hax
      have hA : at_ = #[t] := by cases at_; simp_all
      have hX : args = #[x] := by cases args; simp_all
      subst hA; subst hX
      split at h
      · rename_i e cs n tight hu hx
        cases h
        obtain ⟨a, k, base, cap, f, hv, _⟩ := rep_snap (evalT_of hF hx)
        exact .same (ex (by simp [builtin, Builtin.len_, underlying_run hu, hv, goInt])) (.int _ _)
      · rename_i e b' off n c z hu hx
        cases h
        obtain ⟨k, base, x', cap, hv, _⟩ := rep_live (evalT_of hF hx)
        exact .same (ex (by simp [builtin, Builtin.len_, underlying_run hu, hv, goInt])) (.int _ _)
      · rename_i e hu hx
        cases h
        have hr := evalT_of hF hx
        have hv : evalT tm x = .slice none 0 0 := by
          generalize evalT tm x = y at hr
          cases hr; rfl
        exact .same (ex (by simp [builtin, Builtin.len_, underlying_run hu, hv, goInt])) (.int _ _)
      · rename_i s hu hx
        cases h
        have hv := rep_str (evalT_of hF hx)
        exact .same (ex (by simp [builtin, Builtin.len_, underlying_run hu, hv, goInt])) (.int _ _)
      · rename_i n e d' hu hx
        cases h
        refine .same (v := goInt n) (ex ?_) (.int _ _)
        simp only [builtin, Builtin.len_, Sem.run_bind]
        simp [underlying_run hu]
      · cases h
    · cases h
  case cap =>
    split at h
    · rename_i t x hat hax
      have hA : at_ = #[t] := by cases at_; simp_all
      have hX : args = #[x] := by cases args; simp_all
      subst hA; subst hX
      split at h
      · rename_i e hu hx
        cases h
        have hr := evalT_of hF hx
        have hv : evalT tm x = .slice none 0 0 := by
          generalize evalT tm x = y at hr
          cases hr; rfl
        exact .same (ex (by simp [builtin, Builtin.cap_, underlying_run hu, hv, goInt])) (.int _ _)
      · rename_i e cs n hu hx
        cases h
        obtain ⟨a, k, base, cap, f, hv, _, _, _, _, ht, _⟩ := rep_snap (evalT_of hF hx)
        obtain rfl := ht rfl
        exact .same (ex (by simp [builtin, Builtin.cap_, underlying_run hu, hv, goInt])) (.int _ _)
      · cases h
    · cases h
  case max =>
    split at h
    · rename_i x y hax
      have hX : args = #[x, y] := by cases args; simp_all
      subst hX
      split at h
      · rename_i k a k' b' hx hy
        cases hk : decide (k = k') with
        | false => rw [hk] at h; cases h
        | true =>
          rw [hk] at h
          obtain rfl : k = k' := of_decide_eq_true hk
          cases h
          have h1 := rep_int (evalT_of hF hx)
          have h2 := rep_int (evalT_of hF hy)
          exact .same (ex (by simp [builtin, Builtin.max_, h1, h2, Builtin.max2])) (.int _ _)
      · cases h
    · cases h
  case min =>
    split at h
    · rename_i x y hax
      have hX : args = #[x, y] := by cases args; simp_all
      subst hX
      split at h
      · rename_i k a k' b' hx hy
        cases hk : decide (k = k') with
        | false => rw [hk] at h; cases h
        | true =>
          rw [hk] at h
          obtain rfl : k = k' := of_decide_eq_true hk
          cases h
          have h1 := rep_int (evalT_of hF hx)
          have h2 := rep_int (evalT_of hF hy)
          exact .same (ex (by simp [builtin, Builtin.min_, h1, h2, Builtin.min2])) (.int _ _)
      · cases h
    · cases h
  case append =>
    split at h
    · rename_i t t' x y hat hax
      have hA : at_ = #[t, t'] := by cases at_; simp_all
      have hX : args = #[x, y] := by cases args; simp_all
      subst hA; subst hX
      cases htt : Nat.beq t t' with
      | false => rw [htt] at h; cases h
      | true =>
        rw [htt] at h
        obtain rfl := Nat.eq_of_beq_eq_true htt
        simp only [cond_true] at h
        split at h
        · rename_i e s by_ hel hx hy
          cases h
          have hr := evalT_of hF hx
          have hv : evalT tm x = .slice none 0 0 := by
            generalize evalT tm x = y at hr
            cases hr; rfl
          have hr' := evalT_of hF hy
          have hv' : evalT tm y = .slice none 0 0 := by
            generalize evalT tm y = z at hr'
            cases hr'; rfl
          unfold elemOfSlice at hel
          split at hel
          · rename_i e' hu
            split at hel
            · rename_i i hi
              refine .same (v := .slice none 0 0) (ex ?_) .snil
              simp [builtin, Builtin.append_, underlying_run hu, hv, hv', sizeOf, typeInfo, hi, Builtin.lenOf, Builtin.firstCells]
            · cases hel
          · cases hel
        · cases h
    · cases h

theorem vop_gives (hH : HRel w g H) (hF : FRel w g F tm) (h : vop P F o.op = some (pre, d)) (hp : pre) : Gives P tm o w g d := by
  cases ho : o.op
  case move x =>
    have h' := h
    rw [ho] at h'
    simp only [vop] at h'
    split at h'
    · rename_i d' hx
      cases h'
      exact gives_move (by rw [execOp]; simp only [ho]) hF hx
    · cases h'
  case assign x =>
    have h' := h
    rw [ho] at h'
    simp only [vop] at h'
    split at h'
    · rename_i d' hx
      cases h'
      exact gives_move (by rw [execOp]; simp only [ho]) hF hx
    · cases h'
  case pick c a b =>
    have h' := h
    rw [ho] at h'
    simp only [vop] at h'
    split at h'
    · rename_i hc
      split at h'
      · rename_i d' hx
        cases h'
        exact gives_pick ho hF hc hx
      · cases h'
    · rename_i hc
      split at h'
      · rename_i d' hx
        cases h'
        exact gives_pick ho hF hc hx
      · cases h'
    · cases h'
  case binOp => exact gives_bin ho hF h hp
  case unOp => exact gives_un ho hF h
  case convert => exact gives_convert ho hF h
  case build => exact gives_build ho hF h
  case buildSlice => exact gives_buildSlice ho hH hF h
  case load => exact gives_load ho hF h
  case nilCheck => exact gives_nilCheck ho hF h
  case makeInterface => exact gives_makeInterface ho hF h
  case makeFunc => exact gives_makeFunc ho hF h
  case fieldAddr => exact gives_fieldAddr ho hF h
  case field => exact gives_field ho hF h
  case indexAddr => exact gives_indexAddr ho hF h hp
  case index => exact gives_index ho hF h hp
  case extract => exact gives_extract ho hF h
  case typeAssert => exact gives_typeAssert ho hF h
  case slice => exact gives_slice ho hF h hp
  case call c =>
    obtain ⟨callee, args, at_⟩ := c
    cases callee with
    | builtin b => exact gives_builtin ho hF h
    | value f => rw [ho] at h; simp [vop] at h
    | invoke r m => rw [ho] at h; simp [vop] at h
  all_goals (rw [ho] at h; simp [vop] at h)
end
end Go.V
