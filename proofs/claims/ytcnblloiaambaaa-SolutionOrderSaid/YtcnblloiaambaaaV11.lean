/- The logic V, part 11: vop is sound: len, max, min, build; and all together. -/
import Derived.Test.YtcnblloiaambaaaV10
namespace Go.V
section
variable {P : Program} {w w' : World} {g g' : Gh} {H : Hp} {F : Fr} {tm : Array Value} {o : Oper} {pre : Prop} {d : D}

theorem overR_spec : ∀ (cs : List D) (off : Nat) (xs r : List D), overR cs off xs = some r → r.length = cs.length ∧ off + xs.length ≤ cs.length ∧
    ∀ i : Nat, r[i]? = if off ≤ i ∧ i < off + xs.length then xs[i - off]? else cs[i]?
  | cs, 0, [], r, h => by
    have : overR cs 0 [] = some cs := by cases cs <;> rfl
    rw [this] at h; cases h
    exact ⟨rfl, by simp, fun i => by rw [if_neg (by simp)]⟩
  | [], 0, _ :: _, r, h => by simp [overR] at h
  | _ :: cs, 0, x :: xs, r, h => by
    simp only [overR] at h
    split at h
    · rename_i r' hr
      cases h
      obtain ⟨h1, h2, h3⟩ := overR_spec cs 0 xs r' hr
      refine ⟨by simp [h1], by simp at h2 ⊢; omega, fun i => ?_⟩
      cases i with
      | zero => simp
      | succ i =>
        simp only [List.getElem?_cons_succ, h3 i, Nat.zero_le, true_and, Nat.zero_add, List.length_cons, Nat.sub_zero, Nat.add_lt_add_iff_right]
    · cases h
  | [], _ + 1, _, r, h => by simp [overR] at h
  | c :: cs, o + 1, xs, r, h => by
    simp only [overR] at h
    split at h
    · rename_i r' hr
      cases h
      obtain ⟨h1, h2, h3⟩ := overR_spec cs o xs r' hr
      refine ⟨by simp [h1], by simp; omega, fun i => ?_⟩
      cases i with
      | zero => simp
      | succ i =>
        simp only [List.getElem?_cons_succ, h3 i]
        by_cases hc : o ≤ i ∧ i < o + xs.length
        · rw [if_pos hc, if_pos (by omega)]
          congr 1
          omega
        · rw [if_neg hc, if_neg (by omega)]
    · cases h

theorem fold_set : ∀ (vs : List Value) (k off : Nat) (A : Array Value), off + k + vs.length ≤ A.size →
    ((vs.zipIdx k).foldl (fun cs (x : Value × Nat) => cs.setIfInBounds (off + x.2) x.1) A).size = A.size ∧
    ∀ i : Nat, ((vs.zipIdx k).foldl (fun cs (x : Value × Nat) => cs.setIfInBounds (off + x.2) x.1) A)[i]? = if off + k ≤ i ∧ i < off + k + vs.length then vs[i - (off + k)]? else A[i]?
  | [], k, off, A, _ => by
    refine ⟨rfl, fun i => ?_⟩
    rw [if_neg (by simp)]
    rfl
  | v :: vs, k, off, A, h => by
    simp only [List.length_cons] at h
    obtain ⟨h1, h2⟩ := fold_set vs (k + 1) off (A.setIfInBounds (off + k) v) (by simp; omega)
    simp only [List.zipIdx_cons, List.foldl_cons]
    refine ⟨by rw [h1]; simp, fun i => ?_⟩
    rw [h2 i]
    by_cases hc : off + (k + 1) ≤ i ∧ i < off + (k + 1) + vs.length
    · rw [if_pos hc, if_pos (by simp; omega)]
      rw [show i - (off + k) = (i - (off + (k + 1))) + 1 by omega]
      simp
    · rw [if_neg hc]
      by_cases hi : i = off + k
      · subst hi
        rw [if_pos (by simp), Array.getElem?_setIfInBounds_self_of_lt (by omega)]
        simp
      · rw [if_neg (by simp; omega)]
        rw [Array.getElem?_setIfInBounds_ne (by omega)]

theorem overR_rep {cs xs r : List D} {off : Nat} {A : Array Value} {v : Value} (h : overR cs off xs = some r) (hA : RepL w g cs A.toList) (hv : RepL w g xs v.cells.toList) :
    off + v.cells.size ≤ A.size ∧ RepL w g r (v.cells.zipIdx.foldl (fun cs (x : Value × Nat) => cs.setIfInBounds (off + x.2) x.1) A).toList := by
  obtain ⟨h1, h2, h3⟩ := overR_spec cs off xs r h
  have hAl : A.size = cs.length := by simpa using hA.1
  have hvl : v.cells.size = xs.length := by simpa using hv.1
  have hf := fold_set v.cells.toList 0 off A (by simp; omega)
  have he : v.cells.zipIdx.foldl (fun cs (x : Value × Nat) => cs.setIfInBounds (off + x.2) x.1) A = (v.cells.toList.zipIdx 0).foldl (fun cs (x : Value × Nat) => cs.setIfInBounds (off + x.2) x.1) A := by
    rw [← Array.foldl_toList]; simp
  rw [he]
  refine ⟨by omega, by rw [Array.length_toList, hf.1, hAl, h1], fun i d y hd hy => ?_⟩
  rw [h3 i] at hd
  have hy' : ((v.cells.toList.zipIdx 0).foldl (fun cs (x : Value × Nat) => cs.setIfInBounds (off + x.2) x.1) A)[i]? = some y := by simpa using hy
  rw [hf.2 i] at hy'
  simp only [Nat.add_zero, Array.length_toList] at hy'
  by_cases hc : off ≤ i ∧ i < off + xs.length
  · rw [if_pos hc] at hd
    rw [if_pos (by omega)] at hy'
    exact hv.2 _ d y hd hy'
  · rw [if_neg hc] at hd
    rw [if_neg (by omega)] at hy'
    exact hA.2 i d y hd (by simpa using hy')

theorem fillR_rep (place : Nat → Option (Nat × Nat)) (hF : FRel w g F tm) : ∀ (parts : List (Nat × Operand)) (cs r : List D) (A : Array Value), fillR place cs (parts.map fun (i, x) => (i, F.eval x)) = some r →
    RepL w g cs A.toList → (∀ d ∈ cs, d.one = true) → ∃ A', Instr.fill place A (parts.map fun (i, x) => (i, evalT tm x)) = some A' ∧ RepL w g r A'.toList ∧ (∀ d ∈ r, d.one = true)
  | [], cs, r, A, h, hA, h1 => by simp only [List.map_nil, fillR, Option.some.injEq] at h; subst h; exact ⟨A, rfl, hA, h1⟩
  | (i, x) :: parts, cs, r, A, h, hA, h1 => by
    simp only [List.map_cons] at h
    cases hx : F.eval x with
    | none => rw [hx] at h; simp [fillR] at h
    | some d =>
      rw [hx] at h
      simp only [fillR] at h
      split at h
      · rename_i off size hp
        cases hb : (Nat.beq d.cells.length size && d.notTup) with
        | false => rw [hb] at h; cases h
        | true =>
          rw [hb] at h
          simp only [cond_true] at h
          simp only [Bool.and_eq_true] at hb
          split at h
          · rename_i cs' hcs
            have hr := evalT_of hF hx
            have hsz := Nat.eq_of_beq_eq_true hb.1
            have hc := hr.cells
            obtain ⟨hle, hA'⟩ := overR_rep hcs hA hc
            have h1' : ∀ d ∈ cs', d.one = true := by
              intro y hy
              obtain ⟨j, hj, rfl⟩ := List.getElem_of_mem hy
              have h3 := (overR_spec cs off d.cells cs' hcs).2.2 j
              rw [List.getElem?_eq_getElem hj] at h3
              split at h3
              · exact hr.cells_one hb.2 _ (List.mem_of_getElem? h3.symm)
              · exact h1 _ (List.mem_of_getElem? h3.symm)
            obtain ⟨A', e1, e2, e3⟩ := fillR_rep place hF parts cs' r _ h hA' h1'
            refine ⟨A', ?_, e2, e3⟩
            have hvs : (evalT tm x).cells.size = size := by
              have := hc.1
              simp only [Array.length_toList] at this
              omega
            simp only [List.map_cons, Instr.fill, hp]
            have : ((evalT tm x).cells.size ≠ size || off + (evalT tm x).cells.size > A.size) = false := by
              simp [hvs]; omega
            rw [hvs] at this hle
            simp only [hvs]
            rw [if_neg (by simp; omega)]
            exact e1
          · cases h
      · cases h

theorem fields_mapM : ∀ (fs : List Field) , (∀ f ∈ fs, (tySize P f.type).isSome = true) →
    (fs.mapM (fun f => (do pure (f.offset, ← sizeOf f.type) : Sem (Nat × Nat)))).run P w = .ok (fs.map fun f => (f.offset, (tySize P f.type).getD 0)) w
  | [], _ => by simp
  | f :: fs, h => by
    obtain ⟨s, hs⟩ := Option.isSome_iff_exists.1 (h f (by simp))
    simp only [List.mapM_cons, Sem.run_bind, sizeOf_run P w hs, Result.andThen_ok, Sem.run_pure, fields_mapM fs (fun f hf => h f (by simp [hf])), List.map_cons, hs, Option.getD_some]

theorem gives_build {t : TypeId} {parts : Array (Nat × Operand)} (ho : o.op = .build t parts) (hF : FRel w g F tm) (h : vop P F o.op = some (pre, d)) : Gives P tm o w g d := by
  rw [ho] at h
  simp only [vop] at h
  split at h
  · rename_i fs z hu hz
    cases hall : fs.toList.all (fun f => (tySize P f.type).isSome) with
    | false => rw [hall] at h; cases h
    | true =>
      rw [hall] at h
      simp only [cond_true] at h
      split at h
      · rename_i cs hcs
        cases h
        obtain ⟨zv, hzr, hzrep⟩ := zeroD_run (P := P) (w := w) (g := g) hz
        cases hzt : z.notTup with
        | false => rw [hzt] at hcs; cases hcs
        | true =>
          rw [hzt] at hcs
          simp only [cond_true] at hcs
          obtain ⟨A', e1, e2, e3⟩ := fillR_rep _ hF parts.toList z.cells cs zv.cells hcs hzrep.cells (hzrep.cells_one hzt)
          refine .same (v := .agg A') ?_ (.agg (by simpa using e2.1) e3 (fun i d v hd hv => e2.2 i d v hd (by simpa using hv)))
          rw [execOp]
          have hm := fields_mapM (P := P) (w := w) fs.toList (fun f hf => List.all_eq_true.1 hall f hf)
          have hm' : (fs.mapM (fun f => (do pure (f.offset, ← sizeOf f.type) : Sem (Nat × Nat)))).run P w = .ok (fs.toList.map fun f => (f.offset, (tySize P f.type).getD 0)).toArray w := by
            have : fs = fs.toList.toArray := by simp
            rw [this, List.mapM_toArray]
            simp only [Sem.run_map, hm, Result.andThen_ok]
          simp only [ho, Instr.build, Sem.run_bind, hzr, Result.andThen_ok, underlying_run hu, hm']
          have hpl : (fun (x : Nat) => ((fs.toList.map fun f => (f.offset, (tySize P f.type).getD 0)).toArray)[x]?) = (fun i => match fs.toList[i]? with
              | some f => match tySize P f.type with
                | some s => some (f.offset, s)
                | none => none
              | none => none) := by
            funext i
            simp only [List.getElem?_toArray, List.getElem?_map]
            cases hi : fs.toList[i]? with
            | none => rfl
            | some f =>
              obtain ⟨s, hs⟩ := Option.isSome_iff_exists.1 (List.all_eq_true.1 hall f (List.mem_of_getElem? hi))
              simp [hs]
          have hparts : (parts.map fun (x : Nat × Operand) => (x.1, evalT tm x.2)).toList = parts.toList.map fun (i, x) => (i, evalT tm x) := by simp
          have e1' : Instr.fill (fun (x : Nat) => ((fs.toList.map fun f => (f.offset, (tySize P f.type).getD 0)).toArray)[x]?) zv.cells (parts.toList.map fun (i, x) => (i, evalT tm x)) = some A' := by
            rw [hpl]; exact e1
          simp only [hparts, e1']
          rfl
      · cases h
  · rename_i n e z hu hz
    split at h
    · rename_i s hs
      split at h
      · rename_i cs hcs
        cases h
        obtain ⟨zv, hzr, hzrep⟩ := zeroD_run (P := P) (w := w) (g := g) hz
        cases hzt : z.notTup with
        | false => rw [hzt] at hcs; cases hcs
        | true =>
          rw [hzt] at hcs
          simp only [cond_true] at hcs
          obtain ⟨A', e1, e2, e3⟩ := fillR_rep _ hF parts.toList z.cells cs zv.cells hcs hzrep.cells (hzrep.cells_one hzt)
          refine .same (v := .agg A') ?_ (.agg (by simpa using e2.1) e3 (fun i d v hd hv => e2.2 i d v hd (by simpa using hv)))
          rw [execOp]
          have hparts : (parts.map fun (x : Nat × Operand) => (x.1, evalT tm x.2)).toList = parts.toList.map fun (i, x) => (i, evalT tm x) := by simp
          simp only [ho, Instr.build, Sem.run_bind, hzr, Result.andThen_ok, underlying_run hu, sizeOf_run P w hs, hparts, e1]
          rfl
      · cases h
    · cases h
  · cases h
end
end Go.V
