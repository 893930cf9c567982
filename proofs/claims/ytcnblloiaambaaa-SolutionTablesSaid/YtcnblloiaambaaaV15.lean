/- The logic V, part 15: append, copy and clear; every heap step is sound. -/
import Derived.Test.YtcnblloiaambaaaV14
namespace Go.V
section
variable {P : Program} {w w' : World} {g g' : Gh} {H : Hp} {F : Fr} {tm : Array Value} {N nx : Nat} {o : Oper}

theorem write_live (hH : HRel w g H) {b off : Nat} {cs xs r : List D} (hb : H[b]? = some (some (.cells cs))) {k base : Nat} (hρ : g.ρ b = some (k, base)) (hr : overR cs off xs = some r) {vs : List Value} (hvs : RepL w g xs vs) (hd1 : ∀ d ∈ xs, d.one = true) :
    ∃ w', (storeCells ⟨k, base + off, none⟩ vs).run P w = .ok () w' ∧ Did N nx w g H w' g (H.set b (some (.cells r))) := by
  obtain ⟨k', base', arr, e, hρ', hk, hsz, hone, hcell⟩ := hH.blk b cs hb
  rw [hρ] at hρ'
  obtain ⟨rfl, rfl⟩ : k = k' ∧ base = base' := by simpa using hρ'
  obtain ⟨o1, o2, o3⟩ := overR_spec cs off xs r hr
  have hvl : vs.length = xs.length := hvs.1
  have hone' : ∀ u ∈ vs, u.oneCell' = true := by
    intro u hu
    obtain ⟨i, hi, rfl⟩ := List.getElem_of_mem hu
    have hi' : i < xs.length := by omega
    have h1 := hvs.2 i xs[i] _ (by simp) (List.getElem?_eq_getElem hi)
    have h2 := hd1 xs[i] (List.getElem_mem _)
    revert h1 h2
    generalize vs[i] = u
    generalize xs[i] = dd
    intro h1 h2
    cases h1 <;> first | rfl | (simp [D.one] at h2)
  have hst := run_storeCells_at P k (base + off) e vs 0 arr w hk (by omega) hone'
  refine ⟨_, hst, did_store (c' := (arr.toList.take (base + off + 0) ++ vs ++ arr.toList.drop (base + off + 0 + vs.length)).toArray) hH hb hρ hk (by simp; omega) (by omega) ?_ ?_⟩
  · intro x hx'
    obtain ⟨j, hj, rfl⟩ := List.getElem_of_mem hx'
    have h3 := o3 j
    rw [List.getElem?_eq_getElem hj] at h3
    split at h3
    · exact hd1 _ (List.mem_of_getElem? h3.symm)
    · exact hone _ (List.mem_of_getElem? h3.symm)
  · intro i x hx'
    have h3 := o3 i
    rw [hx'] at h3
    have hi : i < cs.length := by rw [← o1]; exact lt_of_getElem? hx'
    simp only [Nat.add_zero, List.getElem?_toArray]
    split at h3
    · rename_i hc
      have hi' : i - off < vs.length := by omega
      refine ⟨vs[i - off], ?_, hvs.2 _ x _ h3.symm (by simp [hi'])⟩
      rw [List.append_assoc, List.getElem?_append_right (by simp; omega), List.getElem?_append_left (by simp; omega)]
      simp only [List.length_take, Array.length_toList]
      rw [show base + i - min (base + off) arr.size = i - off by omega]
      simp [hi']
    · rename_i hc
      obtain ⟨v, hv', hrv⟩ := hcell i x h3.symm
      refine ⟨v, ?_, hrv⟩
      rcases Nat.lt_or_ge i off with h | h
      · rw [List.append_assoc, List.getElem?_append_left (by simp; omega), List.getElem?_take, if_pos (by omega)]
        simpa using hv'
      · rw [List.getElem?_append_right (by simp; omega), List.getElem?_drop]
        simp only [List.length_append, List.length_take, Array.length_toList]
        rw [show base + off + vs.length + (base + i - (min (base + off) arr.size + vs.length)) = base + i by omega]
        simpa using hv'

theorem exec_builtin {b : Builtin} {args : Array Operand} {at_ : Array TypeId} {s : Sem Value} (ho : o.op = .call { callee := .builtin b, args, argTypes := at_ })
    (hs : builtin b at_ o.type (args.map fun | .const _ => true | _ => false) (args.map (evalT tm)) = (do pure (.value (← s)))) {v : Value} {w' : World} (hr : s.run P w = .ok v w') : (execOp (evalT tm) o).run P w = .ok (.value v) w' := by
  rw [execOp]
  simp only [ho, resolve, invoke, Sem.run_bind, Sem.run_pure, Result.andThen_ok]
  refine (congrArg (fun x => Sem.run P x w) hs).trans ?_
  simp only [Sem.run_bind, hr, Result.andThen_ok, Sem.run_pure]

theorem drew_rep (hH : HRel w g H) : Grew w g w.drew g := ⟨rfl, rfl, rfl, Nat.le_refl _, fun _ _ => rfl, fun _ h => h, fun _ h => .inl h, rfl⟩

theorem take_append_rep {cs0 cs : List D} {old new : List Value} {rest : Array Value} (h0 : RepL w g cs0 old) (h1 : RepL w g cs new) :
    RepL w g (cs0 ++ cs) ((old.toArray ++ new.toArray ++ rest).toList.take (cs0 ++ cs).length) := by
  have hl : (cs0 ++ cs).length = (old ++ new).length := by simp [h0.1, h1.1]
  have : (old.toArray ++ new.toArray ++ rest).toList.take (cs0 ++ cs).length = old ++ new := by
    rw [hl]
    have : (old.toArray ++ new.toArray ++ rest).toList = (old ++ new) ++ rest.toList := by simp
    rw [this, List.take_left']
    rfl
  rw [this]
  refine ⟨hl.symm, fun i d v hd hv => ?_⟩
  rw [List.getElem?_append] at hd hv
  rw [h0.1] at hv
  split at hd
  · rename_i hi; rw [if_pos hi] at hv; exact h0.2 i d v hd hv
  · rename_i hi; rw [if_neg hi] at hv; exact h1.2 _ d v hd hv

/-- An append that makes a new row: whatever it is appended to. -/
theorem grow_sound (hH : HRel w g H) (hF : FRel w g F tm) {nx : Nat} (hnx : g.ρ nx = none) (hN : N ≤ nx) {t e : TypeId} {x y : Operand} {s by_ n len cap : Nat} {base : Option Addr} {z : D} {cs0 cs : List D} {old : List Value} {d : D} {rd : List Nat}
    (ho : o.op = .call { callee := .builtin .append, args := #[x, y], argTypes := #[t, t] }) (ht : elemOfSlice P t = some (e, s, by_)) (hz : zeroD P e = some z) (hzl : z.cells.length = s)
    (hx : evalT tm x = .slice base len cap) (hold : (Builtin.firstCells s len (.slice base len cap)).run P w.drew = .ok old.toArray w.drew) (hor : RepL w g cs0 old) (hol : old.length = len * s) (ho1 : ∀ d ∈ cs0, d.one = true)
    (hy : F.eval y = some d) (hsrc : Src H s d n cs rd) (hg : ¬ len + n ≤ cap) (h63 : len + n ≤ 9223372036854775807) (hb : (len + n) * by_ ≤ 140737488355328) :
    Sound P N nx tm o w g H (.live nx 0 (len + n) (len + n) s) (putAt H nx (.cells (cs0 ++ cs))) := by
  obtain ⟨hu, hsz, i, hi, hi1, hi2⟩ := elemOfSlice_spec ht
  obtain ⟨i', v, hi', _, hv, hov⟩ := info_of hsz hz
  rw [hi] at hi'; cases hi'
  have hzr : Rep w g z v := ofVal_rep hov
  have hzc : v.cells.size = s := by have := hzr.cells.1; simp at this; omega
  have gd := drew_rep hH
  have hHd := gd.hrel hH
  obtain ⟨a, c, news, hyv, hnew, hnr, hnl, hn1⟩ := src_run (P := P) hHd hsrc ((evalT_of hF hy).keeps (gd.did (nx := nx) hH N).kp)
  have hrun := append_grow (P := P) (w := w) (ty := o.type) (base := base) (sCap := cap) (old := old) (x := evalT tm y) (new := news) hu hi hv ⟨a, c, hyv⟩ (by rw [hi1]; exact hnew) (by rw [hi1]; exact hold) hg h63 (by rw [hi2]; exact hb)
  have hd := did_alloc (N := N) (nx := nx) (c := old.toArray ++ news.toArray ++ Builtin.zeroCells v.cells (grownCap w (len + n) cap e - (len + n))) (e := e) (cs := cs0 ++ cs) hHd hnx hN
    (take_append_rep (hor.keeps (gd.did (nx := nx) hH N).kp) hnr) (fun x hx => (List.mem_append.1 hx).elim (ho1 x) (hn1 x))
  refine ⟨.slice (some ⟨w.heap.size, 0, none⟩) (len + n) (grownCap w (len + n) cap e), _, _, .inl (exec_builtin ho rfl ?_), (gd.did hH N).trans hd, ?_⟩
  · simp only [List.map_toArray, List.map_cons, List.map_nil, hx]
    exact hrun
  · have hge := grownCap_ge w (len + n) cap e
    refine .live (base := 0) Gh.at_same (.inr rfl) (Nat.le_refl _) hge (.inr ⟨grownCap w (len + n) cap e * s, ?_, by omega⟩)
    have := heap_alloc_new w.drew (.cells (old.toArray ++ news.toArray ++ Builtin.zeroCells v.cells (grownCap w (len + n) cap e - (len + n))) e)
    have hsz' : w.drew.heap.size = w.heap.size := rfl
    rw [hsz'] at this
    simp only [cellsN, this]
    simp only [Array.size_append, List.size_toArray, hol, hnl, size_zeroCells, hzc, Option.some.injEq]
    rw [← Nat.add_mul, ← Nat.add_mul]
    congr 1
    omega

theorem firstCells_live (hH : HRel w g H) {b off len c s : Nat} {cs0 : List D} (hb : H[b]? = some (some (.cells cs0))) (hl : off + len * s ≤ cs0.length) {v : Value} (hr : Rep w g (.live b off len c s) v) :
    ∃ old : List Value, (Builtin.firstCells s len v).run P w = .ok old.toArray w ∧ RepL w g ((cs0.drop off).take (len * s)) old ∧ old.length = len * s ∧ (∀ d ∈ (cs0.drop off).take (len * s), d.one = true) :=
  let ⟨_, _, news, _, h1, h2, h3, h4⟩ := src_run (P := P) hH (.live hb hl) hr
  ⟨news, h1, h2, h3, h4⟩

theorem sound_appendMv (hH : HRel w g H) (hF : FRel w g F tm) {nx : Nat} (hnx : g.ρ nx = none) (hN : N ≤ nx) {t e : TypeId} {x y : Operand} {s by_ n len b off c : Nat} {d : D} {z : D} {cs cs0 : List D} {rd : List Nat} (ho : o.op = .call { callee := .builtin .append, args := #[x, y], argTypes := #[t, t] }) (ht : elemOfSlice P t = some (e, s, by_)) (hz : zeroD P e = some z) (hzl : z.cells.length = s)
      (hx : F.eval x = some (.live b off len c s)) (hb : H[b]? = some (some (.cells cs0))) (hl : off + len * s ≤ cs0.length) (hy : F.eval y = some d) (hsrc : Src H s d n cs rd) (h63 : len + n ≤ 9223372036854775807) (hby : (len + n) * by_ ≤ 140737488355328) :
      Sound P N nx tm o w g H (.live nx 0 (len + n) (len + n) s) (putAt (H.set b none) nx (.cells ((cs0.drop off).take (len * s) ++ cs))) := by
  have gd := drew_rep hH
  have hxr := evalT_of hF hx
  obtain ⟨k, base, xa, cap, hv, hρ, hxx, hlc, hcc, hn⟩ := rep_live hxr
  obtain ⟨hu, hsz, i, hi, hi1, hi2⟩ := elemOfSlice_spec ht
  by_cases hfit : len + n ≤ cap
  · -- within the capacity: the same real block
    obtain ⟨a, c', news, hyv, hnew, hnr, hnl, hn1⟩ := src_run (P := P) hH hsrc (evalT_of hF hy)
    have hrun := append_fit (P := P) (w := w) (ty := o.type) (base := some ⟨k, xa, none⟩) (sLen := len) (sCap := cap) (x := evalT tm y) (new := news) hu hsz ⟨a, c', hyv⟩ hnew hfit
    obtain ⟨k', base', arr, e', hρ', hk, hsz', hone, hcell⟩ := hH.blk b cs0 hb
    rw [hρ] at hρ'
    obtain ⟨rfl, rfl⟩ : k = k' ∧ base = base' := by simpa using hρ'
    by_cases hcap : cap = 0
    · -- nothing in it, nothing comes
      have h0 : len = 0 := by omega
      have h1 : n = 0 := by omega
      subst h0; subst h1; subst hcap
      have hnil : news = [] := List.eq_nil_of_length_eq_zero (by simpa using hnl)
      subst hnil
      have hcs : cs = [] := List.eq_nil_of_length_eq_zero (by have := hnr.1; simpa using this.symm)
      subst hcs
      have hd := did_rename (N := N) (nx := nx) (off := 0) (cs' := []) hH hb hρ hnx hN (by simp) (by simp) (by simp only [cellsN, hk, Option.getD_some]; omega)
      refine ⟨.slice (some ⟨k, xa, none⟩) 0 0, w, _, .inl (exec_builtin ho rfl ?_), by simpa using hd, .live Gh.at_same (.inl rfl) (Nat.le_refl _) (Nat.le_refl _) (.inl rfl)⟩
      simp only [List.map_toArray, List.map_cons, List.map_nil, hv]
      rw [hrun]
      simp [storeCells]
    · obtain rfl := hxx.resolve_left hcap
      obtain ⟨sz, hsz1, hsz2⟩ := hn.resolve_left hcap
      have harr : arr.size = sz := by simpa [cellsN, hk] using hsz1
      have hle : len * s + news.length ≤ cap * s := by rw [hnl, ← Nat.add_mul]; exact Nat.mul_le_mul_right _ hfit
      have hone' : ∀ u ∈ news, u.oneCell' = true := by
        intro u hu'
        obtain ⟨j, hj, rfl⟩ := List.getElem_of_mem hu'
        have hj' : j < cs.length := by have := hnr.1; omega
        have h1 := hnr.2 j cs[j] _ (by simp) (List.getElem?_eq_getElem hj)
        have h2 := hn1 cs[j] (List.getElem_mem _)
        revert h1 h2
        generalize news[j] = u
        generalize cs[j] = dd
        intro h1 h2
        cases h1 <;> first | rfl | (simp [D.one] at h2)
      have hst := run_storeCells_at P k (base + off + len * s) e' news 0 arr w hk (by omega) hone'
      -- the abstract block grown to what is known, then renamed
      let arr' := (arr.toList.take (base + off + len * s + 0) ++ news ++ arr.toList.drop (base + off + len * s + 0 + news.length)).toArray
      have hcsl : cs.length = news.length := hnr.1.symm
      have hd1 := did_store (N := N) (nx := nx) (cs' := cs0.take (off + len * s) ++ cs) (c' := arr') hH hb hρ hk (by simp [arr']; omega) (by simp; omega)
        (fun x hx => (List.mem_append.1 hx).elim (fun h => hone x (List.mem_of_mem_take h)) (hn1 x)) (by
          intro j dd hj
          rw [List.getElem?_append] at hj
          simp only [List.length_take, Nat.min_eq_left hl] at hj
          split at hj
          · rename_i hjl
            rw [List.getElem?_take, if_pos hjl] at hj
            obtain ⟨v, hv', hrv⟩ := hcell j dd hj
            refine ⟨v, ?_, hrv⟩
            simp only [arr', Nat.add_zero, List.getElem?_toArray]
            rw [List.append_assoc, List.getElem?_append_left (by simp; omega), List.getElem?_take, if_pos (by omega)]
            simpa using hv'
          · rename_i hjl
            have hj2 := lt_of_getElem? hj
            have hj3 : j - (off + len * s) < news.length := by omega
            refine ⟨news[j - (off + len * s)], ?_, hnr.2 _ dd _ hj (by simp [hj3])⟩
            simp only [arr', Nat.add_zero, List.getElem?_toArray]
            rw [List.append_assoc, List.getElem?_append_right (by simp; omega), List.getElem?_append_left (by simp; omega)]
            simp only [List.length_take, Array.length_toList]
            rw [show base + j - min (base + off + len * s) arr.size = j - (off + len * s) by omega]
            simp [hj3])
      have hb2 : (H.set b (some (.cells (cs0.take (off + len * s) ++ cs))))[b]? = some (some (.cells (cs0.take (off + len * s) ++ cs))) := List.getElem?_set_self (lt_of_getElem? hb)
      have hd2 := did_rename (N := N) (nx := nx) (off := off) (cs' := (cs0.drop off).take (len * s) ++ cs) hd1.hrel hb2 hρ hnx hN (by
          intro j dd hj
          rw [List.getElem?_append] at hj ⊢
          simp only [List.length_take, List.length_drop] at hj ⊢
          rw [Nat.min_eq_left (by omega)] at hj ⊢
          split at hj
          · rename_i hjl
            rw [if_pos (by omega)]
            rw [List.getElem?_take, if_pos hjl, List.getElem?_drop] at hj
            rw [List.getElem?_take, if_pos (by omega)]
            exact hj
          · rename_i hjl
            rw [if_neg (by omega)]
            rw [show off + j - (off + len * s) = j - len * s by omega]
            exact hj) (by intro _; simp; omega) (by
          simp only [cellsN, setRow_heap w k arr arr' e' _ hk, Option.getD_some]
          simp [arr']; omega)
      rw [List.set_set] at hd2
      refine ⟨.slice (some ⟨k, base + off, none⟩) (len + n) cap, _, _, .inl (exec_builtin ho rfl ?_), hd1.trans hd2, ?_⟩
      · simp only [List.map_toArray, List.map_cons, List.map_nil, hv]
        rw [hrun]
        simp only [add_none, hst, Result.andThen_ok]
        rfl
      · refine .live (base := base + off) Gh.at_same (.inr (by omega)) (Nat.le_refl _) hfit (.inr ⟨sz, ?_, by omega⟩)
        simp only [cellsN, setRow_heap w k arr arr' e' _ hk]
        simp [arr']; omega
  · obtain ⟨old, h1, h2, h3, h4⟩ := firstCells_live (P := P) hH hb hl hxr
    have hHd := gd.hrel hH
    obtain ⟨old', h1', h2', h3', h4'⟩ := firstCells_live (P := P) hHd hb hl (hxr.keeps (gd.did (nx := nx) hH N).kp)
    -- first the append, then the old block is let go
    have hnx' : nx ≠ b := fun e => by subst e; rw [hnx] at hρ; cases hρ
    rw [hv] at h1'
    have kb : Keeps w.drew g w g := ⟨fun _ _ => rfl, fun _ _ h => h, fun _ h => h, fun _ _ h => h⟩
    obtain ⟨v, w', g', hr, hd, hrep⟩ := grow_sound (P := P) (N := N) (nx := nx) hH hF hnx hN ho ht hz hzl hv h1' (h2'.keeps kb) h3' h4' hy hsrc hfit h63 hby
    have hk := did_kill (N := N) (nx := nx) hd.hrel b
    refine ⟨v, w', g', hr, ?_, hrep⟩
    have hcomm : (putAt H nx (.cells ((cs0.drop off).take (len * s) ++ cs))).set b none = putAt (H.set b none) nx (.cells ((cs0.drop off).take (len * s) ++ cs)) := by
      have hbl : b < H.length := lt_of_getElem? hb
      unfold putAt
      simp only [List.length_set]
      split
      · exact List.set_comm _ _ hnx'
      · rw [List.append_assoc, List.set_append_left _ _ hbl, List.append_assoc]
    rw [← hcomm]
    exact hd.trans hk

theorem sound_appendNew (hH : HRel w g H) (hF : FRel w g F tm) {nx : Nat} (hnx : g.ρ nx = none) (hN : N ≤ nx) {t e : TypeId} {x y : Operand} {s by_ n len : Nat} {d d0 : D} {z : D} {cs cs0 : List D} {rd : List Nat} (ho : o.op = .call { callee := .builtin .append, args := #[x, y], argTypes := #[t, t] }) (ht : elemOfSlice P t = some (e, s, by_)) (hz : zeroD P e = some z) (hzl : z.cells.length = s)
      (hx : F.eval x = some d0) (hd0 : (d0 = .snil ∧ len = 0 ∧ cs0 = []) ∨ (d0 = .snap cs0 len true ∧ cs0.length = len * s)) (hy : F.eval y = some d) (hsrc : Src H s d n cs rd) (hn : 0 < n) (h63 : len + n ≤ 9223372036854775807) (hb : (len + n) * by_ ≤ 140737488355328) :
      Sound P N nx tm o w g H (.live nx 0 (len + n) (len + n) s) (putAt H nx (.cells (cs0 ++ cs))) := by
  have hxr := evalT_of hF hx
  have gd := drew_rep hH
  have hHd := gd.hrel hH
  have kb : Keeps w.drew g w g := ⟨fun _ _ => rfl, fun _ _ h => h, fun _ h => h, fun _ _ h => h⟩
  rcases hd0 with ⟨rfl, rfl, rfl⟩ | ⟨rfl, hl⟩
  · have hv : evalT tm x = .slice none 0 0 := by
      generalize evalT tm x = v at hxr
      cases hxr; rfl
    exact grow_sound (old := []) hH hF hnx hN ho ht hz hzl hv (by simp [Builtin.firstCells]) ⟨rfl, by simp⟩ (by simp) (by simp) hy hsrc (by omega) h63 hb
  · obtain ⟨a, k, base, cap, f, hv, ha, hS, h1, hle, htt, hc, hr⟩ := rep_snap hxr
    obtain rfl := htt rfl
    obtain ⟨_, _, old, he, h1', h2', h3', h4'⟩ := src_run (P := P) hHd (Src.snap (t := true) hl) (hxr.keeps (gd.did (nx := nx) hH N).kp)
    rw [hv] at he h1'
    exact grow_sound hH hF hnx hN ho ht hz hzl hv h1' (h2'.keeps kb) h3' h4' hy hsrc (by omega) h63 hb

theorem sound_appendSame (hH : HRel w g H) (hF : FRel w g F tm) {t e : TypeId} {x y : Operand} {s by_ : Nat} {d d0 : D} {cs : List D} {rd : List Nat} (ho : o.op = .call { callee := .builtin .append, args := #[x, y], argTypes := #[t, t] }) (ht : elemOfSlice P t = some (e, s, by_))
      (hx : F.eval x = some d0) (hd0 : d0 = .snil ∨ ∃ c l t, d0 = .snap c l t) (hy : F.eval y = some d) (hsrc : Src H s d 0 cs rd) : Sound P N nx tm o w g H d0 H := by
  have hxr := evalT_of hF hx
  obtain ⟨hu, hsz, _⟩ := elemOfSlice_spec ht
  obtain ⟨a, c', news, hyv, hnew, hnr, hnl, _⟩ := src_run (P := P) hH hsrc (evalT_of hF hy)
  have hnil : news = [] := List.eq_nil_of_length_eq_zero (by simpa using hnl)
  subst hnil
  obtain ⟨base, len, cap, hv, hle⟩ : ∃ base len cap, evalT tm x = .slice base len cap ∧ len ≤ cap := by
    rcases hd0 with rfl | ⟨c, l, t, rfl⟩
    · generalize evalT tm x = v at hxr
      cases hxr; exact ⟨_, _, _, rfl, Nat.le_refl _⟩
    · obtain ⟨a, k, base, cap, f, hv, _, _, _, hle, _⟩ := rep_snap hxr
      exact ⟨_, _, _, hv, hle⟩
  have hrun := append_fit (P := P) (w := w) (ty := o.type) (base := base) (sLen := len) (sCap := cap) (x := evalT tm y) (new := []) hu hsz ⟨a, c', hyv⟩ hnew hle
  refine ⟨.slice base len cap, w, g, .inl (exec_builtin ho rfl ?_), (Grew.refl w g).did hH N, hv ▸ hxr⟩
  simp only [List.map_toArray, List.map_cons, List.map_nil, hv]
  rw [hrun]
  cases base <;> simp [storeCells]

theorem sound_appendIn (hH : HRel w g H) (hF : FRel w g F tm) {t e : TypeId} {x y : Operand} {s by_ n len b off c : Nat} {d : D} {cs cs0 r : List D} {rd : List Nat} (ho : o.op = .call { callee := .builtin .append, args := #[x, y], argTypes := #[t, t] }) (ht : elemOfSlice P t = some (e, s, by_))
      (hx : F.eval x = some (.live b off len c s)) (hb : H[b]? = some (some (.cells cs0))) (hy : F.eval y = some d) (hsrc : Src H s d n cs rd) (hc : len + n ≤ c) (hr : overR cs0 (off + len * s) cs = some r) :
      Sound P N nx tm o w g H (.live b off (len + n) c s) (H.set b (some (.cells r))) := by
  obtain ⟨k, base, xa, cap, hv, hρ, hxx, hlc, hcc, hn⟩ := rep_live (evalT_of hF hx)
  obtain ⟨hu, hsz, _⟩ := elemOfSlice_spec ht
  obtain ⟨a, c', news, hyv, hnew, hnr, hnl, hn1⟩ := src_run (P := P) hH hsrc (evalT_of hF hy)
  have hrun := append_fit (P := P) (w := w) (ty := o.type) (base := some ⟨k, xa, none⟩) (sLen := len) (sCap := cap) (x := evalT tm y) (new := news) hu hsz ⟨a, c', hyv⟩ hnew (by omega)
  by_cases hcap : cap = 0
  · have h0 : len = 0 := by omega
    have h1 : n = 0 := by omega
    have h2 : c = 0 := by omega
    subst h0; subst h1; subst hcap; subst h2
    have hnil : news = [] := List.eq_nil_of_length_eq_zero (by simpa using hnl)
    subst hnil
    have hcs : cs = [] := List.eq_nil_of_length_eq_zero (by have := hnr.1; simpa using this.symm)
    subst hcs
    obtain ⟨w', hst, hd⟩ := write_live (P := P) (N := N) (nx := nx) hH hb hρ hr hnr (by simp)
    have hw : w' = w := by
      simp only [storeCells, Sem.run_pure, Result.ok.injEq, true_and] at hst
      exact hst.symm
    subst hw
    refine ⟨.slice (some ⟨k, xa, none⟩) 0 0, w', _, .inl (exec_builtin ho rfl ?_), hd, .live hρ (.inl rfl) (Nat.le_refl _) (Nat.le_refl _) (.inl rfl)⟩
    simp only [List.map_toArray, List.map_cons, List.map_nil, hv]
    rw [hrun]
    simp [storeCells]
  · obtain rfl := hxx.resolve_left hcap
    obtain ⟨w', hst, hd⟩ := write_live (P := P) (N := N) (nx := nx) hH hb hρ hr hnr hn1
    refine ⟨.slice (some ⟨k, base + off, none⟩) (len + n) cap, w', _, .inl (exec_builtin ho rfl ?_), hd, ?_⟩
    · simp only [List.map_toArray, List.map_cons, List.map_nil, hv]
      rw [hrun]
      simp only [add_none]
      rw [Nat.add_assoc, hst]
      rfl
    · obtain ⟨sz, h1, h2⟩ := hn.resolve_left hcap
      exact .live hρ (.inr rfl) hc hcc (.inr ⟨sz, hd.kp.shape _ _ h1, h2⟩)

theorem sound_copy (hH : HRel w g H) (hF : FRel w g F tm) {t t' e : TypeId} {x y : Operand} {s by_ n m len b off c : Nat} {d : D} {cs cs0 r : List D} {rd : List Nat} (ho : o.op = .call { callee := .builtin .copy, args := #[x, y], argTypes := #[t, t'] }) (ht : elemOfSlice P t = some (e, s, by_))
      (hx : F.eval x = some (.live b off len c s)) (hb : H[b]? = some (some (.cells cs0))) (hy : F.eval y = some d) (hsrc : Src H s d n cs rd) (hm : m = min n len) (hr : overR cs0 off (cs.take (m * s)) = some r) :
      Sound P N nx tm o w g H (.int .i64 m) (H.set b (some (.cells r))) := by
  obtain ⟨k, base, xa, cap, hv, hρ, hxx, hlc, hcc, hn⟩ := rep_live (evalT_of hF hx)
  obtain ⟨hu, hsz, _⟩ := elemOfSlice_spec ht
  have hmn : m ≤ n := by omega
  have hcs : cs.length = n * s := by
    obtain ⟨a, c', news, hyv, hnew, hnr, hnl, hn1⟩ := src_run (P := P) hH hsrc (evalT_of hF hy)
    have := hnr.1; omega
  -- the source, cut at what is copied
  obtain ⟨a, c', news, hyv, hnew, hnr, hnl, hn1⟩ : ∃ (a : Option Addr) (cap : Nat) (news : List Value), evalT tm y = .slice a n cap ∧ (Builtin.firstCells s m (evalT tm y)).run P w = .ok news.toArray w ∧ RepL w g (cs.take (m * s)) news ∧ news.length = m * s ∧ (∀ d ∈ cs.take (m * s), d.one = true) := by
    have hms : m * s ≤ n * s := Nat.mul_le_mul_right _ hmn
    cases hsrc with
    | snil =>
      have hyr := evalT_of hF hy
      generalize evalT tm y = v at hyr
      cases hyr
      have : m = 0 := by omega
      subst this
      exact ⟨none, 0, [], rfl, by simp [Builtin.firstCells], ⟨by simp, by simp⟩, by simp, by simp⟩
    | snap hl =>
      obtain ⟨a2, k2, base2, cap2, f, he, ha2, hS, h1, hle, htt, hc2, hr2⟩ := rep_snap (evalT_of hF hy)
      rcases ha2 with rfl | ⟨rfl, rfl, rfl⟩
      rotate_left
      · have : m = 0 := by omega
        subst this
        exact ⟨a2, 0, [], he, by rw [he]; cases a2 <;> simp [Builtin.firstCells, loadCells, loadCellsFrom], ⟨by simp, by simp⟩, by simp, by simp⟩
      have hrep : Rep w g (.snap (cs.take (m * s)) m false) (.slice (some ⟨k2, base2, none⟩) m cap2) :=
        .snap f (fun h => hS (fun e => h (by rw [e]; exact List.take_nil))) (fun d hd => h1 d (List.mem_of_mem_take hd)) (by omega) (by simp) (fun i hi => hc2 i (by simp at hi; omega)) (fun i d hd => hr2 i d (by
          rw [List.getElem?_take] at hd
          split at hd
          · exact hd
          · cases hd))
      obtain ⟨_, _, news, _, q1, q2, q3, q4⟩ := src_run (P := P) hH (Src.snap (H := H) (s := s) (n := m) (t := false) (by simp; omega)) hrep
      exact ⟨_, _, news, he, by rw [he]; exact q1, q2, q3, q4⟩
    | @live b2 off2 _ c2 cs2 hb2 h2 =>
      obtain ⟨k2, base2, xa2, cap2, he, hρ2, hxx2, hlc2, hcc2, hn2⟩ := rep_live (evalT_of hF hy)
      have hrep : Rep w g (.live b2 off2 m c2 s) (.slice (some ⟨k2, xa2, none⟩) m cap2) := .live hρ2 hxx2 (by omega) hcc2 hn2
      obtain ⟨_, _, news, _, q1, q2, q3, q4⟩ := src_run (P := P) hH (Src.live (s := s) (n := m) hb2 (by omega)) hrep
      have htk : ((cs2.drop off2).take (n * s)).take (m * s) = (cs2.drop off2).take (m * s) := by rw [List.take_take, Nat.min_eq_left hms]
      rw [htk]
      exact ⟨_, _, news, he, by rw [he]; exact q1, q2, q3, q4⟩
  obtain ⟨w', hst, hd⟩ := write_live (P := P) (N := N) (nx := nx) hH hb hρ hr hnr hn1
  refine ⟨.int .i64 m, w', g, .inl (exec_builtin ho rfl ?_), hd, .int _ _⟩
  simp only [List.map_toArray, List.map_cons, List.map_nil, hv]
  rw [hyv] at hnew ⊢
  have hmin : Nat.min n len = m := hm.symm
  simp only [Builtin.copy_, List.getElem?_toArray, List.getElem?_cons_zero, List.getElem?_cons_succ, Sem.run_bind, underlying_run hu, Result.andThen_ok, Builtin.lenOf, Sem.run_pure, hmin, sizeOf_run P w hsz, hnew]
  by_cases hcap : cap = 0
  · have h0 : m = 0 := by omega
    subst h0
    have hnil : news = [] := List.eq_nil_of_length_eq_zero (by simpa using hnl)
    subst hnil
    simp only [storeCells, Sem.run_pure, Result.ok.injEq, true_and] at hst
    subst hst
    simp [storeCells, goInt]
  · obtain rfl := hxx.resolve_left hcap
    simp [hst, goInt]

theorem sound_clear (hH : HRel w g H) (hF : FRel w g F tm) {t e : TypeId} {x : Operand} {s by_ len b off c : Nat} {z : D} {cs0 r : List D} (ho : o.op = .call { callee := .builtin .clear, args := #[x], argTypes := #[t] }) (ht : elemOfSlice P t = some (e, s, by_)) (hz : zeroD P e = some z) (hzl : z.cells.length = s) (hzn : z.notTup = true) (hs1 : 1 ≤ s)
      (hx : F.eval x = some (.live b off len c s)) (hb : H[b]? = some (some (.cells cs0))) (hr : overR cs0 off (repR len z.cells) = some r) :
      Sound P N nx tm o w g H (.tup []) (H.set b (some (.cells r))) := by
  obtain ⟨k, base, xa, cap, hv, hρ, hxx, hlc, hcc, hn⟩ := rep_live (evalT_of hF hx)
  obtain ⟨hu, hsz, _⟩ := elemOfSlice_spec ht
  obtain ⟨v, hzv, hzr⟩ := zeroD_run (P := P) (w := w) (g := g) hz
  obtain ⟨hR, hR1⟩ := repR_rep (w := w) (g := g) hzr.cells (hzr.cells_one hzn) s len hzl hs1
  have hzc : v.cells.size = s := by have := hzr.cells.1; simp at this; omega
  obtain ⟨w', hst, hd⟩ := write_live (P := P) (N := N) (nx := nx) hH hb hρ hr hR hR1
  have hcells : (Builtin.zeroCells v.cells len).toList = ((Array.range (len * s)).map (fun i => v.cells[i % v.cells.size]!)).toList := by simp only [Builtin.zeroCells, hzc]
  refine ⟨.tuple #[], w', g, .inl (exec_builtin ho rfl ?_), hd, .tup rfl (by simp)⟩
  simp only [List.map_toArray, List.map_cons, List.map_nil, hv]
  by_cases hl : len = 0
  · subst hl
    have : ((Array.range (0 * s)).map (fun i => v.cells[i % v.cells.size]!)).toList = [] := by simp
    rw [this] at hst
    simp only [storeCells, Sem.run_pure, Result.ok.injEq, true_and] at hst
    subst hst
    simp only [Builtin.clear_, List.getElem?_toArray, List.getElem?_cons_zero, Sem.run_bind, underlying_run hu, Result.andThen_ok]
    simp
  · have hcap : cap ≠ 0 := by omega
    obtain rfl := hxx.resolve_left hcap
    obtain ⟨len', rfl⟩ : ∃ l, len = l + 1 := ⟨len - 1, by omega⟩
    simp only [Builtin.clear_, List.getElem?_toArray, List.getElem?_cons_zero, Sem.run_bind, underlying_run hu, Result.andThen_ok, hzv, hcells, hst, Sem.run_pure]

/-- EVERY HEAP STEP IS WHAT THE MACHINE DOES. -/
theorem HStep.sound {nx : Nat} {d : D} {rd : List Nat} {wr : List (Nat × Option Blk)} (h : HStep P F H nx o d rd wr) (hH : HRel w g H) (hF : FRel w g F tm) (hnx : g.ρ nx = none) (hN : N ≤ nx) : Sound P N nx tm o w g H d (applyW H wr) := by
  cases h with
  | pure h hp => exact (vop_gives hH hF h hp).sound hH
  | pickT ho hc ht h =>
    subst ht
    exact (gives_pick (t := true) ho hF hc h).sound hH
  | pickF ho hc ht h =>
    subst ht
    exact (gives_pick (t := false) ho hF hc h).sound hH
  | loadS ho hx hu ha hd =>
    obtain ⟨k, base, f, hv, hS, h1, hc, hr⟩ := rep_sptr (evalT_of hF hx)
    refine Gives.sound (.same (v := f _) ?_ (hr _ _ hd)) hH
    rw [execOp]
    simp only [ho, hv, Instr.loadAt, Instr.sureAddr, Sem.run_bind, Sem.run_pure, Result.andThen_ok, loadVar_one P w hu ha (hc _ (lt_of_getElem? hd))]
  | @loadSA t x u s cs r off ho hx hu ha hs hd =>
    obtain ⟨k, base, f, hv, hS, h1, hc, hr⟩ := rep_sptr (evalT_of hF hx)
    obtain ⟨hl, hi⟩ := takeR_spec cs off s r hd
    refine Gives.sound (.same (v := .agg ((List.range s).map fun i => f (off + i)).toArray) ?_ (.agg (by simp [hl]) (fun d hd => ?_) ?_)) hH
    · rw [execOp]
      simp only [ho, hv, Instr.loadAt, Instr.sureAddr, Sem.run_bind, Sem.run_pure, Result.andThen_ok]
      rw [loadVar_agg P w hu ha hs ((List.range s).map fun i => f (off + i)) (by simp) ?_]
      · rfl
      · intro j v hj
        have hj' : j < s := by have := lt_of_getElem? hj; simpa using this
        simp only [List.getElem?_map, List.getElem?_range hj', Option.map_some, Option.some.injEq] at hj
        subst hj
        obtain ⟨d, hd, _⟩ := hi j hj'
        rw [Nat.add_assoc]
        exact hc (off + j) (lt_of_getElem? hd)
    · obtain ⟨i, hi', rfl⟩ := List.getElem_of_mem hd
      obtain ⟨d, h2, h3⟩ := hi i (by omega)
      have : r[i] = d := by rw [List.getElem?_eq_getElem hi'] at h3; simpa using h3
      rw [this]
      exact h1 d (List.mem_of_getElem? h2)
    · intro i d v hd hv'
      have his : i < s := by rw [← hl]; exact lt_of_getElem? hd
      obtain ⟨d', h2, h3⟩ := hi i his
      rw [hd] at h3
      cases h3
      simp only [List.getElem?_toArray, List.getElem?_map, List.getElem?_range his, Option.map_some, Option.some.injEq] at hv'
      subst hv'
      exact hr (off + i) d h2
  | alloc ho hz hn => exact sound_alloc hH hnx hN ho hz hn
  | box ho hx hn => exact sound_box hH hF hnx hN ho hx hn
  | make ho ht hl hc hz hzl hzn hs h0 hb h63 => exact sound_make hH hF hnx hN ho ht hl hc hz hzl hzn hs h0 hb h63
  | load ho hx hu ha hs hb hd =>
    obtain ⟨k, base, hv, hρ⟩ := rep_ptr (evalT_of hF hx)
    obtain ⟨s, hs'⟩ := Option.isSome_iff_exists.1 hs
    obtain ⟨v, hl, hr⟩ := (load_live (P := P) hH hb hρ hu hs').2 ha _ hd
    refine Gives.sound (.same (v := v) ?_ hr) hH
    rw [execOp]
    simp only [ho, hv, Instr.loadAt, Instr.sureAddr, Sem.run_bind, Sem.run_pure, Result.andThen_ok, hl]
  | loadA ho hx hu ha hs hb hd =>
    obtain ⟨k, base, hv, hρ⟩ := rep_ptr (evalT_of hF hx)
    obtain ⟨v, hl, hr⟩ := (load_live (P := P) hH hb hρ hu hs).1 ha _ hd
    refine Gives.sound (.same (v := v) ?_ hr) hH
    rw [execOp]
    simp only [ho, hv, Instr.loadAt, Instr.sureAddr, Sem.run_bind, Sem.run_pure, Result.andThen_ok, hl]
  | store ho hx hy hs hn hb hr =>
    have hlt := lt_of_getElem? hb
    simp only [applyW, putAt, hlt, if_true]
    exact sound_store hH hF ho hx hy hs hn hb hr
  | @sliceArr t e x n s b off cs ho ht hs hx hb hn =>
    obtain ⟨k, base, hv, hρ⟩ := rep_ptr (evalT_of hF hx)
    obtain ⟨k', base', arr, e', hρ', hk, hsz, hone, hcell⟩ := hH.blk b cs hb
    rw [hρ] at hρ'
    obtain ⟨rfl, rfl⟩ : k = k' ∧ base = base' := by simpa using hρ'
    refine Gives.sound (.same (v := .slice (some ⟨k, base + off, none⟩) n n) ?_ (.live hρ (.inr rfl) (Nat.le_refl _) (Nat.le_refl _) (.inr ⟨arr.size, by simp [cellsN, hk], by omega⟩))) hH
    rw [execOp]
    simp only [ho, Option.map_none, Instr.sliceAt, Sem.run_bind, underlying_run ht, Result.andThen_ok, hv, Instr.sureAddr, Sem.run_pure, Instr.sliceBounds, sizeOf_run P w hs]
    by_cases hn : n = 0
    · subst hn; simp
    · simp [hn, add_none]
  | appendNew ho ht hz hzl hx hd0 hy hsrc hn h63 hb => exact sound_appendNew hH hF hnx hN ho ht hz hzl hx hd0 hy hsrc hn h63 hb
  | appendSame ho ht hx hd0 hy hsrc => exact sound_appendSame hH hF ho ht hx hd0 hy hsrc
  | appendMv ho ht hz hzl hx hb hl hy hsrc h63 hby => exact sound_appendMv hH hF hnx hN ho ht hz hzl hx hb hl hy hsrc h63 hby
  | appendIn ho ht hx hb hy hsrc hc hr =>
    have hlt := lt_of_getElem? hb
    simp only [applyW, putAt, hlt, if_true]
    exact sound_appendIn hH hF ho ht hx hb hy hsrc hc hr
  | copy ho ht hx hb hy hsrc hm hr =>
    have hlt := lt_of_getElem? hb
    simp only [applyW, putAt, hlt, if_true]
    exact sound_copy hH hF ho ht hx hb hy hsrc hm hr
  | clear ho ht hz hzl hzn hs1 hx hb hr =>
    have hlt := lt_of_getElem? hb
    simp only [applyW, putAt, hlt, if_true]
    exact sound_clear hH hF ho ht hz hzl hzn hs1 hx hb hr
  | clear0 ho ht hx =>
    obtain ⟨k, base, xa, cap, hv, _⟩ := rep_live (evalT_of hF hx)
    obtain ⟨u, hu⟩ := Option.isSome_iff_exists.1 ht
    refine Gives.sound (.same (v := .tuple #[]) (exec_builtin ho rfl ?_) (.tup rfl (by simp))) hH
    simp only [List.map_toArray, List.map_cons, List.map_nil, hv]
    simp only [Builtin.clear_, List.getElem?_toArray, List.getElem?_cons_zero, Sem.run_bind, underlying_run hu, Result.andThen_ok]
    cases u <;> simp
end
end Go.V
