/- The logic V, part 21: the rule for regions that draw their order. -/
import Derived.Test.YtcnblloiaambaaaV20
namespace Go.V

theorem clash_ww {e e' : Ent} {b : Nat} (h : e.writesB b = true) (h' : e'.writesB b = true) : (clashH e e' || clashH e' e) = true := by
  unfold Ent.writesB at h h'
  rw [Bool.or_eq_true] at h h'
  have t : ∀ {e : Ent}, (e.wild.isSome = true ∨ (idsOf e.wr).contains b = true) → e.touches = true := by
    intro e h
    unfold Ent.touches
    rcases h with h | h
    · simp [h]
    · cases hw : e.wr with
      | nil => rw [hw] at h; simp [idsOf] at h
      | cons a r => simp
  rcases h with h1 | h1
  · simp [clashH, h1, t h']
  · rcases h' with h2 | h2
    · simp [clashH, h2, t (.inr h1)]
    · have : clashH e e' = true := by
        unfold clashH
        rw [Bool.or_eq_true]
        left
        rw [List.any_eq_true]
        exact ⟨b, by simpa using h1, by rw [h2]; simp⟩
      simp [this]

theorem clash_wr {e e' : Ent} {b : Nat} (h : e.writesB b = true) (h' : b ∈ e'.rd) : clashH e e' = true := by
  unfold Ent.writesB at h
  rw [Bool.or_eq_true] at h
  have ht : e'.touches = true := by
    unfold Ent.touches
    cases hr : e'.rd with
    | nil => rw [hr] at h'; cases h'
    | cons a r => simp
  rcases h with h1 | h1
  · simp [clashH, h1, ht]
  · unfold clashH
    rw [Bool.or_eq_true]
    left
    rw [List.any_eq_true]
    refine ⟨b, by simpa using h1, ?_⟩
    have : e'.rd.contains b = true := by simpa using h'
    rw [this]; rfl

theorem clash_wild {e e' : Ent} (h : e.wild.isSome = true) (h' : e'.writes = true) : clashH e e' = true := by
  have ht : e'.touches = true := by
    unfold Ent.writes at h'
    unfold Ent.touches
    rw [Bool.or_eq_true] at h'
    rcases h' with h | h <;> simp [h]
  simp [clashH, h, ht]

theorem pW_spec {es : List Ent} {i : Nat} (h : pW es i = true) : ∃ e, es[i]? = some e ∧ e.writes = true := by
  unfold pW at h
  cases he : es[i]? with
  | none => rw [he] at h; cases h
  | some e => rw [he] at h; exact ⟨e, rfl, h⟩

theorem pB_spec {es : List Ent} {b i : Nat} (h : pB es b i = true) : ∃ e, es[i]? = some e ∧ e.writesB b = true := by
  unfold pB at h
  cases he : es[i]? with
  | none => rw [he] at h; cases h
  | some e => rw [he] at h; exact ⟨e, rfl, h⟩

theorem pF_spec {all : List Oper} {t i : Nat} (h : pF all t i = true) : ∃ o, all[i]? = some o ∧ o.dst = some t := by
  unfold pF at h
  cases he : all[i]? with
  | none => rw [he] at h; cases h
  | some e => rw [he] at h; exact ⟨e, rfl, by simpa using h⟩

section
variable {P : Program} {n N : Nat} {all : Array Oper} {es : List Ent} {F0 F' : Fr} {H0 H' : Hp} {w w' : World} {g g' : Gh} {tm : Array Value} {l l1 l2 : List Nat} {j : Nat}

abbrev stF (all : List Oper) (es : List Ent) (F0 : Fr) (l : List Nat) : Fr := l.foldl (stepF all es) F0
abbrev stH (es : List Ent) (H0 : Hp) (l : List Nat) : Hp := l.foldl (stepH es) H0
abbrev nxAt (es : List Ent) (H0 : Hp) (i : Nat) : Nat := (stH es H0 (List.range i)).length

structure Inv (N n : Nat) (all : Array Oper) (es : List Ent) (F0 : Fr) (H0 : Hp) (c : Nat) (l1 : List Nat) (w : World) (g : Gh) (tm : Array Value) : Prop where
  hrel : HRel w g (stH es H0 l1)
  frel : FRel w g (stF all.toList es F0 l1) tm
  size : tm.size = n
  fresh : ∀ i e, i ∉ l1 → es[i]? = some e → nxAt es H0 i ∈ idsOf e.wr → g.ρ (nxAt es H0 i) = none
  ge : H0.length ≤ (stH es H0 l1).length
  le : (stH es H0 l1).length ≤ c

/-- What the text's order says. -/
structure Txt (P : Program) (n : Nat) (all : Array Oper) (es : List Ent) (F0 : Fr) (H0 : Hp) : Prop where
  len : es.length = all.size
  step : ∀ j, j < all.size → ∃ o e, all[j]? = some o ∧ es[j]? = some e ∧ DStep P all.toList (stF all.toList es F0 (List.range j)) (stH es H0 (List.range j)) (nxAt es H0 j) o e ∧ dstOk n o ∧
      (stH es H0 (List.range j)).length ≤ (e.after (stH es H0 (List.range j))).length

theorem nxAt_succ {e : Ent} (he : es[j]? = some e) : nxAt es H0 (j + 1) = (e.after (stH es H0 (List.range j))).length := by
  simp [nxAt, List.range_succ, List.foldl_append, stepH, he]

theorem Txt.mono (T : Txt P n all es F0 H0) : ∀ (i k : Nat), i ≤ k → k ≤ all.size → nxAt es H0 i ≤ nxAt es H0 k := by
  intro i k hik hk
  induction k with
  | zero => have : i = 0 := by omega
            subst this; exact Nat.le_refl _
  | succ k ih =>
    rcases Nat.eq_or_lt_of_le hik with rfl | h
    · exact Nat.le_refl _
    · obtain ⟨o, e, _, he, _, _, hl⟩ := T.step k (by omega)
      rw [nxAt_succ he]
      exact Nat.le_trans (ih (by omega) (by omega)) hl

theorem DStep.maker {all : List Oper} {F : Fr} {H : Hp} {nx : Nat} {o : Oper} {e : Ent} (h : DStep P all F H nx o e) (hn : nx ∈ idsOf e.wr) : nx < (e.after H).length := by
  cases h with
  | skip => simp [idsOf] at hn
  | op hw h => exact h.newLen hn
  | call hw ho hf ha hwr h =>
    simp only [idsOf, List.mem_map] at hn
    obtain ⟨p, hp, rfl⟩ := hn
    exact absurd rfl (hwr p hp).2.1
  | wild => simp [idsOf] at hn

theorem Txt.maker_lt (T : Txt P n all es F0 H0) {i k : Nat} (hik : i < k) (hk : k ≤ all.size) {e : Ent} (he : es[i]? = some e) (hm : nxAt es H0 i ∈ idsOf e.wr) : nxAt es H0 i < nxAt es H0 k := by
  obtain ⟨o, e', _, he', hs, _, hl⟩ := T.step i (by omega)
  rw [he] at he'; cases he'
  have h1 := hs.maker hm
  have h2 := T.mono (i + 1) k (by omega) hk
  rw [nxAt_succ he] at h2
  omega

theorem DStep.moved (T : Txt P n all es F0 H0) (ok : DrawOk all es) (ho : Order all l) (hl : l = l1 ++ j :: l2) {o : Oper} {e : Ent} (hoj : all[j]? = some o) (hej : es[j]? = some e)
    (h : DStep P all.toList (stF all.toList es F0 (List.range j)) (stH es H0 (List.range j)) (nxAt es H0 j) o e) :
    DStep P all.toList (stF all.toList es F0 l1) (stH es H0 l1) (nxAt es H0 j) o e ∧ (e.wild.isSome = true → stH es H0 l1 = stH es H0 (List.range j)) := by
  have hlen : es.length = all.toList.length := by simpa using T.len
  have hwild : e.wild.isSome = true → stH es H0 l1 = stH es H0 (List.range j) := by
    intro hw
    rw [stH, eq_stH H0 l1, stH, eq_stH H0 (List.range j)]
    rw [filter_before ho (pW es) ?_ hl ?_ ?_]
    · intro i i' h1 h2 p1 p2
      obtain ⟨e1, h3, p1⟩ := pW_spec p1
      obtain ⟨e2, h4, p2⟩ := pW_spec p2
      exact ok.wild ⟨e, List.mem_of_getElem? hej, hw⟩ i i' e1 e2 h1 h3 h4 p1 p2
    · intro i h1 p1
      obtain ⟨e1, h3, p1⟩ := pW_spec p1
      exact ok.heap i j e1 e h1 h3 hej (by rw [clash_wild hw p1]; simp)
    · intro i h1 _ p1
      obtain ⟨e1, h3, p1⟩ := pW_spec p1
      exact ok.heap j i e e1 h1 hej h3 (by rw [clash_wild hw p1]; simp)
  refine ⟨h.congr ?_ ?_ hwild, hwild⟩
  · intro t ht
    have hn : (namesOf all.toList o).contains t = true := by simpa [namesOf] using ht
    rw [stF, get_stF hlen F0 t l1, stF, get_stF hlen F0 t (List.range j), filter_before ho (pF all.toList t) ?_ hl ?_ ?_]
    · intro i i' h1 h2 p1 p2
      obtain ⟨o1, h3, p1⟩ := pF_spec p1
      obtain ⟨o2, h4, p2⟩ := pF_spec p2
      refine ok.temps i i' o1 o2 h1 (by simpa using h3) (by simpa using h4) ?_
      have : clashT all.toList o1 o2 = true := by simp [clashT, p1, p2]
      rw [this]; rfl
    · intro i h1 p1
      obtain ⟨o1, h3, p1⟩ := pF_spec p1
      refine ok.temps i j o1 o h1 (by simpa using h3) hoj ?_
      have : clashT all.toList o1 o = true := by simp only [clashT, p1, hn]; rfl
      rw [this]; rfl
    · intro i h1 _ p1
      obtain ⟨o1, h3, p1⟩ := pF_spec p1
      refine ok.temps j i o o1 h1 hoj (by simpa using h3) ?_
      have : clashT all.toList o1 o = true := by simp only [clashT, p1, hn]; rfl
      rw [this]; simp
  · intro b hb x hx
    rw [same_stH H0 b (List.range j) x] at hx
    rw [same_stH H0 b l1 x, filter_before ho (pB es b) ?_ hl ?_ ?_]
    · exact hx
    · intro i i' h1 h2 p1 p2
      obtain ⟨e1, h3, p1⟩ := pB_spec p1
      obtain ⟨e2, h4, p2⟩ := pB_spec p2
      exact ok.heap i i' e1 e2 h1 h3 h4 (clash_ww p1 p2)
    · intro i h1 p1
      obtain ⟨e1, h3, p1⟩ := pB_spec p1
      exact ok.heap i j e1 e h1 h3 hej (by rw [clash_wr p1 hb]; rfl)
    · intro i h1 _ p1
      obtain ⟨e1, h3, p1⟩ := pB_spec p1
      exact ok.heap j i e e1 h1 hej h3 (by rw [clash_wr p1 hb]; simp)

/-- One step of an order. -/
theorem Inv.step (T : Txt P n all es F0 H0) (ok : DrawOk all es) (ho : Order all l) (hl : l = l1 ++ j :: l2) (hN : N ≤ H0.length) (I : Inv N n all es F0 H0 (nxAt es H0 all.size) l1 w g tm) {K : Array Value → World → Prop}
    (k : ∀ w' g' tm', Inv N n all es F0 H0 (nxAt es H0 all.size) (l1 ++ [j]) w' g' tm' → Ev N w g (Lof g (stH es H0 l1)) w' g' (Lof g' (stH es H0 (l1 ++ [j]))) → OpsTo P all l2 tm' w' K) : OpsTo P all (j :: l2) tm w K := by
  have hjs : j < all.size := (ho.mem j).1 (by rw [hl]; simp)
  have hj1 : j ∉ l1 := by
    have hnd := ho.nodup
    rw [hl] at hnd
    intro hx
    exact (List.nodup_append.1 hnd).2.2 j hx j (by simp) rfl
  obtain ⟨o, e, hoj, hej, hst, hd, hle⟩ := T.step j hjs
  obtain ⟨hst', hwild⟩ := hst.moved T ok ho hl hoj hej
  have hmk := fun hm => T.maker_lt (i := j) (k := all.size) hjs (Nat.le_refl _) hej hm
  have hFs : ∀ d', e.d = d' → stF all.toList es F0 (l1 ++ [j]) = putF (stF all.toList es F0 l1) o.dst d' := by
    rintro _ rfl
    have hoj' : all.toList[j]? = some o := by simpa using hoj
    simp [stF, List.foldl_append, stepF, hoj', hej]
  have hHs : stH es H0 (l1 ++ [j]) = e.after (stH es H0 l1) := by simp [stH, List.foldl_append, stepH, hej]
  have hnext := T.mono (j + 1) all.size (by omega) (Nat.le_refl _)
  rw [nxAt_succ hej] at hnext
  have hNl := I.ge
  cases hst' with
  | skip hw =>
    obtain ⟨hF', hs'⟩ := put_rel I.frel I.size hd (d := .tup []) (v := undef) (.tup rfl (by simp))
    have hHs' : stH es H0 (l1 ++ [j]) = stH es H0 l1 := hHs
    refine .skip hoj (hw.run I.frel) (k w g _ ⟨?_, ?_, hs', fun i e hi => I.fresh i e (fun h => hi (by simp [h])), ?_, ?_⟩ ?_)
    · rw [hHs']; exact I.hrel
    · rw [hFs _ rfl]; exact hF'
    · rw [hHs']; exact I.ge
    · rw [hHs']; exact I.le
    · rw [hHs']; exact .refl _ _ _ _
  | @op d rd wr hw h =>
    have hHs' : stH es H0 (l1 ++ [j]) = applyW (stH es H0 l1) wr := hHs
    have main : ∀ nx, HStep P (stF all.toList es F0 l1) (stH es H0 l1) nx o d rd wr → g.ρ nx = none → N ≤ nx → (∀ i e, i ∉ l1 ++ [j] → es[i]? = some e → nxAt es H0 i ∈ idsOf e.wr → nxAt es H0 i ≠ nx) → OpsTo P all (j :: l2) tm w K := by
      intro nx h hnx hNx hne
      obtain ⟨v, w', g', hrun, hdid, hrep⟩ := h.sound (N := N) I.hrel I.frel hnx hNx
      obtain ⟨hF', hs'⟩ := put_rel (I.frel.keeps hdid.kp) I.size hd hrep
      have k' := k w' g' _ ⟨by rw [hHs']; exact hdid.hrel, by rw [hFs _ rfl]; exact hF', hs', fun i e' hi he hm => by
          rw [hdid.only _ (hne i e' hi he hm)]
          exact I.fresh i e' (fun h => hi (by simp [h])) he hm, by rw [hHs']; have := applyW_len_ge wr (stH es H0 l1); omega, by
          rw [hHs']
          refine applyW_len_le wr _ _ I.le fun b x hb => ?_
          have h1 := applyW_ids_lt wr (stH es H0 (List.range j)) b x hb
          have h2 : (Ent.after ⟨d, rd, wr, none⟩ (stH es H0 (List.range j))).length = (applyW (stH es H0 (List.range j)) wr).length := rfl
          omega⟩ (by rw [hHs']; exact hdid.ev)
      rcases hrun with hrun | ⟨hrun, rfl⟩
      · exact .value hoj (hw.run I.frel) h.noDefer hrun k'
      · exact .unit hoj (hw.run I.frel) h.noDefer hrun k'
    by_cases hn : nxAt es H0 j ∈ idsOf wr
    · refine main _ h (I.fresh j _ hj1 hej hn) (by have := T.mono 0 j (by omega) (by omega); simp [nxAt, stH] at this ⊢; omega) fun i e' hi he hm => ?_
      have hij : i ≠ j := fun e => hi (by simp [e])
      have his : i < all.size := by have := lt_of_getElem? he; have := T.len; omega
      rcases Nat.lt_or_gt_of_ne hij with h1 | h1
      · have := T.maker_lt h1 (by omega) he hm; omega
      · have := T.maker_lt h1 (by omega) hej hn; omega
    · have hbig := I.le
      refine main (nxAt es H0 all.size + N + 1) (h.nx hn _).1 (I.hrel.dom _ (by omega)) (by omega) fun i e' hi he hm => ?_
      have his : i < all.size := by have := lt_of_getElem? he; have := T.len; omega
      have := T.mono i all.size (by omega) (by omega)
      omega
  | @call fo args at_ fv ds d rd wr hw hop hf ha hwr h =>
    have hHs' : stH es H0 (l1 ++ [j]) = applyW (stH es H0 l1) wr := hHs
    have hleq : (applyW (stH es H0 l1) wr).length = (stH es H0 l1).length := applyW_len_eq wr _ fun p hp => by
      obtain ⟨_, _, x, hx⟩ := hwr p hp
      exact lt_of_getElem? hx
    obtain ⟨nx, hrun, hcall⟩ := (h _ (fun _ _ _ h => h)).call hop hf ha I.hrel I.frel
    refine .call hoj (hw.run I.frel) (noDefer_value hop) hrun ?_
    have step : ∀ v w', (∃ d' H'' g', (d' = d ∧ H'' = applyW (stH es H0 l1) wr) ∧ Ev (stH es H0 l1).length w g (Lof g (stH es H0 l1)) w' g' (Lof g' H'') ∧ HRel w' g' H'' ∧ (stH es H0 l1).length ≤ H''.length ∧ Rep w' g' d' v) →
        OpsTo P all l2 (putV tm o.dst v) w' K := by
      rintro v w' ⟨d', H'', g', ⟨rfl, rfl⟩, ev, hH', hl', hrep⟩
      have kp := ev.keeps I.hrel (Nat.le_refl _)
      obtain ⟨hF', hs'⟩ := put_rel (I.frel.keeps kp) I.size hd hrep
      refine k w' g' _ ⟨by rw [hHs']; exact hH', by rw [hFs _ rfl]; exact hF', hs', fun i e' hi he hm => ?_, by rw [hHs', hleq]; exact I.ge, by rw [hHs', hleq]; exact I.le⟩ (by rw [hHs']; exact ev.le (by omega))
      have h0 := I.fresh i e' (fun h => hi (by simp [h])) he hm
      rcases Nat.lt_or_ge (nxAt es H0 i) (stH es H0 l1).length with h1 | h1
      · rw [ev.ρ _ h1]; exact h0
      · exact hH'.dom _ (by omega)
    rcases hcall with ⟨f, a, rfl, hc⟩ | ⟨lp, f, tmps, assign, body, rfl, hc⟩
    · exact .inl ⟨f, a, rfl, hc.mono fun e w' ⟨v, e1, r⟩ => ⟨v, e1, step v w' r⟩⟩
    · exact .inr ⟨lp, f, tmps, assign, body, rfl, fun c cs => let ⟨v, w', r, s⟩ := hc c cs; ⟨v, w', step v w' r, s⟩⟩
  | @wild fo args at_ fv ds d G hw hop hf ha h =>
    have hHs' : stH es H0 (l1 ++ [j]) = G := hHs
    have heq := hwild rfl
    have hGl : nxAt es H0 (j + 1) = G.length := nxAt_succ hej
    have hGge : (stH es H0 l1).length ≤ G.length := by rw [heq]; exact hle
    have hGle : G.length ≤ nxAt es H0 all.size := hnext
    obtain ⟨nx, hrun, hcall⟩ := h.call hop hf ha I.hrel I.frel
    refine .call hoj (hw.run I.frel) (noDefer_value hop) hrun ?_
    have step : ∀ v w', (∃ d' H'' g', (d' = d ∧ H'' = G) ∧ Ev (stH es H0 l1).length w g (Lof g (stH es H0 l1)) w' g' (Lof g' H'') ∧ HRel w' g' H'' ∧ (stH es H0 l1).length ≤ H''.length ∧ Rep w' g' d' v) →
        OpsTo P all l2 (putV tm o.dst v) w' K := by
      rintro v w' ⟨d', H'', g', ⟨rfl, rfl⟩, ev, hH', hl', hrep⟩
      have kp := ev.keeps I.hrel (Nat.le_refl _)
      obtain ⟨hF', hs'⟩ := put_rel (I.frel.keeps kp) I.size hd hrep
      refine k w' g' _ ⟨by rw [hHs']; exact hH', by rw [hFs _ rfl]; exact hF', hs', fun i e' hi he hm => ?_, by rw [hHs']; have := I.ge; omega, by rw [hHs']; exact hGle⟩ (by rw [hHs']; exact ev.le (by omega))
      have his : i < all.size := by have := lt_of_getElem? he; have := T.len; omega
      have hij : i ≠ j := fun e => hi (by simp [e])
      have hwr' : e'.writes = true := by
        unfold Ent.writes
        cases hw2 : e'.wr with
        | nil => rw [hw2] at hm; simp [idsOf] at hm
        | cons a r => simp
      rcases Nat.lt_or_gt_of_ne hij with h1 | h1
      · exfalso
        have hah := ok.heap i j e' _ h1 he hej (by rw [clash_wild (e := ⟨d', [], [], some H''⟩) rfl hwr']; simp)
        exact hi (by simp [ahead_mem ho hah l1 l2 hl])
      · have := T.mono (j + 1) i (by omega) (by omega)
        exact hH'.dom _ (by omega)
    rcases hcall with ⟨f, a, rfl, hc⟩ | ⟨lp, f, tmps, assign, body, rfl, hc⟩
    · exact .inl ⟨f, a, rfl, hc.mono fun e w' ⟨v, e1, r⟩ => ⟨v, e1, step v w' r⟩⟩
    · exact .inr ⟨lp, f, tmps, assign, body, rfl, fun c cs => let ⟨v, w', r, s⟩ := hc c cs; ⟨v, w', step v w' r, s⟩⟩

theorem Inv.run (T : Txt P n all es F0 H0) (ok : DrawOk all es) (ho : Order all l) (hN : N ≤ H0.length) : ∀ (l2 l1 : List Nat) (w : World) (g : Gh) (tm : Array Value), l = l1 ++ l2 → Inv N n all es F0 H0 (nxAt es H0 all.size) l1 w g tm →
    OpsTo P all l2 tm w fun tm' w' => ∃ g', Inv N n all es F0 H0 (nxAt es H0 all.size) l w' g' tm' ∧ Ev N w g (Lof g (stH es H0 l1)) w' g' (Lof g' (stH es H0 l))
  | [], l1, w, g, tm, hl, I => by
    obtain rfl : l = l1 := by simpa using hl
    exact .nil ⟨g, I, .refl _ _ _ _⟩
  | j :: l2, l1, w, g, tm, hl, I =>
    I.step T ok ho hl hN fun w' g' tm' I' ev => (Inv.run T ok ho hN l2 (l1 ++ [j]) w' g' tm' (by simpa using hl) I').mono fun tm2 w2 ⟨g2, I2, ev2⟩ => ⟨g2, I2, ev.trans ev2⟩

theorem W.region_draw {id : Nat} {Q : Post} (hm : P.follows .mixedOrders = true) (hac : acyclic all = true) (hd : DrawD P n all.toList all.toList F0 H0 es F' H') (ok : DrawOk all es) (hq : Q .normal F' H') : W P n N (.region id all true) Q F0 H0 := by
  intro w g tm df hH hF hs hlN
  obtain ⟨s1, s2, s3, s4⟩ := hd.spec (es0 := es) (F0 := F0) (H0 := H0) 0 (by simp) (by simp) rfl rfl
  simp only [Nat.zero_add, Array.length_toList] at s1 s2 s3 s4
  have T : Txt P n all es F0 H0 := ⟨s1, fun j hj => by
    obtain ⟨o, e, h1, h2, h3⟩ := s4 j (Nat.zero_le _) hj
    exact ⟨o, e, by simpa using h1, h2, h3⟩⟩
  refine .region_draw fun t => ?_
  have hord : Order all (Region.schedule (P.follows .mixedOrders) all t) := by
    rw [hm]
    simp only [Region.schedule, Bool.true_or, if_true]
    exact linearise_order hac t
  have gd := drew_rep (w := w) (g := g) hH
  have dd := gd.did (nx := 0) hH N
  have I0 : Inv N n all es F0 H0 (nxAt es H0 all.size) [] { w with drawn := w.drawn + 1 } g tm := by
    refine ⟨dd.hrel, hF.keeps dd.kp, hs, fun i e hi he hm => hH.dom _ ?_, Nat.le_refl _, ?_⟩
    · have := T.mono 0 i (by omega) (by have := lt_of_getElem? he; omega)
      exact this
    · exact T.mono 0 all.size (by omega) (Nat.le_refl _)
  refine (Inv.run T ok hord hlN _ [] _ g tm rfl I0).mono fun tm' w' ⟨g', I, ev⟩ => ?_
  have hlen : es.length = all.toList.length := by simpa using T.len
  have hsame : ∀ b, SameAt b (stH es H0 (Region.schedule (P.follows .mixedOrders) all t)) H' := by
    intro b
    rw [s3]
    refine (same_stH H0 b _).trans ?_
    rw [filter_all hord (pB es b) ?_]
    · exact (same_stH H0 b _).symm
    · intro i i' h1 h2 p1 p2
      obtain ⟨e1, h3, p1⟩ := pB_spec p1
      obtain ⟨e2, h4, p2⟩ := pB_spec p2
      exact ok.heap i i' e1 e2 h1 h3 h4 (clash_ww p1 p2)
  have hH' : nxAt es H0 all.size = H'.length := by rw [s3]
  have hHle := I.le
  refine ⟨F', H', g', hq, .same_df ?_ (I.hrel.same hsame fun b hb => I.hrel.dom b (by omega)) (by rw [← hH']; have := T.mono 0 all.size (by omega) (Nat.le_refl _); simp [nxAt, stH] at this ⊢; omega), ?_, I.size⟩
  · rw [← Lof_same hsame]
    exact dd.ev.trans ev
  · intro u d hu
    rw [s2, get_stF hlen F0 u, ← filter_all hord (pF all.toList u) ?_, ← get_stF hlen F0 u] at hu
    · exact I.frel u d hu
    · intro i i' h1 h2 p1 p2
      obtain ⟨o1, h3, p1⟩ := pF_spec p1
      obtain ⟨o2, h4, p2⟩ := pF_spec p2
      refine ok.temps i i' o1 o2 h1 (by simpa using h3) (by simpa using h4) ?_
      have : clashT all.toList o1 o2 = true := by simp [clashT, p1, p2]
      rw [this]; rfl
end
end Go.V
