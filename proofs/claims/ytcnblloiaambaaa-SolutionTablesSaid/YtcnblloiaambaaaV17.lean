/- The logic V, part 17: the orders in which a region may be carried out. -/
import Derived.Test.YtcnblloiaambaaaV16
namespace Go.V

theorem sorted_eq : ∀ (l1 l2 : List Nat), l1.Pairwise (· < ·) → l2.Pairwise (· < ·) → (∀ x, x ∈ l1 ↔ x ∈ l2) → l1 = l2
  | [], [], _, _, _ => rfl
  | [], y :: l2, _, _, h => by have := (h y).2 (by simp); cases this
  | x :: l1, [], _, _, h => by have := (h x).1 (by simp); cases this
  | x :: l1, y :: l2, h1, h2, h => by
    have p1 := List.pairwise_cons.1 h1
    have p2 := List.pairwise_cons.1 h2
    have hxy : x = y := by
      rcases List.mem_cons.1 ((h x).1 (by simp)) with e | e
      · exact e
      · rcases List.mem_cons.1 ((h y).2 (by simp)) with e' | e'
        · exact e'.symm
        · have := p2.1 x e
          have := p1.1 y e'
          omega
    subst hxy
    congr 1
    refine sorted_eq l1 l2 p1.2 p2.2 fun z => ⟨fun hz => ?_, fun hz => ?_⟩
    · rcases List.mem_cons.1 ((h z).1 (by simp [hz])) with e | e
      · subst e; have := p1.1 z hz; omega
      · exact e
    · rcases List.mem_cons.1 ((h z).2 (by simp [hz])) with e | e
      · subst e; have := p2.1 z hz; omega
      · exact e

/-- No edge that binds leads forward. -/
def acyclic (ops : Array Oper) : Bool := ops.toList.zipIdx.all fun (o, i) => o.after.toList.all fun e => !Region.binds .any e || Nat.blt e.on i

theorem acyclic_spec {ops : Array Oper} (h : acyclic ops = true) {i : Nat} {o : Oper} (ho : ops[i]? = some o) {e : Edge} (he : e ∈ o.after) (hb : Region.binds .any e = true) : e.on < i := by
  unfold acyclic at h
  rw [List.all_eq_true] at h
  have hm : (o, i) ∈ ops.toList.zipIdx := by
    rw [List.mem_zipIdx_iff_getElem?]
    simpa using ho
  have := h _ hm
  simp only [List.all_eq_true] at this
  have h2 := this e (by simpa using he)
  rw [hb] at h2
  simp only [Bool.not_true, Bool.false_or] at h2
  exact Nat.blt_eq ▸ h2

structure Order (ops : Array Oper) (l : List Nat) : Prop where
  nodup : l.Nodup
  mem : ∀ i, i ∈ l ↔ i < ops.size
  resp : ∀ l1 j l2, l = l1 ++ j :: l2 → ∀ o, ops[j]? = some o → ∀ e ∈ o.after, Region.binds .any e = true → e.on ∈ l1

def readyL (ops : Array Oper) (listed : Array Bool) : List Nat :=
  (List.range ops.size).filter fun i => !listed.getD i true && ((ops[i]?).map (·.after.all fun e => !Region.binds .any e || listed.getD e.on false)).getD false

theorem go_succ (ops : Array Oper) (fuel t : Nat) (listed : Array Bool) (acc : List Nat) :
    Region.linearise.go .any ops (fuel + 1) t listed acc = match (readyL ops listed)[t % (readyL ops listed).length]? with
      | some i => Region.linearise.go .any ops fuel (t / (readyL ops listed).length) (listed.setIfInBounds i true) (i :: acc)
      | none => acc.reverse := by
  rw [Region.linearise.go]
  rfl

/-- What holds while the order is made: 'acc' (backwards) is what is listed. -/
structure Made (ops : Array Oper) (listed : Array Bool) (acc : List Nat) : Prop where
  size : listed.size = ops.size
  listed : ∀ i, i < ops.size → (listed.getD i false = true ↔ i ∈ acc)
  lt : ∀ i ∈ acc, i < ops.size
  nodup : acc.Nodup
  resp : ∀ l1 j l2, acc.reverse = l1 ++ j :: l2 → ∀ o, ops[j]? = some o → ∀ e ∈ o.after, Region.binds .any e = true → e.on ∈ l1

theorem Made.step {ops : Array Oper} {listed : Array Bool} {acc : List Nat} (hac : acyclic ops = true) (m : Made ops listed acc) {i : Nat} (hi : i ∈ readyL ops listed) : Made ops (listed.setIfInBounds i true) (i :: acc) := by
  unfold readyL at hi
  rw [List.mem_filter] at hi
  obtain ⟨hr, hc⟩ := hi
  have hlt : i < ops.size := by simpa using hr
  rw [Bool.and_eq_true] at hc
  have hni : i ∉ acc := by
    intro h
    have h2 := (m.listed i hlt).2 h
    have h3 : listed.getD i true = true := by
      rw [Array.getD_eq_getD_getElem?] at h2 ⊢
      cases hx : listed[i]? with
      | none => rfl
      | some b => rw [hx] at h2; simpa using h2
    rw [h3] at hc
    simp at hc
  refine ⟨by simp [m.size], fun j hj => ?_, fun j hj => ?_, List.nodup_cons.2 ⟨hni, m.nodup⟩, ?_⟩
  · by_cases hji : j = i
    · subst hji
      simp only [Array.getD_eq_getD_getElem?, List.mem_cons, true_or, iff_true]
      rw [Array.getElem?_setIfInBounds_self_of_lt (by rw [m.size]; exact hj)]
      rfl
    · simp only [Array.getD_eq_getD_getElem?, List.mem_cons, hji, false_or]
      rw [Array.getElem?_setIfInBounds_ne (fun e => hji e.symm), ← Array.getD_eq_getD_getElem?]
      exact m.listed j hj
  · rcases List.mem_cons.1 hj with rfl | h
    · exact hlt
    · exact m.lt j h
  · intro l1 j l2 he o ho e hem hb
    simp only [List.reverse_cons] at he
    rcases List.eq_nil_or_concat l2 with rfl | ⟨l2', y, rfl⟩
    · have h1 : acc.reverse = l1 ∧ [i] = [j] := List.append_inj' he rfl
      obtain ⟨h1, h2⟩ := h1
      cases h2
      rw [← h1, List.mem_reverse]
      have hoe : (ops[i]?).map (·.after.all fun e => !Region.binds .any e || listed.getD e.on false) = some true := by
        cases hx : (ops[i]?).map (·.after.all fun e => !Region.binds .any e || listed.getD e.on false) with
        | none => rw [hx] at hc; simp at hc
        | some b => rw [hx] at hc; simp at hc; rw [hc.2]
      rw [ho] at hoe
      simp only [Option.map_some, Option.some.injEq] at hoe
      rw [Array.all_eq_true'] at hoe
      have h3 := hoe e hem
      rw [hb] at h3
      simp only [Bool.not_true, Bool.false_or] at h3
      have hlt2 : e.on < ops.size := by have := acyclic_spec hac ho hem hb; omega
      exact (m.listed e.on hlt2).1 h3
    · have h1 : acc.reverse ++ [i] = (l1 ++ j :: l2') ++ [y] := by rw [he]; simp
      have h2 := (List.append_inj' h1 rfl).1
      exact m.resp l1 j l2' h2 o ho e hem hb

theorem ready_of_missing {ops : Array Oper} {listed : Array Bool} {acc : List Nat} (hac : acyclic ops = true) (m : Made ops listed acc) : ∀ i, i < ops.size → i ∉ acc → readyL ops listed ≠ [] := by
  intro i
  induction i using Nat.strongRecOn with
  | _ i ih =>
    intro hi hn
    by_cases hp : ∃ e ∈ (ops[i]).after, Region.binds .any e = true ∧ e.on ∉ acc
    · obtain ⟨e, he, hb, hna⟩ := hp
      have hlt := acyclic_spec hac (i := i) (o := ops[i]) (by simp [hi]) he hb
      exact ih e.on hlt (by omega) hna
    · intro hnil
      have : i ∈ readyL ops listed := by
        unfold readyL
        rw [List.mem_filter]
        refine ⟨by simpa using hi, ?_⟩
        have h1 : listed.getD i true = false := by
          have h2 : ¬ listed.getD i false = true := fun h => hn ((m.listed i hi).1 h)
          rw [Array.getD_eq_getD_getElem?] at h2 ⊢
          rw [Array.getElem?_eq_getElem (by rw [m.size]; exact hi)] at h2 ⊢
          simpa using h2
        rw [h1]
        simp only [Bool.not_false, Bool.true_and]
        rw [Array.getElem?_eq_getElem hi]
        simp only [Option.map_some, Option.getD_some]
        rw [Array.all_eq_true']
        intro e he
        cases hb : Region.binds .any e with
        | false => rfl
        | true =>
          simp only [Bool.not_true, Bool.false_or]
          have hin : e.on ∈ acc := by
            rcases Classical.em (e.on ∈ acc) with h | h
            · exact h
            · exact absurd ⟨e, he, hb, h⟩ hp
          exact (m.listed e.on (m.lt _ hin)).2 hin
      rw [hnil] at this
      cases this

theorem go_order {ops : Array Oper} (hac : acyclic ops = true) : ∀ (fuel t : Nat) (listed : Array Bool) (acc : List Nat), Made ops listed acc → acc.length + fuel = ops.size → Order ops (Region.linearise.go .any ops fuel t listed acc)
  | 0, t, listed, acc, m, hl => by
    rw [Region.linearise.go]
    refine ⟨List.pairwise_reverse.2 (m.nodup.imp fun h => h.symm), fun i => ⟨fun h => m.lt i (List.mem_reverse.1 h), fun h => List.mem_reverse.2 ?_⟩, m.resp⟩
    -- all are listed: as many as there are, none twice
    rcases Classical.em (i ∈ acc) with hin | hin
    · exact hin
    · exfalso
      have hsub : acc ⊆ (List.range ops.size).erase i := fun x hx => by
        have hne : x ≠ i := fun e => hin (by rw [← e]; exact hx)
        rw [List.mem_erase_of_ne hne]
        simpa using m.lt x hx
      have h1 := m.nodup.length_le_of_subset hsub
      rw [List.length_erase_of_mem (by simpa using h)] at h1
      simp at h1
      omega
  | fuel + 1, t, listed, acc, m, hl => by
    rw [go_succ]
    have hne : readyL ops listed ≠ [] := by
      obtain ⟨i, hi, hn⟩ : ∃ i, i < ops.size ∧ i ∉ acc := by
        rcases Classical.em (∃ i, i < ops.size ∧ i ∉ acc) with h | h
        · exact h
        · exfalso
          have hsub : List.range ops.size ⊆ acc := fun x hx => by
            rcases Classical.em (x ∈ acc) with h1 | h1
            · exact h1
            · exact absurd ⟨x, by simpa using hx, h1⟩ h
          have := (List.nodup_range (n := ops.size)).length_le_of_subset hsub
          simp at this
          omega
      exact ready_of_missing hac m i hi hn
    have hpos : 0 < (readyL ops listed).length := List.length_pos_iff.2 hne
    have hidx : t % (readyL ops listed).length < (readyL ops listed).length := Nat.mod_lt _ hpos
    rw [List.getElem?_eq_getElem hidx]
    exact go_order hac fuel _ _ _ (m.step hac (List.getElem_mem hidx)) (by simp; omega)

theorem linearise_order {ops : Array Oper} (hac : acyclic ops = true) (t : Nat) : Order ops (Region.linearise .any ops t) := by
  refine go_order hac _ _ _ _ ⟨by simp, fun i hi => ?_, by simp, List.nodup_nil, ?_⟩ (by simp)
  · simp [Array.getD_eq_getD_getElem?, hi]
  · intro l1 j l2 h; simp at h

/-- Is i ahead of j, by the edges? -/
def ahead (ops : Array Oper) (i j : Nat) : Bool := ((Region.before ops).getD j 0).testBit i

end Go.V
