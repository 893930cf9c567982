import Derived.Test.YtcnblloiaambaaaSN
import Derived.Test.YtcnblloiaambaaaV28
namespace Go.Proofs.Ytcnblloiaambaaa
open Go.V
set_option maxHeartbeats 4000000

theorem mem_rowAt {rows : List Row} {r : Row} (h : r ∈ rows) : ∃ i, i < rows.length ∧ rowAt rows i = r := by
  obtain ⟨i, hi, e⟩ := List.getElem_of_mem h
  exact ⟨i, hi, by rw [rowAt_eq hi, e]⟩

theorem valid_mem {n : Int} {rows : List Row} : valid n rows ↔ 0 ≤ n ∧ ∀ r ∈ rows, (r.1.length : Int) = n ∧ signs r.1 :=
  ⟨fun h => ⟨h.1, fun r hr => by obtain ⟨i, hi, rfl⟩ := mem_rowAt hr; exact h.2 i hi⟩, fun h => ⟨h.1, fun i hi => h.2 _ (rowAt_mem hi)⟩⟩

theorem sep_mem {rows : List Row} : sep rows ↔ ∀ r ∈ rows, ∀ r' ∈ rows, r.1 = r'.1 → r.2 = r'.2 := by
  constructor
  · intro h r hr r' hr' e
    obtain ⟨i, hi, rfl⟩ := mem_rowAt hr
    obtain ⟨k, hk, rfl⟩ := mem_rowAt hr'
    rcases Nat.lt_trichotomy i k with h1 | rfl | h1
    · rcases Classical.em ((rowAt rows k).2 = (rowAt rows i).2) with h2 | h2
      · exact h2.symm
      · exact absurd ⟨h2, e.symm⟩ (h k hk i h1)
    · rfl
    · rcases Classical.em ((rowAt rows i).2 = (rowAt rows k).2) with h2 | h2
      · exact h2
      · exact absurd ⟨h2, e⟩ (h i hi k h1)
  · intro h i hi k hk hc
    exact hc.1 (h _ (rowAt_mem hi) _ (rowAt_mem (by omega)) hc.2)

theorem covs_mem {ts : List (List Int)} {rows : List Row} : covs ts rows ↔ ∀ r ∈ rows, ((∃ k, k < ts.length ∧ permR (atT ts k) r.1) ↔ r.2 = true) :=
  ⟨fun h r hr => by obtain ⟨i, hi, rfl⟩ := mem_rowAt hr; exact h i hi, fun h i hi => h _ (rowAt_mem hi)⟩

theorem few_mem {rows : List Row} : few rows ↔ rows.length ≤ 90 ∧ ∀ r ∈ rows, r.1.length ≤ 6 :=
  ⟨fun h => ⟨h.1, fun r hr => by obtain ⟨i, hi, rfl⟩ := mem_rowAt hr; exact h.2 i hi⟩, fun h => ⟨h.1, fun i hi => h.2 _ (rowAt_mem hi)⟩⟩

/- the rows in another order -/
def turned (rows : List Row) (t i : Nat) : Row := rowAt rows ((i + t) % rows.length)
def oth (rows : List Row) (t i : Nat) : List Row := (List.range i).map (turned rows t)
def other (rows : List Row) (t : Nat) : List Row := oth rows t rows.length ++ if 0 < rows.length then [rowAt rows (t % rows.length)] else []

theorem oth_succ (rows : List Row) (t i : Nat) : oth rows t (i + 1) = oth rows t i ++ [turned rows t i] := by simp [oth, List.range_succ]

theorem other_mem {rows : List Row} {t : Nat} {r : Row} : r ∈ other rows t ↔ r ∈ rows := by
  constructor
  · intro h
    rcases List.mem_append.1 h with h | h
    · obtain ⟨i, hi, rfl⟩ := List.mem_map.1 h
      have := List.mem_range.1 hi
      exact rowAt_mem (Nat.mod_lt _ (by omega))
    · split at h
      · rename_i h0
        simp only [List.mem_cons, List.not_mem_nil, or_false] at h
        subst h
        exact rowAt_mem (Nat.mod_lt _ h0)
      · cases h
  · intro h
    obtain ⟨k, hk, rfl⟩ := mem_rowAt h
    refine List.mem_append_left _ (List.mem_map.2 ⟨(k + (rows.length - t % rows.length)) % rows.length, List.mem_range.2 (Nat.mod_lt _ (by omega)), ?_⟩)
    unfold turned
    congr 1
    rw [Nat.mod_add_mod]
    have h1 := Nat.mod_lt t (show rows.length > 0 by omega)
    have h2 := Nat.div_add_mod t rows.length
    have h3 : k + (rows.length - t % rows.length) + t = k + rows.length * (1 + t / rows.length) := by rw [Nat.mul_add]; omega
    rw [h3, Nat.add_mul_mod_self_left, Nat.mod_eq_of_lt hk]

theorem other_length (rows : List Row) (t : Nat) : (other rows t).length ≤ rows.length + 1 := by
  unfold other
  rw [List.length_append]
  split <;> simp [oth]

theorem err_eq {n : Int} {rows rows' : List Row} (h : ∀ r, r ∈ rows' ↔ r ∈ rows) : err n rows' = err n rows := by
  have e1 : valid n rows' ↔ valid n rows := by
    rw [valid_mem, valid_mem]
    exact ⟨fun ⟨a, b⟩ => ⟨a, fun r hr => b r ((h r).2 hr)⟩, fun ⟨a, b⟩ => ⟨a, fun r hr => b r ((h r).1 hr)⟩⟩
  have e2 : sep rows' ↔ sep rows := by
    rw [sep_mem, sep_mem]
    exact ⟨fun a r hr r' hr' => a r ((h r).2 hr) r' ((h r').2 hr'), fun a r hr r' hr' => a r ((h r).1 hr) r' ((h r').1 hr')⟩
  unfold err
  rw [show valid n rows' = valid n rows from propext e1, show sep rows' = sep rows from propext e2]

theorem rowCells_len (r : Row) : (rowCells r).length = 2 := rfl

/- f7: SolutionOrder -/
theorem SolutionOrder_spec (n : Int) (rows : List Row) (turn : Int) (ht : 0 ≤ turn ∧ turn ≤ 255) : PureFn Try.prog 7 [I n, eR rows, .int .u8 turn] (.bool true) := by
  obtain ⟨t, rfl⟩ : ∃ t : Nat, turn = t := ⟨turn.toNat, by omega⟩
  refine .of_W (fn := Try.f7) ⟨.int _ _, eR_pure _, .int _ _, trivial⟩ Try.call7 Try.func7 rfl rfl ?_
  refine .sreg ?_
  iterate 1 refine .p rfl rfl rfl trivial ?_
  refine .nil (.seq (.sreg ?_)) rfl
  refine .call (awake_spec) rfl rfl rfl rfl ?_
  iterate 3 refine .p rfl rfl rfl trivial ?_
  refine .call (Few_spec rows) rfl rfl rfl rfl ?_
  iterate 3 refine .p rfl rfl rfl trivial ?_
  refine .split (fun h => ?_) (fun h => ?_)
  · iterate 3 refine .skip rfl rfl ?_
    iterate 2 refine .p rfl rfl rfl trivial ?_
    iterate 2 refine .skip rfl rfl ?_
    iterate 1 refine .p rfl rfl rfl trivial ?_
    refine .nil (.condT rfl ?_) rfl
    refine .sreg ?_
    refine .call (awake_spec) rfl rfl rfl rfl ?_
    iterate 1 refine .p rfl rfl rfl trivial ?_
    refine .nil (.ret ⟨_, rfl, .bool (rfl), rfl⟩) rfl
  have hf : few rows := by simpa using h
  iterate 5 refine .p rfl rfl rfl trivial ?_
  refine .dsplit (fun h => ?_) (fun h40 => ?_)
  · iterate 2 refine .skip rfl rfl ?_
    iterate 1 refine .p rfl rfl rfl trivial ?_
    refine .nil (.condT rfl ?_) rfl
    refine .sreg ?_
    refine .call (awake_spec) rfl rfl rfl rfl ?_
    iterate 1 refine .p rfl rfl rfl trivial ?_
    refine .nil (.ret ⟨_, rfl, .bool (rfl), rfl⟩) rfl
  iterate 3 refine .p rfl rfl rfl trivial ?_
  refine .nil (.cond_dec rfl (fun h => ?_) (fun h6 => .skip ?_)) rfl
  · refine .sreg ?_
    refine .call (awake_spec) rfl rfl rfl rfl ?_
    iterate 1 refine .p rfl rfl rfl trivial ?_
    refine .nil (.ret ⟨_, rfl, .bool (rfl), rfl⟩) rfl
  have hl40 : rows.length ≤ 40 := by omega
  refine .sreg ?_
  iterate 1 refine .p rfl rfl rfl trivial ?_
  refine .nil (.seq (.sreg ?_)) rfl
  iterate 3 refine .p rfl rfl rfl trivial ?_
  refine .nil ?_ rfl
  refine .range rows.length (fun i => [(7, accD 2 0 (oth rows t i)), (0, I n), (1, eR rows), (2, .int .u8 t)]) (fun i => [accB rowCells (oth rows t i)]) (fun _ => True) rfl rfl rfl rfl rfl rfl rfl rfl rfl rfl (by omega) trivial ?_ (fun _ => rfl) (fun i hi _ => ?_) (fun _ => ?_)
  · refine .ren [0] [] (Nat.zero_le _) (fun b hb => absurd hb (Nat.not_lt_zero b)) (by simp) ?_ trivial
    exact ⟨⟨_, rfl, .wk (.int _ _) (.refl _)⟩, ⟨_, rfl, .wk (.int _ _) (.refl _)⟩, ⟨_, rfl, .wk .snil (.refl _)⟩, ⟨_, rfl, .wk (.int _ _) (.refl _)⟩, ⟨_, rfl, .wk (eR_pure _) (.refl _)⟩, ⟨_, rfl, .wk (.int _ _) (.refl _)⟩, trivial⟩
  · have hj : (i + t) % rows.length < rows.length := Nat.mod_lt _ (by omega)
    refine .sreg ?_
    iterate 2 refine .p rfl rfl rfl trivial ?_
    refine .nil (.reg ?_) rfl
    iterate 4 refine .p rfl rfl rfl trivial ?_
    refine .pe (I ((t : Int))) rfl rfl rfl trivial (by rw [wrap64] <;> first | omega | rfl | exact congrArg (D.int .i64) (by omega)) ?_
    refine .pe (I (((i + t : Nat) : Int))) rfl rfl rfl trivial (by rw [wrap64] <;> first | omega | rfl | exact congrArg (D.int .i64) (by omega)) ?_
    iterate 2 refine .p rfl rfl rfl trivial ?_
    refine .pe (I (((i + t) % rows.length : Nat) : Int)) rfl rfl rfl (show (rows.length : Int) ≠ 0 by omega) rfl ?_
    refine .ix ((i + t) % rows.length) rfl rfl rfl rfl rfl rfl rfl (by first | rfl | omega) (by first | omega | decide) ?_
    refine .lda _ rfl rfl rfl rfl rfl rfl rfl (r_agg hj rfl) ?_
    iterate 1 refine .p rfl rfl rfl trivial ?_
    refine .grow 1 0 2 32 (oth rows t i) [turned rows t i] (enc := rowCells) rowCells_len rfl rfl rfl rfl rfl rfl rfl rfl rfl rfl (.snap rfl) rfl (by simp) (by simp [oth]; omega) (by simp [oth]; omega) rfl ?_
    rw [← oth_succ]
    iterate 1 refine .p rfl rfl rfl trivial ?_
    refine .nil ⟨trivial, ?_⟩ rfl
    refine .ren [1] [] (Nat.zero_le _) (fun b hb => absurd hb (Nat.not_lt_zero b)) (by simp) ?_ (.acc (by simp) rfl rowCells_pure trivial)
    exact ⟨⟨_, rfl, .wk (.int _ _) (.refl _)⟩, ⟨_, rfl, .wk (.int _ _) (.refl _)⟩, ⟨_, rfl, .acc rfl⟩, ⟨_, rfl, .wk (.int _ _) (.refl _)⟩, ⟨_, rfl, .wk (eR_pure _) (.refl _)⟩, ⟨_, rfl, .wk (.int _ _) (.refl _)⟩, trivial⟩
  · show W _ _ _ _ _ _ _
    refine .mid [(7, eR (other rows t)), (0, I n), (1, eR rows)] [] ?_ ?_
    · refine .sreg ?_
      iterate 3 refine .p rfl rfl rfl trivial ?_
      refine .nil (.cond_dec rfl (fun h => ?_) (fun h => .skip (.frz ?_))) rfl
      · have h0 : 0 < rows.length := by omega
        have hj : t % rows.length < rows.length := Nat.mod_lt _ h0
        refine W.reg ?_
        iterate 3 refine .p rfl rfl rfl trivial ?_
        refine .pe (I ((t : Int))) rfl rfl rfl trivial (by rw [wrap64] <;> first | omega | rfl | exact congrArg (D.int .i64) (by omega)) ?_
        iterate 2 refine .p rfl rfl rfl trivial ?_
        refine .pe (I ((t % rows.length : Nat) : Int)) rfl rfl rfl (show (rows.length : Int) ≠ 0 by omega) rfl ?_
        refine .ix (t % rows.length) rfl rfl rfl rfl rfl rfl rfl (by first | rfl | omega) (by first | omega | decide) ?_
        refine .lda _ rfl rfl rfl rfl rfl rfl rfl (r_agg hj rfl) ?_
        iterate 1 refine .p rfl rfl rfl trivial ?_
        refine .grow 1 0 2 32 (oth rows t rows.length) [rowAt rows (t % rows.length)] (enc := rowCells) rowCells_len rfl rfl rfl rfl rfl rfl rfl rfl rfl rfl (.snap rfl) rfl (by simp) (by simp [oth]; omega) (by simp [oth]; omega) rfl ?_
        rw [show oth rows t rows.length ++ [rowAt rows (t % rows.length)] = other rows t by rw [other, if_pos h0]]
        iterate 1 refine .p rfl rfl rfl trivial ?_
        refine .nil (.frz ?_) rfl
        exact ⟨⟨_, rfl, frz_accS rowCells_len rowCells_pure rfl⟩, ⟨_, rfl, .pure (.int _ _) (.refl _)⟩, ⟨_, rfl, .pure (eR_pure _) (.refl _)⟩, trivial⟩
      · have h0 : ¬ 0 < rows.length := by omega
        have e : other rows t = oth rows t rows.length := by rw [other, if_neg h0, List.append_nil]
        rw [e]
        exact ⟨⟨_, rfl, frz_accS rowCells_len rowCells_pure rfl⟩, ⟨_, rfl, .pure (.int _ _) (.refl _)⟩, ⟨_, rfl, .pure (eR_pure _) (.refl _)⟩, trivial⟩
    have hol := other_length rows t
    have hfo : few (other rows t) := few_mem.2 ⟨by omega, fun r hr => (few_mem.1 hf).2 r (other_mem.1 hr)⟩
    have hee : err n (other rows t) = err n rows := err_eq fun r => other_mem
    refine .sreg ?_
    iterate 2 refine .p rfl rfl rfl trivial ?_
    refine .call (Cover_spec hf) rfl rfl rfl rfl ?_
    iterate 5 refine .p rfl rfl rfl trivial ?_
    refine .nil (.sreg ?_) rfl
    iterate 2 refine .p rfl rfl rfl trivial ?_
    refine .call (Cover_spec hfo) rfl rfl rfl rfl ?_
    iterate 5 refine .p rfl rfl rfl trivial ?_
    rw [hee]
    refine .nil (.seq (.sreg ?_)) rfl
    iterate 4 refine .p rfl rfl rfl trivial ?_
    refine .split (fun h => absurd h (by simp)) (fun _ => ?_)
    iterate 3 refine .p rfl rfl rfl trivial ?_
    refine .nil (.cond_ndec rfl (fun h0 => ?_) (fun h0 => .skip ?_)) rfl
    · have h0' : err n (other rows t) ≠ 0 := by rw [hee]; exact h0
      refine .sreg ?_
      iterate 4 refine .p rfl rfl rfl trivial ?_
      refine .dsplit (fun _ => ?_) (fun h1 => absurd rfl h1)
      iterate 5 refine .p rfl rfl rfl trivial ?_
      refine .dsplit (fun _ => ?_) (fun h1 => absurd (by rw [coverL_none h0]; rfl) h1)
      iterate 5 refine .p rfl rfl rfl trivial ?_
      refine .nil (.ret ⟨_, rfl, .bool (B_of (by rw [coverL_none h0']; rfl)), rfl⟩) rfl
    · have h0' : err n (other rows t) = 0 := by rw [hee]; exact h0
      obtain ⟨hv, hp⟩ := err_zero h0
      obtain ⟨hv', hp'⟩ := err_zero h0'
      rw [show coverL n rows = cover rows by rw [coverL, if_pos ⟨hv, hp⟩], show coverL n (other rows t) = cover (other rows t) by rw [coverL, if_pos ⟨hv', hp'⟩]]
      obtain ⟨m, rfl, hR⟩ := Rows.of hv hp
      obtain ⟨m', hm', hR'⟩ := Rows.of hv' hp'
      have hmm : m' = m := by omega
      subst hmm
      have c1 : covs (cover rows) (other rows t) := covs_mem.2 fun r hr => covs_mem.1 (cover_covs hR) r (other_mem.1 hr)
      have c2 : covs (cover (other rows t)) rows := covs_mem.2 fun r hr => covs_mem.1 (cover_covs hR') r (other_mem.2 hr)
      refine .sreg ?_
      iterate 2 refine .p rfl rfl rfl trivial ?_
      refine .call (Covers_spec hfo hR'.sg (cover_small hR hf (by omega))) rfl rfl rfl rfl ?_
      iterate 1 refine .p rfl rfl rfl trivial ?_
      refine .dsplit (fun _ => ?_) (fun h1 => absurd c1 h1)
      iterate 2 refine .p rfl rfl rfl trivial ?_
      refine .call (Covers_spec hf hR.sg (cover_small hR' hfo (by omega))) rfl rfl rfl rfl ?_
      iterate 2 refine .p rfl rfl rfl trivial ?_
      refine .nil (.ret ⟨_, rfl, .bool (B_of c2), rfl⟩) rfl
end Go.Proofs.Ytcnblloiaambaaa
