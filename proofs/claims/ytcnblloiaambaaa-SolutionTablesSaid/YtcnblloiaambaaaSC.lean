import Derived.Test.YtcnblloiaambaaaSB
namespace Go.Proofs.Ytcnblloiaambaaa
open Go.V
set_option maxHeartbeats 4000000

theorem atI_ext {a b : List Int} (hl : a.length = b.length) (h : ∀ i, i < a.length → atI a i = atI b i) : a = b := by
  apply List.ext_getElem hl
  intro i h1 h2
  have := h i h1
  simpa [atI, h1, h2] using this

/- f28: slices.Equal -/
theorem Equal_spec {a b : List Int} (hb : a.length ≤ 9223372036854775807) : PureFn Try.prog 28 [eI a, eI b] (B (a = b)) := by
  refine .of_W (fn := Try.f28) ⟨encI_pure _ _, encI_pure _ _, trivial⟩ Try.call28 Try.func28 rfl rfl ?_
  refine .sreg ?_
  iterate 1 refine .p rfl rfl rfl trivial ?_
  refine .nil (.seq (.sreg ?_)) rfl
  iterate 5 refine .p rfl rfl rfl trivial ?_
  refine .nil (.cond_ndec rfl (fun hne => ?_) (fun heq => .skip ?_)) rfl
  · refine .sreg ?_
    iterate 1 refine .p rfl rfl rfl trivial ?_
    refine .nil (.ret ⟨_, rfl, .bool (B_false fun hp => hne (by rw [hp])), rfl⟩) rfl
  have hlen : a.length = b.length := by omega
  refine .seq (.sreg ?_)
  iterate 3 refine .p rfl rfl rfl trivial ?_
  refine .nil ?_ rfl
  refine .range (a.length) (fun i => [(0, eI a), (1, eI b)]) (fun i => []) (fun i => ∀ j, j < i → atI a j = atI b j) rfl rfl rfl rfl rfl rfl rfl rfl rfl rfl (hb) (by first | exact trivial | (intro j hj; exact absurd hj (Nat.not_lt_zero j))) (.wk ?_) (fun _ => rfl) (fun i hi Ci => ?_) (fun Ci => ?_)
  · repeat (first | exact trivial | refine ⟨⟨_, rfl, .refl _⟩, ?_⟩)
  · refine .sreg ?_
    iterate 2 refine .p rfl rfl rfl trivial ?_
    refine .nil (.sdraw mixed (by kernel_rfl) (by kernel_rfl) ?_) rfl
    iterate 2 refine .p rfl rfl rfl trivial ?_
    refine .ix (i) rfl rfl rfl rfl rfl rfl rfl (by first | rfl | omega) (by first | omega | decide) ?_
    refine .ld _ rfl rfl rfl rfl rfl rfl (i_get hi rfl) ?_
    iterate 2 refine .p rfl rfl rfl trivial ?_
    refine .ix (i) rfl rfl rfl rfl rfl rfl rfl (by first | rfl | omega) (by first | omega | decide) ?_
    refine .ld _ rfl rfl rfl rfl rfl rfl (i_get (by omega) rfl) ?_
    iterate 1 refine .p rfl rfl rfl trivial ?_
    refine .nil (.cond_ndec rfl (fun h => ?_) (fun h => .skip ⟨all_succ Ci h, .wk ?_⟩)) rfl
    · refine .sreg ?_
      iterate 1 refine .p rfl rfl rfl trivial ?_
      refine .nil (.ret ⟨_, rfl, .bool (B_false fun hp => h (by rw [hp])), rfl⟩) rfl
    · repeat (first | exact trivial | refine ⟨⟨_, rfl, .refl _⟩, ?_⟩)
  · refine W.sreg ?_
    iterate 1 refine .p rfl rfl rfl trivial ?_
    refine .nil (.ret ⟨_, rfl, .bool (B_true (atI_ext hlen Ci)), rfl⟩) rfl

/- f29: cylinderref50.sameSigns -/
theorem same_spec {a b : List Int} (hb : a.length ≤ 9223372036854775807) : PureFn Try.prog 29 [eI a, eI b] (B (a = b)) := by
  refine .of_W (fn := Try.f29) ⟨encI_pure _ _, encI_pure _ _, trivial⟩ Try.call29 Try.func29 rfl rfl ?_
  refine .sreg ?_
  iterate 1 refine .p rfl rfl rfl trivial ?_
  refine .nil (.seq (.sreg ?_)) rfl
  iterate 5 refine .p rfl rfl rfl trivial ?_
  refine .nil (.cond_ndec rfl (fun hne => ?_) (fun heq => .skip ?_)) rfl
  · refine .sreg ?_
    iterate 1 refine .p rfl rfl rfl trivial ?_
    refine .nil (.ret ⟨_, rfl, .bool (B_false fun hp => hne (by rw [hp])), rfl⟩) rfl
  have hlen : a.length = b.length := by omega
  refine .seq (.sreg ?_)
  iterate 3 refine .p rfl rfl rfl trivial ?_
  refine .nil ?_ rfl
  refine .range (a.length) (fun i => [(0, eI a), (1, eI b)]) (fun i => []) (fun i => ∀ j, j < i → atI a j = atI b j) rfl rfl rfl rfl rfl rfl rfl rfl rfl rfl (hb) (by first | exact trivial | (intro j hj; exact absurd hj (Nat.not_lt_zero j))) (.wk ?_) (fun _ => rfl) (fun i hi Ci => ?_) (fun Ci => ?_)
  · repeat (first | exact trivial | refine ⟨⟨_, rfl, .refl _⟩, ?_⟩)
  · refine .sreg ?_
    iterate 2 refine .p rfl rfl rfl trivial ?_
    refine .nil (.sdraw mixed (by kernel_rfl) (by kernel_rfl) ?_) rfl
    iterate 2 refine .p rfl rfl rfl trivial ?_
    refine .ix (i) rfl rfl rfl rfl rfl rfl rfl (by first | rfl | omega) (by first | omega | decide) ?_
    refine .ld _ rfl rfl rfl rfl rfl rfl (i_get hi rfl) ?_
    iterate 2 refine .p rfl rfl rfl trivial ?_
    refine .ix (i) rfl rfl rfl rfl rfl rfl rfl (by first | rfl | omega) (by first | omega | decide) ?_
    refine .ld _ rfl rfl rfl rfl rfl rfl (i_get (by omega) rfl) ?_
    iterate 1 refine .p rfl rfl rfl trivial ?_
    refine .nil (.cond_ndec rfl (fun h => ?_) (fun h => .skip ⟨all_succ Ci h, .wk ?_⟩)) rfl
    · refine .sreg ?_
      iterate 1 refine .p rfl rfl rfl trivial ?_
      refine .nil (.ret ⟨_, rfl, .bool (B_false fun hp => h (by rw [hp])), rfl⟩) rfl
    · repeat (first | exact trivial | refine ⟨⟨_, rfl, .refl _⟩, ?_⟩)
  · refine W.sreg ?_
    iterate 1 refine .p rfl rfl rfl trivial ?_
    refine .nil (.ret ⟨_, rfl, .bool (B_true (atI_ext hlen Ci)), rfl⟩) rfl

/- two rows that equal signs tell apart -/
def clash (rows : List Row) (i k : Nat) : Prop := (rowAt rows i).2 ≠ (rowAt rows k).2 ∧ (rowAt rows i).1 = (rowAt rows k).1
def sep (rows : List Row) : Prop := ∀ i, i < rows.length → ∀ k, k < i → ¬ clash rows i k

theorem flat_cut {rows : List Row} {i : Nat} (h : i ≤ rows.length) : (((rows.flatMap rowCells).drop (0 * 2)).take ((i - 0) * 2)) = (rows.take i).flatMap rowCells := by
  simp only [Nat.zero_mul, List.drop_zero, Nat.sub_zero]
  induction rows generalizing i with
  | nil => simp
  | cons r rs ih =>
    cases i with
    | zero => simp
    | succ i =>
      simp only [List.take_succ_cons, List.flatMap_cons]
      rw [show (i + 1) * 2 = (rowCells r).length + i * 2 by simp [rowCells]; omega, List.take_length_add_append, ih (by simpa using h)]

theorem rowAt_take {rows : List Row} {i k : Nat} (h : k < i) : rowAt (rows.take i) k = rowAt rows k := by
  simp [rowAt, h]

/- f16: solution.Separated -/
theorem Separated_spec {rows : List Row} (hf : few rows) : PureFn Try.prog 16 [eR rows] (B (sep rows)) := by
  refine .of_W (fn := Try.f16) ⟨eR_pure _, trivial⟩ Try.call16 Try.func16 rfl rfl ?_
  refine .sreg ?_
  iterate 1 refine .p rfl rfl rfl trivial ?_
  refine .nil (.seq (.sreg ?_)) rfl
  iterate 3 refine .p rfl rfl rfl trivial ?_
  refine .nil ?_ rfl
  refine .range (rows.length) (fun io => [(0, eR rows), (7, eR rows)]) (fun io => []) (fun io => ∀ j, j < io → ∀ k, k < j → ¬ clash rows j k) rfl rfl rfl rfl rfl rfl rfl rfl rfl rfl ((by have := hf.1; omega)) (by first | exact trivial | (intro j hj; exact absurd hj (Nat.not_lt_zero j))) (.wk ?_) (fun _ => rfl) (fun io hio Cio => ?_) (fun Cio => ?_)
  · repeat (first | exact trivial | refine ⟨⟨_, rfl, .refl _⟩, ?_⟩)
  · refine .sreg ?_
    iterate 1 refine .p rfl rfl rfl trivial ?_
    refine .ix (io) rfl rfl rfl rfl rfl rfl rfl (by first | rfl | omega) (by first | omega | decide) ?_
    refine .lda _ rfl rfl rfl rfl rfl rfl rfl (r_agg hio rfl) ?_
    refine .alloc 0 rfl rfl rfl rfl rfl rfl rfl ?_
    iterate 1 refine .p rfl rfl rfl trivial ?_
    iterate 1 refine .store rfl rfl rfl rfl rfl rfl rfl rfl rfl rfl ?_
    refine .nil (.sreg ?_) rfl
    iterate 2 refine .p rfl rfl rfl trivial ?_
    refine .sl 2 0 io (d := eR (rows.take io)) rfl rfl rfl rfl rfl rfl rfl rfl rfl rfl (by omega) (by omega) ?_ ?_
    · rw [flat_cut (by omega)]
      simp only [eR, encS, Nat.sub_zero, List.length_take, Nat.min_eq_left (Nat.le_of_lt hio), Bool.false_and]
    iterate 2 refine .p rfl rfl rfl trivial ?_
    refine .nil ?_ rfl
    refine .range ((rows.take io).length) (fun k => [(0, eR rows), (7, eR rows), (9, I io), (8, I rows.length), (16, eR (rows.take io)), (4, .ptr 0 0)]) (fun k => [some (.cells [eI (rowAt rows io).1, .bool (rowAt rows io).2])]) (fun k => ∀ j, j < k → ¬ clash rows io j) rfl rfl rfl rfl rfl rfl rfl rfl rfl rfl ((by have := hf.1; simp; omega)) (by first | exact trivial | (intro j hj; exact absurd hj (Nat.not_lt_zero j))) (.wk ?_) (fun _ => rfl) (fun k hk Ck => ?_) (fun Ck => ?_)
    · repeat (first | exact trivial | refine ⟨⟨_, rfl, .refl _⟩, ?_⟩)
    · have hk' : k < io := by simp only [List.length_take] at hk; omega
      refine .sreg ?_
      refine .ix (k) rfl rfl rfl rfl rfl rfl rfl (by first | rfl | omega) (by first | omega | decide) ?_
      refine .lda _ rfl rfl rfl rfl rfl rfl rfl (r_agg hk rfl) ?_
      refine .alloc 1 rfl rfl rfl rfl rfl rfl rfl ?_
      iterate 1 refine .store rfl rfl rfl rfl rfl rfl rfl rfl rfl rfl ?_
      rw [rowAt_take hk']
      refine .nil (.sreg ?_) rfl
      iterate 1 refine .p rfl rfl rfl trivial ?_
      iterate 1 refine .ldl rfl rfl rfl rfl rfl rfl rfl rfl rfl ?_
      iterate 1 refine .p rfl rfl rfl trivial ?_
      iterate 1 refine .ldl rfl rfl rfl rfl rfl rfl rfl rfl rfl ?_
      iterate 2 refine .p rfl rfl rfl trivial ?_
      refine .split (fun h => ?_) (fun h => ?_)
      · have h2 : (rowAt rows io).2 ≠ (rowAt rows k).2 := by simpa using h
        iterate 1 refine .p rfl rfl rfl trivial ?_
        iterate 1 refine .ldl rfl rfl rfl rfl rfl rfl rfl rfl rfl ?_
        iterate 1 refine .p rfl rfl rfl trivial ?_
        iterate 1 refine .ldl rfl rfl rfl rfl rfl rfl rfl rfl rfl ?_
        refine .call (Equal_spec (by have := hf.2 io hio; omega)) rfl rfl rfl rfl ?_
        iterate 1 refine .p rfl rfl rfl trivial ?_
        refine .nil (.cond_dec rfl (fun h => ?_) (fun h => .skip ⟨all_succ Ck fun hc => h hc.2, ?_⟩)) rfl
        · refine .sreg ?_
          iterate 1 refine .p rfl rfl rfl trivial ?_
          refine .nil (.ret ⟨_, rfl, .bool (B_false fun hs => hs io hio k hk' ⟨h2, h⟩), rfl⟩) rfl
        · refine .trunc [_] rfl (Nat.zero_le _) rfl ?_ ?_
          · repeat (first | exact trivial | refine ⟨⟨rfl, (by first | exact .int _ _ | exact .bool _ | exact (eI_pure _).bel | exact (eR_pure _).bel | exact (eT_pure _).bel | exact .ptr (Nat.le_of_ble_eq_true rfl) | exact .live (Nat.le_of_ble_eq_true rfl))⟩, ?_⟩)
          · repeat (first | exact trivial | refine ⟨BelL.mem (by first | exact BelL.map (fun _ => .int _ _) | exact BelL.map (fun _ => eI_pure _) | (repeat (first | exact trivial | refine ⟨(by first | exact .int _ _ | exact .bool _ | exact (eI_pure _).bel | exact (eR_pure _).bel | exact (eT_pure _).bel | exact .ptr (Nat.le_of_ble_eq_true rfl) | exact .live (Nat.le_of_ble_eq_true rfl)), ?_⟩))), ?_⟩)
      · iterate 5 refine .skip rfl rfl ?_
        iterate 1 refine .p rfl rfl rfl trivial ?_
        refine .nil (.condF rfl (.skip ⟨all_succ Ck fun hc => by simp at h; exact hc.1 h, ?_⟩)) rfl
        refine .trunc [_] rfl (Nat.zero_le _) rfl ?_ ?_
        · repeat (first | exact trivial | refine ⟨⟨rfl, (by first | exact .int _ _ | exact .bool _ | exact (eI_pure _).bel | exact (eR_pure _).bel | exact (eT_pure _).bel | exact .ptr (Nat.le_of_ble_eq_true rfl) | exact .live (Nat.le_of_ble_eq_true rfl))⟩, ?_⟩)
        · repeat (first | exact trivial | refine ⟨BelL.mem (by first | exact BelL.map (fun _ => .int _ _) | exact BelL.map (fun _ => eI_pure _) | (repeat (first | exact trivial | refine ⟨(by first | exact .int _ _ | exact .bool _ | exact (eI_pure _).bel | exact (eR_pure _).bel | exact (eT_pure _).bel | exact .ptr (Nat.le_of_ble_eq_true rfl) | exact .live (Nat.le_of_ble_eq_true rfl)), ?_⟩))), ?_⟩)
    · refine ⟨all_succ Cio (by simpa [Nat.min_eq_left (Nat.le_of_lt hio)] using Ck), .pure ?_⟩
      repeat (first | exact trivial | refine ⟨⟨rfl, by first | exact .int _ _ | exact .bool _ | exact encI_pure _ _ | exact eR_pure _ | exact eT_pure _⟩, ?_⟩)
  · refine W.sreg ?_
    iterate 1 refine .p rfl rfl rfl trivial ?_
    refine .nil (.ret ⟨_, rfl, .bool (B_true Cio), rfl⟩) rfl
end Go.Proofs.Ytcnblloiaambaaa
