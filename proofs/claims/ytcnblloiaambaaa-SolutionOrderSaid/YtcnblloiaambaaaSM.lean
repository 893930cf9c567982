import Derived.Test.YtcnblloiaambaaaSK
namespace Go.Proofs.Ytcnblloiaambaaa
open Go.V
set_option maxHeartbeats 4000000

/- sets of signs as numbers -/
def bit3 (c : Int) : Prop := c = 1 ∨ c = 2 ∨ c = 4

theorem lor_land_fin : ∀ a b c : Fin 8, (landI (lorI (a.val : Int) (b.val : Int)) (c.val : Int) ≠ 0 ↔ landI (a.val : Int) (c.val : Int) ≠ 0 ∨ landI (b.val : Int) (c.val : Int) ≠ 0) ∧ 0 ≤ lorI (a.val : Int) (b.val : Int) ∧ lorI (a.val : Int) (b.val : Int) ≤ 7 ∧ (1 ≤ a.val → 1 ≤ lorI (a.val : Int) (b.val : Int)) := by
  decide +kernel

theorem to_fin {a : Int} (h0 : 0 ≤ a) (h7 : a ≤ 7) : ∃ x : Fin 8, a = (x.val : Int) := ⟨⟨a.toNat, by omega⟩, by simp; omega⟩

theorem lor_land {a b c : Int} (ha : 0 ≤ a ∧ a ≤ 7) (hb : 0 ≤ b ∧ b ≤ 7) (hc : 0 ≤ c ∧ c ≤ 7) : landI (lorI a b) c ≠ 0 ↔ landI a c ≠ 0 ∨ landI b c ≠ 0 := by
  obtain ⟨x, rfl⟩ := to_fin ha.1 ha.2
  obtain ⟨y, rfl⟩ := to_fin hb.1 hb.2
  obtain ⟨z, rfl⟩ := to_fin hc.1 hc.2
  exact (lor_land_fin x y z).1

theorem lor_range {a b : Int} (ha : 1 ≤ a ∧ a ≤ 7) (hb : 0 ≤ b ∧ b ≤ 7) : 1 ≤ lorI a b ∧ lorI a b ≤ 7 := by
  obtain ⟨x, rfl⟩ := to_fin (by omega : 0 ≤ a) ha.2
  obtain ⟨y, rfl⟩ := to_fin hb.1 hb.2
  obtain ⟨_, h1, h2, h3⟩ := lor_land_fin x y 0
  exact ⟨h3 (by omega), h2⟩

theorem bit3.range {c : Int} (h : bit3 c) : 0 ≤ c ∧ c ≤ 7 := by rcases h with rfl | rfl | rfl <;> omega
theorem bitOf_bit3 (s : Int) : bit3 (bitOf s) := by unfold bitOf bit3; split <;> (try split) <;> simp
theorem pow_bit3 {e : Nat} (h : e < 3) : bit3 (2 ^ e) := by
  have : e = 0 ∨ e = 1 ∨ e = 2 := by omega
  rcases this with rfl | rfl | rfl <;> simp [bit3]
theorem bitOf_pow {e : Nat} (h : e < 3) : bitOf ((e : Int) - 1) = 2 ^ e := by
  have : e = 0 ∨ e = 1 ∨ e = 2 := by omega
  rcases this with rfl | rfl | rfl <;> rfl
theorem sign_cases {s : Int} (h : sign s) : s = -1 ∨ s = 0 ∨ s = 1 := by obtain ⟨a, b⟩ := h; omega
theorem land_bits {x y : Int} (hx : sign x) (hy : sign y) : landI (bitOf x) (bitOf y) ≠ 0 ↔ x = y := by
  rcases sign_cases hx with rfl | rfl | rfl <;> rcases sign_cases hy with rfl | rfl | rfl <;> decide

/- terms -/
theorem atI_set {t : List Int} {i k : Nat} {v : Int} : atI (setT t i v) k = if k = i ∧ i < t.length then v else atI t k := by
  unfold atI setT
  by_cases h : i < t.length
  · by_cases hk : k = i
    · subst hk; simp [h]
    · simp only [hk, false_and, if_false]
      rw [List.getD_eq_getElem?_getD, List.getD_eq_getElem?_getD, List.getElem?_set_ne (fun e => hk e.symm)]
  · simp only [h, and_false, if_false]
    rw [List.set_eq_of_length_le (by omega)]

theorem setT_back {t : List Int} {i : Nat} {v : Int} : setT (setT t i v) i (atI t i) = t := by
  unfold setT atI
  rw [List.set_set]
  by_cases h : i < t.length
  · simp [h]
  · rw [List.set_eq_of_length_le (by omega)]

structure Fit (t : List Int) (n : Nat) : Prop where
  len : t.length = n
  rng : ∀ k, k < n → 1 ≤ atI t k ∧ atI t k ≤ 7

def Inc (t T : List Int) : Prop := ∀ k c, bit3 c → landI (atI t k) c ≠ 0 → landI (atI T k) c ≠ 0
theorem Inc.refl (t : List Int) : Inc t t := fun _ _ _ h => h
theorem Inc.trans {a b c : List Int} (h : Inc a b) (h' : Inc b c) : Inc a c := fun k d hd hx => h' k d hd (h k d hd hx)

theorem Fit.all {t : List Int} {n : Nat} (h : Fit t n) (k : Nat) : 0 ≤ atI t k ∧ atI t k ≤ 7 := by
  by_cases hk : k < n
  · have := h.rng k hk; omega
  · have : atI t k = 0 := by rw [atI, List.getD_eq_getElem?_getD, List.getElem?_eq_none (by rw [h.len]; omega)]; rfl
    omega

theorem Fit.add {t : List Int} {n i : Nat} {b : Int} (h : Fit t n) (hb : bit3 b) : Fit (setT t i (lorI (atI t i) b)) n := by
  refine ⟨by simp [setT, h.len], fun k hk => ?_⟩
  rw [atI_set]
  split
  · rename_i hc
    rw [hc.1] at hk
    exact lor_range (h.rng i hk) hb.range
  · exact h.rng k hk

theorem inc_add {t : List Int} {n i : Nat} {b : Int} (h : Fit t n) (hb : bit3 b) : Inc t (setT t i (lorI (atI t i) b)) := by
  intro k c hc hx
  rw [atI_set]
  split
  · rename_i hk
    rw [hk.1] at hx
    exact (lor_land (h.all i) hb.range hc.range).2 (.inl hx)
  · exact hx

theorem inc_both {t T : List Int} {n i : Nat} {b : Int} (h : Fit t n) (h' : Fit T n) (hb : bit3 b) (hi : Inc t T) : Inc (setT t i (lorI (atI t i) b)) (setT T i (lorI (atI T i) b)) := by
  intro k c hc hx
  rw [atI_set] at hx ⊢
  rw [h.len] at hx
  rw [h'.len]
  split
  · rename_i hk
    rw [if_pos hk] at hx
    rw [lor_land (h.all i) hb.range hc.range] at hx
    rw [lor_land (h'.all i) hb.range hc.range]
    exact hx.imp (hi i c hc) id
  · rename_i hk
    rw [if_neg hk] at hx
    exact hi k c hc hx

theorem perm_mono {t T s : List Int} (h : Inc t T) (hp : perm t s) : perm T s := fun i hi => h i _ (bitOf_bit3 _) (hp i hi)
theorem wrong_mono {t T : List Int} {rows : List Row} (h : Inc t T) (hw : wrong t rows) : wrong T rows :=
  let ⟨i, hi, h1, h2⟩ := hw; ⟨i, hi, h1, perm_mono h h2⟩

def Full (rows : List Row) (T : List Int) (k e : Nat) : Prop := landI (atI T k) (2 ^ e) ≠ 0 ∨ wrong (setT T k (lorI (atI T k) (2 ^ e))) rows

theorem Full.mono {rows : List Row} {t T : List Int} {n k e : Nat} (he : e < 3) (h : Fit t n) (h' : Fit T n) (hi : Inc t T) (hf : Full rows t k e) : Full rows T k e :=
  hf.imp (hi k _ (pow_bit3 he)) (wrong_mono (inc_both h h' (pow_bit3 he) hi))

theorem wstep_spec {rows : List Row} {t : List Int} {n i e : Nat} (he : e < 3) (hi : i < n) (h : Fit t n) (hw : ¬ wrong t rows) :
    Fit (wstep rows t i ((e : Int) - 1)) n ∧ Inc t (wstep rows t i ((e : Int) - 1)) ∧ ¬ wrong (wstep rows t i ((e : Int) - 1)) rows ∧ Full rows (wstep rows t i ((e : Int) - 1)) i e := by
  unfold wstep
  rw [bitOf_pow he]
  split
  · rename_i hc
    rw [setT_back]
    exact ⟨h, .refl _, hw, .inr hc⟩
  · rename_i hc
    refine ⟨h.add (pow_bit3 he), inc_add h (pow_bit3 he), hc, .inl ?_⟩
    rw [atI_set, if_pos ⟨rfl, by rw [h.len]; exact hi⟩, lor_land (h.all i) (pow_bit3 he).range (pow_bit3 he).range]
    right
    have : e = 0 ∨ e = 1 ∨ e = 2 := by omega
    rcases this with rfl | rfl | rfl <;> decide

theorem wsteps_spec {rows : List Row} {t : List Int} {n i : Nat} (hi : i < n) (h : Fit t n) (hw : ¬ wrong t rows) : ∀ e, e ≤ 3 →
    Fit (wsteps rows t i e) n ∧ Inc t (wsteps rows t i e) ∧ ¬ wrong (wsteps rows t i e) rows ∧ ∀ e', e' < e → Full rows (wsteps rows t i e) i e'
  | 0, _ => ⟨h, .refl _, hw, fun e' he => by omega⟩
  | e + 1, he => by
    obtain ⟨h1, h2, h3, h4⟩ := wsteps_spec hi h hw e (by omega)
    obtain ⟨k1, k2, k3, k4⟩ := wstep_spec (e := e) (by omega) hi h1 h3
    refine ⟨k1, h2.trans k2, k3, fun e' he' => ?_⟩
    rcases Nat.lt_succ_iff_lt_or_eq.1 he' with h5 | rfl
    · exact (h4 e' h5).mono (by omega) h1 k1 k2
    · exact k4

theorem wid_spec {rows : List Row} {t : List Int} {n : Nat} (h : Fit t n) (hw : ¬ wrong t rows) : ∀ i, i ≤ n →
    Fit (wid rows t i) n ∧ Inc t (wid rows t i) ∧ ¬ wrong (wid rows t i) rows ∧ ∀ k, k < i → ∀ e, e < 3 → Full rows (wid rows t i) k e
  | 0, _ => ⟨h, .refl _, hw, fun k hk => by omega⟩
  | i + 1, hi => by
    obtain ⟨h1, h2, h3, h4⟩ := wid_spec h hw i (by omega)
    obtain ⟨k1, k2, k3, k4⟩ := wsteps_spec (i := i) (by omega) h1 h3 3 (Nat.le_refl _)
    refine ⟨k1, h2.trans k2, k3, fun k hk e he => ?_⟩
    rcases Nat.lt_succ_iff_lt_or_eq.1 hk with h5 | rfl
    · exact (h4 k h5 e he).mono he h1 k1 k2
    · exact k4 e he

theorem atI_map {s : List Int} {i : Nat} (h : i < s.length) : atI (s.map bitOf) i = bitOf (atI s i) := by simp [atI, h]

theorem fit_start {s : List Int} (hs : signs s) : Fit (s.map bitOf) s.length :=
  ⟨by simp, fun k hk => by rw [atI_map hk]; rcases bitOf_bit3 (atI s k) with h | h | h <;> rw [h] <;> omega⟩

theorem perm_start {s r : List Int} (hs : signs s) (hr : signs r) (hl : r.length = s.length) : perm (s.map bitOf) r ↔ r = s := by
  constructor
  · intro h
    refine atI_ext hl fun i hi => ?_
    have h1 := h i hi
    rw [atI_map (by omega), land_bits (hs i (by omega)) (hr i hi)] at h1
    exact h1.symm
  · rintro rfl
    intro i hi
    rw [atI_map hi, land_bits (hs i hi) (hs i hi)]

/- what the rows are -/
structure Rows (n : Nat) (rows : List Row) : Prop where
  len : ∀ i, i < rows.length → (rowAt rows i).1.length = n
  sg : ∀ i, i < rows.length → signs (rowAt rows i).1
  sep : sep rows

theorem Rows.of {n : Int} {rows : List Row} (h : valid n rows) (h' : Go.Proofs.Ytcnblloiaambaaa.sep rows) : ∃ m : Nat, n = m ∧ Rows m rows :=
  ⟨n.toNat, by have := h.1; omega, fun i hi => by have := (h.2 i hi).1; omega, fun i hi => (h.2 i hi).2, h'⟩

theorem Rows.apart {n : Nat} {rows : List Row} (h : Rows n rows) {i k : Nat} (hi : i < rows.length) (hk : k < rows.length) (he : (rowAt rows i).1 = (rowAt rows k).1) : (rowAt rows i).2 = (rowAt rows k).2 := by
  rcases Nat.lt_trichotomy i k with h1 | rfl | h1
  · rcases Classical.em ((rowAt rows k).2 = (rowAt rows i).2) with h2 | h2
    · exact h2.symm
    · exact absurd ⟨h2, he.symm⟩ (h.sep k hk i h1)
  · rfl
  · rcases Classical.em ((rowAt rows i).2 = (rowAt rows k).2) with h2 | h2
    · exact h2
    · exact absurd ⟨h2, he⟩ (h.sep i hi k h1)

theorem not_wrong_start {n : Nat} {rows : List Row} (h : Rows n rows) {i : Nat} (hi : i < rows.length) (ht : (rowAt rows i).2 = true) : ¬ wrong ((rowAt rows i).1.map bitOf) rows := by
  rintro ⟨j, hj, h1, h2⟩
  rw [perm_start (h.sg i hi) (h.sg j hj) (by rw [h.len i hi, h.len j hj])] at h2
  have := h.apart hj hi h2
  rw [h1, ht] at this
  cases this

/-- What each of the terms is. -/
structure Term (n : Nat) (rows : List Row) (t : List Int) : Prop where
  fit : Fit t n
  ok : ¬ wrong t rows
  full : ∀ k, k < n → ∀ e, e < 3 → Full rows t k e

theorem wid_term {n : Nat} {rows : List Row} (h : Rows n rows) {i : Nat} (hi : i < rows.length) (ht : (rowAt rows i).2 = true) :
    Term n rows (wid rows ((rowAt rows i).1.map bitOf) (rowAt rows i).1.length) ∧ perm (wid rows ((rowAt rows i).1.map bitOf) (rowAt rows i).1.length) (rowAt rows i).1 := by
  have h1 := fit_start (h.sg i hi)
  rw [h.len i hi] at h1 ⊢
  obtain ⟨a, b, c, d⟩ := wid_spec h1 (not_wrong_start h hi ht) n (Nat.le_refl _)
  exact ⟨⟨a, c, d⟩, perm_mono b ((perm_start (h.sg i hi) (h.sg i hi) rfl).2 rfl)⟩

theorem cov1_terms {n : Nat} {rows : List Row} (h : Rows n rows) : ∀ i, i ≤ rows.length → (∀ t ∈ cov1 rows i, Term n rows t) ∧ ∀ j, j < i → (rowAt rows j).2 = true → ∃ t ∈ cov1 rows i, perm t (rowAt rows j).1
  | 0, _ => ⟨by simp [cov1], fun j hj => by omega⟩
  | i + 1, hi => by
    obtain ⟨h1, h2⟩ := cov1_terms h i (by omega)
    rw [cov1]
    split
    · rename_i hc
      obtain ⟨w1, w2⟩ := wid_term h (i := i) (by omega) hc.1
      refine ⟨fun t ht => ?_, fun j hj htr => ?_⟩
      · rcases List.mem_append.1 ht with ht | ht
        · exact h1 t ht
        · simp only [List.mem_cons, List.not_mem_nil, or_false] at ht
          subst ht; exact w1
      · rcases Nat.lt_succ_iff_lt_or_eq.1 hj with h3 | rfl
        · obtain ⟨t, ht, hp⟩ := h2 j h3 htr
          exact ⟨t, List.mem_append_left _ ht, hp⟩
        · exact ⟨_, List.mem_append_right _ (by simp), w2⟩
    · rename_i hc
      refine ⟨h1, fun j hj htr => ?_⟩
      rcases Nat.lt_succ_iff_lt_or_eq.1 hj with h3 | rfl
      · exact h2 j h3 htr
      · rcases Classical.em (∃ k, k < (cov1 rows j).length ∧ perm (atT (cov1 rows j) k) (rowAt rows j).1) with ⟨k, hk, hp⟩ | h4
        · have : atT (cov1 rows j) k = (cov1 rows j)[k] := by simp [atT, hk]
          rw [this] at hp
          exact ⟨_, List.getElem_mem hk, hp⟩
        · exact absurd ⟨htr, h4⟩ hc

theorem atT_mem {ts : List (List Int)} {k : Nat} (h : k < ts.length) : atT ts k ∈ ts := by
  have : atT ts k = ts[k] := by simp [atT, h]
  rw [this]; exact List.getElem_mem _
theorem mem_atT {ts : List (List Int)} {t : List Int} (h : t ∈ ts) : ∃ k, k < ts.length ∧ atT ts k = t := by
  obtain ⟨k, hk, e⟩ := List.getElem_of_mem h
  exact ⟨k, hk, by simp [atT, hk, e]⟩

theorem covT_iff {ts : List (List Int)} {rows : List Row} : covT ts rows ↔ ∀ i, i < rows.length → (rowAt rows i).2 = true → ∃ t ∈ ts, perm t (rowAt rows i).1 := by
  constructor
  · intro h i hi ht
    obtain ⟨k, hk, hp⟩ := h i hi ht
    exact ⟨_, atT_mem hk, hp⟩
  · intro h i hi ht
    obtain ⟨t, hm, hp⟩ := h i hi ht
    obtain ⟨k, hk, rfl⟩ := mem_atT hm
    exact ⟨k, hk, hp⟩

theorem covT_mono {ts ts' : List (List Int)} {rows : List Row} (h : ∀ t ∈ ts, t ∈ ts') (hc : covT ts rows) : covT ts' rows :=
  covT_iff.2 fun i hi ht => let ⟨t, hm, hp⟩ := covT_iff.1 hc i hi ht; ⟨t, h t hm, hp⟩

theorem erase_erase {ts : List (List Int)} {i j : Nat} (h : j < i) : ∀ t ∈ (ts.eraseIdx i).eraseIdx j, t ∈ ts.eraseIdx j := by
  intro t ht
  rw [List.mem_eraseIdx_iff_getElem?] at ht ⊢
  obtain ⟨k, hk, he⟩ := ht
  rw [List.getElem?_eraseIdx] at he
  split at he
  · exact ⟨k, hk, he⟩
  · exact ⟨k + 1, by omega, he⟩

theorem prune_spec {rows : List Row} : ∀ (f : Nat) (ts : List (List Int)) (i : Nat), f = ts.length - i → i ≤ ts.length → covT ts rows → (∀ j, j < i → ¬ covT (ts.eraseIdx j) rows) →
    (∀ t ∈ prune rows f ts i, t ∈ ts) ∧ covT (prune rows f ts i) rows ∧ (∀ j, j < (prune rows f ts i).length → ¬ covT ((prune rows f ts i).eraseIdx j) rows) ∧ (prune rows f ts i).length ≤ ts.length
  | 0, ts, i, hf, hi, hc, hn => ⟨fun t h => h, hc, fun j hj => hn j (by rw [prune] at hj; omega), Nat.le_refl _⟩
  | f + 1, ts, i, hf, hi, hc, hn => by
    rw [prune]
    split
    · rename_i h
      have hl : (ts.eraseIdx i).length = ts.length - 1 := by rw [List.length_eraseIdx, if_pos (by omega)]
      obtain ⟨a, b, c, d⟩ := prune_spec f (ts.eraseIdx i) i (by omega) (by omega) h (fun j hj hcov => hn j hj (covT_mono (erase_erase hj) hcov))
      exact ⟨fun t ht => List.mem_of_mem_eraseIdx (a t ht), b, c, by omega⟩
    · rename_i h
      exact prune_spec f ts (i + 1) (by omega) (by omega) hc (all_succ hn h)

/-- What Cover gives. -/
theorem cover_spec {n : Nat} {rows : List Row} (h : Rows n rows) : (∀ t ∈ cover rows, Term n rows t) ∧ covT (cover rows) rows ∧ (∀ j, j < (cover rows).length → ¬ covT ((cover rows).eraseIdx j) rows) ∧ (cover rows).length ≤ rows.length := by
  obtain ⟨h1, h2⟩ := cov1_terms h rows.length (Nat.le_refl _)
  obtain ⟨a, b, c, d⟩ := prune_spec (rows := rows) (cov1 rows rows.length).length (cov1 rows rows.length) 0 rfl (Nat.zero_le _) (covT_iff.2 fun i hi ht => h2 i hi ht) (fun j hj => by omega)
  exact ⟨fun t ht => h1 t (a t ht), b, c, Nat.le_trans d (cov1_length rows _)⟩

theorem Term.permR {n : Nat} {rows : List Row} {t : List Int} (h : Term n rows t) (hr : Rows n rows) {i : Nat} (hi : i < rows.length) : Go.Proofs.Ytcnblloiaambaaa.permR t (rowAt rows i).1 ↔ perm t (rowAt rows i).1 :=
  ⟨fun h => h.2, fun hp => ⟨by rw [h.fit.len, hr.len i hi], hp⟩⟩

theorem cover_small {n : Nat} {rows : List Row} (h : Rows n rows) (hf : few rows) (hn : n ≤ 6) : small (cover rows) := by
  obtain ⟨a, b, c, d⟩ := cover_spec h
  exact ⟨by have := hf.1; omega, fun i hi => by rw [(a _ (atT_mem hi)).fit.len]; exact hn⟩

theorem cover_sets {n : Nat} {rows : List Row} (h : Rows n rows) : sets n (cover rows) := by
  obtain ⟨a, b, c, d⟩ := cover_spec h
  exact fun i hi => ⟨by rw [(a _ (atT_mem hi)).fit.len], fun k hk => (a _ (atT_mem hi)).fit.rng k (by rw [(a _ (atT_mem hi)).fit.len] at hk; exact hk)⟩

theorem cover_covs {n : Nat} {rows : List Row} (h : Rows n rows) : covs (cover rows) rows := by
  obtain ⟨a, b, c, d⟩ := cover_spec h
  intro i hi
  constructor
  · rintro ⟨k, hk, hp⟩
    have ht := a _ (atT_mem hk)
    cases hr : (rowAt rows i).2 with
    | true => rfl
    | false => exact absurd ⟨i, hi, hr, hp.2⟩ ht.ok
  · intro ht
    obtain ⟨k, hk, hp⟩ := b i hi ht
    exact ⟨k, hk, ((a _ (atT_mem hk)).permR h hi).2 hp⟩

theorem cover_prime {n : Nat} {rows : List Row} (h : Rows n rows) : prime (cover rows) rows := by
  obtain ⟨a, b, c, d⟩ := cover_spec h
  intro i hi k hk e he
  have ht := a _ (atT_mem hi)
  rw [ht.fit.len] at hk
  rcases ht.full k hk e he with h1 | ⟨j, hj, h1, h2⟩
  · exact .inl h1
  · exact .inr ⟨j, hj, h1, by rw [(ht.fit.add (pow_bit3 he)).len, h.len j hj], h2⟩

theorem cover_needed {n : Nat} {rows : List Row} (h : Rows n rows) : needed (cover rows) rows := by
  obtain ⟨a, b, c, d⟩ := cover_spec h
  intro i hi
  have h1 := c i hi
  rw [covT_iff] at h1
  rcases Classical.em (∃ k, k < rows.length ∧ (rowAt rows k).2 = true ∧ ¬ ∃ t ∈ (cover rows).eraseIdx i, perm t (rowAt rows k).1) with ⟨k, hk, ht, hn⟩ | h2
  · refine ⟨k, hk, ⟨⟨ht, ?_⟩, fun j hj => ?_⟩⟩
    · obtain ⟨t, hm, hp⟩ := covT_iff.1 b k hk ht
      obtain ⟨j, hj, rfl⟩ := mem_atT hm
      rcases Classical.em (j = i) with rfl | hji
      · exact ((a _ (atT_mem hj)).permR h hk).2 hp
      · exact absurd ⟨_, List.mem_eraseIdx_iff_getElem?.2 ⟨j, hji, by simp [atT, hj]⟩, hp⟩ hn
    · rcases Classical.em (j = i) with rfl | hji
      · exact .inl rfl
      · exact .inr fun hp => hn ⟨_, List.mem_eraseIdx_iff_getElem?.2 ⟨j, hji, by simp [atT, hj]⟩, hp.2⟩
  · exact absurd (fun k hk ht => by
      rcases Classical.em (∃ t ∈ (cover rows).eraseIdx i, perm t (rowAt rows k).1) with h3 | h3
      · exact h3
      · exact absurd ⟨k, hk, ht, h3⟩ h2) h1
end Go.Proofs.Ytcnblloiaambaaa
