import Derived.Test.YtbdefjbekbbldaaB8
import Derived.Test.YtbdefjbekbbldaaNF
import Derived.Test.YtbdefjbekbbldaaV5
set_option linter.unusedVariables false
set_option linter.unusedSimpArgs false
set_option linter.unnecessarySimpa false
namespace Go.Proofs.Ytbdefjbekbbldaa
open Go.V Go.N
set_option maxHeartbeats 8000000
set_option maxRecDepth 20000

theorem ren_flat {σ Z : List Nat} {H : Hp} {b c n : Nat} {d : List RT} (hz : b ∈ Z) (hb : H[b]? = some (tB d)) (hn : n = d.length) : Ren σ Z H (.live b 0 n c 6) (eP d) := by
  subst hn
  refine .fixL hz hb (by rw [flatMap_len tc_len]; omega) (flatMap_len tc_len d) fun i u v hu hv => ?_
  rw [Nat.zero_add] at hu
  have e := Option.some.inj (hu.symm.trans hv)
  subst e
  exact .wk (encS_cells d u (List.mem_of_getElem? hu)) (.refl _)
theorem one_pure {t0 : Nat} {x : D} (hx : Pure x) : ∀ t d, Fr.get [(t0, x)] t = some d → Pure d := fun t d hd => by
  unfold Fr.get at hd
  cases hb : Nat.beq t0 t with
  | true => rw [hb] at hd; cases hd; exact hx
  | false => rw [hb] at hd; cases hd

/- sparse.Normal, of a row that may be written -/
theorem Normal_lv {p : List RT} {n : Nat} (hp : Pok p) (hn : n = p.length) : FnTo Try.prog 22 [.live 0 0 n n 6] [some (.cells (p.flatMap tc))] fun r H' => r = eP (can (nrm (vals p))) ∧ H' = [some (.cells (p.flatMap tc))] := by
  have hpn := hp.n
  subst hn
  have lo : ∀ b, b < 1 → ([0] : List Nat)[b]? = some b := fun b hb => by obtain rfl : b = 0 := by omega
                                                                         rfl
  have lo1 : ∀ x b, b < 1 → ([0, x] : List Nat)[b]? = some b := fun x b hb => by obtain rfl : b = 0 := by omega
                                                                                 rfl
  refine .of_W (fn := Try.f22) Try.call22 Try.func22 rfl (Nat.le_of_ble_eq_true rfl) ?_
  repeat (first | (with_reducible refine W.id_ ?_); (first | refine W.sreg ?_ | refine W.seq ?_) | (with_reducible refine RK.id_ ?_); (first | refine RK.cons_ ?_; (refine RK.k_ 0 rfl ?_; refine .p rfl rfl rfl (by exact trivial) ?_) | refine RK.nilT rfl ?_ rfl))
  refine .rangeS (p.length) (fun i s => [(3, accD 6 1 s), (9, .live 0 0 p.length p.length 6)]) (fun i s => [some (.cells (p.flatMap tc)), accB tc s]) (fun i s => s = (p.take i).filter (fun t => decide (V t.2))) ([]) rfl rfl rfl rfl rfl rfl rfl rfl rfl rfl (by omega) ?_ ?_ (fun _ _ => rfl) (fun i s hi Ci => ?_) (fun s Ci => ?_)
  · rfl
  · refine .ren [0, 1] [] (Nat.le_of_ble_eq_true rfl) (lo1 1) (by simp) ?_ (.cell (by simp) rfl (WkL.refl _) (encS_cells _) trivial)
    repeat (first | exact trivial | refine ⟨⟨_, rfl, .live rfl⟩, ?_⟩ | refine ⟨⟨_, rfl, .wk (by repeat (first | exact .int _ _ | exact .snil)) (by exact .refl _)⟩, ?_⟩)
  · have hsl : s.length ≤ i := by rw [Ci]; exact Nat.le_trans (List.length_filter_le _ _) (by rw [List.length_take]; omega)
    have hts : p.take (i + 1) = p.take i ++ [p.getD i zT] := by
      rw [List.take_succ_eq_append_getElem hi]; simp [hi]
    have hV := mn_V (p.getD i zT).2
    repeat (first | (with_reducible refine W.id_ ?_); (refine W.sreg ?_) | (with_reducible refine RK.id_ ?_); (first | refine RK.cons_ ?_; (first | refine RK.k_ 0 rfl ?_; refine .p rfl rfl rfl (by exact trivial) ?_ | refine RK.k_ 4 rfl ?_; (refine .ixl _ _ (s := 6) rfl rfl rfl rfl rfl rfl rfl (by rfl) (by omega) rfl ?_) | refine RK.k_ 5 rfl ?_; (refine .ldla rfl rfl rfl rfl rfl rfl rfl (by rfl) (by exact take_flat0 (z := zT) tc_len (by omega) (by omega)) ?_) | refine RK.k_ 6 rfl ?_; (first | refine .alloc _ rfl rfl rfl rfl rfl rfl rfl ?_ | refine .store rfl rfl rfl rfl rfl rfl rfl (by rfl) (by rfl) (by rfl) ?_)) | refine RK.nilT rfl ?_ rfl))
    refine .slA rfl rfl rfl rfl rfl rfl (by rfl) (Nat.le_of_ble_eq_true rfl) ?_
    refine .callB (Min_spec (xs := (p.getD i zT).2.l) (by show 0 < 4; omega) (by show 4 ≤ 1000000; omega)) rfl (noLoopB_spec (show noLoopB (accB tc s :: _) = true from by rw [noLoop_acc]; rfl)) rfl rfl rfl rfl (.cons (frz_mono rfl) .nil) ?_
    repeat ((with_reducible refine RK.id_ ?_); (first | refine RK.cons_ ?_; (refine RK.k_ 0 rfl ?_; refine .p rfl rfl rfl (by exact trivial) ?_) | refine RK.nilT rfl ?_ rfl))
    refine W.cond_dec rfl (fun h => ?_) (fun h => ?_)
    · repeat (first | (with_reducible refine W.id_ ?_); (refine W.reg ?_) | (with_reducible refine RK.id_ ?_); (refine RK.cons_ ?_; (first | refine RK.k_ 0 rfl ?_; refine .p rfl rfl rfl (by exact trivial) ?_ | refine RK.k_ 5 rfl ?_; (refine .ldla rfl rfl rfl rfl rfl rfl rfl (by rfl) rfl ?_))))
      refine .grow 3 1 6 64 s [p.getD i zT] (enc := tc) tc_len rfl rfl rfl rfl rfl rfl rfl rfl rfl rfl (.snap (by rfl)) (by rfl) (by simp) (by simp; omega) (by simp; omega) rfl ?_
      repeat ((with_reducible refine RK.id_ ?_); (refine RK.cons_ ?_; (refine RK.k_ 0 rfl ?_; refine .p rfl rfl rfl (by exact trivial) ?_)))
      refine .nil ?_ rfl
      refine ⟨s ++ [p.getD i zT], ?_, .ren [0, 3] [] (Nat.le_of_ble_eq_true rfl) (lo1 3) (by simp) ?_ (.cell (by simp) rfl (WkL.refl _) (encS_cells _) (.acc (by simp) rfl tc_pure trivial))⟩
      · dsimp only
        rw [hts, List.filter_append, ← Ci]
        have : V (p.getD i zT).2 := hV.1 h
        generalize p.getD i zT = t at this ⊢
        simp [this]
      · repeat (first | exact trivial | refine ⟨⟨_, rfl, .acc rfl⟩, ?_⟩ | refine ⟨⟨_, rfl, .live rfl⟩, ?_⟩ | refine ⟨⟨_, rfl, .wk (by repeat (exact .int _ _)) (by exact .refl _)⟩, ?_⟩)
    · refine .skip ⟨s, ?_, .ren [0, 1] [] (Nat.le_of_ble_eq_true rfl) (lo1 1) (by simp) ?_ (.cell (by simp) rfl (WkL.refl _) (encS_cells _) (.acc (by simp) rfl tc_pure trivial))⟩
      · dsimp only
        rw [hts, List.filter_append, ← Ci]
        have : ¬ V (p.getD i zT).2 := fun hv => h (hV.2 hv)
        generalize p.getD i zT = t at this ⊢
        simp [this]
      · repeat (first | exact trivial | refine ⟨⟨_, rfl, .acc rfl⟩, ?_⟩ | refine ⟨⟨_, rfl, .live rfl⟩, ?_⟩ | refine ⟨⟨_, rfl, .wk (by repeat (exact .int _ _)) (by exact .refl _)⟩, ?_⟩)
  rw [List.take_of_length_le (Nat.le_refl _)] at Ci
  have hsl : s.length ≤ p.length := by rw [Ci]; exact List.length_filter_le _ _
  show W _ _ _ _ _ _ _
  refine .seq (.joinS (fun (d : List RT) => d.Perm s ∧ Srt zT cmpT 0 d.length d) (fun d => [(3, eP d)]) (fun _ => [some (.cells (p.flatMap tc))]) ?_ ?_)
  · cases s with
    | nil =>
      repeat (first | (with_reducible refine W.id_ ?_); (refine W.reg ?_) | (with_reducible refine RK.id_ ?_); (refine RK.cons_ ?_; (refine RK.k_ 0 rfl ?_; refine .p rfl rfl rfl (by exact trivial) ?_)))
      refine .callF (SortStable_nil) rfl rfl rfl rfl ?_; rintro _ _ ⟨rfl, rfl⟩
      refine .nil ⟨[], ⟨.refl _, fun i j h1 h2 h3 => absurd h3 (Nat.not_lt_zero j)⟩, .ren [0] [] (Nat.le_of_ble_eq_true rfl) lo (by simp) ⟨⟨_, rfl, .wk .snil (.snil _)⟩, trivial⟩ (.cell (by simp) rfl (WkL.refl _) (encS_cells _) trivial)⟩ rfl
    | cons t r =>
      repeat (first | (with_reducible refine W.id_ ?_); (refine W.reg ?_) | (with_reducible refine RK.id_ ?_); (refine RK.cons_ ?_; (refine RK.k_ 0 rfl ?_; refine .p rfl rfl rfl (by exact trivial) ?_)))
      refine .callF (SortStable_spec (d := t :: r) Normal1_spec cmpT_ord rfl rfl (by omega)) rfl rfl rfl rfl ?_; rintro _ _ ⟨rfl, d, rfl, hpm, hst⟩
      refine .nil ⟨d, ⟨hpm, by rw [hpm.length_eq]; exact hst⟩, .ren [0] [1] (Nat.le_of_ble_eq_true rfl) lo (by simp) ⟨⟨_, rfl, ren_flat (by simp) rfl hpm.length_eq.symm⟩, trivial⟩ (.cell (by simp) rfl (WkL.refl _) (encS_cells _) trivial)⟩ rfl
  rintro d ⟨hpm, hst⟩
  have hdl : d.length ≤ 1000000 := by rw [hpm.length_eq]; omega
  have hmem : ∀ t ∈ d, t ∈ p ∧ V t.2 := fun t ht => by
    have := hpm.mem_iff.1 ht
    rw [Ci] at this
    obtain ⟨h1, h2⟩ := List.mem_filter.1 this
    exact ⟨h1, of_decide_eq_true h2⟩
  have hat : ∀ k, k < d.length → okZ (d.getD k zT).1 ∧ V (d.getD k zT).2 := fun k hk => by
    have : d.getD k zT ∈ d := by rw [show d.getD k zT = d[k] by simp [hk]]; exact List.getElem_mem _
    obtain ⟨h1, h2⟩ := hmem _ this
    exact ⟨hp.z _ h1, h2⟩
  have hl1 : l1 (vals d) < B32 ^ 1000000000 := by
    have h1 : l1 (vals d) = l1 (vals s) := l1_perm (hpm.map _)
    have h2 : l1 (vals s) ≤ l1 (vals p) := by rw [Ci]; exact l1_filter p
    exact Nat.lt_of_le_of_lt (by omega) hp.l
  have hvl : (vals d).length = d.length := by simp [vals]
  have hva : ∀ k (h : k < (vals d).length), (vals d)[k] = (zv (d.getD k zT).1, (d.getD k zT).2) := fun k h => by
    have : k < d.length := by omega
    simp [vals, this]
  have hsort : (vals d).Pairwise (fun a b => ¬ cmpM a.2 b.2 < 0) := List.pairwise_iff_getElem.2 fun a b ha hb hab => by
    rw [hva a ha, hva b hb]
    exact hst a b (Nat.zero_le _) hab (by omega)
  refine W.beside (Q := fun e F0 H0 => e = .ret ∧ F0.get 2 = some (accD 6 0 (can (nrm (vals p)))) ∧ H0 = [accB tc (can (nrm (vals p)))]) (one_pure (eP_pure d)) ?_ ?_
  · rintro e F0 H0 ⟨rfl, h1, rfl⟩
    exact ⟨[(2, eP (can (nrm (vals p))))], ⟨_, rfl, rfl, rfl⟩, ⟨⟨_, h1, frz_accS tc_len tc_pure rfl⟩, trivial⟩, by rw [noLoop_acc]; rfl⟩
  · repeat (first | (with_reducible refine W.id_ ?_); (first | refine W.sreg ?_ | refine W.seq ?_) | (with_reducible refine RK.id_ ?_); (first | refine RK.cons_ ?_; (refine RK.k_ 0 rfl ?_; refine .p rfl rfl rfl (by exact trivial) ?_) | refine RK.nilT rfl ?_ rfl))
    refine W.loopE (fun s => Grp (vals d) s.2 s.1 ∧ s.1 ≤ d.length ∧ s.2.length ≤ s.1) (fun s => Grp (vals d) s.2 d.length ∧ s.2.length ≤ d.length) (fun s => d.length - s.1) (fun (s : Nat × P) => [(7, I s.1), (6, accD 6 0 (can s.2)), (3, eP d)]) (fun s => [accB tc (can s.2)]) ((0, [])) rfl ?_ ?_ ?_ ?_
    · exact ⟨.start _, Nat.zero_le _, Nat.le_refl _⟩
    · refine .ren [0] [] (Nat.zero_le _) (fun b hb => absurd hb (Nat.not_lt_zero b)) (by simp) ?_ trivial
      repeat (first | exact trivial | refine ⟨⟨_, rfl, .wk (by repeat (first | exact .int _ _ | exact .snil | exact eP_pure _)) (by exact .refl _)⟩, ?_⟩)
    · rintro ⟨i, o⟩ ⟨h1, h2, h3⟩
      dsimp only at h1 h2 h3 ⊢
      repeat (first | (with_reducible refine W.id_ ?_); (first | refine W.sreg ?_ | refine W.seq ?_) | (with_reducible refine RK.id_ ?_); (first | refine RK.cons_ ?_; (refine RK.k_ 0 rfl ?_; refine .p rfl rfl rfl (by exact trivial) ?_) | refine RK.nilT rfl ?_ rfl))
      refine W.cond_dec rfl (fun h4 => ?_) (fun h4 => ?_)
      · have h4' : i < d.length := by omega
        obtain ⟨e, he⟩ : ∃ e, e = (d.getD i zT).2 := ⟨_, rfl⟩
        have hve := (hat i h4').2
        rw [← he] at hve
        repeat (first | (with_reducible refine W.id_ ?_); (first | refine W.sreg ?_ | refine W.seq ?_ | refine W.blockS ?_ | refine W.skipT rfl ?_) | (with_reducible refine RK.id_ ?_); (first | refine RK.cons_ ?_; (first | refine RK.k_ 0 rfl ?_; refine .p rfl rfl rfl (by exact trivial) ?_ | refine RK.k_ 4 rfl ?_; (refine .ix _ (s := 6) rfl rfl rfl rfl rfl rfl rfl (by rfl) (by omega) ?_) | refine RK.k_ 5 rfl ?_; (refine .lda _ rfl rfl rfl rfl rfl rfl rfl (by exact take_part (z := zT) tc_len (by omega) (Nat.le_of_ble_eq_true rfl) (Nat.le_of_ble_eq_true rfl) rfl rfl) ?_) | refine RK.k_ 6 rfl ?_; (first | refine .alloc _ rfl rfl rfl rfl rfl rfl rfl ?_ | refine .store rfl rfl rfl rfl rfl rfl rfl (by rfl) (by rfl) (by rfl) ?_)) | refine RK.nilT rfl ?_ rfl))
        refine W.loopE (fun s => i ≤ s.1 ∧ s.1 ≤ d.length ∧ (∀ t ∈ ((vals d).take s.1).drop i, t.2 = e) ∧ zv s.2 = ((((vals d).take s.1).drop i).map (·.1)).sum ∧ okZ s.2 ∧ (s.1 = i ∨ s.2 = zcan (zv s.2))) (fun s => i < s.1 ∧ s.1 ≤ d.length ∧ (∀ t ∈ ((vals d).take s.1).drop i, t.2 = e) ∧ zv s.2 = ((((vals d).take s.1).drop i).map (·.1)).sum ∧ okZ s.2 ∧ s.2 = zcan (zv s.2) ∧ (∀ h : s.1 < (vals d).length, (vals d)[s.1].2 ≠ e)) (fun s => d.length - s.1) (fun (s : Nat × Z) => [(7, I s.1), (8, .ptr 1 0), (6, accD 6 0 (can o)), (3, eP d)]) (fun s => [accB tc (can o), some (.cells (tc (s.2, e)))]) ((i, (false, []))) rfl ?_ ?_ ?_ ?_
        · refine ⟨Nat.le_refl _, h2, ?_, ?_, ⟨okN.nil, Nat.zero_le _⟩, .inl rfl⟩
          · intro t ht
            rw [List.drop_eq_nil_of_le (by rw [List.length_take]; omega)] at ht
            cases ht
          · rw [List.drop_eq_nil_of_le (by rw [List.length_take]; omega)]; rfl
        · subst he
          refine .ren [0, 1] [] (Nat.zero_le _) (fun b hb => absurd hb (Nat.not_lt_zero b)) (by simp) ?_ (.acc (by simp) rfl tc_pure (.cell (by simp) rfl (.cons (.refl _) (.cons (.snil _) (.refl _))) (PureL.mem ⟨.bool _, .snil, .int _ _, .int _ _, .int _ _, .int _ _, trivial⟩) trivial))
          repeat (first | exact trivial | refine ⟨⟨_, rfl, .acc rfl⟩, ?_⟩ | refine ⟨⟨_, rfl, .ptr rfl⟩, ?_⟩ | refine ⟨⟨_, rfl, .wk (by repeat (first | exact .int _ _ | exact eP_pure _)) (by exact .refl _)⟩, ?_⟩)
        · rintro ⟨j, z⟩ ⟨k1, k2, k3, k4, k5, k6⟩
          dsimp only at k1 k2 k3 k4 k5 k6 ⊢
          have hds : ∀ h : j < (vals d).length, j = i → (vals d)[j].2 = e := fun h hji => by rw [hva j h, hji, he]
          repeat (first | (with_reducible refine W.id_ ?_); (first | refine W.sdraw mixed (by kernel_rfl) (by kernel_rfl) ?_ | refine W.seq ?_) | (with_reducible refine RK.id_ ?_); (refine RK.cons_ ?_; (refine RK.k_ 0 rfl ?_; refine .p rfl rfl rfl (by exact trivial) ?_)))
          refine .dsplit (fun h5 => ?_) (fun h5 => ?_)
          · have h5' : j < d.length := by omega
            have hva' := hva j (by omega)
            repeat ((with_reducible refine RK.id_ ?_); (first | refine RK.cons_ ?_; (first | refine RK.k_ 0 rfl ?_; refine .p rfl rfl rfl (by exact trivial) ?_ | refine RK.k_ 4 rfl ?_; (refine .ix _ (s := 6) rfl rfl rfl rfl rfl rfl rfl (by rfl) (by omega) ?_) | refine RK.k_ 5 rfl ?_; (first | refine .ldla rfl rfl rfl rfl rfl rfl rfl (by rfl) rfl ?_ | refine .lda _ rfl rfl rfl rfl rfl rfl rfl (by exact take_part (z := zT) tc_len (by omega) (Nat.le_of_ble_eq_true rfl) (Nat.le_of_ble_eq_true rfl) rfl rfl) ?_)) | refine RK.nilT rfl ?_ rfl))
            refine W.cond rfl (fun h6 => ?_) (fun h6 => ?_)
            · have h7 : (d.getD j zT).2 = e := eqM_true h6
              have hz := (hat j h5').1
              repeat (first | (with_reducible refine W.id_ ?_); (first | refine W.sdraw mixed (by kernel_rfl) (by kernel_rfl) ?_ | refine W.blockS ?_ | refine W.skipT rfl ?_) | (with_reducible refine RK.id_ ?_); (refine RK.cons_ ?_; (first | refine RK.k_ 0 rfl ?_; refine .p rfl rfl rfl (by exact trivial) ?_ | refine RK.k_ 4 rfl ?_; (refine .ix _ (s := 6) rfl rfl rfl rfl rfl rfl rfl (by rfl) (by omega) ?_) | refine RK.k_ 5 rfl ?_; (first | refine .ldla rfl rfl rfl rfl rfl rfl rfl (by rfl) rfl ?_ | refine .lda _ rfl rfl rfl rfl rfl rfl rfl (by exact take_part (z := zT) tc_len (by omega) (Nat.le_of_ble_eq_true rfl) (Nat.le_of_ble_eq_true rfl) rfl rfl) ?_))))
              refine .call (Zadd_spec k5 hz) rfl rfl rfl rfl ?_
              repeat (first | (with_reducible refine W.id_ ?_); (refine W.reg ?_) | (with_reducible refine RK.id_ ?_); (first | refine RK.cons_ ?_; (first | refine RK.k_ 0 rfl ?_; refine .p rfl rfl rfl (by exact trivial) ?_ | refine RK.k_ 1 rfl ?_; (refine .pa rfl rfl rfl rfl rfl rfl (by omega) (by omega) ?_) | refine RK.k_ 6 rfl ?_; (refine .store rfl rfl rfl rfl rfl rfl rfl (by rfl) (by rfl) (by rfl) ?_)) | refine RK.nilT rfl ?_ rfl))
              refine .nil ?_ rfl
              have hk3 : ∀ t ∈ ((vals d).take (j + 1)).drop i, t.2 = e := by
                intro t ht
                rw [List.take_succ_eq_append_getElem (by omega), List.drop_append_of_le_length (by rw [List.length_take]; omega)] at ht
                rcases List.mem_append.1 ht with ht | ht
                · exact k3 t ht
                · simp only [List.mem_singleton] at ht
                  rw [ht, hva', h7]
              have hk4 : zv z + zv (d.getD j zT).1 = (((vals d).take (j + 1)).drop i |>.map (·.1)).sum := by
                rw [part_succ k1 (by omega), k4, hva']
              have hsm : zsm (zv z + zv (d.getD j zT).1) := by
                unfold zsm
                rw [hk4]
                exact Nat.lt_of_le_of_lt (Nat.le_trans (sum_l1 _) (Nat.le_trans (l1_drop _ _) (l1_take _ _))) hl1
              refine ⟨(j + 1, zcan (zv z + zv (d.getD j zT).1)), by show d.length - (j + 1) < d.length - j; omega, ⟨by show i ≤ j + 1; omega, h5', hk3, by rw [zv_can]; exact hk4, .can hsm, .inr (by rw [zv_can])⟩, .heap ?_ rfl⟩
              repeat (first | exact trivial | refine ⟨⟨_, rfl, .refl _⟩, ?_⟩)
            · have h7 : (d.getD j zT).2 ≠ e := eqM_false h6
              have hne : j ≠ i := fun hji => h7 (by rw [hji, he])
              refine W.exit ⟨(j, z), ⟨by omega, k2, k3, k4, k5, k6.resolve_left hne, fun h => by rw [hva j h]; exact h7⟩, .heap ?_ rfl⟩
              repeat (first | exact trivial | refine ⟨⟨_, rfl, .refl _⟩, ?_⟩)
          · repeat (first | (with_reducible refine W.id_ ?_); (refine W.condF rfl ?_) | (with_reducible refine RK.id_ ?_); (first | refine RK.cons_ ?_; (first | refine .skip rfl rfl ?_ | refine RK.k_ 0 rfl ?_; refine .p rfl rfl rfl (by exact trivial) ?_) | refine RK.nilT rfl ?_ rfl))
            refine W.exit ⟨(j, z), ⟨by have : ¬ ((j : Int) < d.length) := h5; omega, k2, k3, k4, k5, by
              rcases k6 with k6 | k6
              · have : ¬ ((j : Int) < d.length) := h5; omega
              · exact k6, fun h => by have : ¬ ((j : Int) < d.length) := h5; omega⟩, .heap ?_ rfl⟩
            repeat (first | exact trivial | refine ⟨⟨_, rfl, .refl _⟩, ?_⟩)
        · rintro ⟨j, z⟩ ⟨k1, k2, k3, k4, k5, k6, k7⟩
          dsimp only at k1 k2 k3 k4 k5 k6 k7 ⊢
          have hstep := h1.step (e := e) (c := zv z) (by omega) (by omega) k3 k4 hve hsort k1 k7
          repeat (first | (with_reducible refine W.id_ ?_); (refine W.sreg ?_) | (with_reducible refine RK.id_ ?_); (refine RK.cons_ ?_; (first | refine RK.k_ 0 rfl ?_; refine .p rfl rfl rfl (by exact trivial) ?_ | refine RK.k_ 5 rfl ?_; (refine .ldla rfl rfl rfl rfl rfl rfl rfl (by rfl) rfl ?_))))
          refine .call (Sign_spec k5) rfl rfl rfl rfl ?_
          repeat ((with_reducible refine RK.id_ ?_); (first | refine RK.cons_ ?_; (refine RK.k_ 0 rfl ?_; refine .p rfl rfl rfl (by exact trivial) ?_) | refine RK.nilT rfl ?_ rfl))
          refine W.cond_ndec rfl (fun h5 => ?_) (fun h5 => ?_)
          · have hz0 : zv z ≠ 0 := fun h => h5 (by rw [h]; rfl)
            rw [if_neg hz0] at hstep
            have hcl : (can o).length ≤ i := by simpa [can] using h3
            repeat (first | (with_reducible refine W.id_ ?_); (refine W.reg ?_) | (with_reducible refine RK.id_ ?_); (refine RK.cons_ ?_; (first | refine RK.k_ 0 rfl ?_; refine .p rfl rfl rfl (by exact trivial) ?_ | refine RK.k_ 5 rfl ?_; (refine .ldla rfl rfl rfl rfl rfl rfl rfl (by rfl) rfl ?_))))
            refine .grow 2 0 6 64 (can o) [(z, e)] (enc := tc) tc_len rfl rfl rfl rfl rfl rfl rfl rfl rfl rfl (.snap (by rfl)) (by rfl) (by simp) (by simp; omega) (by simp; omega) rfl ?_
            repeat ((with_reducible refine RK.id_ ?_); (refine RK.cons_ ?_; (refine RK.k_ 0 rfl ?_; refine .p rfl rfl rfl (by exact trivial) ?_)))
            refine .nil ?_ rfl
            have hce : can o ++ [(z, e)] = can (o ++ [(zv z, e)]) := by
              unfold can; rw [List.map_append]; simp [← k6]
            rw [hce]
            refine ⟨(j, o ++ [(zv z, e)]), by show d.length - j < d.length - i; omega, ⟨hstep, k2, by show (o ++ [(zv z, e)]).length ≤ j; rw [List.length_append]; simp; omega⟩, .ren [2] [] (Nat.zero_le _) (fun b hb => absurd hb (Nat.not_lt_zero b)) (by simp) ?_ (.acc (by simp) rfl tc_pure trivial)⟩
            repeat (first | exact trivial | refine ⟨⟨_, rfl, .acc rfl⟩, ?_⟩ | refine ⟨⟨_, rfl, .wk (by repeat (first | exact .int _ _ | exact eP_pure _)) (by exact .refl _)⟩, ?_⟩)
          · have hz0 : zv z = 0 := by
              have h5 : sgI (zv z) = 0 := h5
              unfold sgI at h5
              split at h5
              · assumption
              · split at h5 <;> omega
            rw [if_pos hz0] at hstep
            refine .skip ⟨(j, o), by show d.length - j < d.length - i; omega, ⟨hstep, k2, by show o.length ≤ j; omega⟩, .ren [0] [] (Nat.zero_le _) (fun b hb => absurd hb (Nat.not_lt_zero b)) (by simp) ?_ (.acc (by simp) rfl tc_pure trivial)⟩
            repeat (first | exact trivial | refine ⟨⟨_, rfl, .acc rfl⟩, ?_⟩ | refine ⟨⟨_, rfl, .wk (by repeat (first | exact .int _ _ | exact eP_pure _)) (by exact .refl _)⟩, ?_⟩)
      · have : i = d.length := by omega
        subst this
        refine W.exit ⟨(d.length, o), ⟨h1, h3⟩, .heap ?_ rfl⟩
        repeat (first | exact trivial | refine ⟨⟨_, rfl, .refl _⟩, ?_⟩)
    · rintro ⟨i, o⟩ ⟨h1, h3⟩
      dsimp only at h1 h3 ⊢
      have ho : o = nrm (vals p) := Grp.fin (by rw [hvl]; exact h1) fun m hm => by
        rw [← cf_filter p hm, ← Ci]
        exact cf_perm (hpm.map _) m
      repeat (first | (with_reducible refine W.id_ ?_); (refine W.sreg ?_) | (with_reducible refine RK.id_ ?_); (refine RK.cons_ ?_; (refine RK.k_ 0 rfl ?_; refine .p rfl rfl rfl (by exact trivial) ?_)))
      refine .callF (Clip_live rfl (by simp [can]; omega)) rfl rfl rfl rfl ?_; rintro _ _ ⟨rfl, rfl⟩
      repeat ((with_reducible refine RK.id_ ?_); (first | refine RK.cons_ ?_; (refine RK.k_ 0 rfl ?_; refine .p rfl rfl rfl (by exact trivial) ?_) | refine RK.nilT rfl ?_ rfl))
      refine .ret ⟨rfl, ?_, ?_⟩
      · rw [ho]; rfl
      · rw [ho]

end Go.Proofs.Ytbdefjbekbbldaa

namespace Go.Proofs.Ytbdefjbekbbldaa
open Go.V Go.N
set_option maxHeartbeats 8000000
set_option maxRecDepth 20000

theorem clRow {n : Nat} (p : List RT) : ClL n (p.flatMap tc) := clp (encS_cells p)
/- sparse.Terms, of a row that may be written -/
theorem Terms_lv0 {p : List RT} {q : P} {n : Nat} (hp : Pok p) (eq : q = nrm (vals p)) (hn : n = p.length) : FnTo Try.prog 27 [.live 0 0 n n 6] [some (.cells (p.flatMap tc))] fun d H' => d = itP q ∧ H' = [some (.cells (p.flatMap tc))] := by
  have hN := Normal_lv hp hn
  rw [← eq] at hN
  refine .of_W (fn := Try.f27) Try.call27 Try.func27 rfl (Nat.le_of_ble_eq_true rfl) ?_
  repeat (first | (with_reducible refine W.id_ ?_); (refine W.sreg ?_) | (with_reducible refine RK.id_ ?_); (first | refine RK.cons_ ?_; (refine RK.k_ 0 rfl ?_; refine .p rfl rfl rfl (by exact trivial) ?_) | refine RK.nilT rfl ?_ rfl))
  refine .callF (hN) rfl rfl rfl rfl ?_; rintro _ _ ⟨rfl, rfl⟩
  repeat (first | (with_reducible refine W.id_ ?_); (refine W.sreg ?_) | (with_reducible refine RK.id_ ?_); (first | refine RK.cons_ ?_; (first | refine RK.k_ 0 rfl ?_; refine .p rfl rfl rfl (by exact trivial) ?_ | refine RK.k_ 6 rfl ?_; (first | refine .alloc _ rfl rfl rfl rfl rfl rfl rfl ?_ | refine .store rfl rfl rfl rfl rfl rfl rfl (by rfl) (by rfl) (by rfl) ?_)) | refine RK.nilT rfl ?_ rfl))
  refine W.to (F' := [(2, itP q)]) (H' := [some (.cells (p.flatMap tc))]) (.fixLast (Y := [some (.cells (p.flatMap tc))]) (Nat.le_refl _) ⟨clRow p, trivial⟩ ⟨⟨_, rfl, ?_⟩, trivial⟩) ?_
  · refine .fn rfl fun i x y hx hy => ?_
    cases i with
    | succ i => cases hx
    | zero =>
      cases hx; cases hy
      refine .fixP (by simp) rfl (Nat.le_refl _) fun j u v hu hv => ?_
      rw [hu] at hv; cases hv
      obtain rfl : u = eP (can q) := by
        cases j with
        | zero => cases hu; rfl
        | succ j => cases hu
      exact .wk (eP_pure _) (.refl _)
  exact .ret ⟨_, rfl, rfl, rfl⟩
theorem Terms_lv {p : List RT} {q : P} {n b : Nat} {H : Hp} (hp : Pok p) (eq : q = nrm (vals p)) (hn : n = p.length) (hb : H[b]? = some (some (.cells (p.flatMap tc)))) : FnTo Try.prog 27 [.live b 0 n n 6] H fun d H' => d = itP q ∧ H' = H :=
  .sub (args := [.live 0 0 n n 6]) hb (encS_cells p) (itP_pure q) ⟨.live rfl, trivial⟩ (Terms_lv0 hp eq hn)

theorem gcd_okZ {q : P} (hq : N.l1 q < B32 ^ 1000000000) : okZ (zcan (gcdP q : Int)) := .can (by
  show ((gcdP q : Nat) : Int).natAbs < _
  rw [Int.natAbs_natCast]
  exact Nat.lt_of_le_of_lt (gcdP_l1 q) hq)
theorem zero_okZ : zsm 0 := lt_pw (K := 1000000000) (n := (0 : Int).natAbs) (k := 0) (by decide) (by omega)
/-- One more coefficient. -/
theorem Gcd_next {q : P} (hq : Pok (can q)) {i : Nat} (hi : i < q.length) : PureFn Try.prog 46 [eZ (zcan (gcdP (q.take i) : Int)), eZ (zcan (q.getD i tz).1)] (eZ (zcan (gcdP (q.take (i + 1)) : Int))) := by
  have hl : N.l1 q < B32 ^ 1000000000 := by have := hq.l; rwa [vals_can] at this
  have h1 := gcd_okZ (q := q.take i) (Nat.lt_of_le_of_lt (l1_take _ _) hl)
  have h2 : okZ (zcan (q.getD i tz).1) := .can (Nat.lt_of_le_of_lt (l1_mem (getD_mem hi)) hl)
  have h := Gcd_spec h1 h2
  rw [zv_can, zv_can, show Int.gcd (gcdP (q.take i) : Int) (q.getD i tz).1 = gcdP (q.take (i + 1)) by rw [gcdP_take (z := tz) hi]; rfl] at h
  exact h

/- sparse.Content -/
theorem Content_spec {p : List RT} {q : P} (hp : Pok p) (eq : q = nrm (vals p)) : PureFn Try.prog 44 [eP p] (eZ (zcan (gcdP q : Int))) := by
  have hq : Pok (can q) := by rw [eq]; exact can_pok' (Nat.lt_of_le_of_lt (l1_nrm _) hp.l) (Nat.le_trans (nrm_len _) (by rw [vals_len]; exact hp.n))
  refine .of_W (fn := Try.f44) (by repeat (first | exact trivial | refine ⟨(by repeat (exact eP_pure _)), ?_⟩)) Try.call44 Try.func44 rfl rfl ?_
  repeat (first | (with_reducible refine W.id_ ?_); (refine W.sreg ?_) | (with_reducible refine RK.id_ ?_); (first | refine RK.cons_ ?_; (refine RK.k_ 6 rfl ?_; (refine .alloc _ rfl rfl rfl rfl rfl rfl rfl ?_)) | refine RK.nilT rfl ?_ rfl))
  refine .call (Of_spec (n := 0) (by decide) (by decide)) rfl rfl rfl rfl ?_
  repeat (first | (with_reducible refine W.id_ ?_); (first | refine W.sreg ?_ | refine W.seq ?_) | (with_reducible refine RK.id_ ?_); (first | refine RK.cons_ ?_; (first | refine RK.k_ 0 rfl ?_; refine .p rfl rfl rfl (by exact trivial) ?_ | refine RK.k_ 6 rfl ?_; (first | refine .alloc _ rfl rfl rfl rfl rfl rfl rfl ?_ | refine .store rfl rfl rfl rfl rfl rfl rfl (by rfl) (by rfl) (by rfl) ?_)) | refine RK.nilT rfl ?_ rfl))
  refine .call (Terms_spec hp eq) rfl rfl rfl rfl ?_
  repeat ((with_reducible refine RK.id_ ?_); (refine RK.nilT rfl ?_ rfl))
  refine W.block ?_
  refine W.to (F' := [(3, .ptr 1 0), (2, .ptr 0 0), (8, itP q)]) (H' := [some (.cells [.bool false, .snil]), some (.cells (zc (zcan (gcdP (q.take 0) : Int))))]) (.heap ?_ rfl) ?_
  · repeat (first | exact trivial | refine ⟨⟨_, rfl, .refl _⟩, ?_⟩)
  refine W.iter (Terms_iter hq) (fun i => [some (.cells [.bool false, .snil]), some (.cells (zc (zcan (gcdP (q.take i) : Int))))]) (fun _ => true) .ret 2 (by simp) rfl (fun _ => rfl) (fun i => ⟨⟨.pure (.bool _), .pure .snil, trivial⟩, clz _ _, trivial⟩) ⟨.ptr (by decide), .ptr (by decide), .pure (itP_pure _), trivial⟩ (by simp) (fun _ => rfl) (by decide) rfl rfl (fun r i hi _ => ?_) (fun _ => ?_) (fun i _ h => absurd h (by simp))
  · have hG := Gcd_next hq hi
    repeat (first | (with_reducible refine W.id_ ?_); (refine W.reg ?_) | (with_reducible refine RK.id_ ?_); (refine RK.cons_ ?_; (refine RK.k_ 6 rfl ?_; (first | refine .alloc _ rfl rfl rfl rfl rfl rfl rfl ?_ | refine .store rfl rfl rfl rfl rfl rfl rfl (by rfl) (by rfl) (by rfl) ?_))))
    refine .nil ⟨rfl, rfl, ?_⟩ rfl
    repeat (first | (with_reducible refine W.id_ ?_); (first | refine W.reg ?_ | refine W.blockR ?_) | (with_reducible refine RK.id_ ?_); (refine RK.cons_ ?_; (refine RK.k_ 5 rfl ?_; (refine .ldla rfl rfl rfl rfl rfl rfl rfl (by rfl) rfl ?_))))
    refine .call (hG) rfl rfl rfl rfl ?_
    repeat ((with_reducible refine RK.id_ ?_); (refine RK.cons_ ?_; (refine RK.k_ 6 rfl ?_; (refine .store rfl rfl rfl rfl rfl rfl rfl (by rfl) (by rfl) (by rfl) ?_))))
    refine .nil ?_ rfl
    exact ⟨.dropTail (Y := [some (.cells [.bool false, .snil]), some (.cells (zc (zcan (gcdP (q.take (i + 1)) : Int)))), some (.loop (busy r) [(3, .ptr 1 0), (2, .ptr 0 0), (8, itP q)])]) (T := [some (.cells (zc (zcan (q.getD i tz).1)))]) (Nat.le_refl 3) ⟨⟨.pure (.bool _), .pure .snil, trivial⟩, clz _ _, ⟨⟨.ptr (by simp), .ptr (by simp), .pure (itP_pure _), trivial⟩, by simp⟩, trivial⟩, rfl⟩
  · rw [List.take_of_length_le (Nat.le_refl _)]
    show W _ _ _ _ _ _ _
    repeat (first | (with_reducible refine W.id_ ?_); (refine W.sreg ?_) | (with_reducible refine RK.id_ ?_); (first | refine RK.cons_ ?_; (first | refine RK.k_ 5 rfl ?_; (refine .ldla rfl rfl rfl rfl rfl rfl rfl (by rfl) rfl ?_) | refine RK.k_ 6 rfl ?_; (refine .store rfl rfl rfl rfl rfl rfl rfl (by rfl) (by rfl) (by rfl) ?_)) | refine RK.nilT rfl ?_ rfl))
    refine W.ret ⟨_, rfl, .eq (by repeat (exact eZ_pure _)) ?_, rfl⟩
    rfl

/- .. of a row that may be written -/
theorem Content_lv {p : List RT} {q : P} {n : Nat} (hp : Pok p) (eq : q = nrm (vals p)) (hn : n = p.length) : FnTo Try.prog 44 [.live 0 0 n n 6] [some (.cells (p.flatMap tc))] fun d H' => d = eZ (zcan (gcdP q : Int)) ∧ H' = [some (.cells (p.flatMap tc))] := by
  have hq : Pok (can q) := by rw [eq]; exact can_pok' (Nat.lt_of_le_of_lt (l1_nrm _) hp.l) (Nat.le_trans (nrm_len _) (by rw [vals_len]; exact hp.n))
  refine .drop (eZ_pure _) ⟨fun d hd => (encS_cells p d hd).bel, trivial⟩ ?_
  refine .of_W (fn := Try.f44) Try.call44 Try.func44 rfl (Nat.le_of_ble_eq_true rfl) ?_
  repeat (first | (with_reducible refine W.id_ ?_); (refine W.sreg ?_) | (with_reducible refine RK.id_ ?_); (first | refine RK.cons_ ?_; (refine RK.k_ 6 rfl ?_; (refine .alloc _ rfl rfl rfl rfl rfl rfl rfl ?_)) | refine RK.nilT rfl ?_ rfl))
  refine .call (Of_spec (n := 0) (by decide) (by decide)) rfl rfl rfl rfl ?_
  repeat (first | (with_reducible refine W.id_ ?_); (first | refine W.sreg ?_ | refine W.seq ?_) | (with_reducible refine RK.id_ ?_); (first | refine RK.cons_ ?_; (first | refine RK.k_ 0 rfl ?_; refine .p rfl rfl rfl (by exact trivial) ?_ | refine RK.k_ 6 rfl ?_; (first | refine .alloc _ rfl rfl rfl rfl rfl rfl rfl ?_ | refine .store rfl rfl rfl rfl rfl rfl rfl (by rfl) (by rfl) (by rfl) ?_)) | refine RK.nilT rfl ?_ rfl))
  refine .callF (Terms_lv (b := 0) hp eq hn rfl) rfl rfl rfl rfl ?_; rintro _ _ ⟨rfl, rfl⟩
  repeat ((with_reducible refine RK.id_ ?_); (refine RK.nilT rfl ?_ rfl))
  refine W.block ?_
  refine W.to (F' := [(3, .ptr 2 0), (2, .ptr 1 0), (8, itP q)]) (H' := [some (.cells (p.flatMap tc)), some (.cells [.bool false, .snil]), some (.cells (zc (zcan (gcdP (q.take 0) : Int))))]) (.heap ?_ rfl) ?_
  · repeat (first | exact trivial | refine ⟨⟨_, rfl, .refl _⟩, ?_⟩)
  refine W.iter (Terms_iter hq) (fun i => [some (.cells (p.flatMap tc)), some (.cells [.bool false, .snil]), some (.cells (zc (zcan (gcdP (q.take i) : Int))))]) (fun _ => true) .ret 3 (by simp) rfl (fun _ => rfl) (fun i => ⟨clRow p, ⟨.pure (.bool _), .pure .snil, trivial⟩, clz _ _, trivial⟩) ⟨.ptr (by decide), .ptr (by decide), .pure (itP_pure _), trivial⟩ (by simp) (fun _ => rfl) (by decide) rfl rfl (fun r i hi _ => ?_) (fun _ => ?_) (fun i _ h => absurd h (by simp))
  · have hG := Gcd_next hq hi
    repeat (first | (with_reducible refine W.id_ ?_); (refine W.reg ?_) | (with_reducible refine RK.id_ ?_); (refine RK.cons_ ?_; (refine RK.k_ 6 rfl ?_; (first | refine .alloc _ rfl rfl rfl rfl rfl rfl rfl ?_ | refine .store rfl rfl rfl rfl rfl rfl rfl (by rfl) (by rfl) (by rfl) ?_))))
    refine .nil ⟨rfl, rfl, ?_⟩ rfl
    repeat (first | (with_reducible refine W.id_ ?_); (first | refine W.reg ?_ | refine W.blockR ?_) | (with_reducible refine RK.id_ ?_); (refine RK.cons_ ?_; (refine RK.k_ 5 rfl ?_; (refine .ldla rfl rfl rfl rfl rfl rfl rfl (by rfl) rfl ?_))))
    refine .call (hG) rfl rfl rfl rfl ?_
    repeat ((with_reducible refine RK.id_ ?_); (refine RK.cons_ ?_; (refine RK.k_ 6 rfl ?_; (refine .store rfl rfl rfl rfl rfl rfl rfl (by rfl) (by rfl) (by rfl) ?_))))
    refine .nil ?_ rfl
    exact ⟨.dropTail (Y := [some (.cells (p.flatMap tc)), some (.cells [.bool false, .snil]), some (.cells (zc (zcan (gcdP (q.take (i + 1)) : Int)))), some (.loop (busy r) [(3, .ptr 2 0), (2, .ptr 1 0), (8, itP q)])]) (T := [some (.cells (zc (zcan (q.getD i tz).1)))]) (Nat.le_refl 4) ⟨clRow p, ⟨.pure (.bool _), .pure .snil, trivial⟩, clz _ _, ⟨⟨.ptr (by simp), .ptr (by simp), .pure (itP_pure _), trivial⟩, by simp⟩, trivial⟩, rfl⟩
  · rw [List.take_of_length_le (Nat.le_refl _)]
    show W _ _ _ _ _ _ _
    repeat (first | (with_reducible refine W.id_ ?_); (refine W.sreg ?_) | (with_reducible refine RK.id_ ?_); (first | refine RK.cons_ ?_; (first | refine RK.k_ 5 rfl ?_; (refine .ldla rfl rfl rfl rfl rfl rfl rfl (by rfl) rfl ?_) | refine RK.k_ 6 rfl ?_; (refine .store rfl rfl rfl rfl rfl rfl rfl (by rfl) (by rfl) (by rfl) ?_)) | refine RK.nilT rfl ?_ rfl))
    exact .ret ⟨_, rfl, rfl, _, rfl⟩

/- sparse.IsZero -/
theorem PIsZero_spec {p : List RT} {q : P} (hp : Pok p) (eq : q = nrm (vals p)) : PureFn Try.prog 47 [eP p] (.bool (decide (q = []))) := by
  have hN := Normal_spec hp
  rw [← eq] at hN
  have hl : (can q).length = q.length := can_len q
  refine .of_W (fn := Try.f47) (by repeat (first | exact trivial | refine ⟨(by repeat (exact eP_pure _)), ?_⟩)) Try.call47 Try.func47 rfl rfl ?_
  repeat (first | (with_reducible refine W.id_ ?_); (refine W.sreg ?_) | (with_reducible refine RK.id_ ?_); (first | refine RK.cons_ ?_; (refine RK.k_ 0 rfl ?_; refine .p rfl rfl rfl (by exact trivial) ?_) | refine RK.nilT rfl ?_ rfl))
  refine .call (hN) rfl rfl rfl rfl ?_
  repeat ((with_reducible refine RK.id_ ?_); (first | refine RK.cons_ ?_; (refine RK.k_ 0 rfl ?_; refine .p rfl rfl rfl (by exact trivial) ?_) | refine RK.nilT rfl ?_ rfl))
  refine W.ret ⟨_, rfl, .eq (by repeat (exact .bool _)) ?_, rfl⟩
  refine congrArg D.bool (decide_eq_decide.2 ?_)
  constructor
  · intro h; exact List.eq_nil_of_length_eq_zero (by omega)
  · rintro rfl; rfl
end Go.Proofs.Ytbdefjbekbbldaa

namespace Go.Proofs.Ytbdefjbekbbldaa
open Go.V Go.N
set_option maxHeartbeats 8000000
set_option maxRecDepth 20000

def sgP : P → Int
  | [] => 0
  | t :: _ => sgI t.1
/- cylinderlaw20.sign -/
theorem sign_spec {p : List RT} {a : P} (hp : Pok p) (ea : a = nrm (vals p)) : PureFn Try.prog 43 [eP p] (I (sgP a)) := by
  have ka : Pok (can a) := by rw [ea]; exact can_pok' (Nat.lt_of_le_of_lt (l1_nrm _) hp.l) (Nat.le_trans (nrm_len _) (by rw [vals_len]; exact hp.n))
  have h1 := Normal_spec hp
  rw [← ea] at h1
  have hn : (can a).length ≤ 1000000 := ka.n
  have hl : (can a).length = a.length := can_len a
  refine .of_W (fn := Try.f43) (by repeat (first | exact trivial | refine ⟨(by repeat (exact eP_pure _)), ?_⟩)) Try.call43 Try.func43 rfl rfl ?_
  repeat (first | (with_reducible refine W.id_ ?_); (first | refine W.sreg ?_ | refine W.seq ?_) | (with_reducible refine RK.id_ ?_); (first | refine RK.cons_ ?_; (refine RK.k_ 0 rfl ?_; refine .p rfl rfl rfl (by exact trivial) ?_) | refine RK.nilT rfl ?_ rfl))
  refine .call (h1) rfl rfl rfl rfl ?_
  repeat ((with_reducible refine RK.id_ ?_); (first | refine RK.cons_ ?_; (refine RK.k_ 0 rfl ?_; refine .p rfl rfl rfl (by exact trivial) ?_) | refine RK.nilT rfl ?_ rfl))
  refine W.block (.loop1 ?_)
  repeat (first | (with_reducible refine W.id_ ?_); (first | refine W.sreg ?_ | refine W.seq ?_) | (with_reducible refine RK.id_ ?_); (first | refine RK.cons_ ?_; (refine RK.k_ 0 rfl ?_; refine .p rfl rfl rfl (by exact trivial) ?_) | refine RK.nilT rfl ?_ rfl))
  refine W.cond_dec rfl (fun h => ?_) (fun h => ?_)
  · cases a with
    | nil => exact absurd h (by decide)
    | cons t r =>
      have hz : okZ ((can (t :: r)).getD 0 zT).1 := ka.z _ (getD_mem (z := zT) (by rw [can_len]; exact Nat.succ_pos _))
      have hS := Sign_spec hz
      rw [show zv ((can (t :: r)).getD 0 zT).1 = t.1 from zv_can t.1] at hS
      repeat (first | (with_reducible refine W.id_ ?_); (first | refine W.sreg ?_ | refine W.seq ?_ | refine W.blockS ?_ | refine W.skipT rfl ?_) | (with_reducible refine RK.id_ ?_); (first | refine RK.cons_ ?_; (first | refine RK.k_ 0 rfl ?_; refine .p rfl rfl rfl (by exact trivial) ?_ | refine RK.k_ 4 rfl ?_; (refine .p rfl rfl rfl (by omega) ?_) | refine RK.k_ 5 rfl ?_; (first | refine .ldla rfl rfl rfl rfl rfl rfl rfl (by rfl) rfl ?_ | refine .lda _ rfl rfl rfl rfl rfl rfl rfl (by exact take_flat (z := zT) tc_len (by omega) (by omega) rfl) ?_) | refine RK.k_ 6 rfl ?_; (first | refine .alloc _ rfl rfl rfl rfl rfl rfl rfl ?_ | refine .store rfl rfl rfl rfl rfl rfl rfl (by rfl) (by rfl) (by rfl) ?_)) | refine RK.nilT rfl ?_ rfl))
      refine .call (hS) rfl rfl rfl rfl ?_
      repeat ((with_reducible refine RK.id_ ?_); (first | refine RK.cons_ ?_; (refine RK.k_ 0 rfl ?_; refine .p rfl rfl rfl (by exact trivial) ?_) | refine RK.nilT rfl ?_ rfl))
      refine W.ret ⟨_, rfl, .eq (by repeat (exact .int _ _)) ?_, rfl⟩
      rfl
  · cases a with
    | nil =>
      refine W.exitT rfl ?_
      repeat (first | (with_reducible refine W.id_ ?_); (refine W.sreg ?_) | (with_reducible refine RK.id_ ?_); (first | refine RK.cons_ ?_; (refine RK.k_ 0 rfl ?_; refine .p rfl rfl rfl (by exact trivial) ?_) | refine RK.nilT rfl ?_ rfl))
      refine W.ret ⟨_, rfl, .eq (by repeat (exact .int _ _)) ?_, rfl⟩
      rfl
    | cons t r => exact absurd (show (0 : Int) < ((r.length + 1 : Nat) : Int) by omega) (by simpa [can] using h)

theorem sg_okZ {q : P} (hq : N.l1 q < B32 ^ 1000000000) (h : q ≠ []) : okZ (zcan (sgP' q)) := .can (by
  show (sgP' q).natAbs < _
  rw [sgP'_abs h]
  exact Nat.lt_of_le_of_lt (gcdP_l1 q) hq)
theorem sg_cons (t : Int × M) (r : P) : sgP' (t :: r) = if t.1 < 0 then -(gcdP (t :: r) : Int) else (gcdP (t :: r) : Int) := rfl

/- sparse.SignNormal -/
theorem SignNormal_spec {p : List RT} {q : P} (hp : Pok p) (eq : q = nrm (vals p)) : PureFn Try.prog 45 [eP p] (eP (can (snP q))) := by
  have hq : Pok (can q) := by rw [eq]; exact can_pok' (Nat.lt_of_le_of_lt (l1_nrm _) hp.l) (Nat.le_trans (nrm_len _) (by rw [vals_len]; exact hp.n))
  have hc : Canon q := by rw [eq]; exact nrm_canon _
  have hql : N.l1 q < B32 ^ 1000000000 := by have := hq.l; rwa [vals_can] at this
  have hqn : q.length ≤ 1000000 := by have := hq.n; rwa [can_len] at this
  have hself : q = nrm (vals (can q)) := by rw [vals_can, nrm_self hc]
  refine .of_W (fn := Try.f45) (by repeat (first | exact trivial | refine ⟨(by repeat (exact eP_pure _)), ?_⟩)) Try.call45 Try.func45 rfl rfl ?_
  repeat (first | (with_reducible refine W.id_ ?_); (refine W.sreg ?_) | (with_reducible refine RK.id_ ?_); (first | refine RK.cons_ ?_; (refine RK.k_ 0 rfl ?_; refine .p rfl rfl rfl (by exact trivial) ?_) | refine RK.nilT rfl ?_ rfl))
  refine .callF (Normal_live0 hp) rfl rfl rfl rfl ?_; rintro _ _ ⟨rfl, rfl⟩
  rw [← eq]
  cases q with
  | nil =>
    repeat (first | (with_reducible refine W.id_ ?_); (first | refine W.sreg ?_ | refine W.seq ?_ | refine W.condT rfl ?_) | (with_reducible refine RK.id_ ?_); (first | refine RK.cons_ ?_; (refine RK.k_ 0 rfl ?_; refine .p rfl rfl rfl (by exact trivial) ?_) | refine RK.nilT rfl ?_ rfl))
    refine .ret ⟨_, rfl, .pure .snil (.snil _), rfl⟩
  | cons t0 r0 =>
    have hlen : (can (t0 :: r0)).length = (t0 :: r0).length := can_len _
    have hsg := sg_okZ hql (by simp)
    have hsn := sgP'_ne hc (by simp)
    have hz0 : okZ (zcan t0.1) := hq.z (zcan t0.1, t0.2) (by simp [can])
    have hS := Sign_spec hz0
    rw [zv_can] at hS
    have hN := Zneg_spec (gcd_okZ hql)
    rw [zv_can] at hN
    have hC := Content_lv (n := (can (t0 :: r0)).length) hq hself rfl
    have h1 : (1 : Nat) ≤ (can (t0 :: r0)).length := by rw [hlen]; simp
    obtain ⟨tr, htr⟩ : ∃ tr, tr = can r0 := ⟨_, rfl⟩
    have hcan : can (t0 :: r0) = (zcan t0.1, t0.2) :: tr := by rw [htr]; rfl
    rw [hcan] at hC hlen h1 ⊢
    have hlen2 : tr.length + 1 = (t0 :: r0).length := by rw [← hlen]; rfl
    have hb : tr.length + 1 ≤ 1000000 := by omega
    repeat (first | (with_reducible refine W.id_ ?_); (first | refine W.sreg ?_ | refine W.seq ?_ | refine W.skipT rfl ?_ | refine W.condF rfl ?_) | (with_reducible refine RK.id_ ?_); (first | refine RK.cons_ ?_; (refine RK.k_ 0 rfl ?_; refine .p rfl rfl rfl (by exact trivial) ?_) | refine RK.nilT rfl ?_ rfl))
    refine .callF (hC) rfl rfl rfl rfl ?_; rintro _ _ ⟨rfl, rfl⟩
    repeat (first | (with_reducible refine W.id_ ?_); (first | refine W.sreg ?_ | refine W.seq ?_) | (with_reducible refine RK.id_ ?_); (first | refine RK.cons_ ?_; (first | refine RK.k_ 0 rfl ?_; refine .p rfl rfl rfl (by exact trivial) ?_ | refine RK.k_ 4 rfl ?_; (refine .p rfl rfl rfl (by omega) ?_) | refine RK.k_ 5 rfl ?_; (refine .ldla rfl rfl rfl rfl rfl rfl rfl (by rfl) rfl ?_) | refine RK.k_ 6 rfl ?_; (first | refine .alloc _ rfl rfl rfl rfl rfl rfl rfl ?_ | refine .store rfl rfl rfl rfl rfl rfl rfl (by rfl) (by rfl) (by rfl) ?_)) | refine RK.nilT rfl ?_ rfl))
    refine .call (hS) rfl rfl rfl rfl ?_
    repeat ((with_reducible refine RK.id_ ?_); (first | refine RK.cons_ ?_; (refine RK.k_ 0 rfl ?_; refine .p rfl rfl rfl (by exact trivial) ?_) | refine RK.nilT rfl ?_ rfl))
    refine .joinS (fun (_ : Unit) => True) (fun _ => [(3, .live 0 0 (tr.length + 1) (tr.length + 1) 6), (4, .ptr 1 0)]) (fun _ => [some (.cells (((zcan t0.1, t0.2) :: tr).flatMap tc)), some (.cells (zc (zcan (sgP' (t0 :: r0)))))]) ?_ ?_
    · refine W.cond_dec rfl (fun h2 => ?_) (fun h2 => ?_)
      · have h3 : t0.1 < 0 := sgI_neg.1 h2
        rw [sg_cons, if_pos h3]
        repeat (first | (with_reducible refine W.id_ ?_); (refine W.reg ?_) | (with_reducible refine RK.id_ ?_); (refine RK.cons_ ?_; (refine RK.k_ 5 rfl ?_; (refine .ldla rfl rfl rfl rfl rfl rfl rfl (by rfl) rfl ?_))))
        refine .call (hN) rfl rfl rfl rfl ?_
        repeat ((with_reducible refine RK.id_ ?_); (refine RK.cons_ ?_; (refine RK.k_ 6 rfl ?_; (refine .store rfl rfl rfl rfl rfl rfl rfl (by rfl) (by rfl) (by rfl) ?_))))
        refine .nil ?_ rfl
        refine ⟨(), trivial, .heap ?_ rfl⟩
        repeat (first | exact trivial | refine ⟨⟨_, rfl, .refl _⟩, ?_⟩)
      · have h3 : ¬ t0.1 < 0 := fun h => h2 (sgI_neg.2 h)
        rw [sg_cons, if_neg h3]
        refine .skip ⟨(), trivial, .heap ?_ rfl⟩
        repeat (first | exact trivial | refine ⟨⟨_, rfl, .refl _⟩, ?_⟩)
    rintro _ _
    repeat (first | (with_reducible refine W.id_ ?_); (first | refine W.sreg ?_ | refine W.seq ?_) | (with_reducible refine RK.id_ ?_); (first | refine RK.cons_ ?_; (refine RK.k_ 0 rfl ?_; refine .p rfl rfl rfl (by exact trivial) ?_) | refine RK.nilT rfl ?_ rfl))
    refine .rangeS (tr.length + 1) (fun i s => [(3, .live 0 0 (tr.length + 1) (tr.length + 1) 6), (4, .ptr 1 0)]) (fun i s => [some (.cells (s.flatMap tc)), some (.cells (zc (zcan (sgP' (t0 :: r0)))))]) (fun i s => s = mpR (fun t => (t.1 / sgP' (t0 :: r0), t.2)) (t0 :: r0) i) ((zcan t0.1, t0.2) :: tr) rfl rfl rfl rfl rfl rfl rfl rfl rfl rfl (by omega) ?_ ?_ (fun _ _ => rfl) (fun i s hi Ci => ?_) (fun s Ci => ?_)
    · rw [← hcan]; rfl
    · refine .heap ?_ rfl
      repeat (first | exact trivial | refine ⟨⟨_, rfl, .refl _⟩, ?_⟩)
    · have hi : i < (t0 :: r0).length := by omega
      have hsl : s.length = (t0 :: r0).length := by rw [Ci, mpR_len]
      have hgt : s.getD i zT = (zcan ((t0 :: r0).getD i tz).1, ((t0 :: r0).getD i tz).2) := by rw [Ci, mpR_get hi]
      have hgz : okZ (s.getD i zT).1 := by rw [hgt]; exact .can (Nat.lt_of_le_of_lt (l1_mem (getD_mem hi)) hql)
      have hE := Exact_spec hgz hsg (by rw [zv_can]; exact hsn) (by rw [zv_can, hgt, zv_can]; exact sgP'_dvd (getD_mem hi))
      rw [zv_can] at hE
      repeat (first | (with_reducible refine W.id_ ?_); (first | refine W.sreg ?_ | refine W.draw mixed (by kernel_rfl) (by kernel_rfl) ?_) | (with_reducible refine RK.id_ ?_); (first | refine RK.cons_ ?_; (first | refine RK.k_ 0 rfl ?_; refine .p rfl rfl rfl (by exact trivial) ?_ | refine RK.k_ 4 rfl ?_; (refine .ixl _ _ (s := 6) rfl rfl rfl rfl rfl rfl rfl (by rfl) (by omega) rfl ?_)) | refine RK.nilT rfl ?_ rfl))
      refine .ldla rfl rfl rfl rfl rfl rfl rfl rfl (take_part (z := zT) tc_len (by omega) (Nat.le_of_ble_eq_true rfl) (Nat.le_of_ble_eq_true rfl) (show 0 + i * 6 + 0 = i * 6 + 0 by omega) rfl) ?_
      repeat ((with_reducible refine RK.id_ ?_); (refine RK.cons_ ?_; (refine RK.k_ 5 rfl ?_; (refine .ldla rfl rfl rfl rfl rfl rfl rfl (by rfl) rfl ?_))))
      refine .call (hE) rfl rfl rfl rfl ?_
      repeat ((with_reducible refine RK.id_ ?_); (refine RK.cons_ ?_; (first | refine RK.k_ 0 rfl ?_; refine .p rfl rfl rfl (by exact trivial) ?_ | refine RK.k_ 4 rfl ?_; (refine .ixl _ _ (s := 6) rfl rfl rfl rfl rfl rfl rfl (by rfl) (by omega) rfl ?_))))
      refine .store rfl rfl rfl rfl rfl rfl rfl rfl (overR_part (z := zT) (i := i) (j := 0) (v := (zcan (zv (s.getD i zT).1 / sgP' (t0 :: r0)), (s.getD i zT).2)) tc_len (by omega) (Nat.le_of_ble_eq_true rfl) (show 0 + i * 6 + 0 = i * 6 + 0 by omega) rfl) rfl ?_
      refine .nil ?_ rfl
      refine ⟨s.set i (zcan (zv (s.getD i zT).1 / sgP' (t0 :: r0)), (s.getD i zT).2), ?_, .heap ?_ rfl⟩
      · dsimp only
        rw [mpR_next hi, hgt, zv_can, ← Ci]
      · repeat (first | exact trivial | refine ⟨⟨_, rfl, .refl _⟩, ?_⟩)
    rw [hlen2, mpR_end] at Ci
    show W _ _ _ _ _ _ _
    repeat (first | (with_reducible refine W.id_ ?_); (refine W.sreg ?_) | (with_reducible refine RK.id_ ?_); (first | refine RK.cons_ ?_; (refine RK.k_ 0 rfl ?_; refine .p rfl rfl rfl (by exact trivial) ?_) | refine RK.nilT rfl ?_ rfl))
    refine .ret ⟨_, rfl, frz_flat (by rw [← show s = can (snP (t0 :: r0)) from Ci]; rfl) (by rw [can_len, snP_len, hlen2]), rfl⟩
theorem Rp.sn {k n : Nat} {e : Int} {p : List RT} {a : P} (h : Rp k n e p a) (hk : k ≤ 1000000000) (hn : n ≤ 1000000) : PureFn Try.prog 45 [eP p] (eP (can (snP a))) ∧ Rp k n e (can (snP a)) (snP a) :=
  ⟨SignNormal_spec (h.pok hk hn) h.eqn, .cn (snP_canon h.canon) (Nat.lt_of_le_of_lt (snP_l1 a) h.l1) (by rw [snP_len]; exact h.len) (fun t ht => by
    obtain ⟨u, hu, rfl⟩ := List.mem_map.1 ht
    exact h.eb u hu) hk⟩
end Go.Proofs.Ytbdefjbekbbldaa
