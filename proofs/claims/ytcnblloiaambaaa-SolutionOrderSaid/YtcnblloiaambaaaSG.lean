import Derived.Test.YtcnblloiaambaaaSF
namespace Go.Proofs.Ytcnblloiaambaaa
open Go.V
set_option maxHeartbeats 4000000

/- f14: cylinderref50.Prime -/
def setT (t : List Int) (k : Nat) (v : Int) : List Int := t.set k v
def primeAt (ts : List (List Int)) (rows : List Row) (i k e : Nat) : Prop := landI (atI (atT ts i) k) (2 ^ e) ≠ 0 ∨ permF (setT (atT ts i) k (lorI (atI (atT ts i) k) (2 ^ e))) rows
def prime (ts : List (List Int)) (rows : List Row) : Prop := ∀ i, i < ts.length → ∀ k, k < (atT ts i).length → ∀ e, e < 3 → primeAt ts rows i k e

theorem Prime_spec {ts : List (List Int)} {rows : List Row} (hf : few rows) (hs : ∀ i, i < rows.length → signs (rowAt rows i).1) (ht : small ts) : PureFn Try.prog 14 [eT ts, eR rows] (B (prime ts rows)) := by
  refine .of_W (fn := Try.f14) ⟨eT_pure _, eR_pure _, trivial⟩ Try.call14 Try.func14 rfl rfl ?_
  refine .sreg ?_
  iterate 1 refine .p rfl rfl rfl trivial ?_
  refine .nil (.seq (.sreg ?_)) rfl
  iterate 3 refine .p rfl rfl rfl trivial ?_
  refine .nil ?_ rfl
  refine .range (ts.length) (fun i => [(0, eT ts), (1, eR rows)]) (fun i => []) (fun i => ∀ j, j < i → ∀ k, k < (atT ts j).length → ∀ e, e < 3 → primeAt ts rows j k e) rfl rfl rfl rfl rfl rfl rfl rfl rfl rfl ((by have := ht.1; omega)) (by first | exact trivial | (intro j hj; exact absurd hj (Nat.not_lt_zero j))) (.wk ?_) (fun _ => rfl) (fun i hi Ci => ?_) (fun Ci => ?_)
  · repeat (first | exact trivial | refine ⟨⟨_, rfl, .refl _⟩, ?_⟩)
  · refine .sreg ?_
    iterate 2 refine .p rfl rfl rfl trivial ?_
    refine .nil (.sreg ?_) rfl
    iterate 2 refine .p rfl rfl rfl trivial ?_
    refine .ix (i) rfl rfl rfl rfl rfl rfl rfl (by first | rfl | omega) (by first | omega | decide) ?_
    refine .ld _ rfl rfl rfl rfl rfl rfl (t_get hi rfl) ?_
    iterate 2 refine .p rfl rfl rfl trivial ?_
    refine .nil ?_ rfl
    have hti := ht.2 i hi
    refine .range ((atT ts i).length) (fun k => [(0, eT ts), (1, eR rows), (5, I i), (11, I i), (10, I ts.length)]) (fun k => []) (fun k => ∀ j, j < k → ∀ e, e < 3 → primeAt ts rows i j e) rfl rfl rfl rfl rfl rfl rfl rfl rfl rfl ((by omega)) (by first | exact trivial | (intro j hj; exact absurd hj (Nat.not_lt_zero j))) (.wk ?_) (fun _ => rfl) (fun k hk Ck => ?_) (fun Ck => ?_)
    · repeat (first | exact trivial | refine ⟨⟨_, rfl, .refl _⟩, ?_⟩)
    · refine .sreg ?_
      iterate 2 refine .p rfl rfl rfl trivial ?_
      refine .nil (.sreg ?_) rfl
      iterate 1 refine .p rfl rfl rfl trivial ?_
      refine .nil ?_ rfl
      refine .block (.loopT (fun e => e ≤ 3 ∧ ∀ e', e' < e → primeAt ts rows i k e') (fun e => 3 - e) (fun e => [(7, I (2 ^ e)), (0, eT ts), (1, eR rows), (5, I i), (11, I i), (10, I ts.length), (6, I k), (19, I k), (18, I (atT ts i).length)]) (fun _ => []) 0 ⟨Nat.zero_le _, fun j hj => absurd hj (Nat.not_lt_zero j)⟩ (.wk ?_) ?_)
      · repeat (first | exact trivial | refine ⟨⟨_, rfl, .refl _⟩, ?_⟩)
      rintro e ⟨he3, Ce⟩
      refine .seq (.sreg ?_)
      iterate 2 refine .p rfl rfl rfl trivial ?_
      have h4 : (2 : Int) ^ e ≤ 4 ↔ e < 3 := by
        have : e = 0 ∨ e = 1 ∨ e = 2 ∨ e = 3 := by omega
        rcases this with rfl | rfl | rfl | rfl <;> decide
      refine .nil (.cond_dec rfl (fun h => .skip (.midP (primeAt ts rows i k e) [(7, I (2 ^ e)), (0, eT ts), (1, eR rows), (5, I i), (11, I i), (10, I ts.length), (6, I k), (19, I k), (18, I (atT ts i).length)] [] (.block ?_) ?_)) (fun h => .exit ⟨all_succ Ck (fun e' he' => Ce e' (by have := fun h5 => h (h4.2 h5); omega)), .wk ?_⟩)) rfl
      rotate_left 2
      · repeat (first | exact trivial | refine ⟨⟨_, rfl, .refl _⟩, ?_⟩)
      rotate_left
      · intro hp
        have he : e < 3 := h4.1 h
        refine W.reg ?_
        iterate 1 refine .p rfl rfl rfl trivial ?_
        refine .pe (I (2 ^ (e + 1))) rfl rfl rfl trivial ?_ ?_
        · have : e = 0 ∨ e = 1 ∨ e = 2 := by omega
          rcases this with rfl | rfl | rfl <;> rfl
        iterate 1 refine .p rfl rfl rfl trivial ?_
        refine .nil ⟨e + 1, (by show 3 - (e + 1) < 3 - e; omega), ⟨by omega, all_succ Ce hp⟩, .wk ?_⟩ rfl
        repeat (first | exact trivial | refine ⟨⟨_, rfl, .refl _⟩, ?_⟩)
      have he : e < 3 := h4.1 h
      refine .sreg ?_
      iterate 3 refine .p rfl rfl rfl trivial ?_
      refine .ix (i) rfl rfl rfl rfl rfl rfl rfl (by first | rfl | omega) (by first | omega | decide) ?_
      refine .ld _ rfl rfl rfl rfl rfl rfl (t_get hi rfl) ?_
      refine .appNew 0 1 8 (atT ts i).length ((atT ts i).map I) rfl rfl rfl rfl rfl rfl rfl rfl rfl (.inr ⟨rfl, rfl⟩) (.snap (by simp)) (by omega) (by omega) (by omega) (by omega) ?_ rfl ?_
      · rfl
      iterate 1 refine .p rfl rfl rfl trivial ?_
      refine .nil (.seq (.sreg ?_)) rfl
      iterate 2 refine .p rfl rfl rfl trivial ?_
      refine .ixl (k) (k) rfl rfl rfl rfl rfl rfl rfl (by first | rfl | omega) (by omega) (show 0 + k * 1 = k by omega) ?_
      refine .ldl rfl rfl rfl rfl rfl rfl rfl rfl (i_get hk (by omega)) ?_
      iterate 3 refine .p rfl rfl rfl trivial ?_
      refine .nil (.cond_ndec rfl (fun h5 => .exit ⟨.inl h5, .pure ?_⟩) (fun h5 => .skip ?_)) rfl
      · repeat (first | exact trivial | refine ⟨⟨rfl, by first | exact .int _ _ | exact .bool _ | exact encI_pure _ _ | exact eR_pure _ | exact eT_pure _⟩, ?_⟩)
      refine .sreg ?_
      iterate 4 refine .p rfl rfl rfl trivial ?_
      refine .ixl (k) (k) rfl rfl rfl rfl rfl rfl rfl (by first | rfl | omega) (by omega) (show 0 + k * 1 = k by omega) ?_
      refine .ldl rfl rfl rfl rfl rfl rfl rfl rfl (i_get hk (by omega)) ?_
      iterate 2 refine .p rfl rfl rfl trivial ?_
      refine .ixl (k) (k) rfl rfl rfl rfl rfl rfl rfl (by first | rfl | omega) (by omega) (show 0 + k * 1 = k by omega) ?_
      refine .store rfl rfl rfl rfl rfl rfl rfl rfl (over1 (v := lorI (atI (atT ts i) k) (2 ^ e)) rfl hk) rfl ?_
      refine .nil (.sreg ?_) rfl
      iterate 2 refine .p rfl rfl rfl trivial ?_
      refine .callB (permitsFalse_spec (t := setT (atT ts i) k (lorI (atI (atT ts i) k) (2 ^ e))) hf hs (by simp [setT]; omega)) rfl (noLoopB_spec rfl) rfl rfl rfl rfl (.cons (frz_encI rfl (by simp [setT])) (.cons (.pure (eR_pure _) (.refl _)) .nil)) ?_
      iterate 1 refine .p rfl rfl rfl trivial ?_
      refine .nil (.cond_ndec rfl (fun h6 => ?_) (fun h6 => .skip ⟨.inr h6, .pure ?_⟩)) rfl
      · refine .sreg ?_
        iterate 1 refine .p rfl rfl rfl trivial ?_
        refine .nil (.ret ⟨_, rfl, .bool (B_false fun hc => (hc i hi k hk e he).elim (fun h7 => h7 h5) h6), rfl⟩) rfl
      · repeat (first | exact trivial | refine ⟨⟨rfl, by first | exact .int _ _ | exact .bool _ | exact encI_pure _ _ | exact eR_pure _ | exact eT_pure _⟩, ?_⟩)
    · refine ⟨all_succ Ci Ck, .wk ?_⟩
      repeat (first | exact trivial | refine ⟨⟨_, rfl, .refl _⟩, ?_⟩)
  · refine W.sreg ?_
    iterate 1 refine .p rfl rfl rfl trivial ?_
    refine .nil (.ret ⟨_, rfl, .bool (B_true Ci), rfl⟩) rfl
end Go.Proofs.Ytcnblloiaambaaa
