import Derived.Test.YtcnblloiaambaaaSI
namespace Go.Proofs.Ytcnblloiaambaaa
open Go.V
set_option maxHeartbeats 4000000

/- f24: slices.Clone -/
theorem Clone_spec {ts : List (List Int)} (h0 : 0 < ts.length) (h9 : ts.length ≤ 90) (H : Hp) : FnTo Try.prog 24 [eT ts] H fun d H' => d = .live H.length 0 ts.length ts.length 1 ∧ H' = H ++ [some (.cells (ts.map eI))] := by
  refine .of_W (fn := Try.f24) Try.call24 Try.func24 rfl (Nat.le_of_ble_eq_true rfl) ?_
  refine .sreg ?_
  iterate 1 refine .p rfl rfl rfl trivial ?_
  refine .nil (.seq (.sreg ?_)) rfl
  iterate 1 refine .p rfl rfl rfl trivial ?_
  refine .p rfl rfl rfl (h0) ?_
  refine .nil (.condF rfl (.skip ?_)) rfl
  refine .sreg ?_
  iterate 2 refine .p rfl rfl rfl trivial ?_
  refine .appNew H.length 1 24 ts.length (ts.map eI) rfl rfl rfl rfl rfl rfl rfl rfl rfl (.inr ⟨rfl, rfl⟩) (.snap (by simp)) h0 (by omega) (by omega) (by omega) rfl (pushR_eq _ _) ?_
  iterate 1 refine .p rfl rfl rfl trivial ?_
  exact .nil (.ret ⟨_, rfl, rfl, rfl⟩) rfl

/- f23: slices.Delete -/
theorem Delete_spec {ts : List (List Int)} {i b : Nat} {H : Hp} (hi : i < ts.length) (h9 : ts.length ≤ 90) (hb : H[b]? = some (some (.cells (ts.map eI)))) :
    FnTo Try.prog 23 [.live b 0 ts.length ts.length 1, I i, I ((i + 1 : Nat) : Int)] H fun d H' => d = .live b 0 (ts.length - 1) ts.length 1 ∧ H' = H.set b (some (.cells ((ts.eraseIdx i).map eI ++ [.snil]))) := by
  have hbl : b < H.length := lt_of_getElem? hb
  refine .of_W (fn := Try.f23) Try.call23 Try.func23 rfl (Nat.le_of_ble_eq_true rfl) ?_
  refine .sreg ?_
  iterate 1 refine .p rfl rfl rfl trivial ?_
  refine .nil (.sreg ?_) rfl
  iterate 5 refine .p rfl rfl rfl trivial ?_
  refine .p rfl rfl rfl (show (0 : Int) ≤ i ∧ (i : Int) ≤ ((i + 1 : Nat) : Int) ∧ ((i + 1 : Nat) : Int) ≤ ts.length ∧ (ts.length : Int) ≤ ts.length by omega) ?_
  refine .nil (.seq (.sreg ?_)) rfl
  iterate 3 refine .p rfl rfl rfl trivial ?_
  refine .nil (.cond_dec rfl (fun h => by omega) (fun _ => .skip ?_)) rfl
  refine .sreg ?_
  iterate 3 refine .p rfl rfl rfl trivial ?_
  refine .nil (.sdraw mixed (by kernel_rfl) (by kernel_rfl) ?_) rfl
  iterate 2 refine .p rfl rfl rfl trivial ?_
  refine .sll 1 0 i rfl rfl rfl rfl rfl rfl rfl rfl (by first | rfl | omega) (by first | rfl | omega) (by omega) (by omega) ?_
  iterate 2 refine .p rfl rfl rfl trivial ?_
  refine .sll 1 (i + 1) ts.length rfl rfl rfl rfl rfl rfl rfl rfl (by first | rfl | omega) (by first | rfl | omega) (by omega) (by omega) ?_
  refine .appIn (s := 1) (by_ := 24) (rs := ((ts.map eI).take i ++ (ts.map eI).drop (i + 1)) ++ (ts.map eI).drop (ts.length - 1)) rfl rfl rfl rfl rfl rfl hb (.live hb (by simp; omega)) (by omega) ?_ (setR_eq _ hbl) ?_
  · rw [overR_of _ _ _ (by simp; omega)]
    simp only [Nat.zero_add, Nat.zero_mul, Nat.mul_one, Nat.sub_zero, List.length_take, List.length_drop, List.length_map]
    rw [List.take_of_length_le (l := (ts.map eI).drop (i + 1)) (by simp)]
    congr 2
    congr 1
    omega
  iterate 1 refine .p rfl rfl rfl trivial ?_
  refine .nil (.sreg ?_) rfl
  iterate 4 refine .p rfl rfl rfl trivial ?_
  refine .sll 1 (ts.length - 1) ts.length rfl rfl rfl rfl rfl rfl rfl rfl (by first | rfl | omega) (by first | rfl | omega) (by omega) (by omega) ?_
  have e1 : ts.length - (ts.length - 1) = 1 := by omega
  refine .clear (s := 1) (by_ := 24) (z := .snil) (rs := (ts.eraseIdx i).map eI ++ [.snil]) rfl rfl rfl rfl rfl rfl rfl (Nat.le_refl 1) rfl (List.getElem?_set_self hbl) ?_ (setR_eq _ (by simpa using hbl)) ?_
  · rw [e1, overR_of _ _ _ (by simp [repR, D.cells]; omega)]
    simp only [Nat.zero_add, Nat.zero_mul, Nat.mul_one, repR, D.cells, List.append_nil]
    have h1 : ((ts.map eI).take i ++ (ts.map eI).drop (i + 1)).length = ts.length - 1 := by simp; omega
    have h2 : (((ts.map eI).take i ++ (ts.map eI).drop (i + 1)) ++ (ts.map eI).drop (ts.length - 1)).length = ts.length := by simp; omega
    have h3 : List.drop (ts.length - 1 + [D.snil].length) (((ts.map eI).take i ++ (ts.map eI).drop (i + 1)) ++ (ts.map eI).drop (ts.length - 1)) = [] := List.drop_eq_nil_of_le (by rw [h2, List.length_singleton]; omega)
    rw [List.take_left' h1, h3, List.append_nil, List.eraseIdx_eq_take_drop_succ]
    simp
  refine .nil (.sreg ?_) rfl
  iterate 2 refine .p rfl rfl rfl trivial ?_
  refine .nil (.ret ⟨_, rfl, ?_, ?_⟩) rfl
  · show D.live b _ _ _ 1 = D.live b _ _ _ 1
    congr 1 <;> omega
  · rw [List.set_set]
end Go.Proofs.Ytcnblloiaambaaa
