import Derived.Test.YtbdefjbekbbldaaV3
import Derived.Test.YtbdefjbekbbldaaN
import Derived.Test.YtbdefjbekbbldaaChecked
set_option linter.unusedVariables false
namespace Go.Proofs.Ytbdefjbekbbldaa
open Go.V Go.N
set_option maxHeartbeats 4000000
set_option maxRecDepth 20000
theorem mixed : Try.prog.follows .mixedOrders = true := Try.checked.mixed

abbrev I (n : Int) : D := .int .i64 n
noncomputable abbrev B (p : Prop) : D := .bool (@decide p (Classical.propDecidable p))
abbrev eN (ds : List Int) : D := encI .u32 ds
theorem eN_pure (ds : List Int) : Pure (eN ds) := encI_pure _ _
theorem n_get {xs : List Int} {i off : Nat} (h : i < xs.length) (ho : off = i * 1) : (xs.map (D.int .u32))[off]? = some (.int .u32 (xs.getD i 0)) := get_map h ho

theorem sl_map {α : Type} {f : α → D} {xs : List α} {l h : Nat} {p : Bool} (hl : l ≤ h) (hh : h ≤ xs.length) : D.snap (((xs.map f).drop (l * 1)).take ((h - l) * 1)) (h - l) (false && p) = encL f ((xs.drop l).take (h - l)) := by
  have e : ((xs.drop l).take (h - l)).length = h - l := by simp; omega
  rw [encL, e, Nat.mul_one, Nat.mul_one, List.map_take, List.map_drop, Bool.false_and]

/- natural.trim -/
theorem trim_spec {a : List Int} (ha : okN a) (hl : a.length ≤ 1000000000000) : PureFn Try.prog 90 [eN a] (eN (dig (nv a))) := by
  refine .of_W (fn := Try.f90) (by repeat (first | exact trivial | refine ⟨(by repeat (exact eN_pure _)), ?_⟩)) Try.call90 Try.func90 rfl rfl ?_
  repeat (first | (with_reducible refine W.id_ ?_); (first | refine W.sreg ?_ | refine W.seq ?_) | (with_reducible refine RK.id_ ?_); (first | refine RK.cons_ ?_; (refine RK.k_ 0 rfl ?_; refine .p rfl rfl rfl (by exact trivial) ?_) | refine RK.nilT rfl ?_ rfl))
  refine W.loopE (fun n => n ≤ a.length ∧ ∀ i, n ≤ i → i < a.length → a.getD i 0 = 0) (fun n => (n ≤ a.length ∧ ∀ i, n ≤ i → i < a.length → a.getD i 0 = 0) ∧ (n = 0 ∨ a.getD (n - 1) 0 ≠ 0)) (fun n => n) (fun n => [(3, I n), (0, eN a)]) (fun _ => []) (a.length) rfl ?_ ?_ ?_ ?_
  · exact ⟨Nat.le_refl _, fun i h1 h2 => by omega⟩
  · refine .wk ?_
    repeat (first | exact trivial | refine ⟨⟨_, rfl, .refl _⟩, ?_⟩)
  · rintro n ⟨hn, hz⟩
    repeat (first | (with_reducible refine W.id_ ?_); (first | refine W.sreg ?_ | refine W.seq ?_) | (with_reducible refine RK.id_ ?_); (refine RK.cons_ ?_; (refine RK.k_ 0 rfl ?_; refine .p rfl rfl rfl (by exact trivial) ?_)))
    refine .dsplit (fun hp => ?_) (fun hp => ?_)
    · repeat ((with_reducible refine RK.id_ ?_); (first | refine RK.cons_ ?_; (first | refine RK.k_ 0 rfl ?_; refine .p rfl rfl rfl (by exact trivial) ?_ | refine RK.k_ 1 rfl ?_; (refine .pa rfl rfl rfl rfl rfl rfl (by omega) (by omega) ?_) | refine RK.k_ 4 rfl ?_; (refine .ix _ (s := 1) rfl rfl rfl rfl rfl rfl rfl (by exact (Int.toNat_of_nonneg (by omega)).symm) (by omega) ?_) | refine RK.k_ 5 rfl ?_; (refine .ld _ rfl rfl rfl rfl rfl rfl (by exact n_get (by omega) rfl) ?_)) | refine RK.nilT rfl ?_ rfl))
      refine W.cond_dec rfl (fun h => ?_) (fun h => ?_)
      · repeat (first | (with_reducible refine W.id_ ?_); (first | refine W.reg ?_ | refine W.blockR ?_ | refine W.skipT rfl ?_) | (with_reducible refine RK.id_ ?_); (refine RK.cons_ ?_; (first | refine RK.k_ 0 rfl ?_; refine .p rfl rfl rfl (by exact trivial) ?_ | refine RK.k_ 1 rfl ?_; (refine .pa rfl rfl rfl rfl rfl rfl (by omega) (by omega) ?_))))
        refine .nil ?_ rfl
        exact ⟨n - 1, by show n - 1 < n; omega, ⟨by omega, fun i h1 h2 => by
          rcases Nat.lt_or_ge i n with h3 | h3
          · have : i = (↑n - 1 : Int).toNat := by omega
            subst this; exact h
          · exact hz i h3 h2⟩, .wk (by (repeat (first | exact trivial | refine ⟨⟨_, rfl, .refl _⟩, ?_⟩ | refine ⟨⟨_, rfl, .of_eq (congrArg (D.int _) (by omega))⟩, ?_⟩)))⟩
      · refine W.exit ⟨n, ⟨⟨hn, hz⟩, .inr ?_⟩, .wk (by (repeat (first | exact trivial | refine ⟨⟨_, rfl, .refl _⟩, ?_⟩)))⟩
        rwa [show (↑n - 1 : Int).toNat = n - 1 by omega] at h
    · repeat (first | (with_reducible refine W.id_ ?_); (refine W.condF rfl ?_) | (with_reducible refine RK.id_ ?_); (first | refine RK.cons_ ?_; (first | refine .skip rfl rfl ?_ | refine RK.k_ 0 rfl ?_; refine .p rfl rfl rfl (by exact trivial) ?_) | refine RK.nilT rfl ?_ rfl))
      refine W.exit ⟨n, ⟨⟨hn, hz⟩, .inl (by omega)⟩, .wk (by (repeat (first | exact trivial | refine ⟨⟨_, rfl, .refl _⟩, ?_⟩)))⟩
  · rintro n ⟨⟨hn, hz⟩, hl⟩
    have he := trim_dig ha hn hz hl
    repeat (first | (with_reducible refine W.id_ ?_); (first | refine W.sreg ?_ | refine W.seq ?_) | (with_reducible refine RK.id_ ?_); (first | refine RK.cons_ ?_; (refine RK.k_ 0 rfl ?_; refine .p rfl rfl rfl (by exact trivial) ?_) | refine RK.nilT rfl ?_ rfl))
    refine W.cond_dec rfl (fun h => ?_) (fun h => ?_)
    · have : n = 0 := by omega
      subst this
      repeat (first | (with_reducible refine W.id_ ?_); (refine W.sreg ?_) | (with_reducible refine RK.id_ ?_); (first | refine RK.cons_ ?_; (refine RK.k_ 0 rfl ?_; refine .p rfl rfl rfl (by exact trivial) ?_) | refine RK.nilT rfl ?_ rfl))
      refine W.ret ⟨_, rfl, ?_, rfl⟩
      rw [← he]
      exact .pure .snil (.snil _)
    · repeat (first | (with_reducible refine W.id_ ?_); (first | refine W.sreg ?_ | refine W.skipT rfl ?_) | (with_reducible refine RK.id_ ?_); (first | refine RK.cons_ ?_; (first | refine RK.k_ 0 rfl ?_; refine .p rfl rfl rfl (by exact trivial) ?_ | refine RK.k_ 7 rfl ?_; (refine .slT _ rfl rfl rfl rfl rfl rfl rfl (by rfl) (by omega) ?_)) | refine RK.nilT rfl ?_ rfl))
      refine W.ret ⟨_, rfl, ?_, rfl⟩
      rw [← he]
      exact .pure (eN_pure _) (.refl _)
end Go.Proofs.Ytbdefjbekbbldaa

namespace Go.Proofs.Ytbdefjbekbbldaa
open Go.V Go.N
set_option maxHeartbeats 4000000
set_option maxRecDepth 20000

theorem B_true {p : Prop} (h : p) : true = @decide p (Classical.propDecidable p) := (@decide_eq_true p (Classical.propDecidable p) h).symm
theorem B_false {p : Prop} (h : ¬ p) : false = @decide p (Classical.propDecidable p) := (@decide_eq_false p (Classical.propDecidable p) h).symm
theorem B_iff {p q : Prop} {i : Decidable q} (h : q ↔ p) : decide q = @decide p (Classical.propDecidable p) := by
  by_cases hp : p
  · rw [← B_true hp]; exact decide_eq_true (h.2 hp)
  · rw [← B_false hp]; exact decide_eq_false (fun hq => hp (h.1 hq))
theorem B_not {p q : Prop} {i : Decidable q} (h : ¬ q ↔ p) : (!decide q) = @decide p (Classical.propDecidable p) := by
  by_cases hq : q
  · rw [decide_eq_true hq, ← B_false (fun hp => h.2 hp hq)]; rfl
  · rw [decide_eq_false hq, ← B_true (h.1 hq)]; rfl
theorem B_of {p : Prop} {i : Decidable p} (h : p) : decide p = true := decide_eq_true h
theorem B_congr {p q : Prop} (h : p ↔ q) : B p = B q := by rw [show p = q from propext h]

/-- What canonical digits are short enough. -/
theorem dig_lim {n : Nat} (h : n < B32 ^ 1000000) : (dig n).length ≤ 1000000 := dig_len h

theorem dig_len0 {n : Nat} : (((dig n).length : Nat) : Int) = 0 ↔ n = 0 := by
  constructor
  · intro h
    have h1 : dig n = [] := List.eq_nil_of_length_eq_zero (by omega)
    rw [← nv_dig n, h1]; rfl
  · rintro rfl
    rw [dig_zero]; rfl

/- natural.Normal -/
theorem Nnormal_spec {a : List Int} (ha : okN a) (hl : a.length ≤ 1000000000000) : PureFn Try.prog 78 [eN a] (eN (dig (nv a))) := by
  have hdl : (dig (nv a)).length ≤ a.length := dig_len (nv_lt ha)
  refine .of_W (fn := Try.f78) (by repeat (first | exact trivial | refine ⟨(by repeat (exact eN_pure _)), ?_⟩)) Try.call78 Try.func78 rfl rfl ?_
  repeat (first | (with_reducible refine W.id_ ?_); (refine W.sreg ?_) | (with_reducible refine RK.id_ ?_); (first | refine RK.cons_ ?_; (refine RK.k_ 0 rfl ?_; refine .p rfl rfl rfl (by exact trivial) ?_) | refine RK.nilT rfl ?_ rfl))
  refine .call (trim_spec ha hl) rfl rfl rfl rfl ?_
  generalize dig (nv a) = ds at *
  refine .appNil (s := 1) (by_ := 4) rfl rfl rfl rfl rfl rfl rfl rfl (by simp) (by omega) (by omega) ?_
  repeat ((with_reducible refine RK.id_ ?_); (first | refine RK.cons_ ?_; (refine RK.k_ 0 rfl ?_; refine .p rfl rfl rfl (by exact trivial) ?_) | refine RK.nilT rfl ?_ rfl))
  refine W.ret ⟨_, rfl, .eq (by repeat (exact eN_pure _)) ?_, rfl⟩
  rfl

/- natural.IsZero -/
theorem IsZero_spec {a : List Int} (ha : okN a) (hl : a.length ≤ 1000000000000) : PureFn Try.prog 81 [eN a] (.bool (decide (nv a = 0))) := by
  refine .of_W (fn := Try.f81) (by repeat (first | exact trivial | refine ⟨(by repeat (exact eN_pure _)), ?_⟩)) Try.call81 Try.func81 rfl rfl ?_
  repeat (first | (with_reducible refine W.id_ ?_); (refine W.sreg ?_) | (with_reducible refine RK.id_ ?_); (first | refine RK.cons_ ?_; (refine RK.k_ 0 rfl ?_; refine .p rfl rfl rfl (by exact trivial) ?_) | refine RK.nilT rfl ?_ rfl))
  refine .call (trim_spec ha hl) rfl rfl rfl rfl ?_
  repeat ((with_reducible refine RK.id_ ?_); (first | refine RK.cons_ ?_; (refine RK.k_ 0 rfl ?_; refine .p rfl rfl rfl (by exact trivial) ?_) | refine RK.nilT rfl ?_ rfl))
  refine W.ret ⟨_, rfl, .eq (by repeat (exact .bool _)) ?_, rfl⟩
  exact congrArg D.bool (decide_eq_decide.2 dig_len0)

/- natural.Of -/
theorem Nof_spec {n : Nat} (h : n < 18446744073709551616) : PureFn Try.prog 74 [.int .u64 n] (eN (dig n)) := by
  have e : nv [(n : Int) % 4294967296, (n : Int) / 4294967296] = n := by
    simp only [nv, B32]; omega
  have hk : okN [(n : Int) % 4294967296, (n : Int) / 4294967296] := okN.cons (by omega) (okN.cons (by omega) okN.nil)
  have ht := trim_spec hk (by simp)
  rw [e] at ht
  refine .of_W (fn := Try.f74) (by repeat (first | exact trivial | refine ⟨(by repeat (exact .int _ _)), ?_⟩)) Try.call74 Try.func74 rfl rfl ?_
  repeat (first | (with_reducible refine W.id_ ?_); (refine W.sreg ?_) | (with_reducible refine RK.id_ ?_); (first | refine RK.cons_ ?_; (first | refine RK.k_ 0 rfl ?_; refine .p rfl rfl rfl (by exact trivial) ?_ | refine RK.k_ 2 rfl ?_; (first | refine .cv32 rfl rfl rfl rfl rfl rfl (by omega) (by omega) ?_ | refine .cvm rfl rfl rfl rfl rfl rfl ?_) | refine RK.k_ 3 rfl ?_; (refine .shr 4294967296 rfl rfl rfl rfl rfl (by omega) rfl ?_)) | refine RK.nilT rfl ?_ rfl))
  refine .call ((ht).args (.cons .tight .nil)) rfl rfl rfl rfl ?_
  repeat ((with_reducible refine RK.id_ ?_); (first | refine RK.cons_ ?_; (refine RK.k_ 0 rfl ?_; refine .p rfl rfl rfl (by exact trivial) ?_) | refine RK.nilT rfl ?_ rfl))
  refine W.ret ⟨_, rfl, .eq (by repeat (exact eN_pure _)) ?_, rfl⟩
  rfl

theorem cmp_le {a b : List Int} (ha : okN a) (hb : okN b) (hl : a.length = b.length) (he : ∀ j, j < a.length → a.getD j 0 = b.getD j 0) : nv a = nv b := by rw [nv_eq_of hl he]

def sgn (x y : Nat) : Int := if y < x then 1 else if x < y then -1 else 0

/- natural.Cmp -/
theorem Ncmp_spec {a b : List Int} (ha : okN a) (hb : okN b) (hla : a.length ≤ 1000000000000) (hlb : b.length ≤ 1000000000000) : PureFn Try.prog 93 [eN a, eN b] (I (sgn (nv a) (nv b))) := by
  have ka := okN_dig (nv a)
  have kb := okN_dig (nv b)
  have ea := nv_dig (nv a)
  have eb := nv_dig (nv b)
  have la : (dig (nv a)).length ≤ a.length := dig_len (nv_lt ha)
  have lb : (dig (nv b)).length ≤ b.length := dig_len (nv_lt hb)
  have lt1 := @len_lt (nv a) (nv b)
  have lt2 := @len_lt (nv b) (nv a)
  refine .of_W (fn := Try.f93) (by repeat (first | exact trivial | refine ⟨(by repeat (exact eN_pure _)), ?_⟩)) Try.call93 Try.func93 rfl rfl ?_
  repeat (first | (with_reducible refine W.id_ ?_); (refine W.sreg ?_) | (with_reducible refine RK.id_ ?_); (first | refine RK.cons_ ?_; (refine RK.k_ 0 rfl ?_; refine .p rfl rfl rfl (by exact trivial) ?_) | refine RK.nilT rfl ?_ rfl))
  refine .call (trim_spec ha hla) rfl rfl rfl rfl ?_
  repeat ((with_reducible refine RK.id_ ?_); (refine RK.cons_ ?_; (refine RK.k_ 0 rfl ?_; refine .p rfl rfl rfl (by exact trivial) ?_)))
  refine .call (trim_spec hb hlb) rfl rfl rfl rfl ?_
  generalize dig (nv a) = x at *
  generalize dig (nv b) = y at *
  repeat (first | (with_reducible refine W.id_ ?_); (first | refine W.sreg ?_ | refine W.seq ?_ | refine W.blockS ?_) | (with_reducible refine RK.id_ ?_); (first | refine RK.cons_ ?_; (refine RK.k_ 0 rfl ?_; refine .p rfl rfl rfl (by exact trivial) ?_) | refine RK.nilT rfl ?_ rfl))
  refine W.cond_dec rfl (fun h => ?_) (fun h => ?_)
  · repeat (first | (with_reducible refine W.id_ ?_); (refine W.sreg ?_) | (with_reducible refine RK.id_ ?_); (first | refine RK.cons_ ?_; (refine RK.k_ 0 rfl ?_; refine .p rfl rfl rfl (by exact trivial) ?_) | refine RK.nilT rfl ?_ rfl))
    refine W.ret ⟨_, rfl, .eq (by repeat (exact .int _ _)) ?_, rfl⟩
    rw [sgn, if_pos (lt2 (by omega))]
  repeat (first | (with_reducible refine W.id_ ?_); (refine W.sreg ?_) | (with_reducible refine RK.id_ ?_); (first | refine RK.cons_ ?_; (refine RK.k_ 0 rfl ?_; refine .p rfl rfl rfl (by exact trivial) ?_) | refine RK.nilT rfl ?_ rfl))
  refine W.cond_dec rfl (fun h2 => ?_) (fun h2 => ?_)
  · repeat (first | (with_reducible refine W.id_ ?_); (refine W.sreg ?_) | (with_reducible refine RK.id_ ?_); (first | refine RK.cons_ ?_; (refine RK.k_ 0 rfl ?_; refine .p rfl rfl rfl (by exact trivial) ?_) | refine RK.nilT rfl ?_ rfl))
    refine W.ret ⟨_, rfl, .eq (by repeat (exact .int _ _)) ?_, rfl⟩
    have := lt1 (by omega)
    rw [sgn, if_neg (by omega), if_pos this]
  have hxy : x.length = y.length := by omega
  repeat (first | (with_reducible refine W.id_ ?_); (first | refine W.sreg ?_ | refine W.seq ?_ | refine W.skipT rfl ?_) | (with_reducible refine RK.id_ ?_); (first | refine RK.cons_ ?_; (first | refine RK.k_ 0 rfl ?_; refine .p rfl rfl rfl (by exact trivial) ?_ | refine RK.k_ 1 rfl ?_; (refine .pa rfl rfl rfl rfl rfl rfl (by omega) (by omega) ?_)) | refine RK.nilT rfl ?_ rfl))
  refine W.loopE (fun k => k ≤ x.length ∧ ∀ j, k ≤ j → j < x.length → x.getD j 0 = y.getD j 0) (fun k => k = 0 ∧ ∀ j, j < x.length → x.getD j 0 = y.getD j 0) (fun k => k) (fun k => [(5, I ((k : Int) - 1)), (0, eN x), (1, eN y)]) (fun _ => []) (x.length) rfl ?_ ?_ ?_ ?_
  · exact ⟨Nat.le_refl _, fun j h1 h2 => by omega⟩
  · refine .wk ?_
    repeat (first | exact trivial | refine ⟨⟨_, rfl, .refl _⟩, ?_⟩)
  · rintro k ⟨hk, he⟩
    repeat (first | (with_reducible refine W.id_ ?_); (first | refine W.sreg ?_ | refine W.seq ?_) | (with_reducible refine RK.id_ ?_); (first | refine RK.cons_ ?_; (refine RK.k_ 0 rfl ?_; refine .p rfl rfl rfl (by exact trivial) ?_) | refine RK.nilT rfl ?_ rfl))
    refine W.cond_dec rfl (fun h3 => ?_) (fun h3 => ?_)
    · have hk1 : ((k : Int) - 1).toNat = k - 1 := by omega
      repeat (first | (with_reducible refine W.id_ ?_); (first | refine W.sdraw mixed (by kernel_rfl) (by kernel_rfl) ?_ | refine W.seq ?_ | refine W.blockS ?_ | refine W.skipT rfl ?_) | (with_reducible refine RK.id_ ?_); (first | refine RK.cons_ ?_; (first | refine RK.k_ 0 rfl ?_; refine .p rfl rfl rfl (by exact trivial) ?_ | refine RK.k_ 4 rfl ?_; (refine .ix _ (s := 1) rfl rfl rfl rfl rfl rfl rfl (by exact (Int.toNat_of_nonneg (by omega)).symm) (by omega) ?_) | refine RK.k_ 5 rfl ?_; (refine .ld _ rfl rfl rfl rfl rfl rfl (by exact n_get (by omega) rfl) ?_)) | refine RK.nilT rfl ?_ rfl))
      rw [hk1]
      refine W.cond_dec rfl (fun h4 => ?_) (fun h4 => ?_)
      · repeat (first | (with_reducible refine W.id_ ?_); (refine W.sreg ?_) | (with_reducible refine RK.id_ ?_); (first | refine RK.cons_ ?_; (refine RK.k_ 0 rfl ?_; refine .p rfl rfl rfl (by exact trivial) ?_) | refine RK.nilT rfl ?_ rfl))
        refine W.ret ⟨_, rfl, .eq (by repeat (exact .int _ _)) ?_, rfl⟩
        have := cmp_digits ka kb hxy (show k - 1 < x.length by omega) (fun j h5 h6 => he j (by omega) h6) h4
        rw [sgn, if_pos (by omega)]
      repeat (first | (with_reducible refine W.id_ ?_); (first | refine W.sdraw mixed (by kernel_rfl) (by kernel_rfl) ?_ | refine W.skipT rfl ?_) | (with_reducible refine RK.id_ ?_); (first | refine RK.cons_ ?_; (first | refine RK.k_ 0 rfl ?_; refine .p rfl rfl rfl (by exact trivial) ?_ | refine RK.k_ 4 rfl ?_; (refine .ix _ (s := 1) rfl rfl rfl rfl rfl rfl rfl (by exact (Int.toNat_of_nonneg (by omega)).symm) (by omega) ?_) | refine RK.k_ 5 rfl ?_; (refine .ld _ rfl rfl rfl rfl rfl rfl (by exact n_get (by omega) rfl) ?_)) | refine RK.nilT rfl ?_ rfl))
      rw [hk1]
      refine W.cond_dec rfl (fun h5 => ?_) (fun h5 => ?_)
      · repeat (first | (with_reducible refine W.id_ ?_); (refine W.sreg ?_) | (with_reducible refine RK.id_ ?_); (first | refine RK.cons_ ?_; (refine RK.k_ 0 rfl ?_; refine .p rfl rfl rfl (by exact trivial) ?_) | refine RK.nilT rfl ?_ rfl))
        refine W.ret ⟨_, rfl, .eq (by repeat (exact .int _ _)) ?_, rfl⟩
        have := cmp_digits kb ka hxy.symm (show k - 1 < y.length by omega) (fun j h5 h6 => (he j (by omega) (by omega)).symm) h5
        rw [sgn, if_neg (by omega), if_pos (by omega)]
      repeat (first | (with_reducible refine W.id_ ?_); (first | refine W.reg ?_ | refine W.skipT rfl ?_) | (with_reducible refine RK.id_ ?_); (refine RK.cons_ ?_; (first | refine RK.k_ 0 rfl ?_; refine .p rfl rfl rfl (by exact trivial) ?_ | refine RK.k_ 1 rfl ?_; (refine .pa rfl rfl rfl rfl rfl rfl (by omega) (by omega) ?_))))
      refine .nil ?_ rfl
      refine ⟨k - 1, by show k - 1 < k; omega, ⟨by omega, fun j h6 h7 => ?_⟩, .wk ?_⟩
      · rcases Nat.lt_or_ge j k with h8 | h8
        · obtain rfl : j = k - 1 := by omega
          omega
        · exact he j h8 h7
      · repeat (first | exact trivial | refine ⟨⟨_, rfl, .refl _⟩, ?_⟩ | refine ⟨⟨_, rfl, .of_eq (congrArg (D.int _) (by omega))⟩, ?_⟩)
    · refine W.exit ⟨k, ⟨by omega, fun j h6 => he j (by omega) h6⟩, .wk ?_⟩
      repeat (first | exact trivial | refine ⟨⟨_, rfl, .refl _⟩, ?_⟩)
  · rintro k ⟨hk, he⟩
    repeat (first | (with_reducible refine W.id_ ?_); (refine W.sreg ?_) | (with_reducible refine RK.id_ ?_); (first | refine RK.cons_ ?_; (refine RK.k_ 0 rfl ?_; refine .p rfl rfl rfl (by exact trivial) ?_) | refine RK.nilT rfl ?_ rfl))
    refine W.ret ⟨_, rfl, .eq (by repeat (exact .int _ _)) ?_, rfl⟩
    have := cmp_le ka kb hxy he
    rw [sgn, if_neg (by omega), if_neg (by omega)]
end Go.Proofs.Ytbdefjbekbbldaa

namespace Go.Proofs.Ytbdefjbekbbldaa
open Go.V Go.N
set_option maxHeartbeats 4000000
set_option maxRecDepth 20000

abbrev U (n : Int) : D := .int .u32 n
def d32 (x : Int) : Prop := 0 ≤ x ∧ x < 4294967296

/- math/bits.Add32 -/
theorem Add32_spec {x y c : Int} (hx : d32 x) (hy : d32 y) (hc : d32 c) : PureFn Try.prog 92 [U x, U y, U c] (.tup [U ((x + y + c) % 4294967296), U ((x + y + c) / 4294967296)]) := by
  unfold d32 at hx hy hc
  refine .of_W (fn := Try.f92) (by repeat (first | exact trivial | refine ⟨(by repeat (exact .int _ _)), ?_⟩)) Try.call92 Try.func92 rfl rfl ?_
  repeat (first | (with_reducible refine W.id_ ?_); (refine W.sreg ?_) | (with_reducible refine RK.id_ ?_); (first | refine RK.cons_ ?_; (first | refine RK.k_ 0 rfl ?_; refine .p rfl rfl rfl (by exact trivial) ?_ | refine RK.k_ 1 rfl ?_; (refine .pau rfl rfl rfl rfl rfl rfl (by omega) (by omega) ?_) | refine RK.k_ 2 rfl ?_; (first | refine .cvu rfl rfl rfl rfl rfl rfl (by omega) (by omega) ?_ | refine .cv32 rfl rfl rfl rfl rfl rfl (by omega) (by omega) ?_ | refine .cvm rfl rfl rfl rfl rfl rfl ?_) | refine RK.k_ 3 rfl ?_; (refine .shr 4294967296 rfl rfl rfl rfl rfl (by omega) rfl ?_)) | refine RK.nilT rfl ?_ rfl))
  exact .ret ⟨_, rfl, .pure (.tup (PureL.mem ⟨.int _ _, .int _ _, trivial⟩)) (.refl _), rfl⟩

theorem mul_lt {x y : Int} (hx : d32 x) (hy : d32 y) : 0 ≤ x * y ∧ x * y ≤ 18446744065119617025 := by
  obtain ⟨h1, h2⟩ := hx
  obtain ⟨h3, h4⟩ := hy
  refine ⟨Int.mul_nonneg h1 h3, ?_⟩
  calc x * y ≤ 4294967295 * y := Int.mul_le_mul_of_nonneg_right (by omega) h3
    _ ≤ 4294967295 * 4294967295 := Int.mul_le_mul_of_nonneg_left (by omega) (by decide)
    _ = 18446744065119617025 := rfl

/- math/bits.Mul32 -/
theorem Mul32_spec {x y : Int} (hx : d32 x) (hy : d32 y) : PureFn Try.prog 91 [U x, U y] (.tup [U (x * y / 4294967296), U (x * y % 4294967296)]) := by
  have hm := mul_lt hx hy
  unfold d32 at hx hy
  refine .of_W (fn := Try.f91) (by repeat (first | exact trivial | refine ⟨(by repeat (exact .int _ _)), ?_⟩)) Try.call91 Try.func91 rfl rfl ?_
  repeat (first | (with_reducible refine W.id_ ?_); (refine W.sreg ?_) | (with_reducible refine RK.id_ ?_); (first | refine RK.cons_ ?_; (first | refine RK.k_ 0 rfl ?_; refine .p rfl rfl rfl (by exact trivial) ?_ | refine RK.k_ 1 rfl ?_; (refine .pau rfl rfl rfl rfl rfl rfl (by omega) (by omega) ?_) | refine RK.k_ 2 rfl ?_; (first | refine .cvu rfl rfl rfl rfl rfl rfl (by omega) (by omega) ?_ | refine .cv32 rfl rfl rfl rfl rfl rfl (by omega) (by omega) ?_ | refine .cvm rfl rfl rfl rfl rfl rfl ?_) | refine RK.k_ 3 rfl ?_; (refine .shr 4294967296 rfl rfl rfl rfl rfl (by omega) rfl ?_)) | refine RK.nilT rfl ?_ rfl))
  exact .ret ⟨_, rfl, .pure (.tup (PureL.mem ⟨.int _ _, .int _ _, trivial⟩)) (.refl _), rfl⟩

theorem ofInt_wrap (v : BitVec 32) : BitVec.ofInt 32 (IntKind.u32.wrap (v.toNat : Int)) = v := by
  rw [wrap32 (by omega) (by have := v.isLt; omega)]
  apply BitVec.eq_of_toNat_eq
  rw [ofInt_nat (by omega) (by have := v.isLt; omega)]
  simp

theorem msb_of {x : Int} (h : d32 x) : (BitVec.ofInt 32 x).msb = decide (2147483648 ≤ x) := by
  unfold d32 at h
  rw [BitVec.msb_eq_decide, ofInt_nat (by omega) (by omega)]
  exact decide_eq_decide.2 (by omega)

theorem borrow_bit {x y c : Int} (hx : d32 x) (hy : d32 y) (hc : c = 0 ∨ c = 1) :
    IntKind.u32.wrap ((BitVec.ofInt 32 (IntKind.u32.wrap ((BitVec.ofInt 32 (IntKind.u32.wrap ((BitVec.ofInt 32 (IntKind.u32.max) ^^^ BitVec.ofInt 32 x).toNat)) &&& BitVec.ofInt 32 y).toNat)) |||
      BitVec.ofInt 32 (IntKind.u32.wrap ((BitVec.ofInt 32 (IntKind.u32.wrap ((BitVec.ofInt 32 (IntKind.u32.max) ^^^ BitVec.ofInt 32 (IntKind.u32.wrap ((BitVec.ofInt 32 x ^^^ BitVec.ofInt 32 y).toNat))).toNat)) &&& BitVec.ofInt 32 (((x - y) % 4294967296 - c) % 4294967296)).toNat))).toNat) / 2147483648 = if x < y + c then 1 else 0 := by
  simp only [ofInt_wrap]
  have hd : d32 (((x - y) % 4294967296 - c) % 4294967296) := by unfold d32; omega
  have hm : (BitVec.ofInt 32 (IntKind.u32.max)).msb = true := by decide
  have h1 := msb_of hx
  have h2 := msb_of hy
  have h3 := msb_of hd
  generalize hV : ((BitVec.ofInt 32 (IntKind.u32.max) ^^^ BitVec.ofInt 32 x) &&& BitVec.ofInt 32 y ||| (BitVec.ofInt 32 (IntKind.u32.max) ^^^ (BitVec.ofInt 32 x ^^^ BitVec.ofInt 32 y)) &&& BitVec.ofInt 32 (((x - y) % 4294967296 - c) % 4294967296)) = V
  have hb : V.msb = decide (x < y + c) := by
    rw [← hV]
    simp only [BitVec.msb_or, BitVec.msb_and, BitVec.msb_xor, hm, h1, h2, h3]
    unfold d32 at hx hy
    by_cases ha : 2147483648 ≤ x <;> by_cases hbb : 2147483648 ≤ y <;> by_cases hcc : 2147483648 ≤ ((x - y) % 4294967296 - c) % 4294967296 <;> simp only [ha, hbb, hcc, decide_true, decide_false] <;> simp <;> omega
  rw [wrap32 (by omega) (by have := V.isLt; omega)]
  rw [BitVec.msb_eq_decide] at hb
  have hlt := V.isLt
  split
  · rename_i h
    rw [decide_eq_true h, decide_eq_true_iff] at hb
    omega
  · rename_i h
    rw [decide_eq_false h, decide_eq_false_iff_not] at hb
    omega

/- math/bits.Sub32 -/
theorem Sub32_spec {x y c : Int} (hx : d32 x) (hy : d32 y) (hc : c = 0 ∨ c = 1) : PureFn Try.prog 96 [U x, U y, U c] (.tup [U ((x - y - c) % 4294967296), U (if x < y + c then 1 else 0)]) := by
  have hb := borrow_bit hx hy hc
  unfold d32 at hx hy
  refine .of_W (fn := Try.f96) (by repeat (first | exact trivial | refine ⟨(by repeat (exact .int _ _)), ?_⟩)) Try.call96 Try.func96 rfl rfl ?_
  repeat (first | (with_reducible refine W.id_ ?_); (refine W.sreg ?_) | (with_reducible refine RK.id_ ?_); (first | refine RK.cons_ ?_; (first | refine RK.k_ 0 rfl ?_; refine .p rfl rfl rfl (by exact trivial) ?_ | refine RK.k_ 1 rfl ?_; (refine .pm32 rfl rfl rfl rfl rfl rfl ?_)) | refine RK.nilT rfl ?_ rfl))
  iterate 10 refine .p rfl rfl rfl trivial ?_
  repeat ((with_reducible refine RK.id_ ?_); (first | refine RK.cons_ ?_; (first | refine RK.k_ 0 rfl ?_; refine .p rfl rfl rfl (by exact trivial) ?_ | refine RK.k_ 3 rfl ?_; (refine .shr 2147483648 rfl rfl rfl rfl rfl (by omega) rfl ?_)) | refine RK.nilT rfl ?_ rfl))
  refine .ret ⟨_, rfl, .eq (.tup (PureL.mem ⟨.int _ _, .int _ _, trivial⟩)) ?_, rfl⟩
  rw [← hb, show ((x - y - c) % 4294967296) = (((x - y) % 4294967296 - c) % 4294967296) by omega]
  rfl
end Go.Proofs.Ytbdefjbekbbldaa

namespace Go.Proofs.Ytbdefjbekbbldaa
open Go.V Go.N
set_option maxHeartbeats 4000000
set_option maxRecDepth 20000

theorem rep_U (m : Nat) : repR m [D.int .u32 0] = (List.replicate m (0 : Int)).map U := rep_ints _ _ _
theorem okN_zeros (m : Nat) : okN (List.replicate m (0 : Int)) := fun d h => by
  rw [(List.mem_replicate.1 h).2]; omega

/- natural.Add$1 -/
theorem Add1_spec {x y c : Int} {H : Hp} {b : Nat} (hx : d32 x) (hy : d32 y) (hc : d32 c) (hb : H[b]? = some (some (.cells [U c]))) :
    FnTo Try.prog 95 [U x, U y, .ptr b 0] H fun d H' => d = U ((x + y + c) % 4294967296) ∧ H' = H.set b (some (.cells [U ((x + y + c) / 4294967296)])) := by
  refine .of_W (fn := Try.f95) Try.call95 Try.func95 rfl (Nat.le_of_ble_eq_true rfl) ?_
  repeat (first | (with_reducible refine W.id_ ?_); (refine W.sreg ?_) | (with_reducible refine RK.id_ ?_); (first | refine RK.cons_ ?_; (first | refine RK.k_ 0 rfl ?_; refine .p rfl rfl rfl (by exact trivial) ?_ | refine RK.k_ 5 rfl ?_; (refine .ldl rfl rfl rfl rfl rfl rfl rfl (by assumption) (by rfl) ?_)) | refine RK.nilT rfl ?_ rfl))
  refine .call (Add32_spec hx hy hc) rfl rfl rfl rfl ?_
  repeat (first | (with_reducible refine W.id_ ?_); (refine W.sreg ?_) | (with_reducible refine RK.id_ ?_); (first | refine RK.cons_ ?_; (first | refine RK.k_ 0 rfl ?_; refine .p rfl rfl rfl (by exact trivial) ?_ | refine RK.k_ 6 rfl ?_; (refine .store rfl rfl rfl rfl rfl rfl rfl (by assumption) (by rfl) (by exact setR_eq _ (lt_of_getElem? (by assumption))) ?_)) | refine RK.nilT rfl ?_ rfl))
  exact .ret ⟨_, rfl, rfl, rfl⟩

theorem take_all_nv {q : List Int} {i : Nat} (h : q.length ≤ i) : nv (q.take i) = nv q := by rw [List.take_of_length_le h]

structure AddSt (p q os : List Int) (c : Int) (i : Nat) : Prop where
  len : os.length = p.length + 1
  ok : okN os
  cc : c = 0 ∨ c = 1
  eq : nv (os.take i) + B32 ^ i * c.toNat = nv (p.take i) + nv (q.take i)

theorem AddSt.step {p q os : List Int} {c : Int} {i : Nat} (h : AddSt p q os c i) (hp : okN p) (hq : okN q) (hi : i < p.length) {y : Int} (hy : y = q.getD i 0) :
    AddSt p q (os.set i ((p.getD i 0 + y + c) % 4294967296)) ((p.getD i 0 + y + c) / 4294967296) (i + 1) := by
  have h1 := hp.at i
  have h2 := hq.at i
  have h3 := h.cc
  rw [← hy] at h2
  have h4 := h.len
  refine ⟨by simpa using h.len, h.ok.set i (by omega), by omega, ?_⟩
  have e1 : nv ((os.set i ((p.getD i 0 + y + c) % 4294967296)).take (i + 1)) = nv (os.take i) + B32 ^ i * ((p.getD i 0 + y + c) % 4294967296).toNat := by
    rw [nv_take_succ (by simp; omega), List.take_set_of_le (Nat.le_refl i), getD_set, if_pos ⟨rfl, by omega⟩]
  have e2 : nv (q.take (i + 1)) = nv (q.take i) + B32 ^ i * y.toNat := by
    rcases Nat.lt_or_ge i q.length with h5 | h5
    · rw [nv_take_succ h5, hy]
    · rw [take_all_nv h5, take_all_nv (by omega), hy]
      simp [h5]
  rw [e1, e2, nv_take_succ hi, Nat.pow_succ]
  have h6 := h.eq
  have h7 : ((p.getD i 0 + y + c) % 4294967296).toNat + B32 * ((p.getD i 0 + y + c) / 4294967296).toNat = (p.getD i 0).toNat + y.toNat + c.toNat := by unfold B32; omega
  have h8 : B32 ^ i * ((p.getD i 0 + y + c) % 4294967296).toNat + B32 ^ i * B32 * ((p.getD i 0 + y + c) / 4294967296).toNat = B32 ^ i * (p.getD i 0).toNat + B32 ^ i * y.toNat + B32 ^ i * c.toNat := by
    rw [Nat.mul_assoc, ← Nat.mul_add, h7, Nat.mul_add, Nat.mul_add]
  omega

theorem AddSt.done {p q os : List Int} {c : Int} (h : AddSt p q os c p.length) (hq : q.length ≤ p.length) : nv (os.set p.length c) = nv p + nv q := by
  have hl := h.len
  have h1 := nv_set (a := os) (i := p.length) (v := c) (by omega)
  have h2 := nv_take_succ (a := os) (i := p.length) (by omega)
  have h3 : nv (os.take (p.length + 1)) = nv os := take_all_nv (by omega)
  have h4 := h.eq
  have h5 : nv (p.take p.length) = nv p := take_all_nv (Nat.le_refl _)
  have h6 : nv (q.take p.length) = nv q := take_all_nv hq
  rw [h5, h6] at h4
  rw [h3] at h2
  generalize B32 ^ p.length * (os.getD p.length 0).toNat = X at *
  generalize B32 ^ p.length * c.toNat = Y at *
  omega

/- natural.Add -/
theorem Nadd_spec {a b : List Int} (ha : okN a) (hb : okN b) (hla : a.length ≤ 100000000000) (hlb : b.length ≤ 100000000000) : PureFn Try.prog 71 [eN a, eN b] (eN (dig (nv a + nv b))) := by
  have ka := okN_dig (nv a)
  have kb := okN_dig (nv b)
  have ea := nv_dig (nv a)
  have eb := nv_dig (nv b)
  have la : (dig (nv a)).length ≤ a.length := dig_len (nv_lt ha)
  have lb : (dig (nv b)).length ≤ b.length := dig_len (nv_lt hb)
  refine .of_W (fn := Try.f71) (by repeat (first | exact trivial | refine ⟨(by repeat (exact eN_pure _)), ?_⟩)) Try.call71 Try.func71 rfl rfl ?_
  repeat (first | (with_reducible refine W.id_ ?_); (refine W.sreg ?_) | (with_reducible refine RK.id_ ?_); (first | refine RK.cons_ ?_; (refine RK.k_ 0 rfl ?_; refine .p rfl rfl rfl (by exact trivial) ?_) | refine RK.nilT rfl ?_ rfl))
  refine .call (trim_spec ha (by omega)) rfl rfl rfl rfl ?_
  repeat ((with_reducible refine RK.id_ ?_); (refine RK.cons_ ?_; (refine RK.k_ 0 rfl ?_; refine .p rfl rfl rfl (by exact trivial) ?_)))
  refine .call (trim_spec hb (by omega)) rfl rfl rfl rfl ?_
  generalize dig (nv a) = x at *
  generalize dig (nv b) = y at *
  rw [← ea, ← eb]
  clear ea eb
  repeat (first | (with_reducible refine W.id_ ?_); (first | refine W.sreg ?_ | refine W.seq ?_) | (with_reducible refine RK.id_ ?_); (first | refine RK.cons_ ?_; (refine RK.k_ 0 rfl ?_; refine .p rfl rfl rfl (by exact trivial) ?_) | refine RK.nilT rfl ?_ rfl))
  obtain ⟨p, q, hp, hq, kp, kq, hpl, hpq, hsum⟩ : ∃ p q : List Int, p = (if x.length < y.length then y else x) ∧ q = (if x.length < y.length then x else y) ∧ okN p ∧ okN q ∧ p.length ≤ 100000000000 ∧ q.length ≤ p.length ∧ nv x + nv y = nv p + nv q := by
    by_cases h : x.length < y.length
    · exact ⟨y, x, by rw [if_pos h], by rw [if_pos h], kb, ka, by omega, by omega, Nat.add_comm _ _⟩
    · exact ⟨x, y, by rw [if_neg h], by rw [if_neg h], ka, kb, by omega, by omega, rfl⟩
  refine .join [(0, eN p), (1, eN q)] [] ?_ ?_
  · refine W.cond_dec rfl (fun h => ?_) (fun h => ?_)
    · repeat (first | (with_reducible refine W.id_ ?_); (refine W.reg ?_) | (with_reducible refine RK.id_ ?_); (refine RK.cons_ ?_; (refine RK.k_ 0 rfl ?_; refine .p rfl rfl rfl (by exact trivial) ?_)))
      refine .nil ?_ rfl
      refine .wk ?_
      have h' : x.length < y.length := by omega
      rw [hp, hq, if_pos h', if_pos h']
      repeat (first | exact trivial | refine ⟨⟨_, rfl, .refl _⟩, ?_⟩)
    · refine .skip (.wk ?_)
      have h' : ¬ x.length < y.length := by omega
      rw [hp, hq, if_neg h', if_neg h']
      repeat (first | exact trivial | refine ⟨⟨_, rfl, .refl _⟩, ?_⟩)
  rw [hsum]
  clear hsum hp hq ka kb la lb
  repeat (first | (with_reducible refine W.id_ ?_); (refine W.sreg ?_) | (with_reducible refine RK.id_ ?_); (refine RK.cons_ ?_; (first | refine RK.k_ 0 rfl ?_; refine .p rfl rfl rfl (by exact trivial) ?_ | refine RK.k_ 1 rfl ?_; (refine .pa rfl rfl rfl rfl rfl rfl (by omega) (by omega) ?_))))
  refine .make 0 (p.length + 1) 1 4 ((List.replicate (p.length + 1) 0).map U) rfl rfl rfl rfl rfl rfl rfl rfl rfl rfl (by omega) (by rfl) (by omega) (by omega) ?_ (pushR_eq _ _) ?_
  · exact rep_U _
  repeat (first | (with_reducible refine W.id_ ?_); (first | refine W.sreg ?_ | refine W.seq ?_) | (with_reducible refine RK.id_ ?_); (first | refine RK.cons_ ?_; (first | refine RK.k_ 0 rfl ?_; refine .p rfl rfl rfl (by exact trivial) ?_ | refine RK.k_ 6 rfl ?_; (first | refine .alloc _ rfl rfl rfl rfl rfl rfl rfl ?_ | refine .store rfl rfl rfl rfl rfl rfl rfl (by rfl) (by rfl) (by rfl) ?_)) | refine RK.nilT rfl ?_ rfl))
  refine .rangeS (q.length) (fun i s => [(5, .live 0 0 (p.length + 1) (p.length + 1) 1), (7, .fn 95 [.ptr 1 0]), (0, eN p), (1, eN q), (6, .ptr 1 0), (27, eN q)]) (fun i s => [some (.cells (s.1.map U)), some (.cells [U s.2])]) (fun i s => AddSt p q s.1 s.2 i) ((List.replicate (p.length + 1) 0, 0)) rfl rfl rfl rfl rfl rfl rfl rfl rfl rfl (by omega) ?_ ?_ (fun _ _ => rfl) (fun i s hi Ci => ?_) (fun s Ci => ?_)
  · exact ⟨by simp, okN_zeros _, .inl rfl, by simp [nv]⟩
  · refine .heap ?_ rfl
    repeat (first | exact trivial | refine ⟨⟨_, rfl, .refl _⟩, ?_⟩)
  · have hl := Ci.len
    have hc := Ci.cc
    have h1 := kp.at i
    have h2 := kq.at i
    repeat (first | (with_reducible refine W.id_ ?_); (first | refine W.sreg ?_ | refine W.reg ?_) | (with_reducible refine RK.id_ ?_); (first | refine RK.cons_ ?_; (first | refine RK.k_ 0 rfl ?_; refine .p rfl rfl rfl (by exact trivial) ?_ | refine RK.k_ 4 rfl ?_; (refine .ix _ (s := 1) rfl rfl rfl rfl rfl rfl rfl (by rfl) (by omega) ?_) | refine RK.k_ 5 rfl ?_; (refine .ld _ rfl rfl rfl rfl rfl rfl (by exact n_get (by omega) rfl) ?_)) | refine RK.nilT rfl ?_ rfl))
    refine .callC (Add1_spec (b := 1) (c := s.2) h1 h2 (by unfold d32; omega) rfl) rfl rfl rfl rfl rfl rfl ?_; rintro _ _ ⟨rfl, rfl⟩
    repeat ((with_reducible refine RK.id_ ?_); (refine RK.cons_ ?_; (first | refine RK.k_ 4 rfl ?_; (refine .ixl _ _ (s := 1) rfl rfl rfl rfl rfl rfl rfl (by rfl) (by omega) rfl ?_) | refine RK.k_ 6 rfl ?_; (refine .store rfl rfl rfl rfl rfl rfl rfl (by rfl) (by exact over_map0 rfl (by omega)) (by rfl) ?_))))
    refine .nil ?_ rfl
    refine ⟨(s.1.set i ((p.getD i 0 + q.getD i 0 + s.2) % 4294967296), (p.getD i 0 + q.getD i 0 + s.2) / 4294967296), Ci.step kp kq (by omega) rfl, .heap ?_ rfl⟩
    repeat (first | exact trivial | refine ⟨⟨_, rfl, .refl _⟩, ?_⟩)
  show W _ _ _ _ _ _ _
  repeat (first | (with_reducible refine W.id_ ?_); (first | refine W.sreg ?_ | refine W.seq ?_) | (with_reducible refine RK.id_ ?_); (first | refine RK.cons_ ?_; (refine RK.k_ 0 rfl ?_; refine .p rfl rfl rfl (by exact trivial) ?_) | refine RK.nilT rfl ?_ rfl))
  refine W.loopE (fun z => q.length ≤ z.1 ∧ z.1 ≤ p.length ∧ AddSt p q z.2.1 z.2.2 z.1) (fun z => z.1 = p.length ∧ AddSt p q z.2.1 z.2.2 p.length) (fun z => p.length - z.1) (fun (z : Nat × List Int × Int) => [(10, I z.1), (5, .live 0 0 (p.length + 1) (p.length + 1) 1), (7, .fn 95 [.ptr 1 0]), (0, eN p), (6, .ptr 1 0)]) (fun z => [some (.cells (z.2.1.map U)), some (.cells [U z.2.2])]) ((q.length, s.1, s.2)) rfl ?_ ?_ ?_ ?_
  · exact ⟨Nat.le_refl _, hpq, Ci⟩
  · refine .heap ?_ rfl
    repeat (first | exact trivial | refine ⟨⟨_, rfl, .refl _⟩, ?_⟩)
  · rintro ⟨i, os, c⟩ ⟨h1, h2, h3⟩
    have h1 : q.length ≤ i := h1
    have h2 : i ≤ p.length := h2
    have h3 : AddSt p q os c i := h3
    have hl := h3.len
    have hc := h3.cc
    have hd := kp.at i
    dsimp only
    repeat (first | (with_reducible refine W.id_ ?_); (first | refine W.sreg ?_ | refine W.seq ?_) | (with_reducible refine RK.id_ ?_); (first | refine RK.cons_ ?_; (refine RK.k_ 0 rfl ?_; refine .p rfl rfl rfl (by exact trivial) ?_) | refine RK.nilT rfl ?_ rfl))
    refine W.cond_dec rfl (fun h4 => ?_) (fun h4 => ?_)
    · have h4' : i < p.length := by simpa using h4
      repeat (first | (with_reducible refine W.id_ ?_); (first | refine W.reg ?_ | refine W.seq ?_ | refine W.blockR ?_ | refine W.skipT rfl ?_) | (with_reducible refine RK.id_ ?_); (refine RK.cons_ ?_; (first | refine RK.k_ 0 rfl ?_; refine .p rfl rfl rfl (by exact trivial) ?_ | refine RK.k_ 4 rfl ?_; (refine .ix _ (s := 1) rfl rfl rfl rfl rfl rfl rfl (by rfl) (by omega) ?_) | refine RK.k_ 5 rfl ?_; (refine .ld _ rfl rfl rfl rfl rfl rfl (by exact n_get (by omega) rfl) ?_))))
      refine .callC (Add1_spec (b := 1) (c := c) hd (y := 0) (by unfold d32; omega) (by unfold d32; omega) rfl) rfl rfl rfl rfl rfl rfl ?_; rintro _ _ ⟨rfl, rfl⟩
      repeat (first | (with_reducible refine W.id_ ?_); (refine W.reg ?_) | (with_reducible refine RK.id_ ?_); (first | refine RK.cons_ ?_; (first | refine RK.k_ 0 rfl ?_; refine .p rfl rfl rfl (by exact trivial) ?_ | refine RK.k_ 1 rfl ?_; (refine .pa rfl rfl rfl rfl rfl rfl (by omega) (by omega) ?_) | refine RK.k_ 4 rfl ?_; (refine .ixl _ _ (s := 1) rfl rfl rfl rfl rfl rfl rfl (by rfl) (by omega) rfl ?_) | refine RK.k_ 6 rfl ?_; (refine .store rfl rfl rfl rfl rfl rfl rfl (by rfl) (by exact over_map0 rfl (by omega)) (by rfl) ?_)) | refine RK.nilT rfl ?_ rfl))
      refine .nil ?_ rfl
      refine ⟨(i + 1, os.set i ((p.getD i 0 + 0 + c) % 4294967296), (p.getD i 0 + 0 + c) / 4294967296), by show p.length - (i + 1) < p.length - i; omega, ⟨by show q.length ≤ i + 1; omega, by show i + 1 ≤ p.length; omega, h3.step kp kq h4' (by simp [h1])⟩, .heap ?_ rfl⟩
      repeat (first | exact trivial | refine ⟨⟨_, rfl, .refl _⟩, ?_⟩)
    · have h4' : i = p.length := by have : ¬ ((i : Int) < p.length) := h4; omega
      refine W.exit ⟨(i, os, c), ⟨h4', by subst h4'; exact h3⟩, .heap ?_ rfl⟩
      repeat (first | exact trivial | refine ⟨⟨_, rfl, .refl _⟩, ?_⟩)
  · rintro ⟨i, os, c⟩ ⟨h1, h3⟩
    have h1 : i = p.length := h1
    have h3 : AddSt p q os c p.length := h3
    have hl := h3.len
    have hc := h3.cc
    dsimp only
    repeat (first | (with_reducible refine W.id_ ?_); (refine W.sreg ?_) | (with_reducible refine RK.id_ ?_); (first | refine RK.cons_ ?_; (first | refine RK.k_ 0 rfl ?_; refine .p rfl rfl rfl (by exact trivial) ?_ | refine RK.k_ 4 rfl ?_; (refine .ixl _ _ (s := 1) rfl rfl rfl rfl rfl rfl rfl (by rfl) (by omega) rfl ?_) | refine RK.k_ 5 rfl ?_; (refine .ldl rfl rfl rfl rfl rfl rfl rfl (by rfl) (by rfl) ?_) | refine RK.k_ 6 rfl ?_; (refine .store rfl rfl rfl rfl rfl rfl rfl (by rfl) (by exact over_map0 rfl (by omega)) (by rfl) ?_)) | refine RK.nilT rfl ?_ rfl))
    refine RK.to (F' := [(67, eN (os.set p.length c))]) (H' := []) (.frz ?_) ?_
    · exact ⟨⟨_, rfl, frz_map rfl (fun _ _ => .int _ _) (by simp [hl])⟩, trivial⟩
    have ho : okN (os.set p.length c) := h3.ok.set _ (by omega)
    have hv := h3.done hpq
    have ht := trim_spec ho (by simp [hl]; omega)
    rw [hv] at ht
    refine .call (ht) rfl rfl rfl rfl ?_
    repeat ((with_reducible refine RK.id_ ?_); (first | refine RK.cons_ ?_; (refine RK.k_ 0 rfl ?_; refine .p rfl rfl rfl (by exact trivial) ?_) | refine RK.nilT rfl ?_ rfl))
    refine W.ret ⟨_, rfl, .eq (by repeat (exact eN_pure _)) ?_, rfl⟩
    rfl
end Go.Proofs.Ytbdefjbekbbldaa

namespace Go.Proofs.Ytbdefjbekbbldaa
open Go.V Go.N
set_option maxHeartbeats 4000000
set_option maxRecDepth 20000

structure SubSt (p q os : List Int) (c : Int) (i : Nat) : Prop where
  len : os.length = p.length
  ok : okN os
  cc : c = 0 ∨ c = 1
  eq : nv (p.take i) + B32 ^ i * c.toNat = nv (q.take i) + nv (os.take i)

theorem SubSt.step {p q os : List Int} {c : Int} {i : Nat} (h : SubSt p q os c i) (hp : okN p) (hq : okN q) (hi : i < p.length) :
    SubSt p q (os.set i ((p.getD i 0 - q.getD i 0 - c) % 4294967296)) (if p.getD i 0 < q.getD i 0 + c then 1 else 0) (i + 1) := by
  have h1 := hp.at i
  have h2 := hq.at i
  have h3 := h.cc
  have h4 := h.len
  refine ⟨by simpa using h.len, h.ok.set i (by omega), by split <;> omega, ?_⟩
  have e1 : nv ((os.set i ((p.getD i 0 - q.getD i 0 - c) % 4294967296)).take (i + 1)) = nv (os.take i) + B32 ^ i * ((p.getD i 0 - q.getD i 0 - c) % 4294967296).toNat := by
    rw [nv_take_succ (by simp; omega), List.take_set_of_le (Nat.le_refl i), getD_set, if_pos ⟨rfl, by omega⟩]
  have e2 : nv (q.take (i + 1)) = nv (q.take i) + B32 ^ i * (q.getD i 0).toNat := by
    rcases Nat.lt_or_ge i q.length with h5 | h5
    · rw [nv_take_succ h5]
    · rw [take_all_nv h5, take_all_nv (by omega)]
      simp [h5]
  rw [e1, e2, nv_take_succ hi, Nat.pow_succ]
  have h6 := h.eq
  have h7 : (p.getD i 0).toNat + B32 * (if p.getD i 0 < q.getD i 0 + c then 1 else 0 : Int).toNat = (q.getD i 0).toNat + c.toNat + ((p.getD i 0 - q.getD i 0 - c) % 4294967296).toNat := by
    unfold B32
    generalize p.getD i 0 = x at *
    generalize q.getD i 0 = y at *
    split <;> omega
  have h8 : B32 ^ i * (p.getD i 0).toNat + B32 ^ i * B32 * (if p.getD i 0 < q.getD i 0 + c then 1 else 0 : Int).toNat = B32 ^ i * (q.getD i 0).toNat + B32 ^ i * c.toNat + B32 ^ i * ((p.getD i 0 - q.getD i 0 - c) % 4294967296).toNat := by
    rw [Nat.mul_assoc, ← Nat.mul_add, h7, Nat.mul_add, Nat.mul_add]
  omega

theorem SubSt.done {p q os : List Int} {c : Int} (h : SubSt p q os c p.length) (hq : q.length ≤ p.length) (hle : nv q ≤ nv p) (hp : okN p) : nv os = nv p - nv q := by
  have h4 := h.eq
  have hl := h.len
  have h5 : nv (p.take p.length) = nv p := take_all_nv (Nat.le_refl _)
  have h6 : nv (q.take p.length) = nv q := take_all_nv hq
  have h7 : nv (os.take p.length) = nv os := take_all_nv (by omega)
  rw [h5, h6, h7] at h4
  have h8 := nv_lt h.ok
  rw [hl] at h8
  rcases h.cc with h9 | h9
  · subst h9
    rw [show (0 : Int).toNat = 0 from rfl, Nat.mul_zero] at h4
    omega
  · subst h9
    rw [show (1 : Int).toNat = 1 from rfl, Nat.mul_one] at h4
    omega

theorem dig_len_mono {m n : Nat} (h : m ≤ n) : (dig m).length ≤ (dig n).length := by
  rcases Nat.lt_or_ge (dig n).length (dig m).length with h1 | h1
  · have := len_lt h1; omega
  · exact h1

theorem sgn_lt {x y : Nat} : sgn x y < 0 ↔ x < y := by
  unfold sgn
  split
  · constructor <;> intro h <;> omega
  · split <;> constructor <;> intro h <;> omega

/- natural.Sub -/
theorem Nsub_spec {a b : List Int} (ha : okN a) (hb : okN b) (hla : a.length ≤ 100000000000) (hlb : b.length ≤ 100000000000) : PureFn Try.prog 72 [eN a, eN b] (.tup [eN (dig (nv a - nv b)), .bool (decide (nv b ≤ nv a))]) := by
  have ka := okN_dig (nv a)
  have kb := okN_dig (nv b)
  have ea := nv_dig (nv a)
  have eb := nv_dig (nv b)
  have la : (dig (nv a)).length ≤ a.length := dig_len (nv_lt ha)
  have hm := @dig_len_mono (nv b) (nv a)
  refine .of_W (fn := Try.f72) (by repeat (first | exact trivial | refine ⟨(by repeat (exact eN_pure _)), ?_⟩)) Try.call72 Try.func72 rfl rfl ?_
  repeat (first | (with_reducible refine W.id_ ?_); (first | refine W.sreg ?_ | refine W.seq ?_) | (with_reducible refine RK.id_ ?_); (first | refine RK.cons_ ?_; (refine RK.k_ 0 rfl ?_; refine .p rfl rfl rfl (by exact trivial) ?_) | refine RK.nilT rfl ?_ rfl))
  refine .call (Ncmp_spec ha hb (by omega) (by omega)) rfl rfl rfl rfl ?_
  repeat ((with_reducible refine RK.id_ ?_); (first | refine RK.cons_ ?_; (refine RK.k_ 0 rfl ?_; refine .p rfl rfl rfl (by exact trivial) ?_) | refine RK.nilT rfl ?_ rfl))
  refine W.cond_dec rfl (fun h => ?_) (fun h => ?_)
  · have h := sgn_lt.1 h
    repeat (first | (with_reducible refine W.id_ ?_); (refine W.sreg ?_) | (with_reducible refine RK.id_ ?_); (first | refine RK.cons_ ?_; (refine RK.k_ 0 rfl ?_; refine .p rfl rfl rfl (by exact trivial) ?_) | refine RK.nilT rfl ?_ rfl))
    refine .ret ⟨_, rfl, .tupL (.cons ?_ (.cons (.bool ?_) .nil)), rfl⟩
    · rw [show nv a - nv b = 0 by omega, dig_zero]
      exact .pure .snil (.snil _)
    · rw [decide_eq_false (by omega)]
  have h : ¬ nv a < nv b := fun hh => h (sgn_lt.2 hh)
  have hm := hm (by omega)
  repeat (first | (with_reducible refine W.id_ ?_); (first | refine W.sreg ?_ | refine W.skipT rfl ?_) | (with_reducible refine RK.id_ ?_); (refine RK.cons_ ?_; (refine RK.k_ 0 rfl ?_; refine .p rfl rfl rfl (by exact trivial) ?_)))
  refine .call (trim_spec ha (by omega)) rfl rfl rfl rfl ?_
  repeat ((with_reducible refine RK.id_ ?_); (refine RK.cons_ ?_; (refine RK.k_ 0 rfl ?_; refine .p rfl rfl rfl (by exact trivial) ?_)))
  refine .call (trim_spec hb (by omega)) rfl rfl rfl rfl ?_
  generalize dig (nv a) = p at *
  generalize dig (nv b) = q at *
  rw [← ea, ← eb] at h ⊢
  clear ea eb
  repeat (first | (with_reducible refine W.id_ ?_); (refine W.sreg ?_) | (with_reducible refine RK.id_ ?_); (first | refine RK.cons_ ?_; (refine RK.k_ 0 rfl ?_; refine .p rfl rfl rfl (by exact trivial) ?_) | refine RK.nilT rfl ?_ rfl))
  refine .make 0 p.length 1 4 ((List.replicate p.length 0).map U) rfl rfl rfl rfl rfl rfl rfl rfl rfl rfl (by omega) (by rfl) (by omega) (by omega) ?_ (pushR_eq _ _) ?_
  · exact rep_U _
  repeat (first | (with_reducible refine W.id_ ?_); (first | refine W.sreg ?_ | refine W.seq ?_) | (with_reducible refine RK.id_ ?_); (first | refine RK.cons_ ?_; (refine RK.k_ 0 rfl ?_; refine .p rfl rfl rfl (by exact trivial) ?_) | refine RK.nilT rfl ?_ rfl))
  refine .rangeS (p.length) (fun i s => [(6, .live 0 0 p.length p.length 1), (7, U s.2), (1, eN q), (22, eN p)]) (fun i s => [some (.cells (s.1.map U))]) (fun i s => SubSt p q s.1 s.2 i) ((List.replicate p.length 0, 0)) rfl rfl rfl rfl rfl rfl rfl rfl rfl rfl (by omega) ?_ ?_ (fun _ _ => rfl) (fun i s hi Ci => ?_) (fun s Ci => ?_)
  · exact ⟨by simp, okN_zeros _, .inl rfl, by simp [nv]⟩
  · refine .heap ?_ rfl
    repeat (first | exact trivial | refine ⟨⟨_, rfl, .refl _⟩, ?_⟩)
  · have hl := Ci.len
    have hc := Ci.cc
    have h1 := ka.at i
    have h2 := kb.at i
    repeat (first | (with_reducible refine W.id_ ?_); (first | refine W.sreg ?_ | refine W.seq ?_) | (with_reducible refine RK.id_ ?_); (first | refine RK.cons_ ?_; (first | refine RK.k_ 0 rfl ?_; refine .p rfl rfl rfl (by exact trivial) ?_ | refine RK.k_ 4 rfl ?_; (refine .ix _ (s := 1) rfl rfl rfl rfl rfl rfl rfl (by rfl) (by omega) ?_) | refine RK.k_ 5 rfl ?_; (refine .ld _ rfl rfl rfl rfl rfl rfl (by exact n_get (by omega) rfl) ?_)) | refine RK.nilT rfl ?_ rfl))
    refine .join [(10, U (q.getD i 0)), (8, I i), (9, U (p.getD i 0)), (6, .live 0 0 p.length p.length 1), (7, U s.2), (1, eN q), (22, eN p), (24, I i), (23, I p.length)] [some (.cells (s.1.map U))] ?_ ?_
    · refine W.cond_dec rfl (fun h3 => ?_) (fun h3 => ?_)
      · repeat (first | (with_reducible refine W.id_ ?_); (refine W.reg ?_) | (with_reducible refine RK.id_ ?_); (refine RK.cons_ ?_; (first | refine RK.k_ 0 rfl ?_; refine .p rfl rfl rfl (by exact trivial) ?_ | refine RK.k_ 4 rfl ?_; (refine .ix _ (s := 1) rfl rfl rfl rfl rfl rfl rfl (by rfl) (by omega) ?_) | refine RK.k_ 5 rfl ?_; (refine .ld _ rfl rfl rfl rfl rfl rfl (by exact n_get (by omega) rfl) ?_))))
        refine .nil ?_ rfl
        refine .wk ?_
        repeat (first | exact trivial | refine ⟨⟨_, rfl, .refl _⟩, ?_⟩)
      · refine .skip (.wk ?_)
        rw [show q.getD i 0 = 0 by rw [List.getD_eq_getElem?_getD, List.getElem?_eq_none (by omega)]; rfl]
        repeat (first | exact trivial | refine ⟨⟨_, rfl, .refl _⟩, ?_⟩)
    repeat (first | (with_reducible refine W.id_ ?_); (refine W.reg ?_) | (with_reducible refine RK.id_ ?_); (refine RK.cons_ ?_; (refine RK.k_ 0 rfl ?_; refine .p rfl rfl rfl (by exact trivial) ?_)))
    refine .call (Sub32_spec h1 h2 hc) rfl rfl rfl rfl ?_
    repeat ((with_reducible refine RK.id_ ?_); (refine RK.cons_ ?_; (first | refine RK.k_ 0 rfl ?_; refine .p rfl rfl rfl (by exact trivial) ?_ | refine RK.k_ 4 rfl ?_; (refine .ixl _ _ (s := 1) rfl rfl rfl rfl rfl rfl rfl (by rfl) (by omega) rfl ?_) | refine RK.k_ 6 rfl ?_; (refine .store rfl rfl rfl rfl rfl rfl rfl (by rfl) (by exact over_map0 rfl (by omega)) (by rfl) ?_))))
    refine .nil ?_ rfl
    refine ⟨(s.1.set i ((p.getD i 0 - q.getD i 0 - s.2) % 4294967296), if p.getD i 0 < q.getD i 0 + s.2 then 1 else 0), Ci.step ka kb hi, .heap ?_ rfl⟩
    repeat (first | exact trivial | refine ⟨⟨_, rfl, .refl _⟩, ?_⟩)
  show W _ _ _ _ _ _ _
  have ho := Ci.ok
  have hl := Ci.len
  have hv := Ci.done hm (by omega) ka
  have ht := trim_spec ho (by omega)
  rw [hv] at ht
  repeat (first | (with_reducible refine W.id_ ?_); (refine W.sreg ?_) | (with_reducible refine RK.id_ ?_); (refine RK.cons_ ?_; (refine RK.k_ 0 rfl ?_; refine .p rfl rfl rfl (by exact trivial) ?_)))
  refine RK.to (F' := [(48, eN s.1)]) (H' := []) (.frz ?_) ?_
  · exact ⟨⟨_, rfl, frz_map rfl (fun _ _ => .int _ _) hl.symm⟩, trivial⟩
  refine .call (ht) rfl rfl rfl rfl ?_
  repeat ((with_reducible refine RK.id_ ?_); (first | refine RK.cons_ ?_; (refine RK.k_ 0 rfl ?_; refine .p rfl rfl rfl (by exact trivial) ?_) | refine RK.nilT rfl ?_ rfl))
  refine .ret ⟨_, rfl, .tupL (.cons (.pure (eN_pure _) (.refl _)) (.cons (.bool ?_) .nil)), rfl⟩
  rw [decide_eq_true (by omega)]
end Go.Proofs.Ytbdefjbekbbldaa

namespace Go.Proofs.Ytbdefjbekbbldaa
open Go.V Go.N
set_option maxHeartbeats 4000000
set_option maxRecDepth 20000

/-- A row of a product: so many digits of q are done. -/
structure RowSt (q os0 os : List Int) (x c : Int) (i k : Nat) (m : Nat) : Prop where
  len : os.length = m
  ok : okN os
  cc : d32 c
  z : ∀ j, i + q.length ≤ j → os.getD j 0 = os0.getD j 0
  eq : nv os + B32 ^ (i + k) * c.toNat = nv os0 + B32 ^ i * (x.toNat * nv (q.take k))

theorem RowSt.step {q os0 os : List Int} {x c : Int} {i k m : Nat} (h : RowSt q os0 os x c i k m) (hq : okN q) (hx : d32 x) (hk : k < q.length) (hm : i + q.length ≤ m) {lo hi : Int} (hlo : d32 lo)
    (he : lo + 4294967296 * hi = x * q.getD k 0 + os.getD (i + k) 0 + c) (hh : d32 hi) : RowSt q os0 (os.set (i + k) lo) x hi i (k + 1) m := by
  have hl := h.len
  refine ⟨by simpa using hl, h.ok.set _ hlo, hh, fun j hj => ?_, ?_⟩
  · rw [getD_set, if_neg (by omega)]; exact h.z j hj
  · have h1 := nv_set (a := os) (i := i + k) (v := lo) (by omega)
    have h2 := h.eq
    rw [nv_take_succ hk]
    have hy := hq.at k
    have ho := h.ok.at (i + k)
    have hc := h.cc
    unfold d32 at *
    generalize q.getD k 0 = y at *
    generalize os.getD (i + k) 0 = o at *
    have h3 : lo.toNat + B32 * hi.toNat = x.toNat * y.toNat + o.toNat + c.toNat := by
      have e : ((lo.toNat + B32 * hi.toNat : Nat) : Int) = ((x.toNat * y.toNat + o.toNat + c.toNat : Nat) : Int) := by
        rw [Int.natCast_add, Int.natCast_add, Int.natCast_add, Int.natCast_mul, Int.natCast_mul, Int.toNat_of_nonneg hlo.1, Int.toNat_of_nonneg hh.1, Int.toNat_of_nonneg hx.1, Int.toNat_of_nonneg hy.1, Int.toNat_of_nonneg ho.1, Int.toNat_of_nonneg hc.1]
        exact he
      exact Int.ofNat.inj e
    have h4 : B32 ^ (i + k) * (lo.toNat + B32 * hi.toNat) = B32 ^ (i + k) * (x.toNat * y.toNat + o.toNat + c.toNat) := by rw [h3]
    rw [Nat.mul_add, Nat.mul_add, Nat.mul_add] at h4
    have h5 : B32 ^ (i + (k + 1)) * hi.toNat = B32 ^ (i + k) * (B32 * hi.toNat) := by rw [← Nat.add_assoc, Nat.pow_succ, Nat.mul_assoc]
    have h6 : B32 ^ i * (x.toNat * (nv (q.take k) + B32 ^ k * y.toNat)) = B32 ^ i * (x.toNat * nv (q.take k)) + B32 ^ (i + k) * (x.toNat * y.toNat) := by
      rw [Nat.mul_add, Nat.mul_add, Nat.pow_add]
      congr 1
      rw [Nat.mul_assoc, Nat.mul_left_comm x.toNat]
    rw [h5, h6]
    generalize B32 ^ (i + k) * (B32 * hi.toNat) = a1 at *
    generalize B32 ^ (i + k) * lo.toNat = a2 at *
    generalize B32 ^ (i + k) * o.toNat = a3 at *
    generalize B32 ^ (i + k) * c.toNat = a4 at *
    generalize B32 ^ (i + k) * (x.toNat * y.toNat) = a5 at *
    generalize B32 ^ i * (x.toNat * nv (q.take k)) = a6 at *
    omega

/-- So many rows of a product are done. -/
structure MulSt (p q os : List Int) (i : Nat) : Prop where
  len : os.length = p.length + q.length
  ok : okN os
  z : ∀ j, i + q.length ≤ j → os.getD j 0 = 0
  eq : nv os = nv (p.take i) * nv q

theorem MulSt.row {p q os os1 : List Int} {c : Int} {i : Nat} (h : MulSt p q os i) (hi : i < p.length) (hr : RowSt q os os1 (p.getD i 0) c i q.length (p.length + q.length)) : MulSt p q (os1.set (i + q.length) c) (i + 1) := by
  have hl := hr.len
  refine ⟨by simpa using hl, hr.ok.set _ hr.cc, fun j hj => ?_, ?_⟩
  · rw [getD_set, if_neg (by omega), hr.z j (by omega)]
    exact h.z j (by omega)
  · have h1 := nv_set (a := os1) (i := i + q.length) (v := c) (by omega)
    have h2 := hr.eq
    have h3 : os1.getD (i + q.length) 0 = 0 := by rw [hr.z _ (Nat.le_refl _)]; exact h.z _ (Nat.le_refl _)
    rw [h3, show (0 : Int).toNat = 0 from rfl, Nat.mul_zero, Nat.add_zero] at h1
    rw [take_all_nv (Nat.le_refl _)] at h2
    rw [h1, h2, h.eq, nv_take_succ hi, Nat.add_mul, Nat.mul_assoc]

theorem MulSt.none {p q os : List Int} {i : Nat} (h : MulSt p q os i) (hi : i < p.length) (h0 : p.getD i 0 = 0) : MulSt p q os (i + 1) := by
  refine ⟨h.len, h.ok, fun j hj => h.z j (by omega), ?_⟩
  rw [nv_take_succ hi, h0]
  simpa using h.eq

theorem Int_mul_le {x y : Int} (hx : d32 x) (hy : d32 y) : x * y ≤ 4294967295 * 4294967295 := by have := mul_lt hx hy; omega

/- natural.Mul -/
theorem Nmul_spec {a b : List Int} (ha : okN a) (hb : okN b) (hla : a.length ≤ 10000000000) (hlb : b.length ≤ 10000000000) : PureFn Try.prog 63 [eN a, eN b] (eN (dig (nv a * nv b))) := by
  have ka := okN_dig (nv a)
  have kb := okN_dig (nv b)
  have ea := nv_dig (nv a)
  have eb := nv_dig (nv b)
  have la : (dig (nv a)).length ≤ a.length := dig_len (nv_lt ha)
  have lb : (dig (nv b)).length ≤ b.length := dig_len (nv_lt hb)
  refine .of_W (fn := Try.f63) (by repeat (first | exact trivial | refine ⟨(by repeat (exact eN_pure _)), ?_⟩)) Try.call63 Try.func63 rfl rfl ?_
  repeat (first | (with_reducible refine W.id_ ?_); (refine W.sreg ?_) | (with_reducible refine RK.id_ ?_); (first | refine RK.cons_ ?_; (refine RK.k_ 0 rfl ?_; refine .p rfl rfl rfl (by exact trivial) ?_) | refine RK.nilT rfl ?_ rfl))
  refine .call (trim_spec ha (by omega)) rfl rfl rfl rfl ?_
  repeat ((with_reducible refine RK.id_ ?_); (refine RK.cons_ ?_; (refine RK.k_ 0 rfl ?_; refine .p rfl rfl rfl (by exact trivial) ?_)))
  refine .call (trim_spec hb (by omega)) rfl rfl rfl rfl ?_
  generalize dig (nv a) = p at *
  generalize dig (nv b) = q at *
  rw [← ea, ← eb]
  clear ea eb
  have nil : p.length = 0 ∨ q.length = 0 → eN (dig (nv p * nv q)) = eN [] := by
    rintro (h | h)
    · rw [List.eq_nil_of_length_eq_zero h]; simp [nv, dig_zero]
    · rw [List.eq_nil_of_length_eq_zero h]; simp [nv, dig_zero]
  repeat (first | (with_reducible refine W.id_ ?_); (first | refine W.sreg ?_ | refine W.seq ?_) | (with_reducible refine RK.id_ ?_); (first | refine RK.cons_ ?_; (refine RK.k_ 0 rfl ?_; refine .p rfl rfl rfl (by exact trivial) ?_) | refine RK.nilT rfl ?_ rfl))
  refine .dsplit (fun h0 => ?_) (fun h0 => ?_)
  · repeat (first | (with_reducible refine W.id_ ?_); (first | refine W.sreg ?_ | refine W.condT rfl ?_) | (with_reducible refine RK.id_ ?_); (first | refine RK.cons_ ?_; (first | refine .skip rfl rfl ?_ | refine RK.k_ 0 rfl ?_; refine .p rfl rfl rfl (by exact trivial) ?_) | refine RK.nilT rfl ?_ rfl))
    refine .ret ⟨_, rfl, ?_, rfl⟩
    rw [nil (.inl (by omega))]
    exact .pure .snil (.snil _)
  repeat ((with_reducible refine RK.id_ ?_); (first | refine RK.cons_ ?_; (refine RK.k_ 0 rfl ?_; refine .p rfl rfl rfl (by exact trivial) ?_) | refine RK.nilT rfl ?_ rfl))
  refine W.cond_dec rfl (fun h1 => ?_) (fun h1 => ?_)
  · repeat (first | (with_reducible refine W.id_ ?_); (refine W.sreg ?_) | (with_reducible refine RK.id_ ?_); (first | refine RK.cons_ ?_; (refine RK.k_ 0 rfl ?_; refine .p rfl rfl rfl (by exact trivial) ?_) | refine RK.nilT rfl ?_ rfl))
    refine .ret ⟨_, rfl, ?_, rfl⟩
    rw [nil (.inr (by omega))]
    exact .pure .snil (.snil _)
  repeat (first | (with_reducible refine W.id_ ?_); (first | refine W.sreg ?_ | refine W.skipT rfl ?_) | (with_reducible refine RK.id_ ?_); (refine RK.cons_ ?_; (first | refine RK.k_ 0 rfl ?_; refine .p rfl rfl rfl (by exact trivial) ?_ | refine RK.k_ 1 rfl ?_; (refine .pa rfl rfl rfl rfl rfl rfl (by omega) (by omega) ?_))))
  refine .make 0 (p.length + q.length) 1 4 ((List.replicate (p.length + q.length) 0).map U) rfl rfl rfl rfl rfl rfl rfl rfl rfl rfl (by omega) (by rfl) (by omega) (by omega) ?_ (pushR_eq _ _) ?_
  · exact rep_U _
  repeat (first | (with_reducible refine W.id_ ?_); (first | refine W.sreg ?_ | refine W.seq ?_) | (with_reducible refine RK.id_ ?_); (first | refine RK.cons_ ?_; (refine RK.k_ 0 rfl ?_; refine .p rfl rfl rfl (by exact trivial) ?_) | refine RK.nilT rfl ?_ rfl))
  refine .rangeS (p.length) (fun i s => [(5, .live 0 0 (p.length + q.length) (p.length + q.length) 1), (1, eN q), (33, eN p)]) (fun i s => [some (.cells (s.map U))]) (fun i s => MulSt p q s i) ((List.replicate (p.length + q.length) 0)) rfl rfl rfl rfl rfl rfl rfl rfl rfl rfl (by omega) ?_ ?_ (fun _ _ => rfl) (fun i s hi Ci => ?_) (fun s Ci => ?_)
  · refine ⟨by simp, okN_zeros _, fun j _ => ?_, by simp [nv, nv_zeros]⟩
    rw [List.getD_eq_getElem?_getD, List.getElem?_replicate]
    split <;> rfl
  · refine .heap ?_ rfl
    repeat (first | exact trivial | refine ⟨⟨_, rfl, .refl _⟩, ?_⟩)
  · have hl := Ci.len
    have hx := ka.at i
    repeat (first | (with_reducible refine W.id_ ?_); (first | refine W.sreg ?_ | refine W.seq ?_) | (with_reducible refine RK.id_ ?_); (first | refine RK.cons_ ?_; (first | refine RK.k_ 0 rfl ?_; refine .p rfl rfl rfl (by exact trivial) ?_ | refine RK.k_ 4 rfl ?_; (refine .ix _ (s := 1) rfl rfl rfl rfl rfl rfl rfl (by rfl) (by omega) ?_) | refine RK.k_ 5 rfl ?_; (refine .ld _ rfl rfl rfl rfl rfl rfl (by exact n_get (by omega) rfl) ?_)) | refine RK.nilT rfl ?_ rfl))
    refine W.cond_dec rfl (fun h2 => ?_) (fun h2 => ?_)
    · refine W.exit ⟨s, Ci.none hi h2, .heap ?_ rfl⟩
      repeat (first | exact trivial | refine ⟨⟨_, rfl, .refl _⟩, ?_⟩)
    repeat (first | (with_reducible refine W.id_ ?_); (first | refine W.sreg ?_ | refine W.seq ?_ | refine W.skipT rfl ?_) | (with_reducible refine RK.id_ ?_); (first | refine RK.cons_ ?_; (first | refine RK.k_ 0 rfl ?_; refine .p rfl rfl rfl (by exact trivial) ?_ | refine RK.k_ 1 rfl ?_; (refine .pa rfl rfl rfl rfl rfl rfl (by omega) (by omega) ?_) | refine RK.k_ 7 rfl ?_; (refine .sll 1 _ _ rfl rfl rfl rfl rfl rfl rfl rfl (by rfl) (by rfl) (by omega) (by omega) ?_)) | refine RK.nilT rfl ?_ rfl))
    refine .rangeS (q.length) (fun k r => [(9, .live 0 (0 + i * 1) (i + q.length - i) (p.length + q.length - i) 1), (8, U r.2), (7, U (p.getD i 0)), (6, I i), (49, eN q), (5, .live 0 0 (p.length + q.length) (p.length + q.length) 1), (1, eN q), (33, eN p), (35, I i), (34, I p.length)]) (fun k r => [some (.cells (r.1.map U))]) (fun k r => RowSt q s r.1 (p.getD i 0) r.2 i k (p.length + q.length)) ((s, 0)) rfl rfl rfl rfl rfl rfl rfl rfl rfl rfl (by omega) ?_ ?_ (fun _ _ => rfl) (fun k r hk Ck => ?_) (fun r Ck => ?_)
    · exact ⟨hl, Ci.ok, by unfold d32; omega, fun _ _ => rfl, by simp [nv]⟩
    · refine .heap ?_ rfl
      repeat (first | exact trivial | refine ⟨⟨_, rfl, .refl _⟩, ?_⟩)
    · have hrl := Ck.len
      have hc := Ck.cc
      have hy := kb.at k
      have hr := Ck.ok.at (i + k)
      have hm := mul_lt hx hy
      repeat (first | (with_reducible refine W.id_ ?_); (refine W.sreg ?_) | (with_reducible refine RK.id_ ?_); (first | refine RK.cons_ ?_; (first | refine RK.k_ 0 rfl ?_; refine .p rfl rfl rfl (by exact trivial) ?_ | refine RK.k_ 4 rfl ?_; (refine .ix _ (s := 1) rfl rfl rfl rfl rfl rfl rfl (by rfl) (by omega) ?_) | refine RK.k_ 5 rfl ?_; (refine .ld _ rfl rfl rfl rfl rfl rfl (by exact n_get (by omega) rfl) ?_)) | refine RK.nilT rfl ?_ rfl))
      refine .call (Mul32_spec hx hy) rfl rfl rfl rfl ?_
      repeat (first | (with_reducible refine W.id_ ?_); (refine W.sreg ?_) | (with_reducible refine RK.id_ ?_); (first | refine RK.cons_ ?_; (first | refine RK.k_ 0 rfl ?_; refine .p rfl rfl rfl (by exact trivial) ?_ | refine RK.k_ 4 rfl ?_; (refine .ixl _ _ (s := 1) rfl rfl rfl rfl rfl rfl rfl (by rfl) (by omega) rfl ?_) | refine RK.k_ 5 rfl ?_; (refine .ldl rfl rfl rfl rfl rfl rfl rfl (by rfl) (by exact get_map00 (z := (0 : Int)) (by omega)) ?_)) | refine RK.nilT rfl ?_ rfl))
      refine .call (Add32_spec (y := r.1.getD (i + k) 0) (c := 0) (by unfold d32; omega) hr (by unfold d32; omega)) rfl rfl rfl rfl ?_
      obtain ⟨m, hme⟩ : ∃ m, m = p.getD i 0 * q.getD k 0 := ⟨_, rfl⟩
      rw [← hme] at hm ⊢
      obtain ⟨o, hoe⟩ : ∃ o, o = r.1.getD (i + k) 0 := ⟨_, rfl⟩
      rw [← hoe] at hr ⊢
      unfold d32 at hc
      repeat (first | (with_reducible refine W.id_ ?_); (refine W.sreg ?_) | (with_reducible refine RK.id_ ?_); (first | refine RK.cons_ ?_; (first | refine RK.k_ 0 rfl ?_; refine .p rfl rfl rfl (by exact trivial) ?_ | refine RK.k_ 1 rfl ?_; (refine .pa32 rfl rfl rfl rfl rfl rfl (by omega) (by omega) ?_)) | refine RK.nilT rfl ?_ rfl))
      refine .call (Add32_spec (x := (m % 4294967296 + o + 0) % 4294967296) (y := r.2) (c := 0) (by unfold d32; omega) hc (by unfold d32; omega)) rfl rfl rfl rfl ?_
      repeat (first | (with_reducible refine W.id_ ?_); (refine W.reg ?_) | (with_reducible refine RK.id_ ?_); (first | refine RK.cons_ ?_; (first | refine RK.k_ 0 rfl ?_; refine .p rfl rfl rfl (by exact trivial) ?_ | refine RK.k_ 1 rfl ?_; (refine .pa32 rfl rfl rfl rfl rfl rfl (by omega) (by omega) ?_) | refine RK.k_ 4 rfl ?_; (refine .ixl _ _ (s := 1) rfl rfl rfl rfl rfl rfl rfl (by rfl) (by omega) rfl ?_) | refine RK.k_ 6 rfl ?_; (refine .store rfl rfl rfl rfl rfl rfl rfl (by rfl) (by exact over_map00 rfl (by omega)) (by rfl) ?_)) | refine RK.nilT rfl ?_ rfl))
      refine .nil ?_ rfl
      refine ⟨(r.1.set (i + k) (((m % 4294967296 + o + 0) % 4294967296 + r.2 + 0) % 4294967296), m / 4294967296 + (m % 4294967296 + o + 0) / 4294967296 + ((m % 4294967296 + o + 0) % 4294967296 + r.2 + 0) / 4294967296), Ck.step kb hx hk (by omega) (by unfold d32; omega) ?_ (by unfold d32; omega), .heap ?_ rfl⟩
      · rw [← hme, ← hoe]; omega
      · repeat (first | exact trivial | refine ⟨⟨_, rfl, .refl _⟩, ?_⟩)
    show W _ _ _ _ _ _ _
    have hrl := Ck.len
    repeat (first | (with_reducible refine W.id_ ?_); (refine W.reg ?_) | (with_reducible refine RK.id_ ?_); (refine RK.cons_ ?_; (first | refine RK.k_ 0 rfl ?_; refine .p rfl rfl rfl (by exact trivial) ?_ | refine RK.k_ 1 rfl ?_; (refine .pa rfl rfl rfl rfl rfl rfl (by omega) (by omega) ?_) | refine RK.k_ 4 rfl ?_; (refine .ixl _ _ (s := 1) rfl rfl rfl rfl rfl rfl rfl (by rfl) (by omega) rfl ?_) | refine RK.k_ 6 rfl ?_; (refine .store rfl rfl rfl rfl rfl rfl rfl (by rfl) (by exact over_map0 rfl (by omega)) (by rfl) ?_))))
    refine .nil ?_ rfl
    refine ⟨r.1.set (i + q.length) r.2, Ci.row hi Ck, .heap ?_ rfl⟩
    repeat (first | exact trivial | refine ⟨⟨_, rfl, .refl _⟩, ?_⟩)
  show W _ _ _ _ _ _ _
  have ho := Ci.ok
  have hl := Ci.len
  have hv := Ci.eq
  rw [take_all_nv (Nat.le_refl _)] at hv
  have ht := trim_spec ho (by omega)
  rw [hv] at ht
  repeat (first | (with_reducible refine W.id_ ?_); (refine W.sreg ?_) | (with_reducible refine RK.id_ ?_); (refine RK.cons_ ?_; (refine RK.k_ 0 rfl ?_; refine .p rfl rfl rfl (by exact trivial) ?_)))
  refine RK.to (F' := [(96, eN s)]) (H' := []) (.frz ?_) ?_
  · exact ⟨⟨_, rfl, frz_map rfl (fun _ _ => .int _ _) hl.symm⟩, trivial⟩
  refine .call (ht) rfl rfl rfl rfl ?_
  repeat ((with_reducible refine RK.id_ ?_); (first | refine RK.cons_ ?_; (refine RK.k_ 0 rfl ?_; refine .p rfl rfl rfl (by exact trivial) ?_) | refine RK.nilT rfl ?_ rfl))
  refine W.ret ⟨_, rfl, .eq (by repeat (exact eN_pure _)) ?_, rfl⟩
  rfl
end Go.Proofs.Ytbdefjbekbbldaa

namespace Go.Proofs.Ytbdefjbekbbldaa
open Go.V Go.N
set_option maxHeartbeats 4000000
set_option maxRecDepth 20000

/-- A whole number as the program holds it: sign and digits. -/
abbrev Z := Bool × List Int
def zc (z : Z) : List D := [.bool z.1, eN z.2]
abbrev eZ (z : Z) : D := .agg (zc z)
def zv (z : Z) : Int := if z.1 then -(nv z.2 : Int) else (nv z.2 : Int)
def zcan (n : Int) : Z := (decide (n < 0), dig n.natAbs)
structure okZ (z : Z) : Prop where
  ok : okN z.2
  len : z.2.length ≤ 1000000000
theorem zc_pure (z : Z) : ∀ d ∈ zc z, Pure d := PureL.mem ⟨.bool _, eN_pure _, trivial⟩
theorem eZ_pure (z : Z) : Pure (eZ z) := .agg (zc_pure z)
theorem zc_len (z : Z) : (zc z).length = 2 := rfl

theorem zv_can (n : Int) : zv (zcan n) = n := by
  unfold zv zcan
  simp only [nv_dig, decide_eq_true_eq]
  split <;> omega
theorem nv_abs (z : Z) : nv z.2 = (zv z).natAbs := by
  unfold zv
  split <;> omega

/-- A number that is short enough. -/
def zsm (n : Int) : Prop := n.natAbs < B32 ^ 1000000000
theorem okZ.can {n : Int} (h : zsm n) : okZ (zcan n) := ⟨okN_dig _, dig_len h⟩

theorem eZ_mk {neg : Bool} {a : Nat} {n : Int} (h : n = if neg then -(a : Int) else (a : Int)) : (decide (neg = true ∧ a ≠ 0), dig a) = zcan n := by
  unfold zcan
  subst h
  cases neg
  · simp
  · simp only [true_and, if_true, Int.natAbs_neg, Int.natAbs_natCast, Prod.mk.injEq, and_true]
    exact decide_eq_decide.2 (by omega)

/- integer.made -/
theorem made_spec {neg : Bool} {a : Nat} : PureFn Try.prog 62 [.bool neg, eN (dig a)] (eZ (zcan (if neg then -(a : Int) else (a : Int)))) := by
  have h0 := @dig_len0 a
  rw [← eZ_mk (neg := neg) (a := a) rfl]
  refine .of_W (fn := Try.f62) (by repeat (first | exact trivial | refine ⟨(by repeat (first | exact .bool _ | exact eN_pure _)), ?_⟩)) Try.call62 Try.func62 rfl rfl ?_
  repeat (first | (with_reducible refine W.id_ ?_); (refine W.sreg ?_) | (with_reducible refine RK.id_ ?_); (first | refine RK.cons_ ?_; (first | refine RK.k_ 0 rfl ?_; refine .p rfl rfl rfl (by exact trivial) ?_ | refine RK.k_ 6 rfl ?_; (refine .alloc _ rfl rfl rfl rfl rfl rfl rfl ?_)) | refine RK.nilT rfl ?_ rfl))
  refine .split (fun h => ?_) (fun h => ?_)
  · subst h
    repeat ((with_reducible refine RK.id_ ?_); (first | refine RK.cons_ ?_; (first | refine RK.k_ 0 rfl ?_; refine .p rfl rfl rfl (by exact trivial) ?_ | refine RK.k_ 6 rfl ?_; (refine .store rfl rfl rfl rfl rfl rfl rfl (by rfl) (by rfl) (by rfl) ?_)) | refine RK.nilT rfl ?_ rfl))
    refine W.ret ⟨_, rfl, .eq (by repeat (first | exact trivial | exact .bool _ | exact eN_pure _ | refine .agg (PureL.mem ?_) | refine ⟨?_, ?_⟩)) ?_, rfl⟩
    refine congrArg (fun b => D.agg [D.bool b, eN (dig a)]) ?_
    refine decide_eq_decide.2 ?_
    simp only [true_and]
    omega
  · subst h
    repeat ((with_reducible refine RK.id_ ?_); (first | refine RK.cons_ ?_; (first | refine .skip rfl rfl ?_ | refine RK.k_ 0 rfl ?_; refine .p rfl rfl rfl (by exact trivial) ?_ | refine RK.k_ 6 rfl ?_; (refine .store rfl rfl rfl rfl rfl rfl rfl (by rfl) (by rfl) (by rfl) ?_)) | refine RK.nilT rfl ?_ rfl))
    refine W.ret ⟨_, rfl, .eq (by repeat (first | exact trivial | exact .bool _ | exact eN_pure _ | refine .agg (PureL.mem ?_) | refine ⟨?_, ?_⟩)) ?_, rfl⟩
    simp [zc]

/- integer.From -/
theorem From_spec {neg : Bool} {a : List Int} (ha : okN a) (hl : a.length ≤ 1000000000) : PureFn Try.prog 73 [.bool neg, eN a] (eZ (zcan (if neg then -(nv a : Int) else (nv a : Int)))) := by
  refine .of_W (fn := Try.f73) (by repeat (first | exact trivial | refine ⟨(by repeat (first | exact .bool _ | exact eN_pure _)), ?_⟩)) Try.call73 Try.func73 rfl rfl ?_
  repeat (first | (with_reducible refine W.id_ ?_); (refine W.sreg ?_) | (with_reducible refine RK.id_ ?_); (first | refine RK.cons_ ?_; (first | refine RK.k_ 0 rfl ?_; refine .p rfl rfl rfl (by exact trivial) ?_ | refine RK.k_ 6 rfl ?_; (refine .alloc _ rfl rfl rfl rfl rfl rfl rfl ?_)) | refine RK.nilT rfl ?_ rfl))
  refine .call (Nnormal_spec ha (by omega)) rfl rfl rfl rfl ?_
  skip
  refine .call (made_spec) rfl rfl rfl rfl ?_
  repeat ((with_reducible refine RK.id_ ?_); (first | refine RK.cons_ ?_; (refine RK.k_ 6 rfl ?_; (refine .store rfl rfl rfl rfl rfl rfl rfl (by rfl) (by rfl) (by rfl) ?_)) | refine RK.nilT rfl ?_ rfl))
  refine W.ret ⟨_, rfl, .eq (by repeat (exact eZ_pure _)) ?_, rfl⟩
  rfl

/- integer.Of -/
theorem Of_spec {n : Int} (h1 : -9223372036854775808 ≤ n) (h2 : n ≤ 9223372036854775807) : PureFn Try.prog 38 [I n] (eZ (zcan n)) := by
  have e1 : n < 0 → zcan n = zcan (if true = true then -((n.natAbs : Nat) : Int) else ((n.natAbs : Nat) : Int)) := fun h => by rw [if_pos rfl]; congr 1; omega
  have e2 : ¬ n < 0 → zcan n = zcan (if false = true then -((n.natAbs : Nat) : Int) else ((n.natAbs : Nat) : Int)) := fun h => by rw [if_neg (by decide)]; congr 1; omega
  refine .of_W (fn := Try.f38) (by repeat (first | exact trivial | refine ⟨(by repeat (exact .int _ _)), ?_⟩)) Try.call38 Try.func38 rfl rfl ?_
  repeat (first | (with_reducible refine W.id_ ?_); (first | refine W.sreg ?_ | refine W.seq ?_) | (with_reducible refine RK.id_ ?_); (first | refine RK.cons_ ?_; (first | refine RK.k_ 0 rfl ?_; refine .p rfl rfl rfl (by exact trivial) ?_ | refine RK.k_ 6 rfl ?_; (refine .alloc _ rfl rfl rfl rfl rfl rfl rfl ?_)) | refine RK.nilT rfl ?_ rfl))
  refine W.cond_dec rfl (fun h => ?_) (fun h => ?_)
  · repeat (first | (with_reducible refine W.id_ ?_); (refine W.sreg ?_) | (with_reducible refine RK.id_ ?_); (refine RK.cons_ ?_; (first | refine RK.k_ 0 rfl ?_; refine .p rfl rfl rfl (by exact trivial) ?_ | refine RK.k_ 2 rfl ?_; (refine .cvmu rfl rfl rfl rfl rfl rfl ?_))))
    refine .pe (.int .u64 ((n.natAbs : Nat) : Int)) rfl rfl rfl trivial ?_ ?_
    · rw [wrapu64_mod]; congr 1; omega
    skip
    refine .call (Nof_spec (by omega)) rfl rfl rfl rfl ?_
    skip
    refine .call (made_spec) rfl rfl rfl rfl ?_
    repeat ((with_reducible refine RK.id_ ?_); (first | refine RK.cons_ ?_; (refine RK.k_ 6 rfl ?_; (refine .store rfl rfl rfl rfl rfl rfl rfl (by rfl) (by rfl) (by rfl) ?_)) | refine RK.nilT rfl ?_ rfl))
    refine W.ret ⟨_, rfl, .eq (by repeat (exact eZ_pure _)) ?_, rfl⟩
    rw [e1 h]
    rfl
  · repeat (first | (with_reducible refine W.id_ ?_); (first | refine W.sreg ?_ | refine W.skipT rfl ?_) | (with_reducible refine RK.id_ ?_); (refine RK.cons_ ?_; (first | refine RK.k_ 0 rfl ?_; refine .p rfl rfl rfl (by exact trivial) ?_ | refine RK.k_ 2 rfl ?_; (refine .cvu rfl rfl rfl rfl rfl rfl (by omega) (by omega) ?_))))
    have hN := Nof_spec (n := n.natAbs) (by omega)
    rw [show ((n.natAbs : Nat) : Int) = n by omega] at hN
    refine .call (hN) rfl rfl rfl rfl ?_
    skip
    refine .call (made_spec) rfl rfl rfl rfl ?_
    repeat ((with_reducible refine RK.id_ ?_); (first | refine RK.cons_ ?_; (refine RK.k_ 6 rfl ?_; (refine .store rfl rfl rfl rfl rfl rfl rfl (by rfl) (by rfl) (by rfl) ?_)) | refine RK.nilT rfl ?_ rfl))
    refine W.ret ⟨_, rfl, .eq (by repeat (exact eZ_pure _)) ?_, rfl⟩
    rw [e2 h]
    rfl

/- integer.Normal -/
theorem Znormal_spec {z : Z} (h : okZ z) : PureFn Try.prog 70 [eZ z] (eZ (zcan (zv z))) := by
  refine .of_W (fn := Try.f70) (by repeat (first | exact trivial | refine ⟨(by repeat (exact eZ_pure _)), ?_⟩)) Try.call70 Try.func70 rfl rfl ?_
  repeat (first | (with_reducible refine W.id_ ?_); (refine W.sreg ?_) | (with_reducible refine RK.id_ ?_); (first | refine RK.cons_ ?_; (first | refine RK.k_ 0 rfl ?_; refine .p rfl rfl rfl (by exact trivial) ?_ | refine RK.k_ 5 rfl ?_; (refine .ldl rfl rfl rfl rfl rfl rfl rfl (by rfl) (by rfl) ?_) | refine RK.k_ 6 rfl ?_; (first | refine .box _ rfl rfl rfl rfl rfl rfl rfl ?_ | refine .alloc _ rfl rfl rfl rfl rfl rfl rfl ?_)) | refine RK.nilT rfl ?_ rfl))
  refine .call (From_spec h.ok h.len) rfl rfl rfl rfl ?_
  repeat ((with_reducible refine RK.id_ ?_); (first | refine RK.cons_ ?_; (refine RK.k_ 6 rfl ?_; (refine .store rfl rfl rfl rfl rfl rfl rfl (by rfl) (by rfl) (by rfl) ?_)) | refine RK.nilT rfl ?_ rfl))
  refine W.ret ⟨_, rfl, .eq (by repeat (exact eZ_pure _)) ?_, rfl⟩
  rfl

def sgI (x : Int) : Int := if x = 0 then 0 else if x < 0 then -1 else 1

/- integer.Sign -/
theorem Sign_spec {z : Z} (h : okZ z) : PureFn Try.prog 48 [eZ z] (I (sgI (zv z))) := by
  have hl := h.len
  have hz : zv z = if z.1 then -(nv z.2 : Int) else (nv z.2 : Int) := rfl
  refine .of_W (fn := Try.f48) (by repeat (first | exact trivial | refine ⟨(by repeat (exact eZ_pure _)), ?_⟩)) Try.call48 Try.func48 rfl rfl ?_
  repeat (first | (with_reducible refine W.id_ ?_); (first | refine W.sreg ?_ | refine W.seq ?_ | refine W.blockS ?_) | (with_reducible refine RK.id_ ?_); (first | refine RK.cons_ ?_; (first | refine RK.k_ 0 rfl ?_; refine .p rfl rfl rfl (by exact trivial) ?_ | refine RK.k_ 5 rfl ?_; (refine .ldl rfl rfl rfl rfl rfl rfl rfl (by rfl) (by rfl) ?_) | refine RK.k_ 6 rfl ?_; (refine .box _ rfl rfl rfl rfl rfl rfl rfl ?_)) | refine RK.nilT rfl ?_ rfl))
  refine .call (IsZero_spec h.ok (by omega)) rfl rfl rfl rfl ?_
  repeat ((with_reducible refine RK.id_ ?_); (first | refine RK.cons_ ?_; (refine RK.k_ 0 rfl ?_; refine .p rfl rfl rfl (by exact trivial) ?_) | refine RK.nilT rfl ?_ rfl))
  refine W.cond_dec rfl (fun h0 => ?_) (fun h0 => ?_)
  · repeat (first | (with_reducible refine W.id_ ?_); (refine W.sreg ?_) | (with_reducible refine RK.id_ ?_); (first | refine RK.cons_ ?_; (refine RK.k_ 0 rfl ?_; refine .p rfl rfl rfl (by exact trivial) ?_) | refine RK.nilT rfl ?_ rfl))
    refine W.ret ⟨_, rfl, .eq (by repeat (exact .int _ _)) ?_, rfl⟩
    rw [show zv z = 0 by rw [hz]; split <;> omega]
    rfl
  repeat (first | (with_reducible refine W.id_ ?_); (refine W.sreg ?_) | (with_reducible refine RK.id_ ?_); (first | refine RK.cons_ ?_; (first | refine RK.k_ 0 rfl ?_; refine .p rfl rfl rfl (by exact trivial) ?_ | refine RK.k_ 5 rfl ?_; (refine .ldl rfl rfl rfl rfl rfl rfl rfl (by rfl) (by rfl) ?_)) | refine RK.nilT rfl ?_ rfl))
  refine W.cond rfl (fun h1 => ?_) (fun h1 => ?_)
  · repeat (first | (with_reducible refine W.id_ ?_); (refine W.sreg ?_) | (with_reducible refine RK.id_ ?_); (first | refine RK.cons_ ?_; (refine RK.k_ 0 rfl ?_; refine .p rfl rfl rfl (by exact trivial) ?_) | refine RK.nilT rfl ?_ rfl))
    refine W.ret ⟨_, rfl, .eq (by repeat (exact .int _ _)) ?_, rfl⟩
    rw [hz, if_pos h1]
    congr 1
    rw [sgI, if_neg (by omega), if_pos (by omega)]
  · repeat (first | (with_reducible refine W.id_ ?_); (first | refine W.sreg ?_ | refine W.skipT rfl ?_) | (with_reducible refine RK.id_ ?_); (first | refine RK.cons_ ?_; (refine RK.k_ 0 rfl ?_; refine .p rfl rfl rfl (by exact trivial) ?_) | refine RK.nilT rfl ?_ rfl))
    refine W.ret ⟨_, rfl, .eq (by repeat (exact .int _ _)) ?_, rfl⟩
    rw [hz, h1]
    congr 1
    simp only [Bool.false_eq_true, if_false]
    rw [sgI, if_neg (by omega), if_neg (by omega)]

def cmpI (x y : Int) : Int := if y < x then 1 else if x < y then -1 else 0
theorem sgn_cmp {x y : Nat} : sgn x y = cmpI x y := by
  unfold sgn cmpI
  simp only [Int.ofNat_lt]
theorem cmp_sign {x y : Int} : (sgI x > sgI y → cmpI x y = 1) ∧ (sgI x < sgI y → cmpI x y = -1) := by
  unfold cmpI sgI
  constructor <;> intro h <;> repeat' split at h
  all_goals omega

theorem sgI_neg {x : Int} : sgI x < 0 ↔ x < 0 := by
  unfold sgI
  constructor <;> intro h
  · split at h
    · omega
    · split at h <;> omega
  · rw [if_neg (by omega), if_pos h]; omega

/- integer.Cmp -/
theorem Zcmp_spec {z w : Z} (h : okZ z) (h' : okZ w) : PureFn Try.prog 64 [eZ z, eZ w] (I (cmpI (zv z) (zv w))) := by
  have hl := h.len
  have hl' := h'.len
  have hz : zv z = if z.1 then -(nv z.2 : Int) else (nv z.2 : Int) := rfl
  have hw : zv w = if w.1 then -(nv w.2 : Int) else (nv w.2 : Int) := rfl
  have hs := @cmp_sign (zv z) (zv w)
  refine .of_W (fn := Try.f64) (by repeat (first | exact trivial | refine ⟨(by repeat (exact eZ_pure _)), ?_⟩)) Try.call64 Try.func64 rfl rfl ?_
  repeat (first | (with_reducible refine W.id_ ?_); (first | refine W.sreg ?_ | refine W.sdraw mixed (by kernel_rfl) (by kernel_rfl) ?_) | (with_reducible refine RK.id_ ?_); (first | refine RK.cons_ ?_; (first | refine RK.k_ 0 rfl ?_; refine .p rfl rfl rfl (by exact trivial) ?_ | refine RK.k_ 5 rfl ?_; (refine .ldla rfl rfl rfl rfl rfl rfl rfl (by rfl) rfl ?_) | refine RK.k_ 6 rfl ?_; (refine .box _ rfl rfl rfl rfl rfl rfl rfl ?_)) | refine RK.nilT rfl ?_ rfl))
  refine .call (Sign_spec h) rfl rfl rfl rfl ?_
  repeat ((with_reducible refine RK.id_ ?_); (refine RK.cons_ ?_; (refine RK.k_ 5 rfl ?_; (refine .ldla rfl rfl rfl rfl rfl rfl rfl (by rfl) rfl ?_))))
  refine .call (Sign_spec h') rfl rfl rfl rfl ?_
  repeat (first | (with_reducible refine W.id_ ?_); (first | refine W.sreg ?_ | refine W.seq ?_ | refine W.blockS ?_) | (with_reducible refine RK.id_ ?_); (first | refine RK.cons_ ?_; (refine RK.k_ 0 rfl ?_; refine .p rfl rfl rfl (by exact trivial) ?_) | refine RK.nilT rfl ?_ rfl))
  refine W.cond_dec rfl (fun h1 => ?_) (fun h1 => ?_)
  · repeat (first | (with_reducible refine W.id_ ?_); (refine W.sreg ?_) | (with_reducible refine RK.id_ ?_); (first | refine RK.cons_ ?_; (refine RK.k_ 0 rfl ?_; refine .p rfl rfl rfl (by exact trivial) ?_) | refine RK.nilT rfl ?_ rfl))
    refine W.ret ⟨_, rfl, .eq (by repeat (exact .int _ _)) ?_, rfl⟩
    rw [hs.1 h1]
  repeat (first | (with_reducible refine W.id_ ?_); (refine W.sreg ?_) | (with_reducible refine RK.id_ ?_); (first | refine RK.cons_ ?_; (refine RK.k_ 0 rfl ?_; refine .p rfl rfl rfl (by exact trivial) ?_) | refine RK.nilT rfl ?_ rfl))
  refine W.cond_dec rfl (fun h2 => ?_) (fun h2 => ?_)
  · repeat (first | (with_reducible refine W.id_ ?_); (refine W.sreg ?_) | (with_reducible refine RK.id_ ?_); (first | refine RK.cons_ ?_; (refine RK.k_ 0 rfl ?_; refine .p rfl rfl rfl (by exact trivial) ?_) | refine RK.nilT rfl ?_ rfl))
    refine W.ret ⟨_, rfl, .eq (by repeat (exact .int _ _)) ?_, rfl⟩
    rw [hs.2 h2]
  repeat (first | (with_reducible refine W.id_ ?_); (refine W.sreg ?_) | (with_reducible refine RK.id_ ?_); (first | refine RK.cons_ ?_; (refine RK.k_ 0 rfl ?_; refine .p rfl rfl rfl (by exact trivial) ?_) | refine RK.nilT rfl ?_ rfl))
  refine W.cond_dec rfl (fun h3 => ?_) (fun h3 => ?_)
  · repeat (first | (with_reducible refine W.id_ ?_); (refine W.sreg ?_) | (with_reducible refine RK.id_ ?_); (refine RK.cons_ ?_; (first | refine RK.k_ 0 rfl ?_; refine .p rfl rfl rfl (by exact trivial) ?_ | refine RK.k_ 5 rfl ?_; (refine .ldl rfl rfl rfl rfl rfl rfl rfl (by rfl) (by rfl) ?_))))
    refine .call (Ncmp_spec h'.ok h.ok (by omega) (by omega)) rfl rfl rfl rfl ?_
    repeat ((with_reducible refine RK.id_ ?_); (first | refine RK.cons_ ?_; (refine RK.k_ 0 rfl ?_; refine .p rfl rfl rfl (by exact trivial) ?_) | refine RK.nilT rfl ?_ rfl))
    refine W.ret ⟨_, rfl, .eq (by repeat (exact .int _ _)) ?_, rfl⟩
    have h4 : zv z < 0 := sgI_neg.1 (by omega)
    have h5 : zv w < 0 := sgI_neg.1 (by omega)
    have h6 := nv_abs z
    have h7 := nv_abs w
    congr 1
    unfold sgn cmpI
    repeat' split
    all_goals first | rfl | omega
  · repeat (first | (with_reducible refine W.id_ ?_); (first | refine W.sreg ?_ | refine W.skipT rfl ?_) | (with_reducible refine RK.id_ ?_); (refine RK.cons_ ?_; (first | refine RK.k_ 0 rfl ?_; refine .p rfl rfl rfl (by exact trivial) ?_ | refine RK.k_ 5 rfl ?_; (refine .ldl rfl rfl rfl rfl rfl rfl rfl (by rfl) (by rfl) ?_))))
    refine .call (Ncmp_spec h.ok h'.ok (by omega) (by omega)) rfl rfl rfl rfl ?_
    repeat ((with_reducible refine RK.id_ ?_); (first | refine RK.cons_ ?_; (refine RK.k_ 0 rfl ?_; refine .p rfl rfl rfl (by exact trivial) ?_) | refine RK.nilT rfl ?_ rfl))
    refine W.ret ⟨_, rfl, .eq (by repeat (exact .int _ _)) ?_, rfl⟩
    have h4 : ¬ zv z < 0 := fun h => h3 (by have := sgI_neg.2 h; omega)
    have h5 : ¬ zv w < 0 := fun h => h3 (by have := sgI_neg.2 h; omega)
    have h6 := nv_abs z
    have h7 := nv_abs w
    congr 1
    unfold sgn cmpI
    repeat' split
    all_goals first | rfl | omega

theorem cmp_zero {x y : Int} : cmpI x y = 0 ↔ x = y := by
  unfold cmpI
  constructor
  · intro h
    split at h
    · cases h
    · split at h
      · cases h
      · omega
  · rintro rfl
    rw [if_neg (by omega), if_neg (by omega)]

/- integer.Same -/
theorem Zsame_spec {z w : Z} (h : okZ z) (h' : okZ w) : PureFn Try.prog 20 [eZ z, eZ w] (.bool (decide (zv z = zv w))) := by
  refine .of_W (fn := Try.f20) (by repeat (first | exact trivial | refine ⟨(by repeat (exact eZ_pure _)), ?_⟩)) Try.call20 Try.func20 rfl rfl ?_
  repeat (first | (with_reducible refine W.id_ ?_); (refine W.sreg ?_) | (with_reducible refine RK.id_ ?_); (first | refine RK.cons_ ?_; (first | refine RK.k_ 0 rfl ?_; refine .p rfl rfl rfl (by exact trivial) ?_ | refine RK.k_ 5 rfl ?_; (refine .ldla rfl rfl rfl rfl rfl rfl rfl (by rfl) rfl ?_) | refine RK.k_ 6 rfl ?_; (refine .box _ rfl rfl rfl rfl rfl rfl rfl ?_)) | refine RK.nilT rfl ?_ rfl))
  refine .call (Zcmp_spec h h') rfl rfl rfl rfl ?_
  repeat ((with_reducible refine RK.id_ ?_); (first | refine RK.cons_ ?_; (refine RK.k_ 0 rfl ?_; refine .p rfl rfl rfl (by exact trivial) ?_) | refine RK.nilT rfl ?_ rfl))
  refine W.ret ⟨_, rfl, .eq (by repeat (exact .bool _)) ?_, rfl⟩
  exact congrArg D.bool (decide_eq_decide.2 cmp_zero)

/- integer.Neg -/
theorem Zneg_spec {z : Z} (h : okZ z) : PureFn Try.prog 34 [eZ z] (eZ (zcan (-zv z))) := by
  refine .of_W (fn := Try.f34) (by repeat (first | exact trivial | refine ⟨(by repeat (exact eZ_pure _)), ?_⟩)) Try.call34 Try.func34 rfl rfl ?_
  repeat (first | (with_reducible refine W.id_ ?_); (refine W.sreg ?_) | (with_reducible refine RK.id_ ?_); (first | refine RK.cons_ ?_; (first | refine RK.k_ 0 rfl ?_; refine .p rfl rfl rfl (by exact trivial) ?_ | refine RK.k_ 5 rfl ?_; (refine .ldl rfl rfl rfl rfl rfl rfl rfl (by rfl) (by rfl) ?_) | refine RK.k_ 6 rfl ?_; (first | refine .box _ rfl rfl rfl rfl rfl rfl rfl ?_ | refine .alloc _ rfl rfl rfl rfl rfl rfl rfl ?_)) | refine RK.nilT rfl ?_ rfl))
  refine .call (From_spec h.ok h.len) rfl rfl rfl rfl ?_
  repeat ((with_reducible refine RK.id_ ?_); (first | refine RK.cons_ ?_; (refine RK.k_ 6 rfl ?_; (refine .store rfl rfl rfl rfl rfl rfl rfl (by rfl) (by rfl) (by rfl) ?_)) | refine RK.nilT rfl ?_ rfl))
  refine W.ret ⟨_, rfl, .eq (by repeat (exact eZ_pure _)) ?_, rfl⟩
  have e : (if (!z.1) = true then -(nv z.2 : Int) else (nv z.2 : Int)) = -zv z := by
    unfold zv
    cases z.1 <;> simp
  rw [← e]
  rfl

/- integer.Add -/
theorem Zadd_spec {z w : Z} (h : okZ z) (h' : okZ w) : PureFn Try.prog 32 [eZ z, eZ w] (eZ (zcan (zv z + zv w))) := by
  have hl := h.len
  have hl' := h'.len
  obtain ⟨s, a⟩ := z
  obtain ⟨t, b⟩ := w
  dsimp only at hl hl'
  have ha : okN a := h.ok
  have hb : okN b := h'.ok
  have hz : zv (s, a) = if s then -(nv a : Int) else (nv a : Int) := rfl
  have hw : zv (t, b) = if t then -(nv b : Int) else (nv b : Int) := rfl
  cases s <;> cases t
  · refine .of_W (fn := Try.f32) (by repeat (first | exact trivial | refine ⟨(by repeat (exact eZ_pure _)), ?_⟩)) Try.call32 Try.func32 rfl rfl ?_
    repeat (first | (with_reducible refine W.id_ ?_); (first | refine W.sreg ?_ | refine W.sdraw mixed (by kernel_rfl) (by kernel_rfl) ?_ | refine W.seq ?_ | refine W.condT rfl ?_) | (with_reducible refine RK.id_ ?_); (first | refine RK.cons_ ?_; (first | refine RK.k_ 0 rfl ?_; refine .p rfl rfl rfl (by exact trivial) ?_ | refine RK.k_ 5 rfl ?_; (refine .ldl rfl rfl rfl rfl rfl rfl rfl (by rfl) (by rfl) ?_) | refine RK.k_ 6 rfl ?_; (first | refine .box _ rfl rfl rfl rfl rfl rfl rfl ?_ | refine .alloc _ rfl rfl rfl rfl rfl rfl rfl ?_)) | refine RK.nilT rfl ?_ rfl))
    refine .call (Nadd_spec ha hb (by omega) (by omega)) rfl rfl rfl rfl ?_
    skip
    refine .call (made_spec) rfl rfl rfl rfl ?_
    repeat ((with_reducible refine RK.id_ ?_); (first | refine RK.cons_ ?_; (refine RK.k_ 6 rfl ?_; (refine .store rfl rfl rfl rfl rfl rfl rfl (by rfl) (by rfl) (by rfl) ?_)) | refine RK.nilT rfl ?_ rfl))
    refine W.ret ⟨_, rfl, .eq (by repeat (exact eZ_pure _)) ?_, rfl⟩
    refine congrArg (fun n => eZ (zcan n)) ?_
    rw [hz, hw]
    simp
    try omega
  · refine .of_W (fn := Try.f32) (by repeat (first | exact trivial | refine ⟨(by repeat (exact eZ_pure _)), ?_⟩)) Try.call32 Try.func32 rfl rfl ?_
    repeat (first | (with_reducible refine W.id_ ?_); (first | refine W.sreg ?_ | refine W.seq ?_ | refine W.skipT rfl ?_ | refine W.condF rfl ?_) | (with_reducible refine RK.id_ ?_); (first | refine RK.cons_ ?_; (first | refine RK.k_ 0 rfl ?_; refine .p rfl rfl rfl (by exact trivial) ?_ | refine RK.k_ 5 rfl ?_; (refine .ldl rfl rfl rfl rfl rfl rfl rfl (by rfl) (by rfl) ?_) | refine RK.k_ 6 rfl ?_; (first | refine .box _ rfl rfl rfl rfl rfl rfl rfl ?_ | refine .alloc _ rfl rfl rfl rfl rfl rfl rfl ?_)) | refine RK.nilT rfl ?_ rfl))
    refine .call (Nsub_spec ha hb (by omega) (by omega)) rfl rfl rfl rfl ?_
    repeat (first | (with_reducible refine W.id_ ?_); (refine W.sreg ?_) | (with_reducible refine RK.id_ ?_); (first | refine RK.cons_ ?_; (refine RK.k_ 0 rfl ?_; refine .p rfl rfl rfl (by exact trivial) ?_) | refine RK.nilT rfl ?_ rfl))
    refine W.cond_dec rfl (fun h1 => ?_) (fun h1 => ?_)
    · repeat (first | (with_reducible refine W.id_ ?_); (refine W.sreg ?_) | (with_reducible refine RK.id_ ?_); (refine RK.cons_ ?_; (first | refine RK.k_ 0 rfl ?_; refine .p rfl rfl rfl (by exact trivial) ?_ | refine RK.k_ 5 rfl ?_; (refine .ldl rfl rfl rfl rfl rfl rfl rfl (by rfl) (by rfl) ?_))))
      refine .call (made_spec) rfl rfl rfl rfl ?_
      repeat ((with_reducible refine RK.id_ ?_); (first | refine RK.cons_ ?_; (refine RK.k_ 6 rfl ?_; (refine .store rfl rfl rfl rfl rfl rfl rfl (by rfl) (by rfl) (by rfl) ?_)) | refine RK.nilT rfl ?_ rfl))
      refine W.ret ⟨_, rfl, .eq (by repeat (exact eZ_pure _)) ?_, rfl⟩
      refine congrArg (fun n => eZ (zcan n)) ?_
      rw [hz, hw]
      simp
      omega
    repeat (first | (with_reducible refine W.id_ ?_); (first | refine W.sreg ?_ | refine W.skipT rfl ?_) | (with_reducible refine RK.id_ ?_); (refine RK.cons_ ?_; (first | refine RK.k_ 0 rfl ?_; refine .p rfl rfl rfl (by exact trivial) ?_ | refine RK.k_ 5 rfl ?_; (refine .ldl rfl rfl rfl rfl rfl rfl rfl (by rfl) (by rfl) ?_))))
    refine .call (Nsub_spec hb ha (by omega) (by omega)) rfl rfl rfl rfl ?_
    repeat (first | (with_reducible refine W.id_ ?_); (refine W.sreg ?_) | (with_reducible refine RK.id_ ?_); (first | refine RK.cons_ ?_; (first | refine RK.k_ 0 rfl ?_; refine .p rfl rfl rfl (by exact trivial) ?_ | refine RK.k_ 5 rfl ?_; (refine .ldl rfl rfl rfl rfl rfl rfl rfl (by rfl) (by rfl) ?_)) | refine RK.nilT rfl ?_ rfl))
    refine .call (made_spec) rfl rfl rfl rfl ?_
    repeat ((with_reducible refine RK.id_ ?_); (first | refine RK.cons_ ?_; (refine RK.k_ 6 rfl ?_; (refine .store rfl rfl rfl rfl rfl rfl rfl (by rfl) (by rfl) (by rfl) ?_)) | refine RK.nilT rfl ?_ rfl))
    refine W.ret ⟨_, rfl, .eq (by repeat (exact eZ_pure _)) ?_, rfl⟩
    refine congrArg (fun n => eZ (zcan n)) ?_
    rw [hz, hw]
    simp
    omega
  · refine .of_W (fn := Try.f32) (by repeat (first | exact trivial | refine ⟨(by repeat (exact eZ_pure _)), ?_⟩)) Try.call32 Try.func32 rfl rfl ?_
    repeat (first | (with_reducible refine W.id_ ?_); (first | refine W.sreg ?_ | refine W.seq ?_ | refine W.skipT rfl ?_ | refine W.condF rfl ?_) | (with_reducible refine RK.id_ ?_); (first | refine RK.cons_ ?_; (first | refine RK.k_ 0 rfl ?_; refine .p rfl rfl rfl (by exact trivial) ?_ | refine RK.k_ 5 rfl ?_; (refine .ldl rfl rfl rfl rfl rfl rfl rfl (by rfl) (by rfl) ?_) | refine RK.k_ 6 rfl ?_; (first | refine .box _ rfl rfl rfl rfl rfl rfl rfl ?_ | refine .alloc _ rfl rfl rfl rfl rfl rfl rfl ?_)) | refine RK.nilT rfl ?_ rfl))
    refine .call (Nsub_spec ha hb (by omega) (by omega)) rfl rfl rfl rfl ?_
    repeat (first | (with_reducible refine W.id_ ?_); (refine W.sreg ?_) | (with_reducible refine RK.id_ ?_); (first | refine RK.cons_ ?_; (refine RK.k_ 0 rfl ?_; refine .p rfl rfl rfl (by exact trivial) ?_) | refine RK.nilT rfl ?_ rfl))
    refine W.cond_dec rfl (fun h1 => ?_) (fun h1 => ?_)
    · repeat (first | (with_reducible refine W.id_ ?_); (refine W.sreg ?_) | (with_reducible refine RK.id_ ?_); (refine RK.cons_ ?_; (first | refine RK.k_ 0 rfl ?_; refine .p rfl rfl rfl (by exact trivial) ?_ | refine RK.k_ 5 rfl ?_; (refine .ldl rfl rfl rfl rfl rfl rfl rfl (by rfl) (by rfl) ?_))))
      refine .call (made_spec) rfl rfl rfl rfl ?_
      repeat ((with_reducible refine RK.id_ ?_); (first | refine RK.cons_ ?_; (refine RK.k_ 6 rfl ?_; (refine .store rfl rfl rfl rfl rfl rfl rfl (by rfl) (by rfl) (by rfl) ?_)) | refine RK.nilT rfl ?_ rfl))
      refine W.ret ⟨_, rfl, .eq (by repeat (exact eZ_pure _)) ?_, rfl⟩
      refine congrArg (fun n => eZ (zcan n)) ?_
      rw [hz, hw]
      simp
      omega
    repeat (first | (with_reducible refine W.id_ ?_); (first | refine W.sreg ?_ | refine W.skipT rfl ?_) | (with_reducible refine RK.id_ ?_); (refine RK.cons_ ?_; (first | refine RK.k_ 0 rfl ?_; refine .p rfl rfl rfl (by exact trivial) ?_ | refine RK.k_ 5 rfl ?_; (refine .ldl rfl rfl rfl rfl rfl rfl rfl (by rfl) (by rfl) ?_))))
    refine .call (Nsub_spec hb ha (by omega) (by omega)) rfl rfl rfl rfl ?_
    repeat (first | (with_reducible refine W.id_ ?_); (refine W.sreg ?_) | (with_reducible refine RK.id_ ?_); (first | refine RK.cons_ ?_; (first | refine RK.k_ 0 rfl ?_; refine .p rfl rfl rfl (by exact trivial) ?_ | refine RK.k_ 5 rfl ?_; (refine .ldl rfl rfl rfl rfl rfl rfl rfl (by rfl) (by rfl) ?_)) | refine RK.nilT rfl ?_ rfl))
    refine .call (made_spec) rfl rfl rfl rfl ?_
    repeat ((with_reducible refine RK.id_ ?_); (first | refine RK.cons_ ?_; (refine RK.k_ 6 rfl ?_; (refine .store rfl rfl rfl rfl rfl rfl rfl (by rfl) (by rfl) (by rfl) ?_)) | refine RK.nilT rfl ?_ rfl))
    refine W.ret ⟨_, rfl, .eq (by repeat (exact eZ_pure _)) ?_, rfl⟩
    refine congrArg (fun n => eZ (zcan n)) ?_
    rw [hz, hw]
    simp
    omega
  · refine .of_W (fn := Try.f32) (by repeat (first | exact trivial | refine ⟨(by repeat (exact eZ_pure _)), ?_⟩)) Try.call32 Try.func32 rfl rfl ?_
    repeat (first | (with_reducible refine W.id_ ?_); (first | refine W.sreg ?_ | refine W.sdraw mixed (by kernel_rfl) (by kernel_rfl) ?_ | refine W.seq ?_ | refine W.condT rfl ?_) | (with_reducible refine RK.id_ ?_); (first | refine RK.cons_ ?_; (first | refine RK.k_ 0 rfl ?_; refine .p rfl rfl rfl (by exact trivial) ?_ | refine RK.k_ 5 rfl ?_; (refine .ldl rfl rfl rfl rfl rfl rfl rfl (by rfl) (by rfl) ?_) | refine RK.k_ 6 rfl ?_; (first | refine .box _ rfl rfl rfl rfl rfl rfl rfl ?_ | refine .alloc _ rfl rfl rfl rfl rfl rfl rfl ?_)) | refine RK.nilT rfl ?_ rfl))
    refine .call (Nadd_spec ha hb (by omega) (by omega)) rfl rfl rfl rfl ?_
    skip
    refine .call (made_spec) rfl rfl rfl rfl ?_
    repeat ((with_reducible refine RK.id_ ?_); (first | refine RK.cons_ ?_; (refine RK.k_ 6 rfl ?_; (refine .store rfl rfl rfl rfl rfl rfl rfl (by rfl) (by rfl) (by rfl) ?_)) | refine RK.nilT rfl ?_ rfl))
    refine W.ret ⟨_, rfl, .eq (by repeat (exact eZ_pure _)) ?_, rfl⟩
    refine congrArg (fun n => eZ (zcan n)) ?_
    rw [hz, hw]
    simp
    try omega

theorem okZ.not {z : Z} (h : okZ z) : okZ (!z.1, z.2) := ⟨h.ok, h.len⟩
theorem zv_not (z : Z) : zv (!z.1, z.2) = -zv z := by
  unfold zv
  cases z.1 <;> simp

/- integer.Sub -/
theorem Zsub_spec {z w : Z} (h : okZ z) (h' : okZ w) : PureFn Try.prog 33 [eZ z, eZ w] (eZ (zcan (zv z - zv w))) := by
  refine .of_W (fn := Try.f33) (by repeat (first | exact trivial | refine ⟨(by repeat (exact eZ_pure _)), ?_⟩)) Try.call33 Try.func33 rfl rfl ?_
  repeat (first | (with_reducible refine W.id_ ?_); (refine W.sreg ?_) | (with_reducible refine RK.id_ ?_); (first | refine RK.cons_ ?_; (first | refine RK.k_ 0 rfl ?_; refine .p rfl rfl rfl (by exact trivial) ?_ | refine RK.k_ 5 rfl ?_; (first | refine .ldl rfl rfl rfl rfl rfl rfl rfl (by rfl) (by rfl) ?_ | refine .ldla rfl rfl rfl rfl rfl rfl rfl (by rfl) rfl ?_) | refine RK.k_ 6 rfl ?_; (first | refine .box _ rfl rfl rfl rfl rfl rfl rfl ?_ | refine .alloc _ rfl rfl rfl rfl rfl rfl rfl ?_)) | refine RK.nilT rfl ?_ rfl))
  refine .call (Zadd_spec h h'.not) rfl rfl rfl rfl ?_
  repeat ((with_reducible refine RK.id_ ?_); (first | refine RK.cons_ ?_; (refine RK.k_ 6 rfl ?_; (refine .store rfl rfl rfl rfl rfl rfl rfl (by rfl) (by rfl) (by rfl) ?_)) | refine RK.nilT rfl ?_ rfl))
  refine W.ret ⟨_, rfl, .eq (by repeat (exact eZ_pure _)) ?_, rfl⟩
  rw [zv_not, Int.sub_eq_add_neg]
  rfl

/- integer.Mul -/
theorem Zmul_spec {z w : Z} (h : okZ z) (h' : okZ w) : PureFn Try.prog 19 [eZ z, eZ w] (eZ (zcan (zv z * zv w))) := by
  have hl := h.len
  have hl' := h'.len
  have hz : zv z = if z.1 then -(nv z.2 : Int) else (nv z.2 : Int) := rfl
  have hw : zv w = if w.1 then -(nv w.2 : Int) else (nv w.2 : Int) := rfl
  refine .of_W (fn := Try.f19) (by repeat (first | exact trivial | refine ⟨(by repeat (exact eZ_pure _)), ?_⟩)) Try.call19 Try.func19 rfl rfl ?_
  repeat (first | (with_reducible refine W.id_ ?_); (first | refine W.sreg ?_ | refine W.sdraw mixed (by kernel_rfl) (by kernel_rfl) ?_) | (with_reducible refine RK.id_ ?_); (first | refine RK.cons_ ?_; (first | refine RK.k_ 0 rfl ?_; refine .p rfl rfl rfl (by exact trivial) ?_ | refine RK.k_ 5 rfl ?_; (refine .ldl rfl rfl rfl rfl rfl rfl rfl (by rfl) (by rfl) ?_) | refine RK.k_ 6 rfl ?_; (first | refine .box _ rfl rfl rfl rfl rfl rfl rfl ?_ | refine .alloc _ rfl rfl rfl rfl rfl rfl rfl ?_)) | refine RK.nilT rfl ?_ rfl))
  refine .call (Nmul_spec h.ok h'.ok (by omega) (by omega)) rfl rfl rfl rfl ?_
  skip
  refine .call (made_spec) rfl rfl rfl rfl ?_
  repeat ((with_reducible refine RK.id_ ?_); (first | refine RK.cons_ ?_; (refine RK.k_ 6 rfl ?_; (refine .store rfl rfl rfl rfl rfl rfl rfl (by rfl) (by rfl) (by rfl) ?_)) | refine RK.nilT rfl ?_ rfl))
  refine W.ret ⟨_, rfl, .eq (by repeat (exact eZ_pure _)) ?_, rfl⟩
  refine congrArg (fun n => eZ (zcan n)) ?_
  rw [hz, hw]
  cases z.1 <;> cases w.1 <;> simp [Int.neg_mul, Int.mul_neg]
end Go.Proofs.Ytbdefjbekbbldaa

namespace Go.Proofs.Ytbdefjbekbbldaa
open Go.V Go.N
set_option maxHeartbeats 4000000
set_option maxRecDepth 20000

def mc (m : M) : List D := [I m.x0, I m.x1, I m.x2, I m.x3]
theorem mc_eq (m : M) : mc m = m.l.map I := rfl
abbrev eM (m : M) : D := .agg (mc m)
theorem eM_pure (m : M) : Pure (eM m) := .agg (PureL.mem ⟨.int _ _, .int _ _, .int _ _, .int _ _, trivial⟩)

/-- A term as the program holds it: coefficient and monomial. -/
abbrev RT := Z × M
def tc (t : RT) : List D := [.bool t.1.1, eN t.1.2, I t.2.x0, I t.2.x1, I t.2.x2, I t.2.x3]
def zT : RT := ((false, []), ⟨0, 0, 0, 0⟩)
theorem tc_len (t : RT) : (tc t).length = 6 := rfl
theorem tc_pure (t : RT) : ∀ d ∈ tc t, Pure d := PureL.mem ⟨.bool _, eN_pure _, .int _ _, .int _ _, .int _ _, .int _ _, trivial⟩
abbrev eT (t : RT) : D := .agg (tc t)
theorem eT_pure (t : RT) : Pure (eT t) := .agg (tc_pure t)
abbrev eP (p : List RT) : D := encS tc p
theorem eP_pure (p : List RT) : Pure (eP p) := encS_pure fun t _ => tc_pure t

/-- A row of terms in memory that is written. -/
abbrev tB (d : List RT) : Option Blk := some (.cells (d.flatMap tc))

theorem set_same {α : Type} {H : List α} {b : Nat} {x : α} (h : H[b]? = some x) : H.set b x = H := by
  apply List.ext_getElem?
  intro i
  by_cases hi : i = b
  · subst hi; rw [List.getElem?_set_self (lt_of_getElem? h), h]
  · rw [List.getElem?_set_ne (fun e => hi e.symm)]

section
variable {cmp : RT → RT → Int} {g b n : Nat} {H : Hp}

/- slices.insertionSortCmpFunc -/
theorem insort_spec {d : List RT} {lo hi : Nat} {li hh : Int} (el : li = (lo : Int)) (eh : hh = (hi : Int)) (hc : ∀ x y, PureFn Try.prog g [eT x, eT y] (I (cmp x y))) (O : Ord cmp) (hb : H[b]? = some (tB d)) (hn : n = d.length) (hlo : lo ≤ hi) (hhi : hi ≤ d.length) (hd : d.length ≤ 1000000) :
    FnTo Try.prog 105 [.live b 0 n n 6, I li, I hh, .fn g []] H fun r H' => r = .tup [] ∧ ∃ d', H' = H.set b (tB d') ∧ Sh zT lo hi d d' ∧ Srt zT cmp lo hi d' := by
  subst hn el eh
  refine .of_W (fn := Try.f105) Try.call105 Try.func105 rfl (Nat.le_of_ble_eq_true rfl) ?_
  repeat (first | (with_reducible refine W.id_ ?_); (refine W.sreg ?_) | (with_reducible refine RK.id_ ?_); (first | refine RK.cons_ ?_; (first | refine RK.k_ 0 rfl ?_; refine .p rfl rfl rfl (by exact trivial) ?_ | refine RK.k_ 1 rfl ?_; (refine .pa rfl rfl rfl rfl rfl rfl (by omega) (by omega) ?_)) | refine RK.nilT rfl ?_ rfl))
  refine W.block (.loopT (fun s => lo < s.1 ∧ (s.1 ≤ hi ∨ s.1 = lo + 1) ∧ Sh zT lo hi d s.2 ∧ Srt zT cmp lo s.1 s.2) (fun s => hi - s.1) (fun (s : Nat × List RT) => [(8, I s.1), (0, .live b 0 d.length d.length 6), (1, I lo), (2, I hi), (3, .fn g [])]) (fun s => H.set b (tB s.2)) ((lo + 1, d)) ?_ ?_ ?_)
  · exact ⟨Nat.lt_succ_self _, .inr rfl, .refl _ _ _, .one (Nat.le_refl _)⟩
  · refine .heap ?_ (set_same hb)
    repeat (first | exact trivial | refine ⟨⟨_, rfl, .refl _⟩, ?_⟩)
  · rintro ⟨i, e⟩ ⟨h1, h2, h3, h4⟩
    dsimp only at h1 h2 h3 h4 ⊢
    have hel := h3.len
    repeat (first | (with_reducible refine W.id_ ?_); (first | refine W.sreg ?_ | refine W.seq ?_) | (with_reducible refine RK.id_ ?_); (first | refine RK.cons_ ?_; (refine RK.k_ 0 rfl ?_; refine .p rfl rfl rfl (by exact trivial) ?_) | refine RK.nilT rfl ?_ rfl))
    refine W.cond_dec rfl (fun h5 => ?_) (fun h5 => ?_)
    · have h5' : i < hi := by omega
      repeat (first | (with_reducible refine W.id_ ?_); (first | refine W.sreg ?_ | refine W.seq ?_ | refine W.blockS ?_ | refine W.skipT rfl ?_) | (with_reducible refine RK.id_ ?_); (first | refine RK.cons_ ?_; (refine RK.k_ 0 rfl ?_; refine .p rfl rfl rfl (by exact trivial) ?_) | refine RK.nilT rfl ?_ rfl))
      refine W.loopE (fun s => Ins zT cmp lo i s.1 s.2 ∧ Sh zT lo hi d s.2) (fun s => Srt zT cmp lo (i + 1) s.2 ∧ Sh zT lo hi d s.2) (fun s => s.1) (fun (s : Nat × List RT) => [(9, I s.1), (8, I i), (0, .live b 0 d.length d.length 6), (1, I lo), (2, I hi), (3, .fn g [])]) (fun s => H.set b (tB s.2)) ((i, e)) rfl ?_ ?_ ?_ ?_
      · exact ⟨.start h4 (by omega), h3⟩
      · refine .heap ?_ rfl
        repeat (first | exact trivial | refine ⟨⟨_, rfl, .refl _⟩, ?_⟩)
      · rintro ⟨j, f⟩ ⟨h6, h7⟩
        dsimp only at h6 h7 ⊢
        have hfl := h7.len
        have hji := h6.hi
        repeat (first | (with_reducible refine W.id_ ?_); (first | refine W.sdraw mixed (by kernel_rfl) (by kernel_rfl) ?_ | refine W.seq ?_) | (with_reducible refine RK.id_ ?_); (refine RK.cons_ ?_; (refine RK.k_ 0 rfl ?_; refine .p rfl rfl rfl (by exact trivial) ?_)))
        refine .dsplit (fun h8 => ?_) (fun h8 => ?_)
        · have hj1 : ((j : Int) - 1).toNat = j - 1 := by omega
          repeat ((with_reducible refine RK.id_ ?_); (refine RK.cons_ ?_; (first | refine RK.k_ 0 rfl ?_; refine .p rfl rfl rfl (by exact trivial) ?_ | refine RK.k_ 1 rfl ?_; (refine .pa rfl rfl rfl rfl rfl rfl (by omega) (by omega) ?_) | refine RK.k_ 4 rfl ?_; (refine .ixl _ _ (s := 6) rfl rfl rfl rfl rfl rfl rfl (by first | rfl | exact (Int.toNat_of_nonneg (by omega)).symm) (by omega) rfl ?_) | refine RK.k_ 5 rfl ?_; (refine .ldla rfl rfl rfl rfl rfl rfl rfl (by exact set_get (by assumption)) (by exact take_flat0 (z := zT) tc_len (by omega) (by omega)) ?_))))
          refine .callP (hc _ _) rfl rfl rfl rfl rfl rfl ?_
          repeat ((with_reducible refine RK.id_ ?_); (first | refine RK.cons_ ?_; (refine RK.k_ 0 rfl ?_; refine .p rfl rfl rfl (by exact trivial) ?_) | refine RK.nilT rfl ?_ rfl))
          rw [hj1]
          refine W.cond_dec rfl (fun h9 => ?_) (fun h9 => ?_)
          · repeat (first | (with_reducible refine W.id_ ?_); (first | refine W.reg ?_ | refine W.draw mixed (by kernel_rfl) (by kernel_rfl) ?_ | refine W.seq ?_ | refine W.blockR ?_ | refine W.skipT rfl ?_) | (with_reducible refine RK.id_ ?_); (first | refine RK.cons_ ?_; (first | refine RK.k_ 0 rfl ?_; refine .p rfl rfl rfl (by exact trivial) ?_ | refine RK.k_ 1 rfl ?_; (refine .pa rfl rfl rfl rfl rfl rfl (by omega) (by omega) ?_) | refine RK.k_ 4 rfl ?_; (refine .ixl _ _ (s := 6) rfl rfl rfl rfl rfl rfl rfl (by first | rfl | exact (Int.toNat_of_nonneg (by omega)).symm) (by omega) rfl ?_) | refine RK.k_ 5 rfl ?_; (refine .ldla rfl rfl rfl rfl rfl rfl rfl (by exact set_get (by assumption)) (by exact take_flat0 (z := zT) tc_len (by omega) (by omega)) ?_) | refine RK.k_ 6 rfl ?_; (refine .store rfl rfl rfl rfl rfl rfl rfl (by first | exact set_get (by assumption) | exact set_get2 (by assumption)) (by exact overR_flat0 tc_len rfl (by first | omega | (rw [List.length_set]; omega))) (by first | exact setR_eq _ (lt_set (by assumption)) | exact setR_eq _ (lt_set2 (by assumption))) ?_)) | refine RK.nilGT rfl ?_ rfl))
            rw [hj1]
            skip
            refine .nil ?_ rfl
            have hlo' := h6.lo
            refine ⟨(j - 1, swp zT f j (j - 1)), by show j - 1 < j; omega, ⟨h6.step O (by omega) (by omega) h9, h7.trans (.swp (by omega) (by omega) (by omega) (by omega) (by omega))⟩, .heap ?_ (by simp only [List.set_set]; rfl)⟩
            repeat (first | exact trivial | refine ⟨⟨_, rfl, .refl _⟩, ?_⟩ | refine ⟨⟨_, rfl, .of_eq (congrArg (D.int _) (by omega))⟩, ?_⟩)
          · refine W.exit ⟨(j, f), ⟨h6.done O (.inr h9), h7⟩, .heap ?_ rfl⟩
            repeat (first | exact trivial | refine ⟨⟨_, rfl, .refl _⟩, ?_⟩)
        · repeat (first | (with_reducible refine W.id_ ?_); (refine W.condF rfl ?_) | (with_reducible refine RK.id_ ?_); (first | refine RK.cons_ ?_; (first | refine .skip rfl rfl ?_ | refine RK.k_ 0 rfl ?_; refine .p rfl rfl rfl (by exact trivial) ?_) | refine RK.nilT rfl ?_ rfl))
          refine W.exit ⟨(j, f), ⟨h6.done O (.inl (by have := h6.lo; omega)), h7⟩, .heap ?_ rfl⟩
          repeat (first | exact trivial | refine ⟨⟨_, rfl, .refl _⟩, ?_⟩)
      · rintro ⟨j, f⟩ ⟨h6, h7⟩
        dsimp only at h6 h7 ⊢
        repeat (first | (with_reducible refine W.id_ ?_); (refine W.reg ?_) | (with_reducible refine RK.id_ ?_); (refine RK.cons_ ?_; (first | refine RK.k_ 0 rfl ?_; refine .p rfl rfl rfl (by exact trivial) ?_ | refine RK.k_ 1 rfl ?_; (refine .pa rfl rfl rfl rfl rfl rfl (by omega) (by omega) ?_))))
        refine .nil ?_ rfl
        refine ⟨(i + 1, f), by show hi - (i + 1) < hi - i; omega, ⟨by show lo < i + 1; omega, .inl h5', h7, h6⟩, .heap ?_ rfl⟩
        repeat (first | exact trivial | refine ⟨⟨_, rfl, .refl _⟩, ?_⟩)
    · refine W.exit ⟨_, rfl, rfl, e, rfl, h3, h4.sub (Nat.le_refl _) (by omega)⟩

/- slices.swapRangeCmpFunc -/
theorem swapRange_spec {d : List RT} {p q k : Nat} {pp qq kk : Int} {fv : D} (ep : pp = (p : Int)) (eq : qq = (q : Int)) (ek : kk = (k : Int)) (hb : H[b]? = some (tB d)) (hn : n = d.length) (hpq : p + k ≤ q) (hq : q + k ≤ d.length) (hd : d.length ≤ 1000000) :
    FnTo Try.prog 112 [.live b 0 n n 6, I pp, I qq, I kk, fv] H fun r H' => r = .tup [] ∧ ∃ d', H' = H.set b (tB d') ∧ Exch zT p q k d d' ∧ d'.Perm d := by
  subst hn ep eq ek
  refine .of_W (fn := Try.f112) Try.call112 Try.func112 rfl (Nat.le_of_ble_eq_true rfl) ?_
  repeat (first | (with_reducible refine W.id_ ?_); (refine W.sreg ?_) | (with_reducible refine RK.id_ ?_); (first | refine RK.cons_ ?_; (refine RK.k_ 0 rfl ?_; refine .p rfl rfl rfl (by exact trivial) ?_) | refine RK.nilT rfl ?_ rfl))
  refine W.block (.loopT (fun s => s.1 ≤ k ∧ Exch zT p q s.1 d s.2 ∧ s.2.Perm d) (fun s => k - s.1) (fun (s : Nat × List RT) => [(10, I s.1), (0, .live b 0 d.length d.length 6), (1, I p), (2, I q), (3, I k)]) (fun s => H.set b (tB s.2)) ((0, d)) ?_ ?_ ?_)
  · exact ⟨Nat.zero_le _, .zero, .refl _⟩
  · refine .heap ?_ (set_same hb)
    repeat (first | exact trivial | refine ⟨⟨_, rfl, .refl _⟩, ?_⟩)
  · rintro ⟨i, e⟩ ⟨h1, h2, h3⟩
    dsimp only at h1 h2 h3 ⊢
    have hel := h3.length_eq
    repeat (first | (with_reducible refine W.id_ ?_); (first | refine W.sreg ?_ | refine W.seq ?_) | (with_reducible refine RK.id_ ?_); (first | refine RK.cons_ ?_; (refine RK.k_ 0 rfl ?_; refine .p rfl rfl rfl (by exact trivial) ?_) | refine RK.nilT rfl ?_ rfl))
    refine W.cond_dec rfl (fun h4 => ?_) (fun h4 => ?_)
    · repeat (first | (with_reducible refine W.id_ ?_); (first | refine W.reg ?_ | refine W.draw mixed (by kernel_rfl) (by kernel_rfl) ?_ | refine W.seq ?_ | refine W.blockR ?_ | refine W.skipT rfl ?_) | (with_reducible refine RK.id_ ?_); (first | refine RK.cons_ ?_; (first | refine RK.k_ 0 rfl ?_; refine .p rfl rfl rfl (by exact trivial) ?_ | refine RK.k_ 1 rfl ?_; (refine .pa rfl rfl rfl rfl rfl rfl (by omega) (by omega) ?_) | refine RK.k_ 4 rfl ?_; (refine .ixl _ _ (s := 6) rfl rfl rfl rfl rfl rfl rfl (by rfl) (by omega) rfl ?_) | refine RK.k_ 5 rfl ?_; (refine .ldla rfl rfl rfl rfl rfl rfl rfl (by exact set_get (by assumption)) (by exact take_flat0 (z := zT) tc_len (by omega) (by omega)) ?_) | refine RK.k_ 6 rfl ?_; (refine .store rfl rfl rfl rfl rfl rfl rfl (by first | exact set_get (by assumption) | exact set_get2 (by assumption)) (by exact overR_flat0 tc_len rfl (by first | omega | (rw [List.length_set]; omega))) (by first | exact setR_eq _ (lt_set (by assumption)) | exact setR_eq _ (lt_set2 (by assumption))) ?_)) | refine RK.nilGT rfl ?_ rfl))
      refine .nil ?_ rfl
      refine ⟨(i + 1, swp zT e (p + i) (q + i)), by show k - (i + 1) < k - i; omega, ⟨by show i + 1 ≤ k; omega, h2.step (n := k) (by omega) hpq (by omega), (swp_perm (by omega) (by omega)).trans h3⟩, .heap ?_ (by simp only [List.set_set]; rfl)⟩
      repeat (first | exact trivial | refine ⟨⟨_, rfl, .refl _⟩, ?_⟩)
    · have : i = k := by omega
      subst this
      exact W.exit ⟨_, rfl, rfl, e, rfl, h2, h3⟩

/- slices.rotateCmpFunc -/
theorem rotate_spec {d : List RT} {lo m hi : Nat} {ll mm hh : Int} {fv : D} (el : ll = (lo : Int)) (em : mm = (m : Int)) (eh : hh = (hi : Int)) (hb : H[b]? = some (tB d)) (hn : n = d.length) (h1 : lo < m) (h2 : m < hi) (h3 : hi ≤ d.length) (hd : d.length ≤ 1000000) :
    FnTo Try.prog 110 [.live b 0 n n 6, I ll, I mm, I hh, fv] H fun r H' => r = .tup [] ∧ ∃ d', H' = H.set b (tB d') ∧ Rot zT lo m hi d d' ∧ d'.Perm d := by
  subst hn el em eh
  refine .of_W (fn := Try.f110) Try.call110 Try.func110 rfl (Nat.le_of_ble_eq_true rfl) ?_
  repeat (first | (with_reducible refine W.id_ ?_); (first | refine W.sreg ?_ | refine W.seq ?_) | (with_reducible refine RK.id_ ?_); (first | refine RK.cons_ ?_; (first | refine RK.k_ 0 rfl ?_; refine .p rfl rfl rfl (by exact trivial) ?_ | refine RK.k_ 1 rfl ?_; (refine .pa rfl rfl rfl rfl rfl rfl (by omega) (by omega) ?_)) | refine RK.nilT rfl ?_ rfl))
  refine W.loopE (fun s => 0 < s.1 ∧ s.1 ≤ m - lo ∧ 0 < s.2.1 ∧ s.2.1 ≤ hi - m ∧ N.Rest zT m s.1 s.2.1 lo hi d s.2.2 ∧ s.2.2.Perm d) (fun s => 0 < s.1 ∧ s.1 ≤ m - lo ∧ s.2.1 = s.1 ∧ s.1 ≤ hi - m ∧ N.Rest zT m s.1 s.1 lo hi d s.2.2 ∧ s.2.2.Perm d) (fun s => s.1 + s.2.1) (fun (s : Nat × Nat × List RT) => [(10, I s.1), (11, I s.2.1), (0, .live b 0 d.length d.length 6), (2, I m), (4, fv)]) (fun s => H.set b (tB s.2.2)) ((m - lo, hi - m, d)) rfl ?_ ?_ ?_ ?_
  · exact ⟨by show 0 < m - lo; omega, Nat.le_refl _, by show 0 < hi - m; omega, Nat.le_refl _, .start (by omega) (by omega), .refl _⟩
  · refine .heap ?_ (set_same hb)
    repeat (first | exact trivial | refine ⟨⟨_, rfl, .refl _⟩, ?_⟩ | refine ⟨⟨_, rfl, .of_eq (congrArg (D.int _) (by first | omega | (dsimp only; omega)))⟩, ?_⟩)
  · rintro ⟨i, j, e⟩ ⟨h4, h5, h6, h7, h8, h9⟩
    dsimp only at h4 h5 h6 h7 h8 h9 ⊢
    have hel := h9.length_eq
    repeat (first | (with_reducible refine W.id_ ?_); (first | refine W.sreg ?_ | refine W.seq ?_) | (with_reducible refine RK.id_ ?_); (first | refine RK.cons_ ?_; (refine RK.k_ 0 rfl ?_; refine .p rfl rfl rfl (by exact trivial) ?_) | refine RK.nilT rfl ?_ rfl))
    refine W.cond_ndec rfl (fun h10 => ?_) (fun h10 => ?_)
    · repeat (first | (with_reducible refine W.id_ ?_); (first | refine W.sreg ?_ | refine W.blockS ?_ | refine W.skipT rfl ?_) | (with_reducible refine RK.id_ ?_); (first | refine RK.cons_ ?_; (refine RK.k_ 0 rfl ?_; refine .p rfl rfl rfl (by exact trivial) ?_) | refine RK.nilT rfl ?_ rfl))
      refine W.cond_dec rfl (fun h11 => ?_) (fun h11 => ?_)
      · repeat (first | (with_reducible refine W.id_ ?_); (refine W.sreg ?_) | (with_reducible refine RK.id_ ?_); (refine RK.cons_ ?_; (first | refine RK.k_ 0 rfl ?_; refine .p rfl rfl rfl (by exact trivial) ?_ | refine RK.k_ 1 rfl ?_; (refine .pa rfl rfl rfl rfl rfl rfl (by omega) (by omega) ?_))))
        refine .callF (swapRange_spec (p := m - i) (q := m) (k := j) (by omega) rfl rfl (set_get hb) hel.symm (by omega) (by omega) (by omega)) rfl rfl rfl rfl ?_; rintro _ _ ⟨rfl, e', rfl, he, hp⟩
        repeat (first | (with_reducible refine W.id_ ?_); (refine W.reg ?_) | (with_reducible refine RK.id_ ?_); (first | refine RK.cons_ ?_; (first | refine RK.k_ 0 rfl ?_; refine .p rfl rfl rfl (by exact trivial) ?_ | refine RK.k_ 1 rfl ?_; (refine .pa rfl rfl rfl rfl rfl rfl (by omega) (by omega) ?_)) | refine RK.nilT rfl ?_ rfl))
        refine .nil ?_ rfl
        refine ⟨(i - j, j, e'), by show i - j + j < i + j; omega, ⟨by show 0 < i - j; omega, by show i - j ≤ m - lo; omega, h6, h7, h8.left (by omega) (by omega) he, hp.trans h9⟩, .heap ?_ (by simp only [List.set_set])⟩
        repeat (first | exact trivial | refine ⟨⟨_, rfl, .refl _⟩, ?_⟩ | refine ⟨⟨_, rfl, .of_eq (congrArg (D.int _) (by omega))⟩, ?_⟩)
      · repeat (first | (with_reducible refine W.id_ ?_); (refine W.sreg ?_) | (with_reducible refine RK.id_ ?_); (refine RK.cons_ ?_; (first | refine RK.k_ 0 rfl ?_; refine .p rfl rfl rfl (by exact trivial) ?_ | refine RK.k_ 1 rfl ?_; (refine .pa rfl rfl rfl rfl rfl rfl (by omega) (by omega) ?_))))
        refine .callF (swapRange_spec (p := m - i) (q := m + j - i) (k := i) (by omega) (by omega) rfl (set_get hb) hel.symm (by omega) (by omega) (by omega)) rfl rfl rfl rfl ?_; rintro _ _ ⟨rfl, e', rfl, he, hp⟩
        repeat (first | (with_reducible refine W.id_ ?_); (refine W.reg ?_) | (with_reducible refine RK.id_ ?_); (first | refine RK.cons_ ?_; (first | refine RK.k_ 0 rfl ?_; refine .p rfl rfl rfl (by exact trivial) ?_ | refine RK.k_ 1 rfl ?_; (refine .pa rfl rfl rfl rfl rfl rfl (by omega) (by omega) ?_)) | refine RK.nilT rfl ?_ rfl))
        refine .nil ?_ rfl
        refine ⟨(i, j - i, e'), by show i + (j - i) < i + j; omega, ⟨h4, h5, by show 0 < j - i; omega, by show j - i ≤ hi - m; omega, h8.right (by omega) (by omega) he, hp.trans h9⟩, .heap ?_ (by simp only [List.set_set])⟩
        repeat (first | exact trivial | refine ⟨⟨_, rfl, .refl _⟩, ?_⟩ | refine ⟨⟨_, rfl, .of_eq (congrArg (D.int _) (by (dsimp only; omega)))⟩, ?_⟩)
    · refine W.exit ⟨(i, j, e), ⟨h4, h5, by show j = i; omega, by show i ≤ hi - m; omega, ?_, h9⟩, .heap ?_ rfl⟩
      · have : j = i := by omega
        subst this; exact h8
      · repeat (first | exact trivial | refine ⟨⟨_, rfl, .refl _⟩, ?_⟩)
  · rintro ⟨i, j, e⟩ ⟨h4, h5, h6, h7, h8, h9⟩
    dsimp only at h4 h5 h6 h7 h8 h9 ⊢
    have hel := h9.length_eq
    repeat (first | (with_reducible refine W.id_ ?_); (refine W.reg ?_) | (with_reducible refine RK.id_ ?_); (refine RK.cons_ ?_; (first | refine RK.k_ 0 rfl ?_; refine .p rfl rfl rfl (by exact trivial) ?_ | refine RK.k_ 1 rfl ?_; (refine .pa rfl rfl rfl rfl rfl rfl (by omega) (by omega) ?_))))
    refine .callF (swapRange_spec (p := m - i) (q := m) (k := i) (by omega) rfl rfl (set_get hb) hel.symm (by omega) (by omega) (by omega)) rfl rfl rfl rfl ?_; rintro _ _ ⟨rfl, e', rfl, he, hp⟩
    refine .nil ?_ rfl
    exact ⟨_, rfl, rfl, e', by simp only [List.set_set], h8.done (by omega) he, hp.trans h9⟩
end
end Go.Proofs.Ytbdefjbekbbldaa

namespace Go.Proofs.Ytbdefjbekbbldaa
open Go.V Go.N
set_option maxHeartbeats 8000000
set_option maxRecDepth 20000

/- slices.symMergeCmpFunc -/
theorem symMerge_spec {cmp : RT → RT → Int} {g : Nat} (hc : ∀ x y, PureFn Try.prog g [eT x, eT y] (I (cmp x y))) (O : Ord cmp) :
    ∀ (fuel : Nat) {b n : Nat} {H : Hp} {d : List RT} {lo m hi : Nat} {ll mm hh : Int} (_ : hi - lo ≤ fuel) (el : ll = (lo : Int)) (em : mm = (m : Int)) (eh : hh = (hi : Int)) (hb : H[b]? = some (tB d)) (hn : n = d.length) (_ : lo < m) (_ : m < hi) (_ : hi ≤ d.length) (_ : d.length ≤ 1000000) (_ : Srt zT cmp lo m d) (_ : Srt zT cmp m hi d),
    FnTo Try.prog 106 [.live b 0 n n 6, I ll, I mm, I hh, .fn g []] H fun r H' => r = .tup [] ∧ ∃ d', H' = H.set b (tB d') ∧ Sh zT lo hi d d' ∧ Srt zT cmp lo hi d'
  | 0, _, _, _, _, _, _, _, _, _, _, hf, _, _, _, _, _, h1, h2, _, _, _, _ => by omega
  | fuel + 1, b, n, H, d, lo, m, hi, ll, mm, hh, hf, el, em, eh, hb, hn, h1, h2, h3, hd, sL, sR => by
    subst hn el em eh
    have ih := @symMerge_spec cmp g hc O fuel
    refine .of_W (fn := Try.f106) Try.call106 Try.func106 rfl (Nat.le_of_ble_eq_true rfl) ?_
    repeat (first | (with_reducible refine W.id_ ?_); (first | refine W.sreg ?_ | refine W.seq ?_) | (with_reducible refine RK.id_ ?_); (first | refine RK.cons_ ?_; (first | refine RK.k_ 0 rfl ?_; refine .p rfl rfl rfl (by exact trivial) ?_ | refine RK.k_ 1 rfl ?_; (refine .pa rfl rfl rfl rfl rfl rfl (by omega) (by omega) ?_)) | refine RK.nilT rfl ?_ rfl))
    refine .joinP (m ≠ lo + 1) [(0, .live b 0 d.length d.length 6), (1, I lo), (2, I m), (3, I hi), (4, .fn g [])] H ?_ (fun hm1 => ?_)
    · refine W.cond_dec rfl (fun h4 => ?_) (fun h4 => ?_)
      · have h4' : m = lo + 1 := by omega
        repeat (first | (with_reducible refine W.id_ ?_); (first | refine W.sreg ?_ | refine W.seq ?_) | (with_reducible refine RK.id_ ?_); (first | refine RK.cons_ ?_; (refine RK.k_ 0 rfl ?_; refine .p rfl rfl rfl (by exact trivial) ?_) | refine RK.nilT rfl ?_ rfl))
        refine W.loopE (fun s => m ≤ s.1 ∧ s.1 ≤ s.2 ∧ s.2 ≤ hi ∧ (s.1 = m ∨ cmp (d.getD (s.1 - 1) zT) (d.getD lo zT) < 0) ∧ (s.2 = hi ∨ ¬ cmp (d.getD s.2 zT) (d.getD lo zT) < 0)) (fun s => m ≤ s.1 ∧ s.1 ≤ hi ∧ (s.1 = m ∨ cmp (d.getD (s.1 - 1) zT) (d.getD lo zT) < 0) ∧ (s.1 = hi ∨ ¬ cmp (d.getD s.1 zT) (d.getD lo zT) < 0)) (fun s => s.2 - s.1) (fun (s : Nat × Nat) => [(10, I s.1), (11, I s.2), (0, .live b 0 d.length d.length 6), (1, I lo), (4, .fn g [])]) (fun s => H) ((m, hi)) rfl ?_ ?_ ?_ ?_
        · exact ⟨Nat.le_refl _, by show m ≤ hi; omega, Nat.le_refl _, .inl rfl, .inl rfl⟩
        · refine .heap ?_ rfl
          repeat (first | exact trivial | refine ⟨⟨_, rfl, .refl _⟩, ?_⟩)
        · rintro ⟨i, j⟩ ⟨k1, k2, k3, k4, k5⟩
          dsimp only at k1 k2 k3 k4 k5 ⊢
          have hh : (((i : Int) + j) / 2).toNat = (i + j) / 2 := by omega
          repeat (first | (with_reducible refine W.id_ ?_); (first | refine W.sreg ?_ | refine W.seq ?_) | (with_reducible refine RK.id_ ?_); (first | refine RK.cons_ ?_; (refine RK.k_ 0 rfl ?_; refine .p rfl rfl rfl (by exact trivial) ?_) | refine RK.nilT rfl ?_ rfl))
          refine W.cond_dec rfl (fun h5 => ?_) (fun h5 => ?_)
          · repeat (first | (with_reducible refine W.id_ ?_); (first | refine W.sreg ?_ | refine W.sdraw mixed (by kernel_rfl) (by kernel_rfl) ?_ | refine W.blockS ?_ | refine W.skipT rfl ?_) | (with_reducible refine RK.id_ ?_); (first | refine RK.cons_ ?_; (first | refine RK.k_ 0 rfl ?_; refine .p rfl rfl rfl (by exact trivial) ?_ | refine RK.k_ 1 rfl ?_; (refine .pa rfl rfl rfl rfl rfl rfl (by omega) (by omega) ?_) | refine RK.k_ 2 rfl ?_; (first | refine .cv64 rfl rfl rfl rfl rfl rfl (by omega) (by omega) ?_ | refine .cvu rfl rfl rfl rfl rfl rfl (by omega) (by omega) ?_) | refine RK.k_ 4 rfl ?_; (first | refine .ixl _ _ (s := 6) rfl rfl rfl rfl rfl rfl rfl (by rfl) (by omega) rfl ?_ | refine .p rfl rfl rfl (by omega) ?_) | refine RK.k_ 5 rfl ?_; (refine .ldla rfl rfl rfl rfl rfl rfl rfl (by assumption) (by exact take_flat0 (z := zT) tc_len (by omega) (by omega)) ?_) | refine RK.k_ 3 rfl ?_; (refine .shr 2 rfl rfl rfl rfl rfl (by omega) rfl ?_)) | refine RK.nilT rfl ?_ rfl))
            refine .callP (hc _ _) rfl rfl rfl rfl rfl rfl ?_
            repeat ((with_reducible refine RK.id_ ?_); (first | refine RK.cons_ ?_; (refine RK.k_ 0 rfl ?_; refine .p rfl rfl rfl (by exact trivial) ?_) | refine RK.nilT rfl ?_ rfl))
            rw [hh]
            refine W.cond_dec rfl (fun h6 => ?_) (fun h6 => ?_)
            · repeat (first | (with_reducible refine W.id_ ?_); (refine W.reg ?_) | (with_reducible refine RK.id_ ?_); (refine RK.cons_ ?_; (first | refine RK.k_ 0 rfl ?_; refine .p rfl rfl rfl (by exact trivial) ?_ | refine RK.k_ 1 rfl ?_; (refine .pa rfl rfl rfl rfl rfl rfl (by omega) (by omega) ?_))))
              refine .nil ?_ rfl
              refine ⟨((i + j) / 2 + 1, j), by show j - ((i + j) / 2 + 1) < j - i; omega, ⟨by show m ≤ (i + j) / 2 + 1; omega, by show (i + j) / 2 + 1 ≤ j; omega, k3, .inr h6, k5⟩, .heap ?_ rfl⟩
              repeat (first | exact trivial | refine ⟨⟨_, rfl, .refl _⟩, ?_⟩)
            · repeat (first | (with_reducible refine W.id_ ?_); (refine W.reg ?_) | (with_reducible refine RK.id_ ?_); (refine RK.cons_ ?_; (refine RK.k_ 0 rfl ?_; refine .p rfl rfl rfl (by exact trivial) ?_)))
              refine .nil ?_ rfl
              refine ⟨(i, (i + j) / 2), by show (i + j) / 2 - i < j - i; omega, ⟨k1, by show i ≤ (i + j) / 2; omega, by show (i + j) / 2 ≤ hi; omega, k4, .inr h6⟩, .heap ?_ rfl⟩
              repeat (first | exact trivial | refine ⟨⟨_, rfl, .refl _⟩, ?_⟩)
          · have : j = i := by omega
            subst this
            refine W.exit ⟨(j, j), ⟨k1, k3, k4, k5⟩, .heap ?_ rfl⟩
            repeat (first | exact trivial | refine ⟨⟨_, rfl, .refl _⟩, ?_⟩)
        · rintro ⟨i, j⟩ ⟨k1, k3, k4, k5⟩
          dsimp only at k1 k3 k4 k5 ⊢
          repeat (first | (with_reducible refine W.id_ ?_); (first | refine W.sreg ?_ | refine W.seq ?_) | (with_reducible refine RK.id_ ?_); (first | refine RK.cons_ ?_; (refine RK.k_ 0 rfl ?_; refine .p rfl rfl rfl (by exact trivial) ?_) | refine RK.nilT rfl ?_ rfl))
          refine W.loopE (fun s => lo ≤ s.1 ∧ s.1 < i ∧ Up zT lo i s.1 d s.2) (fun s => s.1 = i - 1 ∧ Up zT lo i (i - 1) d s.2) (fun s => i - s.1) (fun (s : Nat × List RT) => [(13, I s.1), (10, I i), (0, .live b 0 d.length d.length 6)]) (fun s => H.set b (tB s.2)) ((lo, d)) rfl ?_ ?_ ?_ ?_
          · exact ⟨Nat.le_refl _, by show lo < i; omega, .start⟩
          · refine .heap ?_ (set_same hb)
            repeat (first | exact trivial | refine ⟨⟨_, rfl, .refl _⟩, ?_⟩)
          · rintro ⟨k, e⟩ ⟨q1, q2, q3⟩
            dsimp only at q1 q2 q3 ⊢
            have hel := q3.perm.length_eq
            repeat (first | (with_reducible refine W.id_ ?_); (first | refine W.sreg ?_ | refine W.seq ?_) | (with_reducible refine RK.id_ ?_); (first | refine RK.cons_ ?_; (first | refine RK.k_ 0 rfl ?_; refine .p rfl rfl rfl (by exact trivial) ?_ | refine RK.k_ 1 rfl ?_; (refine .pa rfl rfl rfl rfl rfl rfl (by omega) (by omega) ?_)) | refine RK.nilT rfl ?_ rfl))
            refine W.cond_dec rfl (fun h6 => ?_) (fun h6 => ?_)
            · repeat (first | (with_reducible refine W.id_ ?_); (first | refine W.reg ?_ | refine W.draw mixed (by kernel_rfl) (by kernel_rfl) ?_ | refine W.seq ?_ | refine W.blockR ?_ | refine W.skipT rfl ?_) | (with_reducible refine RK.id_ ?_); (first | refine RK.cons_ ?_; (first | refine RK.k_ 0 rfl ?_; refine .p rfl rfl rfl (by exact trivial) ?_ | refine RK.k_ 1 rfl ?_; (refine .pa rfl rfl rfl rfl rfl rfl (by omega) (by omega) ?_) | refine RK.k_ 4 rfl ?_; (first | refine .ixl _ _ (s := 6) rfl rfl rfl rfl rfl rfl rfl (by rfl) (by omega) rfl ?_ | refine .p rfl rfl rfl (by omega) ?_) | refine RK.k_ 5 rfl ?_; (refine .ldla rfl rfl rfl rfl rfl rfl rfl (by exact set_get (by assumption)) (by exact take_flat0 (z := zT) tc_len (by omega) (by omega)) ?_) | refine RK.k_ 6 rfl ?_; (refine .store rfl rfl rfl rfl rfl rfl rfl (by first | exact set_get (by assumption) | exact set_get2 (by assumption)) (by exact overR_flat0 tc_len rfl (by first | omega | (rw [List.length_set]; omega))) (by first | exact setR_eq _ (lt_set (by assumption)) | exact setR_eq _ (lt_set2 (by assumption))) ?_)) | refine RK.nilGT rfl ?_ rfl))
              refine .nil ?_ rfl
              refine ⟨(k + 1, swp zT e k (k + 1)), by show i - (k + 1) < i - k; omega, ⟨by show lo ≤ k + 1; omega, by show k + 1 < i; omega, q3.step q1 (by omega)⟩, .heap ?_ (by simp only [List.set_set]; rfl)⟩
              repeat (first | exact trivial | refine ⟨⟨_, rfl, .refl _⟩, ?_⟩)
            · have : k = i - 1 := by omega
              subst this
              refine W.exit ⟨(i - 1, e), ⟨rfl, q3⟩, .heap ?_ rfl⟩
              repeat (first | exact trivial | refine ⟨⟨_, rfl, .refl _⟩, ?_⟩)
          · rintro ⟨k, e⟩ ⟨q1, q3⟩
            dsimp only at q1 q3 ⊢
            have e1 : i - 1 + 1 = i := by omega
            refine W.ret ⟨_, rfl, rfl, e, rfl, q3.sh (by omega) (by omega), Up.srt (b := hi) (k := i - 1) O ⟨q3.perm, q3.eq⟩ (by rw [← h4']; exact sR) (by omega) (by omega) (by rw [e1]; exact k5) ?_⟩
            rcases k4 with k4 | k4
            · left; omega
            · exact .inr k4
      · refine .skip ⟨by omega, .heap ?_ rfl⟩
        repeat (first | exact trivial | refine ⟨⟨_, rfl, .refl _⟩, ?_⟩)
    repeat (first | (with_reducible refine W.id_ ?_); (first | refine W.sreg ?_ | refine W.seq ?_) | (with_reducible refine RK.id_ ?_); (first | refine RK.cons_ ?_; (first | refine RK.k_ 0 rfl ?_; refine .p rfl rfl rfl (by exact trivial) ?_ | refine RK.k_ 1 rfl ?_; (refine .pa rfl rfl rfl rfl rfl rfl (by omega) (by omega) ?_)) | refine RK.nilT rfl ?_ rfl))
    refine .joinP (hi ≠ m + 1) [(0, .live b 0 d.length d.length 6), (1, I lo), (2, I m), (3, I hi), (4, .fn g [])] H ?_ (fun hm2 => ?_)
    · refine W.cond_dec rfl (fun h4 => ?_) (fun h4 => ?_)
      · have h4' : hi = m + 1 := by omega
        repeat (first | (with_reducible refine W.id_ ?_); (first | refine W.sreg ?_ | refine W.seq ?_) | (with_reducible refine RK.id_ ?_); (first | refine RK.cons_ ?_; (refine RK.k_ 0 rfl ?_; refine .p rfl rfl rfl (by exact trivial) ?_) | refine RK.nilT rfl ?_ rfl))
        refine W.loopE (fun s => lo ≤ s.1 ∧ s.1 ≤ s.2 ∧ s.2 ≤ m ∧ (s.1 = lo ∨ ¬ cmp (d.getD m zT) (d.getD (s.1 - 1) zT) < 0) ∧ (s.2 = m ∨ cmp (d.getD m zT) (d.getD s.2 zT) < 0)) (fun s => lo ≤ s.1 ∧ s.1 ≤ m ∧ (s.1 = lo ∨ ¬ cmp (d.getD m zT) (d.getD (s.1 - 1) zT) < 0) ∧ (s.1 = m ∨ cmp (d.getD m zT) (d.getD s.1 zT) < 0)) (fun s => s.2 - s.1) (fun (s : Nat × Nat) => [(14, I s.1), (15, I s.2), (0, .live b 0 d.length d.length 6), (2, I m), (4, .fn g [])]) (fun s => H) ((lo, m)) rfl ?_ ?_ ?_ ?_
        · exact ⟨Nat.le_refl _, by show lo ≤ m; omega, Nat.le_refl _, .inl rfl, .inl rfl⟩
        · refine .heap ?_ rfl
          repeat (first | exact trivial | refine ⟨⟨_, rfl, .refl _⟩, ?_⟩)
        · rintro ⟨i, j⟩ ⟨k1, k2, k3, k4, k5⟩
          dsimp only at k1 k2 k3 k4 k5 ⊢
          have hh : (((i : Int) + j) / 2).toNat = (i + j) / 2 := by omega
          repeat (first | (with_reducible refine W.id_ ?_); (first | refine W.sreg ?_ | refine W.seq ?_) | (with_reducible refine RK.id_ ?_); (first | refine RK.cons_ ?_; (refine RK.k_ 0 rfl ?_; refine .p rfl rfl rfl (by exact trivial) ?_) | refine RK.nilT rfl ?_ rfl))
          refine W.cond_dec rfl (fun h5 => ?_) (fun h5 => ?_)
          · repeat (first | (with_reducible refine W.id_ ?_); (first | refine W.sreg ?_ | refine W.sdraw mixed (by kernel_rfl) (by kernel_rfl) ?_ | refine W.blockS ?_ | refine W.skipT rfl ?_) | (with_reducible refine RK.id_ ?_); (first | refine RK.cons_ ?_; (first | refine RK.k_ 0 rfl ?_; refine .p rfl rfl rfl (by exact trivial) ?_ | refine RK.k_ 1 rfl ?_; (refine .pa rfl rfl rfl rfl rfl rfl (by omega) (by omega) ?_) | refine RK.k_ 2 rfl ?_; (first | refine .cv64 rfl rfl rfl rfl rfl rfl (by omega) (by omega) ?_ | refine .cvu rfl rfl rfl rfl rfl rfl (by omega) (by omega) ?_) | refine RK.k_ 4 rfl ?_; (first | refine .ixl _ _ (s := 6) rfl rfl rfl rfl rfl rfl rfl (by rfl) (by omega) rfl ?_ | refine .p rfl rfl rfl (by omega) ?_) | refine RK.k_ 5 rfl ?_; (refine .ldla rfl rfl rfl rfl rfl rfl rfl (by assumption) (by exact take_flat0 (z := zT) tc_len (by omega) (by omega)) ?_) | refine RK.k_ 3 rfl ?_; (refine .shr 2 rfl rfl rfl rfl rfl (by omega) rfl ?_)) | refine RK.nilT rfl ?_ rfl))
            refine .callP (hc _ _) rfl rfl rfl rfl rfl rfl ?_
            repeat ((with_reducible refine RK.id_ ?_); (first | refine RK.cons_ ?_; (refine RK.k_ 0 rfl ?_; refine .p rfl rfl rfl (by exact trivial) ?_) | refine RK.nilT rfl ?_ rfl))
            rw [hh]
            refine W.cond_ndec rfl (fun h6 => ?_) (fun h6 => ?_)
            · repeat (first | (with_reducible refine W.id_ ?_); (refine W.reg ?_) | (with_reducible refine RK.id_ ?_); (refine RK.cons_ ?_; (first | refine RK.k_ 0 rfl ?_; refine .p rfl rfl rfl (by exact trivial) ?_ | refine RK.k_ 1 rfl ?_; (refine .pa rfl rfl rfl rfl rfl rfl (by omega) (by omega) ?_))))
              refine .nil ?_ rfl
              refine ⟨((i + j) / 2 + 1, j), by show j - ((i + j) / 2 + 1) < j - i; omega, ⟨by show lo ≤ (i + j) / 2 + 1; omega, by show (i + j) / 2 + 1 ≤ j; omega, k3, .inr h6, k5⟩, .heap ?_ rfl⟩
              repeat (first | exact trivial | refine ⟨⟨_, rfl, .refl _⟩, ?_⟩)
            · repeat (first | (with_reducible refine W.id_ ?_); (refine W.reg ?_) | (with_reducible refine RK.id_ ?_); (refine RK.cons_ ?_; (refine RK.k_ 0 rfl ?_; refine .p rfl rfl rfl (by exact trivial) ?_)))
              refine .nil ?_ rfl
              refine ⟨(i, (i + j) / 2), by show (i + j) / 2 - i < j - i; omega, ⟨k1, by show i ≤ (i + j) / 2; omega, by show (i + j) / 2 ≤ m; omega, k4, .inr h6⟩, .heap ?_ rfl⟩
              repeat (first | exact trivial | refine ⟨⟨_, rfl, .refl _⟩, ?_⟩)
          · have : j = i := by omega
            subst this
            refine W.exit ⟨(j, j), ⟨k1, k3, k4, k5⟩, .heap ?_ rfl⟩
            repeat (first | exact trivial | refine ⟨⟨_, rfl, .refl _⟩, ?_⟩)
        · rintro ⟨i, j⟩ ⟨k1, k3, k4, k5⟩
          dsimp only at k1 k3 k4 k5 ⊢
          repeat (first | (with_reducible refine W.id_ ?_); (first | refine W.sreg ?_ | refine W.seq ?_) | (with_reducible refine RK.id_ ?_); (first | refine RK.cons_ ?_; (refine RK.k_ 0 rfl ?_; refine .p rfl rfl rfl (by exact trivial) ?_) | refine RK.nilT rfl ?_ rfl))
          refine W.loopE (fun s => i ≤ s.1 ∧ s.1 ≤ m ∧ Dn zT m s.1 d s.2) (fun s => Dn zT m i d s.2) (fun s => s.1) (fun (s : Nat × List RT) => [(17, I s.1), (14, I i), (0, .live b 0 d.length d.length 6)]) (fun s => H.set b (tB s.2)) ((m, d)) rfl ?_ ?_ ?_ ?_
          · exact ⟨k3, Nat.le_refl _, .start⟩
          · refine .heap ?_ (set_same hb)
            repeat (first | exact trivial | refine ⟨⟨_, rfl, .refl _⟩, ?_⟩)
          · rintro ⟨k, e⟩ ⟨q1, q2, q3⟩
            dsimp only at q1 q2 q3 ⊢
            have hel := q3.perm.length_eq
            repeat (first | (with_reducible refine W.id_ ?_); (first | refine W.sreg ?_ | refine W.seq ?_) | (with_reducible refine RK.id_ ?_); (first | refine RK.cons_ ?_; (refine RK.k_ 0 rfl ?_; refine .p rfl rfl rfl (by exact trivial) ?_) | refine RK.nilT rfl ?_ rfl))
            refine W.cond_dec rfl (fun h6 => ?_) (fun h6 => ?_)
            · have hk : ((k : Int) - 1).toNat = k - 1 := by omega
              repeat (first | (with_reducible refine W.id_ ?_); (first | refine W.reg ?_ | refine W.draw mixed (by kernel_rfl) (by kernel_rfl) ?_ | refine W.seq ?_ | refine W.blockR ?_ | refine W.skipT rfl ?_) | (with_reducible refine RK.id_ ?_); (first | refine RK.cons_ ?_; (first | refine RK.k_ 0 rfl ?_; refine .p rfl rfl rfl (by exact trivial) ?_ | refine RK.k_ 1 rfl ?_; (refine .pa rfl rfl rfl rfl rfl rfl (by omega) (by omega) ?_) | refine RK.k_ 4 rfl ?_; (refine .ixl _ _ (s := 6) rfl rfl rfl rfl rfl rfl rfl (by first | rfl | exact (Int.toNat_of_nonneg (by omega)).symm) (by omega) rfl ?_) | refine RK.k_ 5 rfl ?_; (refine .ldla rfl rfl rfl rfl rfl rfl rfl (by exact set_get (by assumption)) (by exact take_flat0 (z := zT) tc_len (by omega) (by omega)) ?_) | refine RK.k_ 6 rfl ?_; (refine .store rfl rfl rfl rfl rfl rfl rfl (by first | exact set_get (by assumption) | exact set_get2 (by assumption)) (by exact overR_flat0 tc_len rfl (by first | omega | (rw [List.length_set]; omega))) (by first | exact setR_eq _ (lt_set (by assumption)) | exact setR_eq _ (lt_set2 (by assumption))) ?_)) | refine RK.nilGT rfl ?_ rfl))
              rw [hk]
              skip
              refine .nil ?_ rfl
              refine ⟨(k - 1, swp zT e k (k - 1)), by show k - 1 < k; omega, ⟨by show i ≤ k - 1; omega, by show k - 1 ≤ m; omega, q3.step (by omega) q2 (by omega)⟩, .heap ?_ (by simp only [List.set_set]; rfl)⟩
              repeat (first | exact trivial | refine ⟨⟨_, rfl, .refl _⟩, ?_⟩ | refine ⟨⟨_, rfl, .of_eq (congrArg (D.int _) (by omega))⟩, ?_⟩)
            · have : k = i := by omega
              subst this
              refine W.exit ⟨(k, e), q3, .heap ?_ rfl⟩
              repeat (first | exact trivial | refine ⟨⟨_, rfl, .refl _⟩, ?_⟩)
          · rintro ⟨k, e⟩ q3
            dsimp only at q3 ⊢
            refine W.ret ⟨_, rfl, rfl, e, rfl, q3.sh k3 k1 (by omega), ?_⟩
            rw [h4']
            exact q3.srt O sL k1 k3 k5 k4
      · refine .skip ⟨by omega, .heap ?_ rfl⟩
        repeat (first | exact trivial | refine ⟨⟨_, rfl, .refl _⟩, ?_⟩)
    repeat (first | (with_reducible refine W.id_ ?_); (first | refine W.sreg ?_ | refine W.seq ?_) | (with_reducible refine RK.id_ ?_); (first | refine RK.cons_ ?_; (first | refine RK.k_ 0 rfl ?_; refine .p rfl rfl rfl (by exact trivial) ?_ | refine RK.k_ 1 rfl ?_; (refine .pa rfl rfl rfl rfl rfl rfl (by omega) (by omega) ?_) | refine RK.k_ 2 rfl ?_; (first | refine .cv64 rfl rfl rfl rfl rfl rfl (by omega) (by omega) ?_ | refine .cvu rfl rfl rfl rfl rfl rfl (by omega) (by omega) ?_) | refine RK.k_ 3 rfl ?_; (refine .shr 2 rfl rfl rfl rfl rfl (by omega) rfl ?_)) | refine RK.nilT rfl ?_ rfl))
    have hmid : (((lo : Int) + hi) / 2) = (((lo + hi) / 2 : Nat) : Int) := by omega
    rw [hmid]
    obtain ⟨mid, hmd⟩ : ∃ mid, mid = (lo + hi) / 2 := ⟨_, rfl⟩
    rw [← hmd]
    clear hmid
    refine .joinS (fun (s : Nat × Nat) => (m > mid ∧ s = (mid + m - hi, mid)) ∨ (m ≤ mid ∧ s = (lo, m))) (fun s => [(20, I s.1), (21, I s.2), (18, I mid), (19, I ((mid : Int) + m)), (0, .live b 0 d.length d.length 6), (1, I lo), (2, I m), (3, I hi), (4, .fn g [])]) (fun _ => H) ?_ ?_
    · refine W.cond_dec rfl (fun h5 => ?_) (fun h5 => ?_)
      · repeat (first | (with_reducible refine W.id_ ?_); (first | refine W.sreg ?_ | refine W.reg ?_) | (with_reducible refine RK.id_ ?_); (first | refine RK.cons_ ?_; (first | refine RK.k_ 0 rfl ?_; refine .p rfl rfl rfl (by exact trivial) ?_ | refine RK.k_ 1 rfl ?_; (refine .pa rfl rfl rfl rfl rfl rfl (by omega) (by omega) ?_)) | refine RK.nilT rfl ?_ rfl))
        refine .nil ?_ rfl
        refine ⟨(mid + m - hi, mid), .inl ⟨by omega, rfl⟩, .heap ?_ rfl⟩
        repeat (first | exact trivial | refine ⟨⟨_, rfl, .refl _⟩, ?_⟩ | refine ⟨⟨_, rfl, .of_eq (congrArg (D.int _) (by omega))⟩, ?_⟩)
      · repeat (first | (with_reducible refine W.id_ ?_); (first | refine W.sreg ?_ | refine W.reg ?_) | (with_reducible refine RK.id_ ?_); (first | refine RK.cons_ ?_; (refine RK.k_ 0 rfl ?_; refine .p rfl rfl rfl (by exact trivial) ?_) | refine RK.nilT rfl ?_ rfl))
        refine .nil ?_ rfl
        refine ⟨(lo, m), .inr ⟨by omega, rfl⟩, .heap ?_ rfl⟩
        repeat (first | exact trivial | refine ⟨⟨_, rfl, .refl _⟩, ?_⟩)
    rintro ⟨s0, r0⟩ hs0
    simp only [Prod.mk.injEq] at hs0
    dsimp only
    repeat (first | (with_reducible refine W.id_ ?_); (first | refine W.sreg ?_ | refine W.seq ?_) | (with_reducible refine RK.id_ ?_); (first | refine RK.cons_ ?_; (first | refine RK.k_ 0 rfl ?_; refine .p rfl rfl rfl (by exact trivial) ?_ | refine RK.k_ 1 rfl ?_; (refine .pa rfl rfl rfl rfl rfl rfl (by omega) (by omega) ?_)) | refine RK.nilT rfl ?_ rfl))
    obtain ⟨ns, hns⟩ : ∃ ns, ns = mid + m := ⟨_, rfl⟩
    refine W.loopE (fun s => s0 ≤ s.1 ∧ s.1 ≤ s.2 ∧ s.2 ≤ r0 ∧ (s.1 = s0 ∨ ¬ cmp (d.getD (ns - s.1) zT) (d.getD (s.1 - 1) zT) < 0) ∧ (s.2 = r0 ∨ cmp (d.getD (ns - 1 - s.2) zT) (d.getD s.2 zT) < 0)) (fun s => s0 ≤ s.1 ∧ s.1 ≤ r0 ∧ (s.1 = s0 ∨ ¬ cmp (d.getD (ns - s.1) zT) (d.getD (s.1 - 1) zT) < 0) ∧ (s.1 = r0 ∨ cmp (d.getD (ns - 1 - s.1) zT) (d.getD s.1 zT) < 0)) (fun s => s.2 - s.1) (fun (s : Nat × Nat) => [(20, I s.1), (21, I s.2), (22, I ((mid : Int) + m - 1)), (18, I mid), (19, I ((mid : Int) + m)), (0, .live b 0 d.length d.length 6), (1, I lo), (2, I m), (3, I hi), (4, .fn g [])]) (fun s => H) ((s0, r0)) rfl ?_ ?_ ?_ ?_
    · exact ⟨Nat.le_refl _, by show s0 ≤ r0; omega, Nat.le_refl _, .inl rfl, .inl rfl⟩
    · refine .heap ?_ rfl
      repeat (first | exact trivial | refine ⟨⟨_, rfl, .refl _⟩, ?_⟩)
    · rintro ⟨i, j⟩ ⟨k1, k2, k3, k4, k5⟩
      dsimp only at k1 k2 k3 k4 k5 ⊢
      have hh : (((i : Int) + j) / 2).toNat = (i + j) / 2 := by omega
      have hp : ((mid : Int) + m - 1 - ((i : Int) + j) / 2).toNat = ns - 1 - (i + j) / 2 := by omega
      repeat (first | (with_reducible refine W.id_ ?_); (first | refine W.sreg ?_ | refine W.seq ?_) | (with_reducible refine RK.id_ ?_); (first | refine RK.cons_ ?_; (refine RK.k_ 0 rfl ?_; refine .p rfl rfl rfl (by exact trivial) ?_) | refine RK.nilT rfl ?_ rfl))
      refine W.cond_dec rfl (fun h5 => ?_) (fun h5 => ?_)
      · repeat (first | (with_reducible refine W.id_ ?_); (first | refine W.sreg ?_ | refine W.sdraw mixed (by kernel_rfl) (by kernel_rfl) ?_ | refine W.blockS ?_ | refine W.skipT rfl ?_) | (with_reducible refine RK.id_ ?_); (first | refine RK.cons_ ?_; (first | refine RK.k_ 0 rfl ?_; refine .p rfl rfl rfl (by exact trivial) ?_ | refine RK.k_ 1 rfl ?_; (refine .pa rfl rfl rfl rfl rfl rfl (by omega) (by omega) ?_) | refine RK.k_ 2 rfl ?_; (first | refine .cv64 rfl rfl rfl rfl rfl rfl (by omega) (by omega) ?_ | refine .cvu rfl rfl rfl rfl rfl rfl (by omega) (by omega) ?_) | refine RK.k_ 4 rfl ?_; (first | refine .ixl _ _ (s := 6) rfl rfl rfl rfl rfl rfl rfl (by first | rfl | exact (Int.toNat_of_nonneg (by omega)).symm) (by omega) rfl ?_ | refine .p rfl rfl rfl (by omega) ?_) | refine RK.k_ 5 rfl ?_; (refine .ldla rfl rfl rfl rfl rfl rfl rfl (by assumption) (by exact take_flat0 (z := zT) tc_len (by omega) (by omega)) ?_) | refine RK.k_ 3 rfl ?_; (refine .shr 2 rfl rfl rfl rfl rfl (by omega) rfl ?_)) | refine RK.nilT rfl ?_ rfl))
        refine .callP (hc _ _) rfl rfl rfl rfl rfl rfl ?_
        repeat ((with_reducible refine RK.id_ ?_); (first | refine RK.cons_ ?_; (refine RK.k_ 0 rfl ?_; refine .p rfl rfl rfl (by exact trivial) ?_) | refine RK.nilT rfl ?_ rfl))
        rw [hh, hp]
        refine W.cond_ndec rfl (fun h6 => ?_) (fun h6 => ?_)
        · repeat (first | (with_reducible refine W.id_ ?_); (refine W.reg ?_) | (with_reducible refine RK.id_ ?_); (refine RK.cons_ ?_; (first | refine RK.k_ 0 rfl ?_; refine .p rfl rfl rfl (by exact trivial) ?_ | refine RK.k_ 1 rfl ?_; (refine .pa rfl rfl rfl rfl rfl rfl (by omega) (by omega) ?_))))
          refine .nil ?_ rfl
          refine ⟨((i + j) / 2 + 1, j), by show j - ((i + j) / 2 + 1) < j - i; omega, ⟨by show s0 ≤ (i + j) / 2 + 1; omega, by show (i + j) / 2 + 1 ≤ j; omega, k3, .inr ?_, k5⟩, .heap ?_ rfl⟩
          · show ¬ cmp (d.getD (ns - ((i + j) / 2 + 1)) zT) (d.getD ((i + j) / 2 + 1 - 1) zT) < 0
            rw [show ns - ((i + j) / 2 + 1) = ns - 1 - (i + j) / 2 by omega, Nat.add_sub_cancel]
            exact h6
          · repeat (first | exact trivial | refine ⟨⟨_, rfl, .refl _⟩, ?_⟩)
        · repeat (first | (with_reducible refine W.id_ ?_); (refine W.reg ?_) | (with_reducible refine RK.id_ ?_); (refine RK.cons_ ?_; (refine RK.k_ 0 rfl ?_; refine .p rfl rfl rfl (by exact trivial) ?_)))
          refine .nil ?_ rfl
          refine ⟨(i, (i + j) / 2), by show (i + j) / 2 - i < j - i; omega, ⟨k1, by show i ≤ (i + j) / 2; omega, by show (i + j) / 2 ≤ r0; omega, k4, .inr h6⟩, .heap ?_ rfl⟩
          repeat (first | exact trivial | refine ⟨⟨_, rfl, .refl _⟩, ?_⟩)
      · have : j = i := by omega
        subst this
        refine W.exit ⟨(j, j), ⟨k1, k3, k4, k5⟩, .heap ?_ rfl⟩
        repeat (first | exact trivial | refine ⟨⟨_, rfl, .refl _⟩, ?_⟩)
    rintro ⟨s, j⟩ ⟨k1, k3, k4, k5⟩
    dsimp only at k1 k3 k4 k5 ⊢
    obtain ⟨e, he⟩ : ∃ e, e = ns - s := ⟨_, rfl⟩
    have hse : s + e = mid + m := by omega
    have a1 : lo ≤ s := by omega
    have a2 : s ≤ m := by omega
    have a3 : m ≤ e := by omega
    have a4 : e ≤ hi := by omega
    have a5 : s ≤ mid := by omega
    have a6 : mid ≤ e := by omega
    have c1 : s = lo ∨ e = hi ∨ ¬ cmp (d.getD e zT) (d.getD (s - 1) zT) < 0 := by
      rcases k4 with k4 | k4
      · omega
      · rw [he]; exact .inr (.inr k4)
    have c2 : s = m ∨ e = m ∨ cmp (d.getD (e - 1) zT) (d.getD s zT) < 0 := by
      rcases k5 with k5 | k5
      · omega
      · rw [show e - 1 = ns - 1 - s by omega]; exact .inr (.inr k5)
    have hee : (mid : Int) + m - s = e := by omega
    clear k4 k5 he
    repeat (first | (with_reducible refine W.id_ ?_); (first | refine W.sreg ?_ | refine W.seq ?_) | (with_reducible refine RK.id_ ?_); (first | refine RK.cons_ ?_; (first | refine RK.k_ 0 rfl ?_; refine .p rfl rfl rfl (by exact trivial) ?_ | refine RK.k_ 1 rfl ?_; (refine .pa rfl rfl rfl rfl rfl rfl (by omega) (by omega) ?_)) | refine RK.nilT rfl ?_ rfl))
    rw [hee]
    refine .joinS (fun (d1 : List RT) => Rot zT s m e d d1 ∧ d1.Perm d) (fun d1 => [(20, I s), (24, I e), (18, I mid), (0, .live b 0 d.length d.length 6), (1, I lo), (3, I hi), (4, .fn g [])]) (fun d1 => H.set b (tB d1)) ?_ ?_
    · refine .dsplit (fun h5 => ?_) (fun h5 => ?_)
      · repeat ((with_reducible refine RK.id_ ?_); (first | refine RK.cons_ ?_; (refine RK.k_ 0 rfl ?_; refine .p rfl rfl rfl (by exact trivial) ?_) | refine RK.nilT rfl ?_ rfl))
        refine W.cond_dec rfl (fun h6 => ?_) (fun h6 => ?_)
        · repeat (first | (with_reducible refine W.id_ ?_); (refine W.reg ?_) | (with_reducible refine RK.id_ ?_); (refine RK.cons_ ?_; (refine RK.k_ 0 rfl ?_; refine .p rfl rfl rfl (by exact trivial) ?_)))
          refine .callF (rotate_spec (lo := s) (m := m) (hi := e) rfl rfl rfl hb rfl (by omega) (by omega) (by omega) hd) rfl rfl rfl rfl ?_; rintro _ _ ⟨rfl, d1, rfl, hr, hp⟩
          refine .nil ?_ rfl
          refine ⟨d1, ⟨hr, hp⟩, .heap ?_ rfl⟩
          repeat (first | exact trivial | refine ⟨⟨_, rfl, .refl _⟩, ?_⟩)
        · refine .skip ⟨d, ⟨.nil a2 a3 (by omega), .refl _⟩, .heap ?_ (set_same hb)⟩
          repeat (first | exact trivial | refine ⟨⟨_, rfl, .refl _⟩, ?_⟩)
      · repeat (first | (with_reducible refine W.id_ ?_); (refine W.condF rfl ?_) | (with_reducible refine RK.id_ ?_); (first | refine RK.cons_ ?_; (first | refine .skip rfl rfl ?_ | refine RK.k_ 0 rfl ?_; refine .p rfl rfl rfl (by exact trivial) ?_) | refine RK.nilT rfl ?_ rfl))
        refine .skip ⟨d, ⟨.nil a2 a3 (by omega), .refl _⟩, .heap ?_ (set_same hb)⟩
        repeat (first | exact trivial | refine ⟨⟨_, rfl, .refl _⟩, ?_⟩)
    rintro d1 ⟨hr, hp⟩
    have hl1 := hp.length_eq
    obtain ⟨p1, p2, p3, p4⟩ := rot_parts sL sR hse a1 a2 a3 a4 a5 a6 hr
    have fin := @merge_cut RT zT cmp lo m hi s e mid d d1
    repeat (first | (with_reducible refine W.id_ ?_); (first | refine W.sreg ?_ | refine W.seq ?_) | (with_reducible refine RK.id_ ?_); (refine RK.cons_ ?_; (refine RK.k_ 0 rfl ?_; refine .p rfl rfl rfl (by exact trivial) ?_)))
    refine .joinS (fun (d2 : List RT) => Sh zT lo mid d1 d2 ∧ Srt zT cmp lo mid d2) (fun d2 => [(24, I e), (18, I mid), (0, .live b 0 d.length d.length 6), (3, I hi), (4, .fn g [])]) (fun d2 => H.set b (tB d2)) ?_ ?_
    · refine .dsplit (fun h5 => ?_) (fun h5 => ?_)
      · repeat ((with_reducible refine RK.id_ ?_); (first | refine RK.cons_ ?_; (refine RK.k_ 0 rfl ?_; refine .p rfl rfl rfl (by exact trivial) ?_) | refine RK.nilT rfl ?_ rfl))
        refine W.cond_dec rfl (fun h6 => ?_) (fun h6 => ?_)
        · repeat (first | (with_reducible refine W.id_ ?_); (refine W.reg ?_) | (with_reducible refine RK.id_ ?_); (refine RK.cons_ ?_; (refine RK.k_ 0 rfl ?_; refine .p rfl rfl rfl (by exact trivial) ?_)))
          refine .callF (ih (d := d1) (lo := lo) (m := s) (hi := mid) (by omega) rfl rfl rfl (set_get hb) hl1.symm (by omega) (by omega) (by omega) (by omega) p1 p2) rfl rfl rfl rfl ?_; rintro _ _ ⟨rfl, d2, rfl, hs, hp2⟩
          refine .nil ?_ rfl
          refine ⟨d2, ⟨hs, hp2⟩, .heap ?_ (by simp only [List.set_set])⟩
          repeat (first | exact trivial | refine ⟨⟨_, rfl, .refl _⟩, ?_⟩)
        · refine .skip ⟨d1, ⟨.refl _ _ _, ?_⟩, .heap ?_ rfl⟩
          · have : s = mid := by omega
            rw [← this]; exact p1
          · repeat (first | exact trivial | refine ⟨⟨_, rfl, .refl _⟩, ?_⟩)
      · repeat (first | (with_reducible refine W.id_ ?_); (refine W.condF rfl ?_) | (with_reducible refine RK.id_ ?_); (first | refine RK.cons_ ?_; (first | refine .skip rfl rfl ?_ | refine RK.k_ 0 rfl ?_; refine .p rfl rfl rfl (by exact trivial) ?_) | refine RK.nilT rfl ?_ rfl))
        refine .skip ⟨d1, ⟨.refl _ _ _, ?_⟩, .heap ?_ rfl⟩
        · have : s = lo := by omega
          rw [← this]; exact p2
        · repeat (first | exact trivial | refine ⟨⟨_, rfl, .refl _⟩, ?_⟩)
    rintro d2 ⟨hs2, st2⟩
    have hl2 := hs2.len
    have q3 : Srt zT cmp mid e d2 := p3.congr fun k h5 h6 => hs2.out k (.inr h5)
    have q4 : Srt zT cmp e hi d2 := p4.congr fun k h5 h6 => hs2.out k (.inr (by omega))
    have hsh : Sh zT lo hi d d2 := ((hr.sh hp a2 a3).mono a1 a4).trans (hs2.mono (Nat.le_refl _) (by omega))
    repeat (first | (with_reducible refine W.id_ ?_); (refine W.sreg ?_) | (with_reducible refine RK.id_ ?_); (refine RK.cons_ ?_; (refine RK.k_ 0 rfl ?_; refine .p rfl rfl rfl (by exact trivial) ?_)))
    refine .dsplit (fun h5 => ?_) (fun h5 => ?_)
    · repeat ((with_reducible refine RK.id_ ?_); (first | refine RK.cons_ ?_; (refine RK.k_ 0 rfl ?_; refine .p rfl rfl rfl (by exact trivial) ?_) | refine RK.nilT rfl ?_ rfl))
      refine W.cond_dec rfl (fun h6 => ?_) (fun h6 => ?_)
      · repeat (first | (with_reducible refine W.id_ ?_); (refine W.reg ?_) | (with_reducible refine RK.id_ ?_); (refine RK.cons_ ?_; (refine RK.k_ 0 rfl ?_; refine .p rfl rfl rfl (by exact trivial) ?_)))
        refine .callF (ih (d := d2) (lo := mid) (m := e) (hi := hi) (by omega) rfl rfl rfl (set_get hb) (by omega) (by omega) (by omega) (by omega) (by omega) q3 q4) rfl rfl rfl rfl ?_; rintro _ _ ⟨rfl, d3, rfl, hs3, hp3⟩
        refine .nil ?_ rfl
        exact ⟨_, rfl, rfl, d3, by simp only [List.set_set], hsh.trans (hs3.mono (by omega) (Nat.le_refl _)), fin O sL sR hse a1 a2 a3 a4 a5 a6 c1 c2 hr hs2 st2 hs3 hp3⟩
      · refine .skip ⟨_, rfl, rfl, d2, rfl, hsh, fin O sL sR hse a1 a2 a3 a4 a5 a6 c1 c2 hr hs2 st2 (.refl _ _ _) ?_⟩
        have : e = hi := by omega
        rw [← this]; exact q3
    · repeat (first | (with_reducible refine W.id_ ?_); (refine W.condF rfl ?_) | (with_reducible refine RK.id_ ?_); (first | refine RK.cons_ ?_; (first | refine .skip rfl rfl ?_ | refine RK.k_ 0 rfl ?_; refine .p rfl rfl rfl (by exact trivial) ?_) | refine RK.nilT rfl ?_ rfl))
      refine .skip ⟨_, rfl, rfl, d2, rfl, hsh, fin O sL sR hse a1 a2 a3 a4 a5 a6 c1 c2 hr hs2 st2 (.refl _ _ _) ?_⟩
      have : e = mid := by omega
      rw [← this]; exact q4
end Go.Proofs.Ytbdefjbekbbldaa

namespace Go.Proofs.Ytbdefjbekbbldaa
open Go.V Go.N
set_option maxHeartbeats 8000000
set_option maxRecDepth 20000
section
variable {cmp : RT → RT → Int} {g b n : Nat} {H : Hp}

/- slices.stableCmpFunc -/
theorem stable_spec {d : List RT} (hc : ∀ x y, PureFn Try.prog g [eT x, eT y] (I (cmp x y))) (O : Ord cmp) (hb : H[b]? = some (tB d)) (hn : n = d.length) (hd : d.length ≤ 1000000) :
    FnTo Try.prog 94 [.live b 0 n n 6, I n, .fn g []] H fun r H' => r = .tup [] ∧ ∃ d', H' = H.set b (tB d') ∧ Sh zT 0 n d d' ∧ Srt zT cmp 0 n d' := by
  have ms : ∀ {H : Hp} {e : List RT} {lo m hi : Nat} {ll mm hh : Int} (_ : ll = (lo : Int)) (_ : mm = (m : Int)) (_ : hh = (hi : Int)) (_ : H[b]? = some (tB e)) (_ : n = e.length) (_ : lo < m) (_ : m < hi) (_ : hi ≤ e.length) (_ : Srt zT cmp lo m e) (_ : Srt zT cmp m hi e),
      FnTo Try.prog 106 [.live b 0 n n 6, I ll, I mm, I hh, .fn g []] H fun r H' => r = .tup [] ∧ ∃ d', H' = H.set b (tB d') ∧ Sh zT lo hi e d' ∧ Srt zT cmp lo hi d' :=
    fun h1 h2 h3 h4 h5 h6 h7 h8 h9 h10 => symMerge_spec hc O _ (Nat.le_refl _) h1 h2 h3 h4 h5 h6 h7 h8 (by omega) h9 h10
  refine .of_W (fn := Try.f94) Try.call94 Try.func94 rfl (Nat.le_of_ble_eq_true rfl) ?_
  repeat (first | (with_reducible refine W.id_ ?_); (first | refine W.sreg ?_ | refine W.seq ?_) | (with_reducible refine RK.id_ ?_); (first | refine RK.cons_ ?_; (refine RK.k_ 0 rfl ?_; refine .p rfl rfl rfl (by exact trivial) ?_) | refine RK.nilT rfl ?_ rfl))
  refine W.loopE (fun s => First zT cmp 20 s.1 s.2.1 s.2.2 ∧ s.2.1 ≤ n ∧ Sh zT 0 n d s.2.2) (fun s => First zT cmp 20 s.1 s.2.1 s.2.2 ∧ s.2.1 ≤ n ∧ n < s.2.1 + 20 ∧ Sh zT 0 n d s.2.2) (fun s => n - s.2.1) (fun (s : Nat × Nat × List RT) => [(7, I s.2.1), (8, I (s.2.1 + 20)), (6, I 20), (0, .live b 0 n n 6), (1, I n), (2, .fn g [])]) (fun s => H.set b (tB s.2.2)) ((0, 0, d)) rfl ?_ ?_ ?_ ?_
  · exact ⟨.start, Nat.zero_le _, .refl _ _ _⟩
  · refine .heap ?_ (set_same hb)
    repeat (first | exact trivial | refine ⟨⟨_, rfl, .refl _⟩, ?_⟩)
  · rintro ⟨q, a, e⟩ ⟨h1, h2, h3⟩
    dsimp only at h1 h2 h3 ⊢
    have hel := h3.len
    repeat (first | (with_reducible refine W.id_ ?_); (first | refine W.sreg ?_ | refine W.seq ?_) | (with_reducible refine RK.id_ ?_); (first | refine RK.cons_ ?_; (refine RK.k_ 0 rfl ?_; refine .p rfl rfl rfl (by exact trivial) ?_) | refine RK.nilT rfl ?_ rfl))
    refine W.cond_dec rfl (fun h4 => ?_) (fun h4 => ?_)
    · repeat (first | (with_reducible refine W.id_ ?_); (first | refine W.sreg ?_ | refine W.blockS ?_ | refine W.skipT rfl ?_) | (with_reducible refine RK.id_ ?_); (refine RK.cons_ ?_; (refine RK.k_ 0 rfl ?_; refine .p rfl rfl rfl (by exact trivial) ?_)))
      refine .callF (insort_spec (lo := a) (hi := a + 20) rfl rfl hc O (set_get hb) (by omega) (by omega) (by omega) (by omega)) rfl rfl rfl rfl ?_; rintro _ _ ⟨rfl, e', rfl, hs, st⟩
      repeat (first | (with_reducible refine W.id_ ?_); (first | refine W.sreg ?_ | refine W.reg ?_) | (with_reducible refine RK.id_ ?_); (first | refine RK.cons_ ?_; (first | refine RK.k_ 0 rfl ?_; refine .p rfl rfl rfl (by exact trivial) ?_ | refine RK.k_ 1 rfl ?_; (refine .pa rfl rfl rfl rfl rfl rfl (by omega) (by omega) ?_)) | refine RK.nilT rfl ?_ rfl))
      refine .nil ?_ rfl
      refine ⟨(q + 1, a + 20, e'), by show n - (a + 20) < n - a; omega, ⟨h1.step hs st, by show a + 20 ≤ n; omega, h3.trans (hs.mono (Nat.zero_le _) (by omega))⟩, .heap ?_ (by simp only [List.set_set])⟩
      repeat (first | exact trivial | refine ⟨⟨_, rfl, .refl _⟩, ?_⟩)
    · refine W.exit ⟨(q, a, e), ⟨h1, h2, by show n < a + 20; omega, h3⟩, .heap ?_ rfl⟩
      repeat (first | exact trivial | refine ⟨⟨_, rfl, .refl _⟩, ?_⟩)
  rintro ⟨q, a, e⟩ ⟨h1, h2, h3, h4⟩
  dsimp only at h1 h2 h3 h4 ⊢
  have hel := h4.len
  repeat (first | (with_reducible refine W.id_ ?_); (refine W.sreg ?_) | (with_reducible refine RK.id_ ?_); (refine RK.cons_ ?_; (refine RK.k_ 0 rfl ?_; refine .p rfl rfl rfl (by exact trivial) ?_)))
  refine .callF (insort_spec (lo := a) (hi := n) rfl rfl hc O (set_get hb) (by omega) h2 (by omega) (by omega)) rfl rfl rfl rfl ?_; rintro _ _ ⟨rfl, e', rfl, hs, st⟩
  have hB := h1.fin h3 h2 hs st
  have hS := h4.trans (hs.mono (Nat.zero_le _) (Nat.le_refl _))
  repeat ((with_reducible refine RK.id_ ?_); (refine RK.nilT rfl ?_ rfl))
  refine W.block (.loopT (fun s => 20 ≤ s.1 ∧ s.1 ≤ 2000000 ∧ Blks zT cmp s.1 n s.2 ∧ Sh zT 0 n d s.2) (fun s => n - s.1) (fun (s : Nat × List RT) => [(6, I s.1), (0, .live b 0 n n 6), (1, I n), (2, .fn g [])]) (fun s => H.set b (tB s.2)) ((20, e')) ?_ ?_ ?_)
  · exact ⟨Nat.le_refl _, by show 20 ≤ 2000000; omega, hB, hS⟩
  · refine .heap ?_ (by simp only [List.set_set])
    repeat (first | exact trivial | refine ⟨⟨_, rfl, .refl _⟩, ?_⟩)
  · rintro ⟨bs, f⟩ ⟨k1, k2, k3, k4⟩
    dsimp only at k1 k2 k3 k4 ⊢
    repeat (first | (with_reducible refine W.id_ ?_); (first | refine W.sreg ?_ | refine W.seq ?_) | (with_reducible refine RK.id_ ?_); (first | refine RK.cons_ ?_; (refine RK.k_ 0 rfl ?_; refine .p rfl rfl rfl (by exact trivial) ?_) | refine RK.nilT rfl ?_ rfl))
    refine W.cond_dec rfl (fun h5 => ?_) (fun h5 => ?_)
    · repeat (first | (with_reducible refine W.id_ ?_); (first | refine W.sreg ?_ | refine W.seq ?_ | refine W.blockS ?_ | refine W.skipT rfl ?_) | (with_reducible refine RK.id_ ?_); (first | refine RK.cons_ ?_; (first | refine RK.k_ 0 rfl ?_; refine .p rfl rfl rfl (by exact trivial) ?_ | refine RK.k_ 1 rfl ?_; (refine .pa rfl rfl rfl rfl rfl rfl (by omega) (by omega) ?_)) | refine RK.nilT rfl ?_ rfl))
      refine W.loopE (fun s => Half zT cmp bs n s.1 s.2.1 s.2.2 ∧ s.2.1 ≤ n ∧ Sh zT 0 n d s.2.2) (fun s => Half zT cmp bs n s.1 s.2.1 s.2.2 ∧ s.2.1 ≤ n ∧ n < s.2.1 + 2 * bs ∧ Sh zT 0 n d s.2.2) (fun s => n - s.2.1) (fun (s : Nat × Nat × List RT) => [(7, I s.2.1), (8, I (s.2.1 + 2 * bs)), (6, I bs), (0, .live b 0 n n 6), (1, I n), (2, .fn g [])]) (fun s => H.set b (tB s.2.2)) ((0, 0, f)) rfl ?_ ?_ ?_ ?_
      · exact ⟨.start k3, Nat.zero_le _, k4⟩
      · refine .heap ?_ rfl
        repeat (first | exact trivial | refine ⟨⟨_, rfl, .refl _⟩, ?_⟩ | refine ⟨⟨_, rfl, .of_eq (congrArg (D.int _) (by (dsimp only; omega)))⟩, ?_⟩)
      · rintro ⟨q, a, e⟩ ⟨q1, q2, q3⟩
        dsimp only at q1 q2 q3 ⊢
        have hel := q3.len
        repeat (first | (with_reducible refine W.id_ ?_); (first | refine W.sreg ?_ | refine W.seq ?_) | (with_reducible refine RK.id_ ?_); (first | refine RK.cons_ ?_; (refine RK.k_ 0 rfl ?_; refine .p rfl rfl rfl (by exact trivial) ?_) | refine RK.nilT rfl ?_ rfl))
        refine W.cond_dec rfl (fun h6 => ?_) (fun h6 => ?_)
        · have l1 := q1.left
          have l2 := q1.right
          rw [Nat.min_eq_left (by omega)] at l1 l2
          repeat (first | (with_reducible refine W.id_ ?_); (first | refine W.sreg ?_ | refine W.blockS ?_ | refine W.skipT rfl ?_) | (with_reducible refine RK.id_ ?_); (refine RK.cons_ ?_; (first | refine RK.k_ 0 rfl ?_; refine .p rfl rfl rfl (by exact trivial) ?_ | refine RK.k_ 1 rfl ?_; (refine .pa rfl rfl rfl rfl rfl rfl (by omega) (by omega) ?_))))
          refine .callF (ms (e := e) (lo := a) (m := a + bs) (hi := a + 2 * bs) rfl rfl (by omega) (set_get hb) (by omega) (by omega) (by omega) (by omega) l1 l2) rfl rfl rfl rfl ?_; rintro _ _ ⟨rfl, e', rfl, hs, st⟩
          repeat (first | (with_reducible refine W.id_ ?_); (first | refine W.sreg ?_ | refine W.reg ?_) | (with_reducible refine RK.id_ ?_); (first | refine RK.cons_ ?_; (first | refine RK.k_ 0 rfl ?_; refine .p rfl rfl rfl (by exact trivial) ?_ | refine RK.k_ 1 rfl ?_; (refine .pa rfl rfl rfl rfl rfl rfl (by omega) (by omega) ?_)) | refine RK.nilT rfl ?_ rfl))
          refine .nil ?_ rfl
          refine ⟨(q + 1, a + 2 * bs, e'), by show n - (a + 2 * bs) < n - a; omega, ⟨q1.step hs st, by show a + 2 * bs ≤ n; omega, q3.trans (hs.mono (Nat.zero_le _) (by omega))⟩, .heap ?_ (by simp only [List.set_set])⟩
          repeat (first | exact trivial | refine ⟨⟨_, rfl, .refl _⟩, ?_⟩)
        · refine W.exit ⟨(q, a, e), ⟨q1, q2, by show n < a + 2 * bs; omega, q3⟩, .heap ?_ rfl⟩
          repeat (first | exact trivial | refine ⟨⟨_, rfl, .refl _⟩, ?_⟩)
      rintro ⟨q, a, e⟩ ⟨q1, q2, q3, q4⟩
      dsimp only at q1 q2 q3 q4 ⊢
      have hel := q4.len
      have l1 := q1.left
      have l2 := q1.right
      rw [Nat.min_eq_right (show n ≤ a + 2 * bs by omega)] at l2
      repeat (first | (with_reducible refine W.id_ ?_); (first | refine W.sreg ?_ | refine W.seq ?_) | (with_reducible refine RK.id_ ?_); (first | refine RK.cons_ ?_; (first | refine RK.k_ 0 rfl ?_; refine .p rfl rfl rfl (by exact trivial) ?_ | refine RK.k_ 1 rfl ?_; (refine .pa rfl rfl rfl rfl rfl rfl (by omega) (by omega) ?_)) | refine RK.nilT rfl ?_ rfl))
      refine .joinS (fun (e' : List RT) => Sh zT a n e e' ∧ Srt zT cmp a n e') (fun e' => [(6, I bs), (0, .live b 0 n n 6), (1, I n), (2, .fn g [])]) (fun e' => H.set b (tB e')) ?_ ?_
      · refine W.cond_dec rfl (fun h6 => ?_) (fun h6 => ?_)
        · rw [Nat.min_eq_left (by omega)] at l1
          repeat (first | (with_reducible refine W.id_ ?_); (refine W.reg ?_) | (with_reducible refine RK.id_ ?_); (refine RK.cons_ ?_; (refine RK.k_ 0 rfl ?_; refine .p rfl rfl rfl (by exact trivial) ?_)))
          refine .callF (ms (e := e) (lo := a) (m := a + bs) (hi := n) rfl (by omega) rfl (set_get hb) (by omega) (by omega) (by omega) (by omega) l1 l2) rfl rfl rfl rfl ?_; rintro _ _ ⟨rfl, e', rfl, hs, st⟩
          refine .nil ?_ rfl
          refine ⟨e', ⟨hs, st⟩, .heap ?_ (by simp only [List.set_set])⟩
          repeat (first | exact trivial | refine ⟨⟨_, rfl, .refl _⟩, ?_⟩)
        · rw [Nat.min_eq_right (by omega)] at l1
          refine .skip ⟨e, ⟨.refl _ _ _, l1⟩, .heap ?_ rfl⟩
          repeat (first | exact trivial | refine ⟨⟨_, rfl, .refl _⟩, ?_⟩)
      rintro e' ⟨hs, st⟩
      repeat (first | (with_reducible refine W.id_ ?_); (refine W.reg ?_) | (with_reducible refine RK.id_ ?_); (refine RK.cons_ ?_; (first | refine RK.k_ 0 rfl ?_; refine .p rfl rfl rfl (by exact trivial) ?_ | refine RK.k_ 1 rfl ?_; (refine .pa rfl rfl rfl rfl rfl rfl (by omega) (by omega) ?_))))
      refine .nil ?_ rfl
      refine ⟨(2 * bs, e'), by show n - 2 * bs < n - bs; omega, ⟨by show 20 ≤ 2 * bs; omega, by show 2 * bs ≤ 2000000; omega, q1.fin q3 q2 hs st, q4.trans (hs.mono (Nat.zero_le _) (Nat.le_refl _))⟩, .heap ?_ rfl⟩
      repeat (first | exact trivial | refine ⟨⟨_, rfl, .refl _⟩, ?_⟩ | refine ⟨⟨_, rfl, .of_eq (congrArg (D.int _) (by omega))⟩, ?_⟩)
    · exact W.exit ⟨_, rfl, rfl, f, rfl, k4, k3.whole (by omega)⟩

/- slices.SortStableFunc -/
theorem SortStable_spec {d : List RT} (hc : ∀ x y, PureFn Try.prog g [eT x, eT y] (I (cmp x y))) (O : Ord cmp) (hb : H[b]? = some (tB d)) (hn : n = d.length) (hd : d.length ≤ 1000000) :
    FnTo Try.prog 66 [.live b 0 n n 6, .fn g []] H fun r H' => r = .tup [] ∧ ∃ d', H' = H.set b (tB d') ∧ d'.Perm d ∧ Srt zT cmp 0 n d' := by
  refine .of_W (fn := Try.f66) Try.call66 Try.func66 rfl (Nat.le_of_ble_eq_true rfl) ?_
  repeat (first | (with_reducible refine W.id_ ?_); (refine W.reg ?_) | (with_reducible refine RK.id_ ?_); (refine RK.cons_ ?_; (refine RK.k_ 0 rfl ?_; refine .p rfl rfl rfl (by exact trivial) ?_)))
  refine .callF (stable_spec hc O hb hn hd) rfl rfl rfl rfl ?_; rintro _ _ ⟨rfl, d', rfl, hs, st⟩
  refine .nil ?_ rfl
  exact ⟨_, rfl, rfl, d', rfl, hs.perm, st⟩
end
end Go.Proofs.Ytbdefjbekbbldaa
