import Derived.Test.YtbdefjbekbbldaaA1
import Derived.Test.YtbdefjbekbbldaaV4
import Derived.Test.YtbdefjbekbbldaaND
set_option linter.unusedVariables false
set_option linter.unusedSimpArgs false
set_option linter.unnecessarySimpa false
namespace Go.Proofs.Ytbdefjbekbbldaa
open Go.V Go.N
set_option maxHeartbeats 8000000
set_option maxRecDepth 20000

abbrev U64 (n : Int) : D := .int .u64 n
/-- How many bits a number has. -/
def bl (n : Nat) : Nat := if n = 0 then 0 else n.log2 + 1
theorem bl_lt (n : Nat) : n < 2 ^ bl n := by
  unfold bl
  split
  · rename_i h; subst h; decide
  · exact Nat.lt_log2_self
theorem bl_ge {n : Nat} (h : n ≠ 0) : 2 ^ (bl n - 1) ≤ n := by
  unfold bl
  rw [if_neg h, Nat.add_sub_cancel]
  exact Nat.log2_self_le h
theorem bl_shift {n k : Nat} (h : 2 ^ k ≤ n) : bl n = k + bl (n / 2 ^ k) := by
  have hp : 0 < 2 ^ k := Nat.pow_pos (by decide)
  have h0 : n ≠ 0 := by omega
  have h1 : n / 2 ^ k ≠ 0 := by
    have := Nat.div_pos h hp
    omega
  unfold bl
  rw [if_neg h0, if_neg h1]
  have e : (n / 2 ^ k).log2 = n.log2 - k := by
    refine (Nat.log2_eq_iff h1).2 ⟨?_, ?_⟩
    · rw [Nat.le_div_iff_mul_le hp, ← Nat.pow_add, Nat.sub_add_cancel ((Nat.le_log2 h0).2 h)]
      exact Nat.log2_self_le h0
    · rw [Nat.div_lt_iff_lt_mul hp, ← Nat.pow_add, show n.log2 - k + 1 + k = n.log2 + 1 by have := (Nat.le_log2 h0).2 h; omega]
      exact Nat.lt_log2_self
  rw [e]
  have := (Nat.le_log2 h0).2 h
  omega
theorem bl_le {n k : Nat} (h : n < 2 ^ k) : bl n ≤ k := by
  rcases Nat.eq_zero_or_pos n with rfl | h0
  · exact Nat.zero_le _
  · refine Nat.le_of_not_lt fun hc => ?_
    have h1 := bl_ge (n := n) (by omega)
    have h2 : 2 ^ k ≤ 2 ^ (bl n - 1) := Nat.pow_le_pow_right (by decide) (by omega)
    omega

/- math/bits.Len32 -/
theorem Len32_spec {x : Int} (hx : d32 x) : PureFn Try.prog 108 [U x] (I (bl x.toNat : Int)) := by
  unfold d32 at hx
  obtain ⟨n, rfl⟩ : ∃ n : Nat, x = n := ⟨x.toNat, by omega⟩
  rw [Int.toNat_natCast]
  refine .of_W (fn := Try.f108) (by repeat (first | exact trivial | refine ⟨(by repeat (exact .int _ _)), ?_⟩)) Try.call108 Try.func108 rfl rfl ?_
  repeat (first | (with_reducible refine W.id_ ?_); (first | refine W.sreg ?_ | refine W.seq ?_) | (with_reducible refine RK.id_ ?_); (first | refine RK.cons_ ?_; (refine RK.k_ 0 rfl ?_; refine .p rfl rfl rfl (by exact trivial) ?_) | refine RK.nilT rfl ?_ rfl))
  refine .joinS (fun (s : Nat × Nat) => s.1 < 65536 ∧ bl n = s.2 + bl s.1 ∧ s.2 ≤ 16) (fun s => [(0, U (s.1 : Int)), (2, I (s.2 : Int))]) (fun _ => []) ?_ ?_
  · refine W.cond_dec rfl (fun h => ?_) (fun h => ?_)
    · repeat (first | (with_reducible refine W.id_ ?_); (first | refine W.sreg ?_ | refine W.reg ?_) | (with_reducible refine RK.id_ ?_); (first | refine RK.cons_ ?_; (first | refine RK.k_ 0 rfl ?_; refine .p rfl rfl rfl (by exact trivial) ?_ | refine RK.k_ 3 rfl ?_; (refine .shr 65536 rfl rfl rfl rfl rfl (by omega) rfl ?_)) | refine RK.nilT rfl ?_ rfl))
      refine .nil ?_ rfl
      refine ⟨(n / 65536, 16), ⟨by show n / 65536 < 65536; omega, bl_shift (k := 16) (by omega), Nat.le_refl _⟩, .heap ?_ rfl⟩
      repeat (first | exact trivial | refine ⟨⟨_, rfl, .refl _⟩, ?_⟩)
    · refine .skip ⟨(n, 0), ⟨by show n < 65536; omega, by show bl n = 0 + bl n; omega, by show 0 ≤ 16; omega⟩, .heap ?_ rfl⟩
      repeat (first | exact trivial | refine ⟨⟨_, rfl, .refl _⟩, ?_⟩)
  rintro ⟨a, c⟩ ⟨h1, h2, h3⟩
  dsimp only at h1 h2 h3 ⊢
  rw [h2]
  clear h2 hx n
  repeat (first | (with_reducible refine W.id_ ?_); (first | refine W.sreg ?_ | refine W.seq ?_) | (with_reducible refine RK.id_ ?_); (first | refine RK.cons_ ?_; (refine RK.k_ 0 rfl ?_; refine .p rfl rfl rfl (by exact trivial) ?_) | refine RK.nilT rfl ?_ rfl))
  refine .joinS (fun (s : Nat × Nat) => s.1 < 256 ∧ c + bl a = s.2 + bl s.1 ∧ s.2 ≤ 24) (fun s => [(0, U (s.1 : Int)), (2, I (s.2 : Int))]) (fun _ => []) ?_ ?_
  · refine W.cond_dec rfl (fun h => ?_) (fun h => ?_)
    · repeat (first | (with_reducible refine W.id_ ?_); (first | refine W.sreg ?_ | refine W.reg ?_) | (with_reducible refine RK.id_ ?_); (first | refine RK.cons_ ?_; (first | refine RK.k_ 0 rfl ?_; refine .p rfl rfl rfl (by exact trivial) ?_ | refine RK.k_ 1 rfl ?_; (refine .pa rfl rfl rfl rfl rfl rfl (by omega) (by omega) ?_) | refine RK.k_ 3 rfl ?_; (refine .shr 256 rfl rfl rfl rfl rfl (by omega) rfl ?_)) | refine RK.nilT rfl ?_ rfl))
      refine .nil ?_ rfl
      refine ⟨(a / 256, c + 8), ⟨by show a / 256 < 256; omega, ?_, by show c + 8 ≤ 24; omega⟩, .heap ?_ rfl⟩
      · have := bl_shift (n := a) (k := 8) (by omega)
        show c + bl a = c + 8 + bl (a / 2 ^ 8)
        omega
      · repeat (first | exact trivial | refine ⟨⟨_, rfl, .refl _⟩, ?_⟩)
    · refine .skip ⟨(a, c), ⟨by show a < 256; omega, rfl, by show c ≤ 24; omega⟩, .heap ?_ rfl⟩
      repeat (first | exact trivial | refine ⟨⟨_, rfl, .refl _⟩, ?_⟩)
  rintro ⟨m, k⟩ ⟨h4, h5, h6⟩
  dsimp only at h4 h5 h6 ⊢
  rw [h5]
  clear h5 h1 h3 a c
  have hb := bl_le (n := m) (k := 8) h4
  repeat (first | (with_reducible refine W.id_ ?_); (refine W.sreg ?_) | (with_reducible refine RK.id_ ?_); (refine RK.cons_ ?_; (first | refine RK.k_ 0 rfl ?_; refine .p rfl rfl rfl (by exact trivial) ?_ | refine RK.k_ 2 rfl ?_; (refine .p rfl rfl rfl trivial ?_))))
  rw [show IntKind.u8.wrap (m : Int) = (m : Int) from wrapU (m := 256) rfl rfl (by omega) (by omega)]
  refine .pe (.int .u8 (bl m : Int)) rfl rfl rfl ⟨by omega, ?_⟩ ?_ ?_
  · exact Int.lt_of_lt_of_le (show (m : Int) < 256 by omega) (by decide +kernel)
  · refine congrArg (D.int .u8) (congrArg Nat.cast ?_)
    rw [Int.toNat_natCast]
    clear hb h6 k
    revert m
    decide +kernel
  repeat ((with_reducible refine RK.id_ ?_); (first | refine RK.cons_ ?_; (first | refine RK.k_ 0 rfl ?_; refine .p rfl rfl rfl (by exact trivial) ?_ | refine RK.k_ 1 rfl ?_; (refine .pa rfl rfl rfl rfl rfl rfl (by omega) (by omega) ?_) | refine RK.k_ 2 rfl ?_; (refine .cv64 rfl rfl rfl rfl rfl rfl (by omega) (by omega) ?_)) | refine RK.nilT rfl ?_ rfl))
  refine W.ret ⟨_, rfl, .eq (by repeat (exact .int _ _)) ?_, rfl⟩
  refine congrArg (D.int .i64) ?_
  omega

/- math/bits.LeadingZeros32 -/
theorem Lz32_spec {x : Int} (hx : d32 x) : PureFn Try.prog 100 [U x] (I (32 - (bl x.toNat : Int))) := by
  have hb := bl_le (n := x.toNat) (k := 32) (by unfold d32 at hx; omega)
  refine .of_W (fn := Try.f100) (by repeat (first | exact trivial | refine ⟨(by repeat (exact .int _ _)), ?_⟩)) Try.call100 Try.func100 rfl rfl ?_
  repeat (first | (with_reducible refine W.id_ ?_); (refine W.sreg ?_) | (with_reducible refine RK.id_ ?_); (first | refine RK.cons_ ?_; (refine RK.k_ 0 rfl ?_; refine .p rfl rfl rfl (by exact trivial) ?_) | refine RK.nilT rfl ?_ rfl))
  refine .call (Len32_spec hx) rfl rfl rfl rfl ?_
  repeat ((with_reducible refine RK.id_ ?_); (first | refine RK.cons_ ?_; (first | refine RK.k_ 0 rfl ?_; refine .p rfl rfl rfl (by exact trivial) ?_ | refine RK.k_ 1 rfl ?_; (refine .pa rfl rfl rfl rfl rfl rfl (by omega) (by omega) ?_)) | refine RK.nilT rfl ?_ rfl))
  refine W.ret ⟨_, rfl, .eq (by repeat (exact .int _ _)) ?_, rfl⟩
  rfl

/- math/bits.Div32 -/
theorem Div32_spec {hi lo y : Int} (h1 : 0 ≤ hi ∧ hi < y) (h2 : d32 lo) (h3 : d32 y) : PureFn Try.prog 107 [U hi, U lo, U y] (.tup [U ((hi * 4294967296 + lo) / y), U ((hi * 4294967296 + lo) % y)]) := by
  unfold d32 at h2 h3
  obtain ⟨q1, q2, q3, q4, q5⟩ := ds_digit h1 h2
  refine .of_W (fn := Try.f107) (by repeat (first | exact trivial | refine ⟨(by repeat (exact .int _ _)), ?_⟩)) Try.call107 Try.func107 rfl rfl ?_
  repeat (first | (with_reducible refine W.id_ ?_); (first | refine W.sreg ?_ | refine W.seq ?_) | (with_reducible refine RK.id_ ?_); (first | refine RK.cons_ ?_; (refine RK.k_ 0 rfl ?_; refine .p rfl rfl rfl (by exact trivial) ?_) | refine RK.nilT rfl ?_ rfl))
  refine .split (fun h => ?_) (fun h => ?_)
  · repeat ((with_reducible refine RK.id_ ?_); (first | refine RK.cons_ ?_; (refine RK.k_ 0 rfl ?_; refine .p rfl rfl rfl (by exact trivial) ?_) | refine RK.nilT rfl ?_ rfl))
    refine W.cond_dec rfl (fun h4 => ?_) (fun h4 => ?_)
    · omega
    repeat (first | (with_reducible refine W.id_ ?_); (first | refine W.sreg ?_ | refine W.sdraw mixed (by kernel_rfl) (by kernel_rfl) ?_ | refine W.skipT rfl ?_) | (with_reducible refine RK.id_ ?_); (first | refine RK.cons_ ?_; (first | refine RK.k_ 0 rfl ?_; refine .p rfl rfl rfl (by exact trivial) ?_ | refine RK.k_ 2 rfl ?_; (refine .cvu rfl rfl rfl rfl rfl rfl (by omega) (by omega) ?_) | refine RK.k_ 3 rfl ?_; (first | refine .or32 rfl rfl rfl rfl rfl (by omega) (by omega) (by omega) (by omega) ?_ | refine .shl 4294967296 (lo := 0) (hi := 18446744073709551616) rfl rfl rfl rfl rfl (by omega) rfl rfl rfl (by omega) (by omega) ?_)) | refine RK.nilT rfl ?_ rfl))
    refine .quo rfl rfl rfl rfl rfl (by omega) (by omega) (wrapu64 q2 (by omega)) ?_
    repeat ((with_reducible refine RK.id_ ?_); (first | refine RK.cons_ ?_; (first | refine RK.k_ 0 rfl ?_; refine .p rfl rfl rfl (by exact trivial) ?_ | refine RK.k_ 2 rfl ?_; (first | refine .cvu rfl rfl rfl rfl rfl rfl (by omega) (by omega) ?_ | refine .cv32 rfl rfl rfl rfl rfl rfl (by omega) (by omega) ?_) | refine RK.k_ 3 rfl ?_; (refine .rem rfl rfl rfl rfl rfl (by omega) (by omega) ?_)) | refine RK.nilT rfl ?_ rfl))
    exact .ret ⟨_, rfl, .pure (.tup (PureL.mem ⟨.int _ _, .int _ _, trivial⟩)) (.refl _), rfl⟩
  · have : y = 0 := by simpa using h
    omega

/- math/bits.Div64, with a high part of 0 -/
theorem Div64_spec {lo y : Int} (h1 : 0 ≤ lo ∧ lo < 18446744073709551616) (h2 : 0 < y ∧ y < 18446744073709551616) : PureFn Try.prog 102 [U64 0, U64 lo, U64 y] (.tup [U64 (lo / y), U64 (lo % y)]) := by
  have q2 : 0 ≤ lo / y := Int.ediv_nonneg h1.1 (Int.le_of_lt h2.1)
  have q3 : lo / y ≤ lo := Int.ediv_le_self _ h1.1
  refine .of_W (fn := Try.f102) (by repeat (first | exact trivial | refine ⟨(by repeat (exact .int _ _)), ?_⟩)) Try.call102 Try.func102 rfl rfl ?_
  repeat (first | (with_reducible refine W.id_ ?_); (first | refine W.sreg ?_ | refine W.seq ?_) | (with_reducible refine RK.id_ ?_); (first | refine RK.cons_ ?_; (refine RK.k_ 0 rfl ?_; refine .p rfl rfl rfl (by exact trivial) ?_) | refine RK.nilT rfl ?_ rfl))
  refine W.cond_dec rfl (fun h => ?_) (fun h => ?_)
  · omega
  repeat (first | (with_reducible refine W.id_ ?_); (first | refine W.sreg ?_ | refine W.seq ?_ | refine W.skipT rfl ?_) | (with_reducible refine RK.id_ ?_); (first | refine RK.cons_ ?_; (refine RK.k_ 0 rfl ?_; refine .p rfl rfl rfl (by exact trivial) ?_) | refine RK.nilT rfl ?_ rfl))
  refine W.cond_dec rfl (fun h4 => ?_) (fun h4 => ?_)
  · omega
  repeat (first | (with_reducible refine W.id_ ?_); (first | refine W.sreg ?_ | refine W.sdraw mixed (by kernel_rfl) (by kernel_rfl) ?_ | refine W.seq ?_ | refine W.skipT rfl ?_ | refine W.condT rfl ?_) | (with_reducible refine RK.id_ ?_); (first | refine RK.cons_ ?_; (refine RK.k_ 0 rfl ?_; refine .p rfl rfl rfl (by exact trivial) ?_) | refine RK.nilT rfl ?_ rfl))
  refine .quo rfl rfl rfl rfl rfl (by omega) (by omega) (wrapu64 q2 (by omega)) ?_
  repeat ((with_reducible refine RK.id_ ?_); (first | refine RK.cons_ ?_; (first | refine RK.k_ 0 rfl ?_; refine .p rfl rfl rfl (by exact trivial) ?_ | refine RK.k_ 3 rfl ?_; (refine .rem rfl rfl rfl rfl rfl (by omega) (by omega) ?_)) | refine RK.nilT rfl ?_ rfl))
  exact .ret ⟨_, rfl, .pure (.tup (PureL.mem ⟨.int _ _, .int _ _, trivial⟩)) (.refl _), rfl⟩
end Go.Proofs.Ytbdefjbekbbldaa

namespace Go.Proofs.Ytbdefjbekbbldaa
open Go.V Go.N
set_option maxHeartbeats 8000000
set_option maxRecDepth 20000

/- natural.Uint64 -/
theorem Uint64_spec {a : List Int} (ha : okN a) (hl : a.length ≤ 1000000000000) : PureFn Try.prog 79 [eN a] (.tup (if nv a < 18446744073709551616 then [U64 (nv a : Int), .bool true] else [U64 0, .bool false])) := by
  have ka := okN_dig (nv a)
  have ea := nv_dig (nv a)
  have hge := @dig_ge (nv a)
  have hpz := @dig_len0 (nv a)
  refine .of_W (fn := Try.f79) (by repeat (first | exact trivial | refine ⟨(by repeat (exact eN_pure _)), ?_⟩)) Try.call79 Try.func79 rfl rfl ?_
  repeat (first | (with_reducible refine W.id_ ?_); (refine W.sreg ?_) | (with_reducible refine RK.id_ ?_); (first | refine RK.cons_ ?_; (refine RK.k_ 0 rfl ?_; refine .p rfl rfl rfl (by exact trivial) ?_) | refine RK.nilT rfl ?_ rfl))
  refine .call (trim_spec ha hl) rfl rfl rfl rfl ?_
  generalize dig (nv a) = ds at *
  rw [← ea] at hge hpz ⊢
  clear ea
  rcases ds with _ | ⟨x, _ | ⟨y, _ | ⟨z, r⟩⟩⟩
  · repeat (first | (with_reducible refine W.id_ ?_); (first | refine W.sreg ?_ | refine W.seq ?_ | refine W.blockS ?_ | refine W.condT rfl ?_) | (with_reducible refine RK.id_ ?_); (first | refine RK.cons_ ?_; (refine RK.k_ 0 rfl ?_; refine .p rfl rfl rfl (by exact trivial) ?_) | refine RK.nilT rfl ?_ rfl))
    exact .ret ⟨_, rfl, .pure (.tup (PureL.mem ⟨.int _ _, .bool _, trivial⟩)) (.refl _), rfl⟩
  · have hx := ka.head
    have l1 : [x].length = 1 := rfl
    have e : (nv [x] : Int) = x := by simp only [nv]; omega
    rw [if_pos (by omega), e]
    repeat (first | (with_reducible refine W.id_ ?_); (first | refine W.sreg ?_ | refine W.seq ?_ | refine W.blockS ?_ | refine W.condT rfl ?_ | refine W.condF rfl ?_) | (with_reducible refine RK.id_ ?_); (first | refine RK.cons_ ?_; (first | refine RK.k_ 0 rfl ?_; refine .p rfl rfl rfl (by exact trivial) ?_ | refine RK.k_ 2 rfl ?_; (refine .cvu rfl rfl rfl rfl rfl rfl (by omega) (by omega) ?_) | refine RK.k_ 4 rfl ?_; (refine .p rfl rfl rfl (by omega) ?_) | refine RK.k_ 5 rfl ?_; (refine .ld _ rfl rfl rfl rfl rfl rfl (by rfl) ?_)) | refine RK.nilT rfl ?_ rfl))
    exact .ret ⟨_, rfl, .pure (.tup (PureL.mem ⟨.int _ _, .bool _, trivial⟩)) (.refl _), rfl⟩
  · have hx := ka.head
    have hy := ka.tail.head
    have l1 : [x, y].length = 2 := rfl
    have e : (nv [x, y] : Int) = y * 4294967296 + x := by simp only [nv, B32]; omega
    rw [if_pos (by omega), e]
    repeat (first | (with_reducible refine W.id_ ?_); (first | refine W.sreg ?_ | refine W.sdraw mixed (by kernel_rfl) (by kernel_rfl) ?_ | refine W.seq ?_ | refine W.blockS ?_ | refine W.condT rfl ?_ | refine W.condF rfl ?_) | (with_reducible refine RK.id_ ?_); (first | refine RK.cons_ ?_; (first | refine RK.k_ 0 rfl ?_; refine .p rfl rfl rfl (by exact trivial) ?_ | refine RK.k_ 2 rfl ?_; (refine .cvu rfl rfl rfl rfl rfl rfl (by omega) (by omega) ?_) | refine RK.k_ 4 rfl ?_; (refine .p rfl rfl rfl (by omega) ?_) | refine RK.k_ 5 rfl ?_; (refine .ld _ rfl rfl rfl rfl rfl rfl (by rfl) ?_) | refine RK.k_ 3 rfl ?_; (first | refine .or32 rfl rfl rfl rfl rfl (by omega) (by omega) (by omega) (by omega) ?_ | refine .shl 4294967296 (lo := 0) (hi := 18446744073709551616) rfl rfl rfl rfl rfl (by omega) rfl rfl rfl (by omega) (by omega) ?_)) | refine RK.nilT rfl ?_ rfl))
    exact .ret ⟨_, rfl, .pure (.tup (PureL.mem ⟨.int _ _, .bool _, trivial⟩)) (.refl _), rfl⟩
  · have h1 : ¬ nv (x :: y :: z :: r) < 18446744073709551616 := by
      have h2 : nv (x :: y :: z :: r) ≠ 0 := fun h => by
        have := hpz.2 h
        simp only [List.length_cons] at this; omega
      have h3 := hge h2
      have h4 : B32 ^ 2 ≤ B32 ^ ((x :: y :: z :: r).length - 1) := pw_mono (by simp only [List.length_cons]; omega)
      have h5 : B32 ^ 2 = 18446744073709551616 := rfl
      omega
    rw [if_neg h1]
    repeat (first | (with_reducible refine W.id_ ?_); (first | refine W.sreg ?_ | refine W.seq ?_ | refine W.blockS ?_ | refine W.skipT rfl ?_ | refine W.condF rfl ?_) | (with_reducible refine RK.id_ ?_); (first | refine RK.cons_ ?_; (refine RK.k_ 0 rfl ?_; refine .p rfl rfl rfl (by exact trivial) ?_) | refine RK.nilT rfl ?_ rfl))
    exact .ret ⟨_, rfl, .pure (.tup (PureL.mem ⟨.int _ _, .bool _, trivial⟩)) (.refl _), rfl⟩

/- natural.trim, of a row that may be written -/
theorem trim_live {xs : List Int} {H : Hp} {b : Nat} (ha : okN xs) (hl : xs.length ≤ 1000000000000) (hb : H[b]? = some (some (.cells (xs.map U)))) (h0 : nv xs ≠ 0) :
    FnTo Try.prog 90 [.live b 0 xs.length xs.length 1] H fun d H' => (∃ rest, xs = dig (nv xs) ++ rest) ∧ d = .live b 0 (dig (nv xs)).length xs.length 1 ∧ H' = H := by
  refine .of_W (fn := Try.f90) Try.call90 Try.func90 rfl (Nat.le_of_ble_eq_true rfl) ?_
  repeat (first | (with_reducible refine W.id_ ?_); (first | refine W.sreg ?_ | refine W.seq ?_) | (with_reducible refine RK.id_ ?_); (first | refine RK.cons_ ?_; (refine RK.k_ 0 rfl ?_; refine .p rfl rfl rfl (by exact trivial) ?_) | refine RK.nilT rfl ?_ rfl))
  refine W.loopE (fun n => n ≤ xs.length ∧ ∀ i, n ≤ i → i < xs.length → xs.getD i 0 = 0) (fun n => (n ≤ xs.length ∧ ∀ i, n ≤ i → i < xs.length → xs.getD i 0 = 0) ∧ (n = 0 ∨ xs.getD (n - 1) 0 ≠ 0)) (fun n => n) (fun n => [(3, I n), (0, .live b 0 xs.length xs.length 1)]) (fun _ => H) (xs.length) rfl ?_ ?_ ?_ ?_
  · exact ⟨Nat.le_refl _, fun i h1 h2 => by omega⟩
  · refine .wk ?_
    repeat (first | exact trivial | refine ⟨⟨_, rfl, .refl _⟩, ?_⟩)
  · rintro n ⟨hn, hz⟩
    repeat (first | (with_reducible refine W.id_ ?_); (first | refine W.sreg ?_ | refine W.seq ?_) | (with_reducible refine RK.id_ ?_); (refine RK.cons_ ?_; (refine RK.k_ 0 rfl ?_; refine .p rfl rfl rfl (by exact trivial) ?_)))
    refine .dsplit (fun hp => ?_) (fun hp => ?_)
    · repeat ((with_reducible refine RK.id_ ?_); (first | refine RK.cons_ ?_; (first | refine RK.k_ 0 rfl ?_; refine .p rfl rfl rfl (by exact trivial) ?_ | refine RK.k_ 1 rfl ?_; (refine .pa rfl rfl rfl rfl rfl rfl (by omega) (by omega) ?_) | refine RK.k_ 4 rfl ?_; (refine .ixl _ _ (s := 1) rfl rfl rfl rfl rfl rfl rfl (by exact (Int.toNat_of_nonneg (by omega)).symm) (by omega) rfl ?_) | refine RK.k_ 5 rfl ?_; (refine .ldl rfl rfl rfl rfl rfl rfl rfl (by assumption) (by exact get_map0 (z := (0 : Int)) (by omega)) ?_)) | refine RK.nilT rfl ?_ rfl))
      refine W.cond_dec rfl (fun h => ?_) (fun h => ?_)
      · repeat (first | (with_reducible refine W.id_ ?_); (first | refine W.reg ?_ | refine W.blockR ?_ | refine W.skipT rfl ?_) | (with_reducible refine RK.id_ ?_); (refine RK.cons_ ?_; (first | refine RK.k_ 0 rfl ?_; refine .p rfl rfl rfl (by exact trivial) ?_ | refine RK.k_ 1 rfl ?_; (refine .pa rfl rfl rfl rfl rfl rfl (by omega) (by omega) ?_))))
        refine .nil ?_ rfl
        exact ⟨n - 1, by show n - 1 < n; omega, ⟨by omega, fun i h1 h2 => by
          rcases Nat.lt_or_ge i n with h3 | h3
          · have : i = (↑n - 1 : Int).toNat := by omega
            subst this; exact h
          · exact hz i h3 h2⟩, .wk (by (repeat (first | exact trivial | refine ⟨⟨_, rfl, .refl _⟩, ?_⟩ | refine ⟨⟨_, rfl, .of_eq (congrArg (D.int _) (by omega))⟩, ?_⟩)))⟩
      · refine W.exit ⟨n, ⟨⟨hn, hz⟩, .inr ?_⟩, .wk (by (repeat (first | exact trivial | refine ⟨⟨_, rfl, .refl _⟩, ?_⟩)))⟩
        rwa [show (↑n - 1 : Int).toNat = n - 1 by omega] at h
    · repeat (first | (with_reducible refine W.id_ ?_); (refine W.condF rfl ?_) | (with_reducible refine RK.id_ ?_); (first | refine RK.cons_ ?_; (first | refine .skip rfl rfl ?_ | refine RK.k_ 0 rfl ?_; refine .p rfl rfl rfl (by exact trivial) ?_) | refine RK.nilT rfl ?_ rfl))
      refine W.exit ⟨n, ⟨⟨hn, hz⟩, .inl (by omega)⟩, .wk (by (repeat (first | exact trivial | refine ⟨⟨_, rfl, .refl _⟩, ?_⟩)))⟩
  · rintro n ⟨⟨hn, hz⟩, hl⟩
    have he := trim_dig ha hn hz hl
    have hne : n ≠ 0 := by
      rintro rfl
      rw [List.take_zero] at he
      have := congrArg nv he
      rw [nv_dig] at this
      exact h0 this.symm
    have hlen : (dig (nv xs)).length = n := by rw [← he, List.length_take]; omega
    rw [hlen]
    repeat (first | (with_reducible refine W.id_ ?_); (first | refine W.sreg ?_ | refine W.seq ?_) | (with_reducible refine RK.id_ ?_); (first | refine RK.cons_ ?_; (refine RK.k_ 0 rfl ?_; refine .p rfl rfl rfl (by exact trivial) ?_) | refine RK.nilT rfl ?_ rfl))
    refine W.cond_dec rfl (fun h => ?_) (fun h => ?_)
    · omega
    · repeat (first | (with_reducible refine W.id_ ?_); (first | refine W.sreg ?_ | refine W.skipT rfl ?_) | (with_reducible refine RK.id_ ?_); (first | refine RK.cons_ ?_; (first | refine RK.k_ 0 rfl ?_; refine .p rfl rfl rfl (by exact trivial) ?_ | refine RK.k_ 7 rfl ?_; (refine .p rfl rfl rfl (by omega) ?_)) | refine RK.nilT rfl ?_ rfl))
      refine W.ret ⟨_, rfl, ⟨xs.drop n, ?_⟩, ?_, rfl⟩
      · rw [← he, List.take_append_drop]
      · rfl

/- natural.DivSmall -/
theorem DivSmall_spec {a : List Int} {d : Int} (ha : okN a) (hl : a.length ≤ 10000000000) (hd : 0 < d ∧ d < 4294967296) : PureFn Try.prog 99 [eN a, U d] (.tup [eN (dig (nv a / d.toNat)), U ((nv a % d.toNat : Nat) : Int), .bool true]) := by
  have ka := okN_dig (nv a)
  have ea := nv_dig (nv a)
  have la : (dig (nv a)).length ≤ a.length := dig_len (nv_lt ha)
  refine .of_W (fn := Try.f99) (by repeat (first | exact trivial | refine ⟨(by repeat (first | exact .int _ _ | exact eN_pure _)), ?_⟩)) Try.call99 Try.func99 rfl rfl ?_
  repeat (first | (with_reducible refine W.id_ ?_); (first | refine W.sreg ?_ | refine W.seq ?_) | (with_reducible refine RK.id_ ?_); (first | refine RK.cons_ ?_; (refine RK.k_ 0 rfl ?_; refine .p rfl rfl rfl (by exact trivial) ?_) | refine RK.nilT rfl ?_ rfl))
  refine W.cond_dec rfl (fun h => ?_) (fun h => ?_)
  · omega
  repeat (first | (with_reducible refine W.id_ ?_); (first | refine W.sreg ?_ | refine W.skipT rfl ?_) | (with_reducible refine RK.id_ ?_); (refine RK.cons_ ?_; (refine RK.k_ 0 rfl ?_; refine .p rfl rfl rfl (by exact trivial) ?_)))
  refine .call (trim_spec ha (by omega)) rfl rfl rfl rfl ?_
  generalize dig (nv a) = p at *
  rw [← ea]
  clear ea
  repeat (first | (with_reducible refine W.id_ ?_); (refine W.sreg ?_) | (with_reducible refine RK.id_ ?_); (first | refine RK.cons_ ?_; (refine RK.k_ 0 rfl ?_; refine .p rfl rfl rfl (by exact trivial) ?_) | refine RK.nilT rfl ?_ rfl))
  refine .make 0 p.length 1 4 ((List.replicate p.length 0).map U) rfl rfl rfl rfl rfl rfl rfl rfl rfl rfl (by omega) (by rfl) (by omega) (by omega) ?_ (pushR_eq _ _) ?_
  · exact rep_U _
  repeat (first | (with_reducible refine W.id_ ?_); (first | refine W.sreg ?_ | refine W.seq ?_) | (with_reducible refine RK.id_ ?_); (first | refine RK.cons_ ?_; (first | refine RK.k_ 0 rfl ?_; refine .p rfl rfl rfl (by exact trivial) ?_ | refine RK.k_ 1 rfl ?_; (refine .pa rfl rfl rfl rfl rfl rfl (by omega) (by omega) ?_)) | refine RK.nilT rfl ?_ rfl))
  refine W.loopE (fun (s : Nat × List Int × Int) => s.1 ≤ p.length ∧ DsSt p s.2.1 s.2.2 d s.1) (fun s => DsSt p s.2.1 s.2.2 d 0) (fun (s : Nat × List Int × Int) => s.1) (fun (s : Nat × List Int × Int) => [(9, I ((s.1 : Int) - 1)), (7, .live 0 0 p.length p.length 1), (8, U s.2.2), (0, eN p), (1, U d)]) (fun (s : Nat × List Int × Int) => [some (.cells (s.2.1.map U))]) ((p.length, List.replicate p.length 0, 0)) rfl ?_ ?_ ?_ ?_
  · refine ⟨Nat.le_refl _, by simp, okN_zeros _, ⟨by show (0 : Int) ≤ 0; omega, by show 0 < d; omega⟩, fun j hj => ?_, ?_⟩
    · rw [List.getD_eq_getElem?_getD, List.getElem?_replicate]
      split <;> rfl
    · rw [nv_zeros, List.take_of_length_le (Nat.le_refl _)]
      simp
  · refine .heap ?_ rfl
    repeat (first | exact trivial | refine ⟨⟨_, rfl, .refl _⟩, ?_⟩)
  · rintro ⟨k, os, rest⟩ ⟨h1, h2⟩
    dsimp only at h1 h2 ⊢
    have hl1 := h2.len
    have hrr := h2.rr
    repeat (first | (with_reducible refine W.id_ ?_); (first | refine W.sreg ?_ | refine W.seq ?_) | (with_reducible refine RK.id_ ?_); (first | refine RK.cons_ ?_; (refine RK.k_ 0 rfl ?_; refine .p rfl rfl rfl (by exact trivial) ?_) | refine RK.nilT rfl ?_ rfl))
    refine W.cond_dec rfl (fun h3 => ?_) (fun h3 => ?_)
    · obtain ⟨i, rfl⟩ : ∃ i, k = i + 1 := ⟨k - 1, by omega⟩
      have hx := ka.at i
      refine W.wk (F' := [(9, I (i : Int)), (7, .live 0 0 p.length p.length 1), (8, U rest), (0, eN p), (1, U d)]) ?_ ?_
      · repeat (first | exact trivial | refine ⟨⟨_, rfl, .refl _⟩, ?_⟩ | refine ⟨⟨_, rfl, .of_eq (congrArg (D.int _) (by omega))⟩, ?_⟩)
      repeat (first | (with_reducible refine W.id_ ?_); (first | refine W.reg ?_ | refine W.seq ?_ | refine W.blockR ?_ | refine W.skipT rfl ?_) | (with_reducible refine RK.id_ ?_); (refine RK.cons_ ?_; (first | refine RK.k_ 0 rfl ?_; refine .p rfl rfl rfl (by exact trivial) ?_ | refine RK.k_ 4 rfl ?_; (refine .ix _ (s := 1) rfl rfl rfl rfl rfl rfl rfl (by rfl) (by omega) ?_) | refine RK.k_ 5 rfl ?_; (refine .ld _ rfl rfl rfl rfl rfl rfl (by exact n_get (by omega) rfl) ?_))))
      refine .call (Div32_spec hrr hx (by unfold d32; omega)) rfl rfl rfl rfl ?_
      repeat (first | (with_reducible refine W.id_ ?_); (refine W.reg ?_) | (with_reducible refine RK.id_ ?_); (first | refine RK.cons_ ?_; (first | refine RK.k_ 0 rfl ?_; refine .p rfl rfl rfl (by exact trivial) ?_ | refine RK.k_ 1 rfl ?_; (refine .pa rfl rfl rfl rfl rfl rfl (by omega) (by omega) ?_) | refine RK.k_ 4 rfl ?_; (refine .ixl _ _ (s := 1) rfl rfl rfl rfl rfl rfl rfl (by rfl) (by omega) rfl ?_) | refine RK.k_ 6 rfl ?_; (refine .store rfl rfl rfl rfl rfl rfl rfl (by rfl) (by exact over_map0 rfl (by omega)) (by rfl) ?_)) | refine RK.nilT rfl ?_ rfl))
      refine .nil ?_ rfl
      refine ⟨(i, os.set i ((rest * 4294967296 + p.getD i 0) / d), (rest * 4294967296 + p.getD i 0) % d), by show i < i + 1; omega, ⟨by show i ≤ p.length; omega, h2.step ka (by omega)⟩, .heap ?_ rfl⟩
      repeat (first | exact trivial | refine ⟨⟨_, rfl, .refl _⟩, ?_⟩)
    · obtain rfl : k = 0 := by omega
      refine W.exit ⟨(0, os, rest), h2, .heap ?_ rfl⟩
      repeat (first | exact trivial | refine ⟨⟨_, rfl, .refl _⟩, ?_⟩)
  · rintro ⟨k, os, rest⟩ h2
    dsimp only at h2 ⊢
    have hl1 := h2.len
    obtain ⟨e1, e2⟩ := h2.fin
    have ht := trim_spec h2.ok (by omega)
    rw [e1] at ht
    rw [← e2]
    repeat (first | (with_reducible refine W.id_ ?_); (refine W.sreg ?_) | (with_reducible refine RK.id_ ?_); (refine RK.cons_ ?_; (refine RK.k_ 0 rfl ?_; refine .p rfl rfl rfl (by exact trivial) ?_)))
    refine RK.to (F' := [(37, eN os), (8, U rest)]) (H' := []) (.frz ?_) ?_
    · exact ⟨⟨_, rfl, frz_map rfl (fun _ _ => .int _ _) hl1.symm⟩, ⟨_, rfl, .pure (.int _ _) (.refl _)⟩, trivial⟩
    refine .call (ht) rfl rfl rfl rfl ?_
    repeat ((with_reducible refine RK.id_ ?_); (first | refine RK.cons_ ?_; (refine RK.k_ 0 rfl ?_; refine .p rfl rfl rfl (by exact trivial) ?_) | refine RK.nilT rfl ?_ rfl))
    exact .ret ⟨_, rfl, .pure (.tup (PureL.mem ⟨eN_pure _, .int _ _, .bool _, trivial⟩)) (.refl _), rfl⟩
end Go.Proofs.Ytbdefjbekbbldaa

namespace Go.Proofs.Ytbdefjbekbbldaa
open Go.V Go.N
set_option maxHeartbeats 8000000
set_option maxRecDepth 20000

theorem nv_lift (w : Nat) (p : List Int) : nv (List.replicate w 0 ++ (p ++ [0])) = B32 ^ w * nv p := by
  rw [nv_app, nv_app, nv_zeros, List.length_replicate]
  simp [nv]
theorem okN_lift {w : Nat} {p : List Int} (h : okN p) : okN (List.replicate w 0 ++ (p ++ [0])) := (okN_zeros w).app (h.app (okN.cons (by omega) okN.nil))
theorem lay_in {α : Type} {A B C X : List α} {w n : Nat} (hA : A.length = w) (hB : B.length = n) : (A ++ (B ++ C)).take w ++ X ++ (A ++ (B ++ C)).drop (w + n) = A ++ (X ++ C) := by
  subst hA; subst hB
  rw [List.take_left, ← List.append_assoc A B C, ← List.length_append, List.drop_left, List.append_assoc]
theorem over_lift (w : Nat) (p : List Int) : overR ((List.replicate (w + p.length + 1) (0 : Int)).map U) (0 + w * 1) ((p.map U).take (p.length * 1)) = some ((List.replicate w 0 ++ (p ++ [0])).map U) := by
  have e1 : (p.map U).take (p.length * 1) = p.map U := List.take_of_length_le (by simp)
  have e : (List.replicate (w + p.length + 1) (0 : Int)).map U = (List.replicate w 0).map U ++ ((List.replicate p.length 0).map U ++ [0].map U) := by
    rw [← List.map_append, ← List.map_append]
    congr 1
    rw [← List.replicate_append_replicate, ← List.replicate_append_replicate, List.append_assoc]; rfl
  rw [e1, e, Nat.zero_add, Nat.mul_one, overR_of _ _ _ (by simp), lay_in (by simp) (by simp), List.map_append, List.map_append]

/- natural.Shl, of a number that is not 0: the row may be written further -/
theorem Shl_live {a : List Int} {n : Nat} (ha : okN a) (hl : a.length ≤ 10000000000) (hn : n ≤ 16777216) (h0 : nv a ≠ 0) :
    FnTo Try.prog 101 [eN a, I n] [] fun d H' => ∃ rest, d = .live 0 0 (dig (nv a * 2 ^ n)).length (dig (nv a * 2 ^ n) ++ rest).length 1 ∧ H' = [some (.cells ((dig (nv a * 2 ^ n) ++ rest).map U))] := by
  have ka := okN_dig (nv a)
  have ea := nv_dig (nv a)
  have la : (dig (nv a)).length ≤ a.length := dig_len (nv_lt ha)
  have hpz := @dig_len0 (nv a)
  refine .of_W (fn := Try.f101) Try.call101 Try.func101 rfl (Nat.le_of_ble_eq_true rfl) ?_
  repeat (first | (with_reducible refine W.id_ ?_); (refine W.sreg ?_) | (with_reducible refine RK.id_ ?_); (first | refine RK.cons_ ?_; (refine RK.k_ 0 rfl ?_; refine .p rfl rfl rfl (by exact trivial) ?_) | refine RK.nilT rfl ?_ rfl))
  refine .call (trim_spec ha (by omega)) rfl rfl rfl rfl ?_
  generalize dig (nv a) = p at *
  rw [← ea] at h0 hpz ⊢
  clear ea
  obtain ⟨w, s, rfl, hs⟩ : ∃ w s, n = 32 * w + s ∧ s < 32 := ⟨n / 32, n % 32, by omega, by omega⟩
  repeat (first | (with_reducible refine W.id_ ?_); (first | refine W.sreg ?_ | refine W.seq ?_) | (with_reducible refine RK.id_ ?_); (first | refine RK.cons_ ?_; (refine RK.k_ 0 rfl ?_; refine .p rfl rfl rfl (by exact trivial) ?_) | refine RK.nilT rfl ?_ rfl))
  refine W.cond_dec rfl (fun h => ?_) (fun h => ?_)
  · exact absurd (hpz.1 h) h0
  repeat (first | (with_reducible refine W.id_ ?_); (first | refine W.sreg ?_ | refine W.skipT rfl ?_) | (with_reducible refine RK.id_ ?_); (first | refine RK.cons_ ?_; (refine RK.k_ 0 rfl ?_; refine .p rfl rfl rfl (by exact trivial) ?_) | refine RK.nilT rfl ?_ rfl))
  refine RK.to (F' := [(19, I ((32 * w + s : Nat) : Int)), (1, I ((32 * w + s : Nat) : Int)), (0, eN p)]) (H' := []) (.wk ?_) ?_
  · refine ⟨⟨_, rfl, .of_eq (congrArg (D.int _) ?_)⟩, ⟨_, rfl, .of_eq (congrArg (D.int _) ?_)⟩, ⟨_, rfl, .refl _⟩, trivial⟩
    · rw [if_neg (by omega), if_neg (by omega)]
    · rw [if_neg (by omega), if_neg (by omega)]
  refine .quo rfl rfl rfl rfl rfl (by omega) (by omega) (wrap64 (by omega) (by omega)) ?_
  repeat (first | (with_reducible refine W.id_ ?_); (refine W.sreg ?_) | (with_reducible refine RK.id_ ?_); (first | refine RK.cons_ ?_; (first | refine RK.k_ 0 rfl ?_; refine .p rfl rfl rfl (by exact trivial) ?_ | refine RK.k_ 1 rfl ?_; (refine .pa rfl rfl rfl rfl rfl rfl (by omega) (by omega) ?_) | refine RK.k_ 3 rfl ?_; (refine .rem rfl rfl rfl rfl rfl (by omega) (by omega) ?_)) | refine RK.nilT rfl ?_ rfl))
  refine RK.to (F' := [(27, I ((w + p.length + 1 : Nat) : Int)), (5, I (w : Int)), (6, I (s : Int)), (0, eN p)]) (H' := []) (.wk ?_) ?_
  · repeat (first | exact trivial | refine ⟨⟨_, rfl, .refl _⟩, ?_⟩ | refine ⟨⟨_, rfl, .of_eq (congrArg (D.int _) (by omega))⟩, ?_⟩)
  refine .make 0 (w + p.length + 1) 1 4 ((List.replicate (w + p.length + 1) 0).map U) rfl rfl rfl rfl rfl rfl rfl rfl rfl rfl (by omega) (by rfl) (by omega) (by omega) ?_ (pushR_eq _ _) ?_
  · exact rep_U _
  repeat (first | (with_reducible refine W.id_ ?_); (refine W.sreg ?_) | (with_reducible refine RK.id_ ?_); (first | refine RK.cons_ ?_; (first | refine RK.k_ 0 rfl ?_; refine .p rfl rfl rfl (by exact trivial) ?_ | refine RK.k_ 7 rfl ?_; (refine .sll 1 _ _ rfl rfl rfl rfl rfl rfl rfl rfl (by rfl) (by rfl) (by omega) (by omega) ?_)) | refine RK.nilT rfl ?_ rfl))
  refine .copy (s := 1) (m := p.length) (rs := (List.replicate w 0 ++ (p ++ [0])).map U) rfl rfl rfl rfl rfl rfl rfl (.snap (by simp)) (by omega) (over_lift w p) rfl ?_
  have hov : okN (List.replicate w 0 ++ (p ++ [0])) := okN_lift ka
  have hlv : (List.replicate w (0 : Int) ++ (p ++ [0])).length = w + p.length + 1 := by simp; omega
  have hnv := nv_lift w p
  have hpow : nv p * 2 ^ (32 * w + s) = B32 ^ w * nv p * 2 ^ s := by
    rw [Nat.pow_add, Nat.pow_mul, ← Nat.mul_assoc, Nat.mul_comm (nv p)]
  have hlt : nv (List.replicate w 0 ++ (p ++ [0])) * 2 ^ s < B32 ^ (List.replicate w (0 : Int) ++ (p ++ [0])).length := by
    rw [hnv, hlv, Nat.pow_succ, Nat.pow_add, Nat.mul_assoc, Nat.mul_assoc]
    refine Nat.mul_lt_mul_of_pos_left ?_ (pw_pos w)
    exact Nat.mul_lt_mul'' (nv_lt ka) (by
      have : 2 ^ s ≤ 2 ^ 31 := Nat.pow_le_pow_right (by decide) (by omega)
      unfold B32; omega)
  repeat (first | (with_reducible refine W.id_ ?_); (first | refine W.sreg ?_ | refine W.seq ?_) | (with_reducible refine RK.id_ ?_); (first | refine RK.cons_ ?_; (refine RK.k_ 0 rfl ?_; refine .p rfl rfl rfl (by exact trivial) ?_) | refine RK.nilT rfl ?_ rfl))
  refine .joinS (fun (os : List Int) => os.length = w + p.length + 1 ∧ okN os ∧ nv os = nv p * 2 ^ (32 * w + s)) (fun os => [(7, .live 0 0 (w + p.length + 1) (w + p.length + 1) 1)]) (fun os => [some (.cells (os.map U))]) ?_ ?_
  · refine W.cond_dec rfl (fun h1 => ?_) (fun h1 => ?_)
    · repeat (first | (with_reducible refine W.id_ ?_); (refine W.sreg ?_) | (with_reducible refine RK.id_ ?_); (first | refine RK.cons_ ?_; (refine RK.k_ 0 rfl ?_; refine .p rfl rfl rfl (by exact trivial) ?_) | refine RK.nilT rfl ?_ rfl))
      refine W.block (.loopT (fun (z : Nat × List Int × Int) => w ≤ z.1 ∧ z.1 ≤ w + p.length + 1 ∧ SlSt (List.replicate w 0 ++ (p ++ [0])) z.2.1 z.2.2 s z.1) (fun (z : Nat × List Int × Int) => w + p.length + 1 - z.1) (fun (z : Nat × List Int × Int) => [(9, I (z.1 : Int)), (7, .live 0 0 (w + p.length + 1) (w + p.length + 1) 1), (8, U z.2.2), (6, I (s : Int))]) (fun (z : Nat × List Int × Int) => [some (.cells (z.2.1.map U))]) ((w, List.replicate w 0 ++ (p ++ [0]), 0)) ?_ ?_ ?_)
      · refine ⟨Nat.le_refl _, by show w ≤ w + p.length + 1; omega, rfl, hov, ⟨Int.le_refl _, two_pos s⟩, fun _ _ => rfl, ?_⟩
        rw [List.take_append_of_le_length (by simp), List.take_of_length_le (by simp), nv_zeros]
        simp
      · refine .heap ?_ rfl
        repeat (first | exact trivial | refine ⟨⟨_, rfl, .refl _⟩, ?_⟩)
      · rintro ⟨i, os, low⟩ ⟨k1, k2, k3⟩
        dsimp only at k1 k2 k3 ⊢
        have hl1 := k3.len
        have hlo := k3.lo
        repeat (first | (with_reducible refine W.id_ ?_); (first | refine W.sreg ?_ | refine W.seq ?_) | (with_reducible refine RK.id_ ?_); (first | refine RK.cons_ ?_; (refine RK.k_ 0 rfl ?_; refine .p rfl rfl rfl (by exact trivial) ?_) | refine RK.nilT rfl ?_ rfl))
        refine W.cond_dec rfl (fun h2 => ?_) (fun h2 => ?_)
        · have hx := k3.ok.at i
          obtain ⟨q1, q2, q3, q4, q5, q6⟩ := shl_parts (s := s) (by omega) hx
          have q7 := two_split (s := s) (by omega)
          have q8 := two_pos (32 - s)
          have q9 : (2 : Int) ^ s < 4294967296 := by
            have : (2 : Int) ^ s < 2 ^ 32 := by exact_mod_cast Nat.pow_lt_pow_right (by decide) hs
            exact this
          repeat (first | (with_reducible refine W.id_ ?_); (first | refine W.sreg ?_ | refine W.seq ?_ | refine W.blockS ?_ | refine W.skipT rfl ?_) | (with_reducible refine RK.id_ ?_); (first | refine RK.cons_ ?_; (first | refine RK.k_ 0 rfl ?_; refine .p rfl rfl rfl (by exact trivial) ?_ | refine RK.k_ 4 rfl ?_; (refine .ixl _ _ (s := 1) rfl rfl rfl rfl rfl rfl rfl (by rfl) (by omega) rfl ?_) | refine RK.k_ 5 rfl ?_; (refine .ldl rfl rfl rfl rfl rfl rfl rfl (by rfl) (by exact get_map0 (z := (0 : Int)) (by omega)) ?_)) | refine RK.nilT rfl ?_ rfl))
          refine .shlw (2 ^ s) rfl rfl rfl rfl rfl (by omega) (by rw [Int.toNat_natCast, Nat.min_eq_left (by omega)]) ?_
          repeat ((with_reducible refine RK.id_ ?_); (refine RK.cons_ ?_; (refine RK.k_ 0 rfl ?_; refine .p rfl rfl rfl (by exact trivial) ?_)))
          refine .orp s rfl rfl rfl rfl rfl (by rw [q1]; exact q5) (by rw [q1]; omega) (by rw [q1]; exact Int.mul_emod_left ..) hlo.1 hlo.2 (by omega) (by rw [q1]; omega) ?_
          repeat (first | (with_reducible refine W.id_ ?_); (refine W.reg ?_) | (with_reducible refine RK.id_ ?_); (first | refine RK.cons_ ?_; (first | refine RK.k_ 0 rfl ?_; refine .p rfl rfl rfl (by exact trivial) ?_ | refine RK.k_ 1 rfl ?_; (refine .pa rfl rfl rfl rfl rfl rfl (by omega) (by omega) ?_) | refine RK.k_ 4 rfl ?_; (refine .ixl _ _ (s := 1) rfl rfl rfl rfl rfl rfl rfl (by rfl) (by omega) rfl ?_) | refine RK.k_ 6 rfl ?_; (refine .store rfl rfl rfl rfl rfl rfl rfl (by rfl) (by exact over_map0 rfl (by omega)) (by rfl) ?_)) | refine RK.nilT rfl ?_ rfl))
          refine .shr (2 ^ (32 - s)) rfl rfl rfl rfl rfl (by omega) (by show (2 : Int) ^ (min ((32 : Int) - (s : Int)).toNat 32) = _; rw [show ((32 : Int) - (s : Int)).toNat = 32 - s by omega, Nat.min_eq_left (by omega)]) ?_
          repeat (first | (with_reducible refine W.id_ ?_); (refine W.reg ?_) | (with_reducible refine RK.id_ ?_); (first | refine RK.cons_ ?_; (first | refine RK.k_ 0 rfl ?_; refine .p rfl rfl rfl (by exact trivial) ?_ | refine RK.k_ 1 rfl ?_; (refine .pa rfl rfl rfl rfl rfl rfl (by omega) (by omega) ?_)) | refine RK.nilT rfl ?_ rfl))
          refine .nil ?_ rfl
          refine ⟨(i + 1, os.set i (os.getD i 0 * 2 ^ s % 4294967296 + low), os.getD i 0 / 2 ^ (32 - s)), by show w + p.length + 1 - (i + 1) < w + p.length + 1 - i; omega, ⟨by show w ≤ i + 1; omega, by show i + 1 ≤ w + p.length + 1; omega, k3.step (by omega) hov (by omega)⟩, .heap ?_ rfl⟩
          repeat (first | exact trivial | refine ⟨⟨_, rfl, .refl _⟩, ?_⟩)
        · have hi : i = (List.replicate w (0 : Int) ++ (p ++ [0])).length := by omega
          rw [hi] at k3
          refine W.exit ⟨os, ⟨by omega, k3.ok, ?_⟩, .heap ?_ rfl⟩
          · rw [k3.fin (by omega) hlt, hnv, hpow]
          · repeat (first | exact trivial | refine ⟨⟨_, rfl, .refl _⟩, ?_⟩)
    · have hs0 : s = 0 := by omega
      refine .skip ⟨List.replicate w 0 ++ (p ++ [0]), ⟨hlv, hov, ?_⟩, .heap ?_ rfl⟩
      · rw [hnv, hpow, hs0, Nat.pow_zero, Nat.mul_one]
      · repeat (first | exact trivial | refine ⟨⟨_, rfl, .refl _⟩, ?_⟩)
  rintro os ⟨g1, g2, g3⟩
  rw [← g3, ← g1]
  have g4 : nv os ≠ 0 := by
    rw [g3]
    exact Nat.mul_ne_zero h0 (Nat.ne_of_gt (Nat.pow_pos (by decide)))
  repeat (first | (with_reducible refine W.id_ ?_); (refine W.sreg ?_) | (with_reducible refine RK.id_ ?_); (refine RK.cons_ ?_; (refine RK.k_ 0 rfl ?_; refine .p rfl rfl rfl (by exact trivial) ?_)))
  refine .callF (trim_live (b := 0) g2 (by omega) rfl g4) rfl rfl rfl rfl ?_; rintro _ _ ⟨⟨rest, he⟩, rfl, rfl⟩
  repeat ((with_reducible refine RK.id_ ?_); (first | refine RK.cons_ ?_; (refine RK.k_ 0 rfl ?_; refine .p rfl rfl rfl (by exact trivial) ?_) | refine RK.nilT rfl ?_ rfl))
  refine .ret ⟨_, rfl, rest, ?_, ?_⟩
  · rw [← he]
  · rw [← he]

/- natural.Shl -/
theorem Shl_spec {a : List Int} {n : Nat} (ha : okN a) (hl : a.length ≤ 10000000000) (hn : n ≤ 16777216) : PureFn Try.prog 101 [eN a, I n] (eN (dig (nv a * 2 ^ n))) := by
  by_cases h0 : nv a = 0
  · have hpz := (@dig_len0 (nv a)).2 h0
    refine .of_W (fn := Try.f101) (by repeat (first | exact trivial | refine ⟨(by repeat (first | exact .int _ _ | exact eN_pure _)), ?_⟩)) Try.call101 Try.func101 rfl rfl ?_
    repeat (first | (with_reducible refine W.id_ ?_); (refine W.sreg ?_) | (with_reducible refine RK.id_ ?_); (first | refine RK.cons_ ?_; (refine RK.k_ 0 rfl ?_; refine .p rfl rfl rfl (by exact trivial) ?_) | refine RK.nilT rfl ?_ rfl))
    refine .call (trim_spec ha (by omega)) rfl rfl rfl rfl ?_
    repeat (first | (with_reducible refine W.id_ ?_); (first | refine W.sreg ?_ | refine W.seq ?_) | (with_reducible refine RK.id_ ?_); (first | refine RK.cons_ ?_; (refine RK.k_ 0 rfl ?_; refine .p rfl rfl rfl (by exact trivial) ?_) | refine RK.nilT rfl ?_ rfl))
    refine W.cond_dec rfl (fun h => ?_) (fun h => ?_)
    · repeat (first | (with_reducible refine W.id_ ?_); (refine W.sreg ?_) | (with_reducible refine RK.id_ ?_); (first | refine RK.cons_ ?_; (refine RK.k_ 0 rfl ?_; refine .p rfl rfl rfl (by exact trivial) ?_) | refine RK.nilT rfl ?_ rfl))
      refine .ret ⟨_, rfl, ?_, rfl⟩
      rw [h0, Nat.zero_mul, dig_zero]
      exact .pure .snil (.snil _)
    · exact absurd hpz h
  · refine PureFn.of_nil (PureL.mem ⟨eN_pure _, .int _ _, trivial⟩) ((Shl_live ha hl hn h0).mono ?_)
    rintro d H' ⟨rest, rfl, rfl⟩
    refine ⟨?_, noLoopB_spec rfl⟩
    have hb : [some (Blk.cells ((dig (nv a * 2 ^ n) ++ rest).map U))][0]? = some (some (.cells ((dig (nv a * 2 ^ n)).map U ++ rest.map U))) := by rw [List.map_append]; rfl
    exact frz_pre hb (fun _ _ => .int _ _) rfl

/- natural.Shr, by less than 32 places -/
theorem Shr_spec {a : List Int} {s : Nat} (ha : okN a) (hl : a.length ≤ 10000000000) (hs : s < 32) : PureFn Try.prog 103 [eN a, I s] (eN (dig (nv a / 2 ^ s))) := by
  have ka := okN_dig (nv a)
  have ea := nv_dig (nv a)
  have la : (dig (nv a)).length ≤ a.length := dig_len (nv_lt ha)
  have hpz := @dig_len0 (nv a)
  refine .of_W (fn := Try.f103) (by repeat (first | exact trivial | refine ⟨(by repeat (first | exact .int _ _ | exact eN_pure _)), ?_⟩)) Try.call103 Try.func103 rfl rfl ?_
  repeat (first | (with_reducible refine W.id_ ?_); (refine W.sreg ?_) | (with_reducible refine RK.id_ ?_); (first | refine RK.cons_ ?_; (refine RK.k_ 0 rfl ?_; refine .p rfl rfl rfl (by exact trivial) ?_) | refine RK.nilT rfl ?_ rfl))
  refine .call (trim_spec ha (by omega)) rfl rfl rfl rfl ?_
  generalize dig (nv a) = p at *
  rw [← ea] at hpz ⊢
  clear ea
  repeat (first | (with_reducible refine W.id_ ?_); (refine W.sreg ?_) | (with_reducible refine RK.id_ ?_); (first | refine RK.cons_ ?_; (refine RK.k_ 0 rfl ?_; refine .p rfl rfl rfl (by exact trivial) ?_) | refine RK.nilT rfl ?_ rfl))
  refine RK.to (F' := [(14, I (s : Int)), (1, I (s : Int)), (0, eN p)]) (H' := []) (.wk ?_) ?_
  · refine ⟨⟨_, rfl, .of_eq (congrArg (D.int _) ?_)⟩, ⟨_, rfl, .of_eq (congrArg (D.int _) ?_)⟩, ⟨_, rfl, .refl _⟩, trivial⟩
    · rw [if_neg (by omega)]
    · rw [if_neg (by omega)]
  refine .quo rfl rfl rfl rfl rfl (by omega) (by omega) (wrap64 (by omega) (by omega)) ?_
  repeat (first | (with_reducible refine W.id_ ?_); (first | refine W.sreg ?_ | refine W.seq ?_) | (with_reducible refine RK.id_ ?_); (first | refine RK.cons_ ?_; (first | refine RK.k_ 0 rfl ?_; refine .p rfl rfl rfl (by exact trivial) ?_ | refine RK.k_ 3 rfl ?_; (refine .rem rfl rfl rfl rfl rfl (by omega) (by omega) ?_)) | refine RK.nilT rfl ?_ rfl))
  refine W.wk (F' := [(21, .bool (decide ((p.length : Int) ≤ 0))), (5, I (0 : Int)), (6, I (s : Int)), (0, eN p)]) ?_ ?_
  · refine ⟨⟨_, rfl, .of_eq (congrArg D.bool (decide_eq_decide.2 (by omega)))⟩, ?_⟩
    repeat (first | exact trivial | refine ⟨⟨_, rfl, .refl _⟩, ?_⟩ | refine ⟨⟨_, rfl, .of_eq (congrArg (D.int _) (by omega))⟩, ?_⟩)
  refine W.cond_dec rfl (fun h => ?_) (fun h => ?_)
  · repeat (first | (with_reducible refine W.id_ ?_); (refine W.sreg ?_) | (with_reducible refine RK.id_ ?_); (first | refine RK.cons_ ?_; (refine RK.k_ 0 rfl ?_; refine .p rfl rfl rfl (by exact trivial) ?_) | refine RK.nilT rfl ?_ rfl))
    refine .ret ⟨_, rfl, ?_, rfl⟩
    rw [hpz.1 (by omega), Nat.zero_div, dig_zero]
    exact .pure .snil (.snil _)
  repeat (first | (with_reducible refine W.id_ ?_); (first | refine W.sreg ?_ | refine W.skipT rfl ?_) | (with_reducible refine RK.id_ ?_); (refine RK.cons_ ?_; (refine RK.k_ 0 rfl ?_; refine .p rfl rfl rfl (by exact trivial) ?_)))
  refine .slD (f := U) (xs := p) 0 rfl rfl rfl rfl rfl rfl rfl rfl (by omega) ?_
  skip
  refine .appNew 0 1 4 p.length (p.map U) rfl rfl rfl rfl rfl rfl rfl rfl rfl (.inl ⟨rfl, rfl, rfl⟩) (.snap (n := p.length) (by simp)) (by omega) (by omega) (by omega) (by omega) ?_ rfl ?_
  · simp
  repeat (first | (with_reducible refine W.id_ ?_); (first | refine W.sreg ?_ | refine W.seq ?_) | (with_reducible refine RK.id_ ?_); (first | refine RK.cons_ ?_; (refine RK.k_ 0 rfl ?_; refine .p rfl rfl rfl (by exact trivial) ?_) | refine RK.nilT rfl ?_ rfl))
  refine .joinS (fun (os : List Int) => os.length = p.length ∧ okN os ∧ nv os = nv p / 2 ^ s) (fun os => [(7, .live 0 0 p.length p.length 1)]) (fun os => [some (.cells (os.map U))]) ?_ ?_
  · refine W.cond_dec rfl (fun h1 => ?_) (fun h1 => ?_)
    · repeat (first | (with_reducible refine W.id_ ?_); (refine W.sreg ?_) | (with_reducible refine RK.id_ ?_); (first | refine RK.cons_ ?_; (refine RK.k_ 0 rfl ?_; refine .p rfl rfl rfl (by exact trivial) ?_) | refine RK.nilT rfl ?_ rfl))
      refine .rangeS (p.length) (fun i os => [(7, .live 0 0 p.length p.length 1), (6, I (s : Int))]) (fun i os => [some (.cells (os.map U))]) (fun i os => SrSt p os s i) (p) rfl rfl rfl rfl rfl rfl rfl rfl rfl rfl (by omega) ?_ ?_ (fun _ _ => rfl) (fun i os hi Ci => ?_) (fun os Ci => ?_)
      · exact .start ka
      · refine .heap ?_ rfl
        repeat (first | exact trivial | refine ⟨⟨_, rfl, .refl _⟩, ?_⟩)
      · have hl1 := Ci.len
        have hx := Ci.ok.at i
        have hx1 := ka.at (i + 1)
        obtain ⟨q1, q2, q3⟩ := shr_parts (s := s) (by omega) hx1
        have q4 := shr_low (s := s) (by omega) hx
        have q7 := two_split (s := s) (by omega)
        have q8 := two_pos (32 - s)
        have q9 := two_pos s
        repeat (first | (with_reducible refine W.id_ ?_); (first | refine W.sreg ?_ | refine W.seq ?_) | (with_reducible refine RK.id_ ?_); (first | refine RK.cons_ ?_; (first | refine RK.k_ 0 rfl ?_; refine .p rfl rfl rfl (by exact trivial) ?_ | refine RK.k_ 1 rfl ?_; (refine .pa rfl rfl rfl rfl rfl rfl (by omega) (by omega) ?_)) | refine RK.nilT rfl ?_ rfl))
        refine .joinS (fun (_ : Unit) => True) (fun _ => [(8, I (i : Int)), (9, U (p.getD (i + 1) 0 % 2 ^ s * 2 ^ (32 - s))), (7, .live 0 0 p.length p.length 1), (6, I (s : Int)), (30, I (i : Int)), (29, I p.length)]) (fun _ => [some (.cells (os.map U))]) ?_ ?_
        · refine W.cond_dec rfl (fun h2 => ?_) (fun h2 => ?_)
          · repeat (first | (with_reducible refine W.id_ ?_); (refine W.reg ?_) | (with_reducible refine RK.id_ ?_); (refine RK.cons_ ?_; (first | refine RK.k_ 0 rfl ?_; refine .p rfl rfl rfl (by exact trivial) ?_ | refine RK.k_ 1 rfl ?_; (refine .pa rfl rfl rfl rfl rfl rfl (by omega) (by omega) ?_) | refine RK.k_ 4 rfl ?_; (refine .p rfl rfl rfl (by omega) ?_) | refine RK.k_ 5 rfl ?_; (refine .ldl rfl rfl rfl rfl rfl rfl rfl (by rfl) (by exact get_map0 (z := (0 : Int)) (by omega)) ?_))))
            refine .shlw (2 ^ (32 - s)) rfl rfl rfl rfl rfl (by omega) (by rw [show ((32 : Int) - (s : Int)).toNat = 32 - s by omega, Nat.min_eq_left (by omega)]) ?_
            repeat ((with_reducible refine RK.id_ ?_); (refine RK.cons_ ?_; (refine RK.k_ 0 rfl ?_; refine .p rfl rfl rfl (by exact trivial) ?_)))
            refine .nil ?_ rfl
            refine ⟨(), trivial, .heap ?_ rfl⟩
            refine ⟨⟨_, rfl, .refl _⟩, ⟨_, rfl, .of_eq (congrArg U ?_)⟩, ?_⟩
            · rw [← q1, show ((i : Int) + 1).toNat = i + 1 by omega, Ci.z (i + 1) (by omega)]
            repeat (first | exact trivial | refine ⟨⟨_, rfl, .refl _⟩, ?_⟩)
          · refine .skip ⟨(), trivial, .heap ?_ rfl⟩
            have e : p.getD (i + 1) 0 = 0 := by rw [List.getD_eq_getElem?_getD, List.getElem?_eq_none (by omega)]; rfl
            rw [e, Int.zero_emod, Int.zero_mul]
            repeat (first | exact trivial | refine ⟨⟨_, rfl, .refl _⟩, ?_⟩)
        rintro _ _
        repeat (first | (with_reducible refine W.id_ ?_); (refine W.reg ?_) | (with_reducible refine RK.id_ ?_); (refine RK.cons_ ?_; (first | refine RK.k_ 0 rfl ?_; refine .p rfl rfl rfl (by exact trivial) ?_ | refine RK.k_ 4 rfl ?_; (refine .ixl _ _ (s := 1) rfl rfl rfl rfl rfl rfl rfl (by rfl) (by omega) rfl ?_) | refine RK.k_ 5 rfl ?_; (refine .ldl rfl rfl rfl rfl rfl rfl rfl (by rfl) (by exact get_map0 (z := (0 : Int)) (by omega)) ?_))))
        refine .shr (2 ^ s) rfl rfl rfl rfl rfl (by omega) (by show (2 : Int) ^ (min (s : Int).toNat 32) = _; rw [Int.toNat_natCast, Nat.min_eq_left (by omega)]) ?_
        repeat ((with_reducible refine RK.id_ ?_); (refine RK.cons_ ?_; (refine RK.k_ 0 rfl ?_; refine .p rfl rfl rfl (by exact trivial) ?_)))
        refine .orq (32 - s) rfl rfl rfl rfl rfl q4.1 q4.2 q2 (by omega) (by omega) (Int.mul_emod_left ..) ?_
        repeat ((with_reducible refine RK.id_ ?_); (refine RK.cons_ ?_; (first | refine RK.k_ 4 rfl ?_; (refine .ixl _ _ (s := 1) rfl rfl rfl rfl rfl rfl rfl (by rfl) (by omega) rfl ?_) | refine RK.k_ 6 rfl ?_; (refine .store rfl rfl rfl rfl rfl rfl rfl (by rfl) (by exact over_map0 rfl (by omega)) (by rfl) ?_))))
        refine .nil ?_ rfl
        refine ⟨os.set i (os.getD i 0 / 2 ^ s + p.getD (i + 1) 0 % 2 ^ s * 2 ^ (32 - s)), Ci.step (by omega) ka hi (by rw [Ci.z i (Nat.le_refl _)]), .heap ?_ rfl⟩
        repeat (first | exact trivial | refine ⟨⟨_, rfl, .refl _⟩, ?_⟩)
      · exact ⟨_, ⟨Ci.len, Ci.ok, Ci.fin ka⟩, .heap (by (repeat (first | exact trivial | refine ⟨⟨_, rfl, .refl _⟩, ?_⟩))) rfl⟩
    · have hs0 : s = 0 := by omega
      refine .skip ⟨p, ⟨rfl, ka, ?_⟩, .heap ?_ rfl⟩
      · rw [hs0, Nat.pow_zero, Nat.div_one]
      · repeat (first | exact trivial | refine ⟨⟨_, rfl, .refl _⟩, ?_⟩)
  rintro os ⟨g1, g2, g3⟩
  have ht := trim_spec g2 (by omega)
  rw [g3] at ht
  repeat (first | (with_reducible refine W.id_ ?_); (refine W.sreg ?_) | (with_reducible refine RK.id_ ?_); (refine RK.cons_ ?_; (refine RK.k_ 0 rfl ?_; refine .p rfl rfl rfl (by exact trivial) ?_)))
  refine RK.to (F' := [(58, eN os)]) (H' := []) (.frz ?_) ?_
  · exact ⟨⟨_, rfl, frz_map rfl (fun _ _ => .int _ _) g1.symm⟩, trivial⟩
  refine .call (ht) rfl rfl rfl rfl ?_
  repeat ((with_reducible refine RK.id_ ?_); (first | refine RK.cons_ ?_; (refine RK.k_ 0 rfl ?_; refine .p rfl rfl rfl (by exact trivial) ?_) | refine RK.nilT rfl ?_ rfl))
  refine W.ret ⟨_, rfl, .eq (by repeat (exact eN_pure _)) ?_, rfl⟩
  rfl
end Go.Proofs.Ytbdefjbekbbldaa

namespace Go.Proofs.Ytbdefjbekbbldaa
open Go.V Go.N
set_option maxHeartbeats 8000000
set_option maxRecDepth 20000

theorem nv_one (x : Int) : nv [x] = x.toNat := by simp [nv]
theorem over_one {u rest : List Int} {x : Int} : overR ((u ++ x :: rest).map U) (0 + u.length * 1) [U 0] = some ((u ++ 0 :: rest).map U) := by
  rw [overR_of _ _ _ (by simp)]
  simp [List.drop_append]
/-- The first digit of a number that was shifted so that its highest bit is 1. -/
theorem top_bit {b m : Nat} {s : Nat} (hb : b ≠ 0) (hl : (dig b).length = m + 1) (hs : s = 32 - bl ((dig b).getD m 0).toNat) : (dig (b * 2 ^ s)).length = m + 1 ∧ 2147483648 ≤ (dig (b * 2 ^ s)).getD m 0 ∧ s < 32 := by
  have ho := okN_dig b
  have hx := ho.at m
  have h1 := nv_take_succ (a := dig b) (i := m) (by omega)
  rw [List.take_of_length_le (by omega), nv_dig] at h1
  have h2 := nv_lt (ho.take m)
  rw [List.length_take, Nat.min_eq_left (by omega)] at h2
  have h3 := dig_ge hb
  rw [hl, Nat.add_sub_cancel] at h3
  have htl : ((dig b).getD m 0).toNat < 4294967296 := by omega
  generalize ((dig b).getD m 0).toNat = t at *
  have ht : t ≠ 0 := by
    rintro rfl
    rw [Nat.mul_zero] at h1; omega
  have h4 := bl_lt t
  have h5 := bl_ge ht
  have h6 := bl_le (n := t) (k := 32) (by omega)
  have h7 : 0 < bl t := by
    rcases Nat.eq_zero_or_pos (bl t) with h | h
    · rw [h] at h4; omega
    · exact h
  have hs1 : 2 ^ bl t * 2 ^ s = B32 := by rw [← Nat.pow_add, hs, show bl t + (32 - bl t) = 32 by omega]
  have hs2 : 2 ^ (bl t - 1) * 2 ^ s = 2147483648 := by rw [← Nat.pow_add, hs, show bl t - 1 + (32 - bl t) = 31 by omega]
  have hlow : 2147483648 * B32 ^ m ≤ b * 2 ^ s := by
    rw [← hs2]
    have : B32 ^ m * 2 ^ (bl t - 1) ≤ b := Nat.le_trans (Nat.mul_le_mul_left _ h5) (by omega)
    rw [Nat.mul_comm, ← Nat.mul_assoc]
    exact Nat.mul_le_mul_right _ this
  have hup : b * 2 ^ s < B32 ^ (m + 1) := by
    have h8 : b < B32 ^ m * (t + 1) := by rw [Nat.mul_add]; omega
    have h9 : B32 ^ m * (t + 1) ≤ B32 ^ m * 2 ^ bl t := Nat.mul_le_mul_left _ h4
    have h10 : b * 2 ^ s < B32 ^ m * 2 ^ bl t * 2 ^ s := Nat.mul_lt_mul_of_pos_right (by omega) (Nat.pow_pos (by decide))
    rw [Nat.mul_assoc, hs1] at h10
    rw [Nat.pow_succ]; exact h10
  have hlen1 : (dig (b * 2 ^ s)).length ≤ m + 1 := dig_len hup
  have hlen2 : ¬ (dig (b * 2 ^ s)).length ≤ m := fun hc => by
    have := Nat.lt_of_lt_of_le (dig_lt (b * 2 ^ s)) (pw_mono hc)
    have h11 : 1 * B32 ^ m ≤ 2147483648 * B32 ^ m := Nat.mul_le_mul_right _ (by decide)
    omega
  refine ⟨by omega, ?_, by omega⟩
  have k1 := nv_take_succ (a := dig (b * 2 ^ s)) (i := m) (by omega)
  rw [List.take_of_length_le (by omega), nv_dig] at k1
  have k2 := nv_lt ((okN_dig (b * 2 ^ s)).take m)
  rw [List.length_take, Nat.min_eq_left (by omega)] at k2
  have k3 := (okN_dig (b * 2 ^ s)).at m
  have k4 : 2147483648 * B32 ^ m < (((dig (b * 2 ^ s)).getD m 0).toNat + 1) * B32 ^ m := by
    have e : (((dig (b * 2 ^ s)).getD m 0).toNat + 1) * B32 ^ m = B32 ^ m * ((dig (b * 2 ^ s)).getD m 0).toNat + B32 ^ m := by rw [Nat.add_mul, Nat.one_mul, Nat.mul_comm]
    omega
  have k5 := Nat.lt_of_mul_lt_mul_right k4
  omega

/- division.long -/
theorem long_spec {a b : List Int} (ha : okN a) (hb : okN b) (hla : a.length ≤ 1000000000) (hlb : b.length ≤ 1000000000) (h0 : nv b ≠ 0) : PureFn Try.prog 80 [eN a, eN b] (.tup [eN (dig (nv a / nv b)), eN (dig (nv a % nv b))]) := by
  have kb := okN_dig (nv b)
  have eb := nv_dig (nv b)
  have lb : (dig (nv b)).length ≤ b.length := dig_len (nv_lt hb)
  have htb := @top_bit (nv b)
  have hbz := @dig_len0 (nv b)
  have hB32 : B32 = 4294967296 := rfl
  refine .of_W (fn := Try.f80) (by repeat (first | exact trivial | refine ⟨(by repeat (exact eN_pure _)), ?_⟩)) Try.call80 Try.func80 rfl rfl ?_
  repeat (first | (with_reducible refine W.id_ ?_); (first | refine W.sreg ?_ | refine W.scope ?_) | (with_reducible refine RK.id_ ?_); (first | refine RK.cons_ ?_; (refine RK.k_ 0 rfl ?_; refine .p rfl rfl rfl (by exact trivial) ?_) | refine RK.nilT rfl ?_ rfl))
  refine .call (Nnormal_spec hb (by omega)) rfl rfl rfl rfl ?_
  repeat (first | (with_reducible refine W.id_ ?_); (first | refine W.sreg ?_ | refine W.seq ?_) | (with_reducible refine RK.id_ ?_); (first | refine RK.cons_ ?_; (refine RK.k_ 0 rfl ?_; refine .p rfl rfl rfl (by exact trivial) ?_) | refine RK.nilT rfl ?_ rfl))
  refine .call (Ncmp_spec ha kb (by omega) (by omega)) rfl rfl rfl rfl ?_
  repeat ((with_reducible refine RK.id_ ?_); (first | refine RK.cons_ ?_; (refine RK.k_ 0 rfl ?_; refine .p rfl rfl rfl (by exact trivial) ?_) | refine RK.nilT rfl ?_ rfl))
  refine W.cond_dec rfl (fun h => ?_) (fun h => ?_)
  · have h' : nv a < nv b := by
      rw [eb] at h
      unfold sgn at h
      split at h
      · omega
      · split at h
        · assumption
        · omega
    repeat (first | (with_reducible refine W.id_ ?_); (refine W.sreg ?_) | (with_reducible refine RK.id_ ?_); (refine RK.cons_ ?_; (refine RK.k_ 0 rfl ?_; refine .p rfl rfl rfl (by exact trivial) ?_)))
    refine .call (Nnormal_spec ha (by omega)) rfl rfl rfl rfl ?_
    repeat ((with_reducible refine RK.id_ ?_); (first | refine RK.cons_ ?_; (refine RK.k_ 0 rfl ?_; refine .p rfl rfl rfl (by exact trivial) ?_) | refine RK.nilT rfl ?_ rfl))
    refine .ret ⟨_, rfl, ?_, rfl⟩
    rw [Nat.div_eq_of_lt h', Nat.mod_eq_of_lt h', dig_zero]
    exact .tupL (.cons (.pure .snil (.snil _)) (.cons (.pure (eN_pure _) (.refl _)) .nil))
  have h' : nv b ≤ nv a := by
    rw [eb] at h
    unfold sgn at h
    split at h
    · omega
    · split at h
      · omega
      · omega
  repeat (first | (with_reducible refine W.id_ ?_); (first | refine W.sreg ?_ | refine W.seq ?_ | refine W.skipT rfl ?_) | (with_reducible refine RK.id_ ?_); (first | refine RK.cons_ ?_; (refine RK.k_ 0 rfl ?_; refine .p rfl rfl rfl (by exact trivial) ?_) | refine RK.nilT rfl ?_ rfl))
  refine W.cond_dec rfl (fun h1 => ?_) (fun h1 => ?_)
  · obtain ⟨x, hx⟩ : ∃ x, dig (nv b) = [x] := by
      match hd : dig (nv b), h1 with
      | [x], _ => exact ⟨x, rfl⟩
      | [], h1 => simp at h1
      | _ :: _ :: _, h1 => simp at h1; omega
    rw [hx] at eb kb ⊢
    rw [nv_one] at eb
    have hxx := kb.head
    have l1 : [x].length = 1 := rfl
    have hD := DivSmall_spec (d := x) ha (by omega) (by omega)
    rw [eb] at hD
    have hm : nv a % nv b < nv b := Nat.mod_lt _ (by omega)
    repeat (first | (with_reducible refine W.id_ ?_); (refine W.sreg ?_) | (with_reducible refine RK.id_ ?_); (refine RK.cons_ ?_; (first | refine RK.k_ 0 rfl ?_; refine .p rfl rfl rfl (by exact trivial) ?_ | refine RK.k_ 4 rfl ?_; (refine .p rfl rfl rfl (by omega) ?_) | refine RK.k_ 5 rfl ?_; (refine .ld _ rfl rfl rfl rfl rfl rfl (by rfl) ?_))))
    refine .call (hD) rfl rfl rfl rfl ?_
    repeat (first | (with_reducible refine W.id_ ?_); (refine W.sreg ?_) | (with_reducible refine RK.id_ ?_); (first | refine RK.cons_ ?_; (first | refine RK.k_ 0 rfl ?_; refine .p rfl rfl rfl (by exact trivial) ?_ | refine RK.k_ 2 rfl ?_; (refine .cvu rfl rfl rfl rfl rfl rfl (by omega) (by omega) ?_)) | refine RK.nilT rfl ?_ rfl))
    refine .call (Nof_spec (n := nv a % nv b) (by omega)) rfl rfl rfl rfl ?_
    repeat ((with_reducible refine RK.id_ ?_); (first | refine RK.cons_ ?_; (refine RK.k_ 0 rfl ?_; refine .p rfl rfl rfl (by exact trivial) ?_) | refine RK.nilT rfl ?_ rfl))
    exact .ret ⟨_, rfl, .pure (.tup (PureL.mem ⟨eN_pure _, eN_pure _, trivial⟩)) (.refl _), rfl⟩
  obtain ⟨n, hn⟩ : ∃ n, (dig (nv b)).length = n + 2 := ⟨(dig (nv b)).length - 2, by omega⟩
  have hn1 : (((dig (nv b)).length : Nat) : Int) - 1 = ((n + 1 : Nat) : Int) := by omega
  have hk1 : ((((dig (nv b)).length : Nat) : Int) - 1).toNat = n + 1 := by omega
  have htop := kb.at (n + 1)
  obtain ⟨s, hs⟩ : ∃ s, s = 32 - bl ((dig (nv b)).getD (n + 1) 0).toNat := ⟨_, rfl⟩
  obtain ⟨q1, q2, q3⟩ := htb h0 hn hs
  have hbl : bl ((dig (nv b)).getD (n + 1) 0).toNat ≤ 32 := bl_le (by omega)
  have hs' : (32 : Int) - ((bl ((dig (nv b)).getD (n + 1) 0).toNat : Nat) : Int) = (s : Int) := by omega
  repeat (first | (with_reducible refine W.id_ ?_); (first | refine W.sreg ?_ | refine W.skipT rfl ?_) | (with_reducible refine RK.id_ ?_); (refine RK.cons_ ?_; (first | refine RK.k_ 0 rfl ?_; refine .p rfl rfl rfl (by exact trivial) ?_ | refine RK.k_ 1 rfl ?_; (refine .pa rfl rfl rfl rfl rfl rfl (by omega) (by omega) ?_) | refine RK.k_ 4 rfl ?_; (refine .ix _ (s := 1) rfl rfl rfl rfl rfl rfl rfl (by exact (Int.toNat_of_nonneg (by omega)).symm) (by omega) ?_) | refine RK.k_ 5 rfl ?_; (refine .ld _ rfl rfl rfl rfl rfl rfl (by exact n_get (by omega) rfl) ?_))))
  rw [hk1]
  refine .call (Lz32_spec htop) rfl rfl rfl rfl ?_
  rw [hs']
  repeat (first | (with_reducible refine W.id_ ?_); (refine W.sreg ?_) | (with_reducible refine RK.id_ ?_); (first | refine RK.cons_ ?_; (refine RK.k_ 0 rfl ?_; refine .p rfl rfl rfl (by exact trivial) ?_) | refine RK.nilT rfl ?_ rfl))
  refine .call (Shl_spec kb (by omega) (by omega)) rfl rfl rfl rfl ?_
  rw [eb]
  have kv := okN_dig (nv b * 2 ^ s)
  have ev := nv_dig (nv b * 2 ^ s)
  have hdiv : nv a / nv b = nv a * 2 ^ s / (nv b * 2 ^ s) := (Nat.mul_div_mul_right _ _ (Nat.pow_pos (by decide))).symm
  have hmod : nv a % nv b = nv a * 2 ^ s % (nv b * 2 ^ s) / 2 ^ s := by
    rw [Nat.mul_mod_mul_right, Nat.mul_div_cancel _ (Nat.pow_pos (by decide))]
  have hUl : n + 2 ≤ (dig (nv a * 2 ^ s)).length := by
    refine Nat.le_of_not_lt fun hc => ?_
    have := len_lt (m := nv a * 2 ^ s) (n := nv b * 2 ^ s) (by omega)
    have := Nat.mul_le_mul_right (2 ^ s) h'
    omega
  have hUh : (dig (nv a * 2 ^ s)).length ≤ a.length + 1 := by
    refine dig_len ?_
    rw [Nat.pow_succ]
    refine Nat.mul_lt_mul'' (nv_lt ha) ?_
    have : 2 ^ s ≤ 2 ^ 31 := Nat.pow_le_pow_right (by decide) (by omega)
    unfold B32; omega
  have hSl := Shl_live (n := s) ha (by omega) (by omega) (by omega)
  rw [hdiv, hmod]
  obtain ⟨W0, hW0⟩ : ∃ W0, W0 = nv a * 2 ^ s := ⟨_, rfl⟩
  rw [← hW0] at hUl hUh hSl ⊢
  clear hdiv hmod htb hbz hn1 hk1 hs hs' hbl htop h h1
  generalize dig (nv b * 2 ^ s) = v at *
  rw [← ev]
  repeat (first | (with_reducible refine W.id_ ?_); (refine W.sreg ?_) | (with_reducible refine RK.id_ ?_); (first | refine RK.cons_ ?_; (refine RK.k_ 0 rfl ?_; refine .p rfl rfl rfl (by exact trivial) ?_) | refine RK.nilT rfl ?_ rfl))
  refine .joinR (fun c : Nat => True) (fun c => [(12, .live 0 0 ((dig W0).length + 1) c 1), (11, eN v), (6, I ((n + 2 : Nat) : Int)), (10, I (s : Int))]) (fun _ => [some (.cells ((dig W0 ++ [0]).map U))]) ?_ ?_
  · refine .callF (hSl) rfl rfl rfl rfl ?_; rintro _ _ ⟨rest, rfl, rfl⟩
    repeat ((with_reducible refine RK.id_ ?_); (refine RK.cons_ ?_; (refine RK.k_ 0 rfl ?_; refine .p rfl rfl rfl (by exact trivial) ?_)))
    rcases rest with _ | ⟨r0, rest⟩
    · rw [List.append_nil]
      refine .app 1 1 4 ((dig W0).length + 1) ((dig W0 ++ [0]).map U) rfl rfl rfl rfl rfl rfl rfl rfl rfl rfl ?_ (.snap (n := 1) rfl) (by omega) (by omega) (by omega) ?_ rfl rfl ?_
      · simp
      · simp
        rw [List.take_of_length_le (by simp)]; rfl
      repeat ((with_reducible refine RK.id_ ?_); (refine RK.cons_ ?_; (refine RK.k_ 0 rfl ?_; refine .p rfl rfl rfl (by exact trivial) ?_)))
      refine .nil ?_ rfl
      refine ⟨(dig W0).length + 1, trivial, .ren [1] [] (Nat.zero_le _) (fun b hb => absurd hb (Nat.not_lt_zero b)) (by simp) ?_ ?_⟩
      · refine ⟨⟨_, rfl, .live rfl⟩, ⟨_, rfl, .wk (eN_pure _) (.refl _)⟩, ⟨_, rfl, .wk (.int _ _) (.of_eq (congrArg (D.int _) (by omega)))⟩, ⟨_, rfl, .wk (.int _ _) (.refl _)⟩, trivial⟩
      · exact ⟨⟨by simp, _, rfl, by
          have := BlkRen.pre (σ := [1]) (Z := []) (H := [none, some (.cells ((dig W0 ++ [0]).map U))]) (xs := (dig W0 ++ [0]).map U) (ys := []) (fun d hd => by obtain ⟨x, _, rfl⟩ := List.mem_map.1 hd; exact .int _ _)
          rw [List.append_nil] at this
          exact this⟩, trivial⟩
    · refine .appIn rfl rfl rfl rfl rfl rfl rfl (.snap (n := 1) rfl) (by simp) over_one rfl ?_
      repeat ((with_reducible refine RK.id_ ?_); (refine RK.cons_ ?_; (refine RK.k_ 0 rfl ?_; refine .p rfl rfl rfl (by exact trivial) ?_)))
      refine .nil ?_ rfl
      refine ⟨(dig W0 ++ r0 :: rest).length, trivial, .ren [0] [] (Nat.zero_le _) (fun b hb => absurd hb (Nat.not_lt_zero b)) (by simp) ?_ ?_⟩
      · refine ⟨⟨_, rfl, .live rfl⟩, ⟨_, rfl, .wk (eN_pure _) (.refl _)⟩, ⟨_, rfl, .wk (.int _ _) (.of_eq (congrArg (D.int _) (by omega)))⟩, ⟨_, rfl, .wk (.int _ _) (.refl _)⟩, trivial⟩
      · refine ⟨⟨by simp, _, rfl, ?_⟩, trivial⟩
        have e : (dig W0 ++ 0 :: rest).map U = (dig W0 ++ [0]).map U ++ rest.map U := by simp
        rw [e]
        exact BlkRen.pre (fun d hd => by obtain ⟨x, _, rfl⟩ := List.mem_map.1 hd; exact .int _ _)
  rintro c _
  have hvge : B32 ^ (v.length - 1) ≤ nv v := by
    have := nv_ge (a := v) (n + 1)
    rw [q1, show n + 1 + 1 - 1 = n + 1 by omega]
    refine Nat.le_trans ?_ this
    calc B32 ^ (n + 1) = B32 ^ (n + 1) * 1 := (Nat.mul_one _).symm
      _ ≤ _ := Nat.mul_le_mul_left _ (by omega)
  have hst := DvSt.start (U := W0) hvge (by omega) (by omega)
  rw [show v.length = n + 2 from q1] at hst
  obtain ⟨m, hm⟩ : ∃ m, m = (dig W0).length + 1 := ⟨_, rfl⟩
  rw [← hm] at hst ⊢
  repeat (first | (with_reducible refine W.id_ ?_); (refine W.sreg ?_) | (with_reducible refine RK.id_ ?_); (refine RK.cons_ ?_; (first | refine RK.k_ 0 rfl ?_; refine .p rfl rfl rfl (by exact trivial) ?_ | refine RK.k_ 1 rfl ?_; (refine .pa rfl rfl rfl rfl rfl rfl (by omega) (by omega) ?_))))
  refine .make 1 (m - (n + 2)) 1 4 ((List.replicate (m - (n + 2)) 0).map U) rfl rfl rfl rfl rfl rfl rfl rfl rfl rfl (by omega) (by omega) (by omega) (by omega) ?_ (pushR_eq _ _) ?_
  · exact rep_U _
  have kn1 := kv.at (n + 1)
  have kn0 := kv.at n
  obtain ⟨top, htp⟩ : ∃ top : Nat, v.getD (n + 1) 0 = top := ⟨(v.getD (n + 1) 0).toNat, by omega⟩
  obtain ⟨nxt, hnx⟩ : ∃ nxt : Nat, v.getD n 0 = nxt := ⟨(v.getD n 0).toNat, by omega⟩
  have hk1 : (((n + 2 : Nat) : Int) - 1).toNat = n + 1 := by omega
  have hk2 : (((n + 2 : Nat) : Int) - 2).toNat = n := by omega
  rw [htp] at kn1 q2
  rw [hnx] at kn0
  repeat (first | (with_reducible refine W.id_ ?_); (first | refine W.sreg ?_ | refine W.sdraw mixed (by kernel_rfl) (by kernel_rfl) ?_ | refine W.seq ?_ | refine W.labelT rfl ?_) | (with_reducible refine RK.id_ ?_); (first | refine RK.cons_ ?_; (first | refine RK.k_ 0 rfl ?_; refine .p rfl rfl rfl (by exact trivial) ?_ | refine RK.k_ 1 rfl ?_; (refine .pa rfl rfl rfl rfl rfl rfl (by omega) (by omega) ?_) | refine RK.k_ 2 rfl ?_; (refine .cvmu rfl rfl rfl rfl rfl rfl ?_) | refine RK.k_ 4 rfl ?_; (refine .ix _ (s := 1) rfl rfl rfl rfl rfl rfl rfl (by exact (Int.toNat_of_nonneg (by omega)).symm) (by omega) ?_) | refine RK.k_ 5 rfl ?_; (refine .ld _ rfl rfl rfl rfl rfl rfl (by exact n_get (by omega) rfl) ?_)) | refine RK.nilT rfl ?_ rfl))
  rw [hk1, hk2, htp, hnx]
  refine W.loopE (fun (z : Nat × List Int × List Int) => z.1 ≤ m - (n + 2) ∧ DvSt W0 v z.2.1 z.2.2 z.1 m) (fun (z : Nat × List Int × List Int) => DvSt W0 v z.2.1 z.2.2 0 m) (fun (z : Nat × List Int × List Int) => z.1) (fun (z : Nat × List Int × List Int) => [(15, I ((z.1 : Int) - 1)), (12, .live 0 0 m c 1), (4, .live 1 0 (m - (n + 2)) (m - (n + 2)) 1), (11, eN v), (6, I ((n + 2 : Nat) : Int)), (10, I (s : Int)), (13, U64 (top : Int)), (14, U64 (nxt : Int))]) (fun (z : Nat × List Int × List Int) => [some (.cells (z.2.1.map U)), some (.cells (z.2.2.map U))]) ((m - (n + 2), dig W0 ++ [0], List.replicate (m - (n + 2)) 0)) rfl ?_ ?_ ?_ ?_
  · exact ⟨Nat.le_refl _, hst⟩
  · refine .heap ?_ rfl
    repeat (first | exact trivial | refine ⟨⟨_, rfl, .refl _⟩, ?_⟩ | refine ⟨⟨_, rfl, .of_eq (congrArg (D.int _) (by omega))⟩, ?_⟩)
  · rintro ⟨j, us, qs⟩ ⟨k1, k2⟩
    dsimp only at k1 k2 ⊢
    have hul := k2.ul
    have hql := k2.ql
    repeat (first | (with_reducible refine W.id_ ?_); (first | refine W.sreg ?_ | refine W.seq ?_) | (with_reducible refine RK.id_ ?_); (first | refine RK.cons_ ?_; (refine RK.k_ 0 rfl ?_; refine .p rfl rfl rfl (by exact trivial) ?_) | refine RK.nilT rfl ?_ rfl))
    refine W.cond_dec rfl (fun h3 => ?_) (fun h3 => ?_)
    · obtain ⟨i, rfl⟩ : ∃ i, j = i + 1 := ⟨j - 1, by omega⟩
      refine W.wk (F' := [(15, I (i : Int)), (12, .live 0 0 m c 1), (4, .live 1 0 (m - (n + 2)) (m - (n + 2)) 1), (11, eN v), (6, I ((n + 2 : Nat) : Int)), (10, I (s : Int)), (13, U64 (top : Int)), (14, U64 (nxt : Int))]) ?_ ?_
      · repeat (first | exact trivial | refine ⟨⟨_, rfl, .refl _⟩, ?_⟩ | refine ⟨⟨_, rfl, .of_eq (congrArg (D.int _) (by omega))⟩, ?_⟩)
      obtain ⟨low, lv, e1, e2, e3, e4, e5⟩ := k2.trial kv q1 (by omega)
      have d2 := k2.uo.at (i + n + 2)
      have d1 := k2.uo.at (i + n + 1)
      have d0 := k2.uo.at (i + n)
      have d1' := k2.uo.at ((i : Int) + ((n + 2 : Nat) : Int) - 1).toNat
      have d0' := k2.uo.at ((i : Int) + ((n + 2 : Nat) : Int) - 2).toNat
      obtain ⟨u2, hu2⟩ : ∃ x : Nat, us.getD (i + n + 2) 0 = x := ⟨(us.getD (i + n + 2) 0).toNat, by omega⟩
      obtain ⟨u1, hu1⟩ : ∃ x : Nat, us.getD (i + n + 1) 0 = x := ⟨(us.getD (i + n + 1) 0).toNat, by omega⟩
      obtain ⟨u0, hu0⟩ : ∃ x : Nat, us.getD (i + n) 0 = x := ⟨(us.getD (i + n) 0).toNat, by omega⟩
      rw [hu2] at d2
      rw [hu1] at d1
      rw [hu0] at d0
      rw [hu2, hu1, hu0, Int.toNat_natCast, Int.toNat_natCast, Int.toNat_natCast] at e1
      rw [htp, hnx, Int.toNat_natCast, Int.toNat_natCast] at e3
      have hk3 : ((i : Int) + ((n + 2 : Nat) : Int) - 1).toNat = i + n + 1 := by omega
      have hk4 : ((i : Int) + ((n + 2 : Nat) : Int) - 2).toNat = i + n := by omega
      have hi2 : us.getD (i + (n + 2)) 0 = (u2 : Int) := hu2
      repeat (first | (with_reducible refine W.id_ ?_); (first | refine W.sdraw mixed (by kernel_rfl) (by kernel_rfl) ?_ | refine W.seq ?_ | refine W.blockS ?_ | refine W.skipT rfl ?_) | (with_reducible refine RK.id_ ?_); (refine RK.cons_ ?_; (first | refine RK.k_ 0 rfl ?_; refine .p rfl rfl rfl (by exact trivial) ?_ | refine RK.k_ 1 rfl ?_; (refine .pa rfl rfl rfl rfl rfl rfl (by omega) (by omega) ?_) | refine RK.k_ 2 rfl ?_; (refine .cvu rfl rfl rfl rfl rfl rfl (by omega) (by omega) ?_) | refine RK.k_ 4 rfl ?_; (refine .ixl _ _ (s := 1) rfl rfl rfl rfl rfl rfl rfl (by first | rfl | exact (Int.toNat_of_nonneg (by omega)).symm) (by omega) rfl ?_) | refine RK.k_ 5 rfl ?_; (refine .ldl rfl rfl rfl rfl rfl rfl rfl (by rfl) (by exact get_map0 (z := (0 : Int)) (by omega)) ?_) | refine RK.k_ 3 rfl ?_; (first | refine .or32 rfl rfl rfl rfl rfl (by omega) (by omega) (by omega) (by omega) ?_ | refine .shl 4294967296 (lo := 0) (hi := 18446744073709551616) rfl rfl rfl rfl rfl (by omega) rfl rfl rfl (by omega) (by omega) ?_))))
      rw [hk3, hu1, hi2]
      refine .call (Div64_spec (lo := (u2 : Int) * 4294967296 + u1) (y := top) ⟨by omega, by omega⟩ ⟨by omega, by omega⟩) rfl rfl rfl rfl ?_
      obtain ⟨X, hX⟩ : ∃ X, X = u2 * 4294967296 + u1 := ⟨_, rfl⟩
      have hg0 : ((u2 : Int) * 4294967296 + u1) / top = ((X / top : Nat) : Int) := by rw [hX, Int.natCast_ediv, Int.natCast_add, Int.natCast_mul]; rfl
      have hr0 : ((u2 : Int) * 4294967296 + u1) % top = ((X % top : Nat) : Int) := by rw [hX, Int.natCast_emod, Int.natCast_add, Int.natCast_mul]; rfl
      have e1' : nv us = (X * B32 + u0) * B32 ^ (i + n) + low := by rw [hX]; exact e1
      have ht1 : 0 < top := by omega
      have hnB : nxt < B32 := by unfold B32; omega
      have hu0B : u0 < B32 := by unfold B32; omega
      have hbig : ∀ g r, g * top + r = X → B32 ≤ r → g < B32 ∧ g * (B32 ^ i * nv v) ≤ nv us + B32 ^ i * nv v := fun g r h1 h2 => by
        have h4 := guess_top e1' e3 e4 hnB e5
        have h5 : g < B32 := by
          have h6 : g * top < B32 * top := by rw [Nat.mul_comm B32]; omega
          exact Nat.lt_of_mul_lt_mul_right h6
        refine ⟨h5, guess_le e1' e3 e4 ht1 h1 h5 ?_⟩
        have h6 : g * nxt ≤ B32 * B32 := Nat.mul_le_mul (Nat.le_of_lt h5) (Nat.le_of_lt hnB)
        have h7 : B32 * B32 ≤ r * B32 := Nat.mul_le_mul_right _ h2
        omega
      have hmod1 : X % top < top := Nat.mod_lt _ ht1
      have hXdm := Nat.div_add_mod X top
      rw [hg0, hr0]
      repeat (first | (with_reducible refine W.id_ ?_); (refine W.seq ?_) | (with_reducible refine RK.id_ ?_); (first | refine RK.cons_ ?_; (refine RK.k_ 0 rfl ?_; refine .p rfl rfl rfl (by exact trivial) ?_) | refine RK.nilT rfl ?_ rfl))
      refine W.loopE (fun (z : Nat × Nat) => z.1 * top + z.2 = X ∧ nv us < (z.1 + 1) * (B32 ^ i * nv v) ∧ z.2 < B32) (fun (z : Nat × Nat) => nv us < (z.1 + 1) * (B32 ^ i * nv v) ∧ z.1 * (B32 ^ i * nv v) ≤ nv us + B32 ^ i * nv v ∧ z.1 < B32) (fun (z : Nat × Nat) => z.1) (fun (z : Nat × Nat) => [(16, U64 (z.1 : Int)), (17, U64 (z.2 : Int)), (15, I (i : Int)), (12, .live 0 0 m c 1), (4, .live 1 0 (m - (n + 2)) (m - (n + 2)) 1), (11, eN v), (6, I ((n + 2 : Nat) : Int)), (10, I (s : Int)), (13, U64 (top : Int)), (14, U64 (nxt : Int))]) (fun _ => [some (.cells (us.map U)), some (.cells (qs.map U))]) ((X / top, X % top)) rfl ?_ ?_ ?_ ?_
      · exact ⟨by rw [Nat.mul_comm]; exact hXdm, guess_0 e1' e2 (by omega) e3 ht1, by show X % top < B32; omega⟩
      · refine .heap ?_ rfl
        repeat (first | exact trivial | refine ⟨⟨_, rfl, .refl _⟩, ?_⟩)
      · rintro ⟨g, r⟩ ⟨c1, c2, c3⟩
        dsimp only at c1 c2 c3 ⊢
        have hgX : g ≤ X := by
          have : g * 1 ≤ g * top := Nat.mul_le_mul_left _ ht1
          omega
        have hdec : nv us < g * (B32 ^ i * nv v) → 1 ≤ g ∧ (g - 1) * top + (r + top) = X ∧ nv us < (g - 1 + 1) * (B32 ^ i * nv v) := fun h => by
          have h1 : 1 ≤ g := by
            rcases Nat.eq_zero_or_pos g with h2 | h2
            · rw [h2, Nat.zero_mul] at h; omega
            · exact h2
          obtain ⟨g', rfl⟩ : ∃ g', g = g' + 1 := ⟨g - 1, by omega⟩
          rw [Nat.add_mul, Nat.one_mul] at c1
          exact ⟨h1, by rw [Nat.add_sub_cancel]; omega, by rw [Nat.add_sub_cancel]; exact h⟩
        repeat (first | (with_reducible refine W.id_ ?_); (first | refine W.sreg ?_ | refine W.seq ?_) | (with_reducible refine RK.id_ ?_); (refine RK.cons_ ?_; (refine RK.k_ 0 rfl ?_; refine .p rfl rfl rfl (by exact trivial) ?_)))
        refine .dsplit (fun h5 => ?_) (fun h5 => ?_)
        · have hlt : nv us < g * (B32 ^ i * nv v) := Nat.lt_of_lt_of_le e5 (Nat.mul_le_mul_right _ (by omega))
          obtain ⟨w1, w2, w3⟩ := hdec hlt
          repeat (first | (with_reducible refine W.id_ ?_); (first | refine W.sreg ?_ | refine W.blockS ?_ | refine W.skipT rfl ?_ | refine W.condT rfl ?_) | (with_reducible refine RK.id_ ?_); (first | refine RK.cons_ ?_; (first | refine .skip rfl rfl ?_ | refine RK.k_ 0 rfl ?_; refine .p rfl rfl rfl (by exact trivial) ?_ | refine RK.k_ 1 rfl ?_; (refine .pau rfl rfl rfl rfl rfl rfl (by omega) (by omega) ?_)) | refine RK.nilT rfl ?_ rfl))
          refine W.cond_dec rfl (fun h6 => ?_) (fun h6 => ?_)
          · refine W.exit ⟨(g - 1, r + top), ⟨w3, (hbig _ _ w2 (by omega)).2, (hbig _ _ w2 (by omega)).1⟩, .heap ?_ rfl⟩
            repeat (first | exact trivial | refine ⟨⟨_, rfl, .refl _⟩, ?_⟩ | refine ⟨⟨_, rfl, .of_eq (congrArg (D.int _) (by omega))⟩, ?_⟩)
          · refine .skip ⟨(g - 1, r + top), by show g - 1 < g; omega, ⟨w2, w3, by show r + top < B32; omega⟩, .heap ?_ rfl⟩
            repeat (first | exact trivial | refine ⟨⟨_, rfl, .refl _⟩, ?_⟩ | refine ⟨⟨_, rfl, .of_eq (congrArg (D.int _) (by omega))⟩, ?_⟩)
        · have hgB : g < B32 := by omega
          have hm := mul_lt (x := (g : Int)) (y := (nxt : Int)) (by unfold d32; omega) (by unfold d32; omega)
          repeat ((with_reducible refine RK.id_ ?_); (first | refine RK.cons_ ?_; (first | refine RK.k_ 0 rfl ?_; refine .p rfl rfl rfl (by exact trivial) ?_ | refine RK.k_ 1 rfl ?_; (first | refine .pa rfl rfl rfl rfl rfl rfl (by omega) (by omega) ?_ | refine .pau rfl rfl rfl rfl rfl rfl (by omega) (by omega) ?_) | refine RK.k_ 2 rfl ?_; (refine .cvu rfl rfl rfl rfl rfl rfl (by omega) (by omega) ?_) | refine RK.k_ 4 rfl ?_; (refine .ixl _ _ (s := 1) rfl rfl rfl rfl rfl rfl rfl (by exact (Int.toNat_of_nonneg (by omega)).symm) (by omega) rfl ?_) | refine RK.k_ 5 rfl ?_; (refine .ldl rfl rfl rfl rfl rfl rfl rfl (by rfl) (by exact get_map0 (z := (0 : Int)) (by omega)) ?_) | refine RK.k_ 3 rfl ?_; (first | refine .or32 rfl rfl rfl rfl rfl (by omega) (by omega) (by omega) (by omega) ?_ | refine .shl 4294967296 (lo := 0) (hi := 18446744073709551616) rfl rfl rfl rfl rfl (by omega) rfl rfl rfl (by omega) (by omega) ?_)) | refine RK.nilT rfl ?_ rfl))
          rw [hk4, hu0]
          refine W.cond_dec rfl (fun h6 => ?_) (fun h6 => ?_)
          · have hlt : nv us < g * (B32 ^ i * nv v) := guess_gt e1' e2 e3 c1 (by
              have : ((r * B32 + u0 : Nat) : Int) < ((g * nxt : Nat) : Int) := by rw [Int.natCast_add, Int.natCast_mul, Int.natCast_mul]; exact h6
              exact Int.ofNat_lt.1 this)
            obtain ⟨w1, w2, w3⟩ := hdec hlt
            repeat (first | (with_reducible refine W.id_ ?_); (first | refine W.sreg ?_ | refine W.blockS ?_ | refine W.skipT rfl ?_) | (with_reducible refine RK.id_ ?_); (first | refine RK.cons_ ?_; (first | refine RK.k_ 0 rfl ?_; refine .p rfl rfl rfl (by exact trivial) ?_ | refine RK.k_ 1 rfl ?_; (refine .pau rfl rfl rfl rfl rfl rfl (by omega) (by omega) ?_)) | refine RK.nilT rfl ?_ rfl))
            refine W.cond_dec rfl (fun h7 => ?_) (fun h7 => ?_)
            · refine W.exit ⟨(g - 1, r + top), ⟨w3, (hbig _ _ w2 (by omega)).2, (hbig _ _ w2 (by omega)).1⟩, .heap ?_ rfl⟩
              repeat (first | exact trivial | refine ⟨⟨_, rfl, .refl _⟩, ?_⟩ | refine ⟨⟨_, rfl, .of_eq (congrArg (D.int _) (by omega))⟩, ?_⟩)
            · refine .skip ⟨(g - 1, r + top), by show g - 1 < g; omega, ⟨w2, w3, by show r + top < B32; omega⟩, .heap ?_ rfl⟩
              repeat (first | exact trivial | refine ⟨⟨_, rfl, .refl _⟩, ?_⟩ | refine ⟨⟨_, rfl, .of_eq (congrArg (D.int _) (by omega))⟩, ?_⟩)
          · refine W.exit ⟨(g, r), ⟨c2, guess_le e1' e3 e4 ht1 c1 hgB ?_, hgB⟩, .heap ?_ rfl⟩
            · have : ¬ ((r * B32 + u0 : Nat) : Int) < ((g * nxt : Nat) : Int) := by rw [Int.natCast_add, Int.natCast_mul, Int.natCast_mul]; exact h6
              exact Nat.le_of_not_lt (mt Int.ofNat_lt.2 this)
            · repeat (first | exact trivial | refine ⟨⟨_, rfl, .refl _⟩, ?_⟩)
      rintro ⟨g, r⟩ ⟨c2, c4, c5⟩
      dsimp only at c2 c4 c5 ⊢
      have hp : i + (n + 2) = i + v.length := by omega
      have hvb : v.length ≤ 1000000000 := by omega
      have hmb : m ≤ 10000000000 := by omega
      clear hbig hg0 hr0 hX hXdm hmod1 e1 e1' e2 e3 e4 e5 d0 d1 d2 d0' d1' hu0 hu1 hu2 hi2 hk3 hk4 ht1 hnB hu0B hSl hst hvge hUh hUl kn0 kn1 htp hnx hk1 hk2 ev kb eb lb hn q2 h3
      repeat (first | (with_reducible refine W.id_ ?_); (first | refine W.sreg ?_ | refine W.seq ?_) | (with_reducible refine RK.id_ ?_); (first | refine RK.cons_ ?_; (refine RK.k_ 0 rfl ?_; refine .p rfl rfl rfl (by exact trivial) ?_) | refine RK.nilT rfl ?_ rfl))
      refine .rangeS (v.length) (fun k st => [(18, U64 st.2.1), (19, U64 st.2.2), (141, eN v), (16, U64 (g : Int)), (15, I (i : Int)), (12, .live 0 0 m c 1), (4, .live 1 0 (m - (n + 2)) (m - (n + 2)) 1), (11, eN v), (6, I ((n + 2 : Nat) : Int)), (10, I (s : Int)), (13, U64 (top : Int)), (14, U64 (nxt : Int))]) (fun k st => [some (.cells (st.1.map U)), some (.cells (qs.map U))]) (fun k st => MsSt v us st.1 (g : Int) st.2.1 st.2.2 i k m) ((us, 0, 0)) rfl rfl rfl rfl rfl rfl rfl rfl rfl rfl (by omega) ?_ ?_ (fun _ _ => rfl) (fun k st hk Ck => ?_) (fun st Ck => ?_)
      · exact ⟨hul, k2.uo, by show (0 : Int) ≤ 0 ∧ (0 : Int) < 4294967296; omega, .inl rfl, fun _ _ => rfl, by simp [nv]⟩
      · refine .heap ?_ rfl
        repeat (first | exact trivial | refine ⟨⟨_, rfl, .refl _⟩, ?_⟩)
      · have hx := kv.at k
        have hcc := Ck.cc
        have hbb := Ck.bb
        have hl1 := Ck.len
        have hu := Ck.ok.at (k + i)
        have hm := mul_lt (x := (g : Int)) (y := v.getD k 0) (by unfold d32; omega) hx
        repeat (first | (with_reducible refine W.id_ ?_); (first | refine W.sreg ?_ | refine W.reg ?_) | (with_reducible refine RK.id_ ?_); (first | refine RK.cons_ ?_; (first | refine RK.k_ 0 rfl ?_; refine .p rfl rfl rfl (by exact trivial) ?_ | refine RK.k_ 1 rfl ?_; (first | refine .pa rfl rfl rfl rfl rfl rfl (by omega) (by omega) ?_ | refine .pau rfl rfl rfl rfl rfl rfl (by omega) (by omega) ?_ | refine .pmu rfl rfl rfl rfl rfl rfl ?_) | refine RK.k_ 2 rfl ?_; (first | refine .cvu rfl rfl rfl rfl rfl rfl (by omega) (by omega) ?_ | refine .cvm rfl rfl rfl rfl rfl rfl ?_) | refine RK.k_ 4 rfl ?_; (first | refine .ix _ (s := 1) rfl rfl rfl rfl rfl rfl rfl (by rfl) (by omega) ?_ | refine .ixl _ _ (s := 1) rfl rfl rfl rfl rfl rfl rfl (by rfl) (by omega) rfl ?_) | refine RK.k_ 5 rfl ?_; (first | refine .ldl rfl rfl rfl rfl rfl rfl rfl (by rfl) (by exact get_map0 (z := (0 : Int)) (by omega)) ?_ | refine .ld _ rfl rfl rfl rfl rfl rfl (by exact n_get (by omega) rfl) ?_) | refine RK.k_ 6 rfl ?_; (refine .store rfl rfl rfl rfl rfl rfl rfl (by rfl) (by exact over_map0 rfl (by omega)) (by rfl) ?_) | refine RK.k_ 3 rfl ?_; (first | refine .shr 4294967296 rfl rfl rfl rfl rfl (by omega) rfl ?_ | refine .shr 9223372036854775808 rfl rfl rfl rfl rfl (by omega) rfl ?_ | refine .and32 rfl rfl rfl rfl rfl (by omega) (by omega) ?_)) | refine RK.nilT rfl ?_ rfl))
        refine .nil ?_ rfl
        rw [Nat.add_comm k i] at hu ⊢
        refine ⟨(st.1.set (i + k) (((st.1.getD (i + k) 0 - st.2.2) % 18446744073709551616 - ((g : Int) * v.getD k 0 + st.2.1) % 4294967296) % 18446744073709551616 % 4294967296), ((g : Int) * v.getD k 0 + st.2.1) / 4294967296, ((st.1.getD (i + k) 0 - st.2.2) % 18446744073709551616 - ((g : Int) * v.getD k 0 + st.2.1) % 4294967296) % 18446744073709551616 / 9223372036854775808), ?_, .heap ?_ rfl⟩
        · refine Ck.step (lo := ((g : Int) * v.getD k 0 + st.2.1) % 4294967296) kv hk (by omega) (by omega) ?_ ?_ ?_ ?_ ?_ <;> first | omega | (dsimp only; omega)
        · repeat (first | exact trivial | refine ⟨⟨_, rfl, .refl _⟩, ?_⟩)
      show W _ _ _ _ _ _ _
      have hcc := Ck.cc
      have hbb := Ck.bb
      have hl1 := Ck.len
      have hu := Ck.ok.at (i + (n + 2))
      have hz := Ck.z
      obtain ⟨T, hT⟩ : ∃ T, T = ((st.1.getD (i + (n + 2)) 0 - st.2.2) % 18446744073709551616 - st.2.1) % 18446744073709551616 := ⟨_, rfl⟩
      have hT0 : 0 ≤ T ∧ T < 18446744073709551616 := by omega
      have ok2 : okN (st.1.set (i + (n + 2)) (T % 4294967296)) := Ck.ok.set _ (by omega)
      have et : (nv (st.1.set (i + (n + 2)) (T % 4294967296)) : Int) + (B32 : Int) ^ i * ((g : Int) * nv v) = nv us + (B32 : Int) ^ (i + v.length + 1) * (T / 9223372036854775808) := by
        rw [hp]
        refine Ck.top (by omega) (by omega) ?_
        rw [← hp]; omega
      have hz2 : nv (st.1.set (i + (n + 2)) (T % 4294967296)) < B32 ^ (i + v.length + 1) := nv_top ok2 fun k hk => by
        rw [getD_set, if_neg (by omega), hz k (by omega)]
        exact k2.hi kv k (by omega)
      have hqi : i < qs.length := by omega
      repeat (first | (with_reducible refine W.id_ ?_); (first | refine W.sreg ?_ | refine W.seq ?_) | (with_reducible refine RK.id_ ?_); (first | refine RK.cons_ ?_; (first | refine RK.k_ 0 rfl ?_; refine .p rfl rfl rfl (by exact trivial) ?_ | refine RK.k_ 1 rfl ?_; (first | refine .pa rfl rfl rfl rfl rfl rfl (by omega) (by omega) ?_ | refine .pmu rfl rfl rfl rfl rfl rfl ?_) | refine RK.k_ 2 rfl ?_; (first | refine .cvu rfl rfl rfl rfl rfl rfl (by omega) (by omega) ?_ | refine .cv32 rfl rfl rfl rfl rfl rfl (by omega) (by omega) ?_ | refine .cvm rfl rfl rfl rfl rfl rfl ?_) | refine RK.k_ 4 rfl ?_; (refine .ixl _ _ (s := 1) rfl rfl rfl rfl rfl rfl rfl (by rfl) (by omega) rfl ?_) | refine RK.k_ 5 rfl ?_; (refine .ldl rfl rfl rfl rfl rfl rfl rfl (by rfl) (by exact get_map0 (z := (0 : Int)) (by omega)) ?_) | refine RK.k_ 6 rfl ?_; (refine .store rfl rfl rfl rfl rfl rfl rfl (by rfl) (by exact over_map0 rfl (by omega)) (by rfl) ?_) | refine RK.k_ 3 rfl ?_; (refine .shr 9223372036854775808 rfl rfl rfl rfl rfl (by omega) rfl ?_)) | refine RK.nilT rfl ?_ rfl))
      rw [← hT]
      refine W.cond_dec rfl (fun h7 => ?_) (fun h7 => ?_)
      · obtain ⟨y1, y2⟩ := dv_a et h7 c2
        refine W.exitT rfl ?_
        repeat (first | (with_reducible refine W.id_ ?_); (refine W.reg ?_) | (with_reducible refine RK.id_ ?_); (refine RK.cons_ ?_; (first | refine RK.k_ 0 rfl ?_; refine .p rfl rfl rfl (by exact trivial) ?_ | refine RK.k_ 1 rfl ?_; (refine .pa rfl rfl rfl rfl rfl rfl (by omega) (by omega) ?_))))
        refine .nil ?_ rfl
        refine ⟨(i, st.1.set (i + (n + 2)) (T % 4294967296), qs.set i (g : Int)), by show i < i + 1; omega, ⟨by show i ≤ m - (n + 2); omega, k2.next (by omega) (by rw [List.length_set]; exact hl1) ok2 c5 y1 y2⟩, .heap ?_ rfl⟩
        repeat (first | exact trivial | refine ⟨⟨_, rfl, .refl _⟩, ?_⟩)
      have hf1 : T / 9223372036854775808 = 1 := by omega
      have hg1 := dv_g et hf1 hz2
      have hq1 : (qs.set i (g : Int)).getD i 0 = g := by rw [getD_set, if_pos ⟨rfl, hqi⟩]
      have hl2 : (st.1.set (i + (n + 2)) (T % 4294967296)).length = m := by rw [List.length_set]; exact hl1
      have hz3 : ∀ k, i + v.length < k → (st.1.set (i + (n + 2)) (T % 4294967296)).getD k 0 = 0 := fun k hk => by
        rw [getD_set, if_neg (by omega), hz k (by omega)]
        exact k2.hi kv k (by omega)
      have hqs : (qs.set i (g : Int)).set i ((qs.set i (g : Int)).getD i 0 - 1) = qs.set i ((g - 1 : Nat) : Int) := by
        rw [hq1, List.set_set]; congr 1; omega
      have hql2 : (qs.set i (g : Int)).length = qs.length := List.length_set ..
      generalize st.1.set (i + (n + 2)) (T % 4294967296) = us2 at *
      repeat (first | (with_reducible refine W.id_ ?_); (first | refine W.sreg ?_ | refine W.seq ?_ | refine W.skipT rfl ?_) | (with_reducible refine RK.id_ ?_); (first | refine RK.cons_ ?_; (first | refine RK.k_ 0 rfl ?_; refine .p rfl rfl rfl (by exact trivial) ?_ | refine RK.k_ 1 rfl ?_; (refine .pa32 rfl rfl rfl rfl rfl rfl (by omega) (by omega) ?_) | refine RK.k_ 4 rfl ?_; (refine .ixl _ _ (s := 1) rfl rfl rfl rfl rfl rfl rfl (by rfl) (by omega) rfl ?_) | refine RK.k_ 5 rfl ?_; (refine .ldl rfl rfl rfl rfl rfl rfl rfl (by rfl) (by exact get_map0 (z := (0 : Int)) (by omega)) ?_) | refine RK.k_ 6 rfl ?_; (refine .store rfl rfl rfl rfl rfl rfl rfl (by rfl) (by exact over_map0 rfl (by omega)) (by rfl) ?_)) | refine RK.nilT rfl ?_ rfl))
      rw [hqs]
      refine .rangeS (v.length) (fun k w => [(25, U w.2), (210, eN v), (15, I (i : Int)), (12, .live 0 0 m c 1), (4, .live 1 0 (m - (n + 2)) (m - (n + 2)) 1), (11, eN v), (6, I ((n + 2 : Nat) : Int)), (10, I (s : Int)), (13, U64 (top : Int)), (14, U64 (nxt : Int))]) (fun k w => [some (.cells (w.1.map U)), some (.cells ((qs.set i ((g - 1 : Nat) : Int)).map U))]) (fun k w => AbSt v us2 w.1 w.2 i k m) ((us2, 0)) rfl rfl rfl rfl rfl rfl rfl rfl rfl rfl (by omega) ?_ ?_ (fun _ _ => rfl) (fun k w hk Ck => ?_) (fun w Ck => ?_)
      · exact ⟨hl2, ok2, .inl rfl, fun _ _ => rfl, by simp [nv]⟩
      · refine .heap ?_ rfl
        repeat (first | exact trivial | refine ⟨⟨_, rfl, .refl _⟩, ?_⟩)
      · have hx := kv.at k
        have hss := Ck.ss
        have hl3 := Ck.len
        have hu3 := Ck.ok.at (k + i)
        repeat (first | (with_reducible refine W.id_ ?_); (first | refine W.sreg ?_ | refine W.reg ?_) | (with_reducible refine RK.id_ ?_); (first | refine RK.cons_ ?_; (first | refine RK.k_ 0 rfl ?_; refine .p rfl rfl rfl (by exact trivial) ?_ | refine RK.k_ 1 rfl ?_; (refine .pa rfl rfl rfl rfl rfl rfl (by omega) (by omega) ?_) | refine RK.k_ 4 rfl ?_; (first | refine .ix _ (s := 1) rfl rfl rfl rfl rfl rfl rfl (by rfl) (by omega) ?_ | refine .ixl _ _ (s := 1) rfl rfl rfl rfl rfl rfl rfl (by rfl) (by omega) rfl ?_) | refine RK.k_ 5 rfl ?_; (first | refine .ldl rfl rfl rfl rfl rfl rfl rfl (by rfl) (by exact get_map0 (z := (0 : Int)) (by omega)) ?_ | refine .ld _ rfl rfl rfl rfl rfl rfl (by exact n_get (by omega) rfl) ?_)) | refine RK.nilT rfl ?_ rfl))
        refine .call (Add32_spec (x := w.1.getD (k + i) 0) (y := v.getD k 0) (c := w.2) hu3 hx (by unfold d32; omega)) rfl rfl rfl rfl ?_
        repeat ((with_reducible refine RK.id_ ?_); (refine RK.cons_ ?_; (first | refine RK.k_ 0 rfl ?_; refine .p rfl rfl rfl (by exact trivial) ?_ | refine RK.k_ 4 rfl ?_; (refine .ixl _ _ (s := 1) rfl rfl rfl rfl rfl rfl rfl (by rfl) (by omega) rfl ?_) | refine RK.k_ 6 rfl ?_; (refine .store rfl rfl rfl rfl rfl rfl rfl (by rfl) (by exact over_map0 rfl (by omega)) (by rfl) ?_))))
        refine .nil ?_ rfl
        rw [Nat.add_comm k i] at hu3 ⊢
        refine ⟨(w.1.set (i + k) ((w.1.getD (i + k) 0 + v.getD k 0 + w.2) % 4294967296), (w.1.getD (i + k) 0 + v.getD k 0 + w.2) / 4294967296), ?_, .heap ?_ rfl⟩
        · refine Ck.step kv hk (by omega) ?_ ?_ ?_ <;> omega
        · repeat (first | exact trivial | refine ⟨⟨_, rfl, .refl _⟩, ?_⟩)
      show W _ _ _ _ _ _ _
      have hss := Ck.ss
      have hl3 := Ck.len
      have hu3 := Ck.ok.at (i + (n + 2))
      have hz4 := Ck.z
      obtain ⟨y, hy⟩ : ∃ y, y = w.1.getD (i + (n + 2)) 0 + w.2 := ⟨_, rfl⟩
      have ok4 : okN (w.1.set (i + (n + 2)) (y % 4294967296)) := Ck.ok.set _ (by omega)
      have et4 : (nv (w.1.set (i + (n + 2)) (y % 4294967296)) : Int) + (B32 : Int) ^ (i + v.length + 1) * (y / 4294967296) = nv us2 + (B32 : Int) ^ i * nv v := by
        rw [hp]
        refine Ck.top (by omega) (by omega) ?_
        rw [← hp]; omega
      have hz5 : nv (w.1.set (i + (n + 2)) (y % 4294967296)) < B32 ^ (i + v.length + 1) := nv_top ok4 fun k hk => by
        rw [getD_set, if_neg (by omega), hz4 k (by omega)]
        exact hz3 k (by omega)
      obtain ⟨y1, y2, y3⟩ := dv_b et hf1 et4 (by omega) c4 hz2 hz5
      repeat (first | (with_reducible refine W.id_ ?_); (refine W.reg ?_) | (with_reducible refine RK.id_ ?_); (first | refine RK.cons_ ?_; (first | refine RK.k_ 0 rfl ?_; refine .p rfl rfl rfl (by exact trivial) ?_ | refine RK.k_ 1 rfl ?_; (first | refine .pa rfl rfl rfl rfl rfl rfl (by omega) (by omega) ?_ | refine .pm32 rfl rfl rfl rfl rfl rfl ?_) | refine RK.k_ 4 rfl ?_; (refine .ixl _ _ (s := 1) rfl rfl rfl rfl rfl rfl rfl (by rfl) (by omega) rfl ?_) | refine RK.k_ 5 rfl ?_; (refine .ldl rfl rfl rfl rfl rfl rfl rfl (by rfl) (by exact get_map0 (z := (0 : Int)) (by omega)) ?_) | refine RK.k_ 6 rfl ?_; (refine .store rfl rfl rfl rfl rfl rfl rfl (by rfl) (by exact over_map0 rfl (by omega)) (by rfl) ?_)) | refine RK.nilT rfl ?_ rfl))
      refine .nil ?_ rfl
      rw [← hy]
      refine ⟨(i, w.1.set (i + (n + 2)) (y % 4294967296), qs.set i ((g - 1 : Nat) : Int)), by show i < i + 1; omega, ⟨by show i ≤ m - (n + 2); omega, k2.next (by omega) (by rw [List.length_set]; exact hl3) ok4 (by omega) y2 y3⟩, .heap ?_ rfl⟩
      repeat (first | exact trivial | refine ⟨⟨_, rfl, .refl _⟩, ?_⟩)
    · obtain rfl : j = 0 := by omega
      refine W.exit ⟨(0, us, qs), k2, .heap ?_ rfl⟩
      repeat (first | exact trivial | refine ⟨⟨_, rfl, .refl _⟩, ?_⟩)
  · rintro ⟨j, us, qs⟩ k2
    dsimp only at k2 ⊢
    have hul := k2.ul
    have hql := k2.ql
    obtain ⟨f1, f2⟩ := k2.fin
    have hlt := k2.lt
    rw [Nat.pow_zero, Nat.one_mul] at hlt
    have hus : nv (us.take (n + 2)) = nv us := nv_take_lt (Nat.lt_trans hlt (by
      have := nv_lt kv
      rw [q1] at this
      exact this))
    have hSr := Shr_spec (s := s) (k2.uo.take (n + 2)) (by rw [List.length_take]; omega) q3
    rw [hus, f2] at hSr
    have hNq := Nnormal_spec k2.qo (by omega)
    rw [f1] at hNq
    refine W.to (F' := [(4, eN qs), (12, eN us), (6, I ((n + 2 : Nat) : Int)), (10, I (s : Int))]) (H' := []) (.frz ⟨⟨_, rfl, frz_map rfl (fun _ _ => .int _ _) (by omega)⟩, ⟨_, rfl, frz_map rfl (fun _ _ => .int _ _) hul.symm⟩, ⟨_, rfl, .pure (.int _ _) (.refl _)⟩, ⟨_, rfl, .pure (.int _ _) (.refl _)⟩, trivial⟩) ?_
    repeat (first | (with_reducible refine W.id_ ?_); (refine W.sdraw mixed (by kernel_rfl) (by kernel_rfl) ?_) | (with_reducible refine RK.id_ ?_); (refine RK.cons_ ?_; (refine RK.k_ 0 rfl ?_; refine .p rfl rfl rfl (by exact trivial) ?_)))
    refine .call (hNq) rfl rfl rfl rfl ?_
    repeat ((with_reducible refine RK.id_ ?_); (refine RK.cons_ ?_; (first | refine RK.k_ 0 rfl ?_; refine .p rfl rfl rfl (by exact trivial) ?_ | refine RK.k_ 7 rfl ?_; (refine .slT _ rfl rfl rfl rfl rfl rfl rfl (by rfl) (by omega) ?_))))
    refine .call (hSr) rfl rfl rfl rfl ?_
    repeat ((with_reducible refine RK.id_ ?_); (first | refine RK.cons_ ?_; (refine RK.k_ 0 rfl ?_; refine .p rfl rfl rfl (by exact trivial) ?_) | refine RK.nilT rfl ?_ rfl))
    exact .ret ⟨_, rfl, .pure (.tup (PureL.mem ⟨eN_pure _, eN_pure _, trivial⟩)) (.refl _), rfl⟩
end Go.Proofs.Ytbdefjbekbbldaa
