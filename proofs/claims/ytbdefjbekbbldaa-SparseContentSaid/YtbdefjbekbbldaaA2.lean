import Derived.Test.YtbdefjbekbbldaaA1
import Derived.Test.YtbdefjbekbbldaaN
import Derived.Test.YtbdefjbekbbldaaV3
set_option linter.unusedVariables false
namespace Go.Proofs.Ytbdefjbekbbldaa
open Go.V Go.N
set_option maxHeartbeats 8000000
set_option maxRecDepth 20000

theorem cm_lt {a b : M} (h : a.x3 < b.x3 ∨ a.x3 = b.x3 ∧ (a.x2 < b.x2 ∨ a.x2 = b.x2 ∧ (a.x1 < b.x1 ∨ a.x1 = b.x1 ∧ a.x0 < b.x0))) : cmpM a b = -1 := by
  have h1 := cmpM_lt.2 h
  rcases cmpM_cases a b with ⟨h2, _⟩ | ⟨h2, _⟩ | ⟨h2, _⟩ <;> omega
theorem cm_gt {a b : M} (h : b.x3 < a.x3 ∨ a.x3 = b.x3 ∧ (b.x2 < a.x2 ∨ a.x2 = b.x2 ∧ (b.x1 < a.x1 ∨ a.x1 = b.x1 ∧ b.x0 < a.x0))) : cmpM a b = 1 := by
  rw [cmpM_neg, cm_lt (by omega)]; rfl
theorem cm_eq {a b : M} (h : a.x3 = b.x3 ∧ a.x2 = b.x2 ∧ a.x1 = b.x1 ∧ a.x0 = b.x0) : cmpM a b = 0 := by
  rw [cmpM_zero]; cases a; cases b; simp_all

/- sparse.CompareMono -/
theorem CompareMono_spec (a b : M) : PureFn Try.prog 41 [eM a, eM b] (I (cmpM a b)) := by
  refine .of_W (fn := Try.f41) (by repeat (first | exact trivial | refine ⟨(by repeat (exact eM_pure _)), ?_⟩)) Try.call41 Try.func41 rfl rfl ?_
  repeat (first | (with_reducible refine W.id_ ?_); (first | refine W.sreg ?_ | refine W.seq ?_) | (with_reducible refine RK.id_ ?_); (first | refine RK.cons_ ?_; (first | refine RK.k_ 0 rfl ?_; refine .p rfl rfl rfl (by exact trivial) ?_ | refine RK.k_ 6 rfl ?_; (refine .box _ rfl rfl rfl rfl rfl rfl rfl ?_)) | refine RK.nilT rfl ?_ rfl))
  refine W.loopE (fun k => k ≤ 4 ∧ (k ≤ 3 → a.x3 = b.x3) ∧ (k ≤ 2 → a.x2 = b.x2) ∧ (k ≤ 1 → a.x1 = b.x1) ∧ (k = 0 → a.x0 = b.x0)) (fun k => a.x3 = b.x3 ∧ a.x2 = b.x2 ∧ a.x1 = b.x1 ∧ a.x0 = b.x0) (fun k => k) (fun k => [(5, I ((k : Int) - 1)), (2, .ptr 0 0), (3, .ptr 1 0)]) (fun _ => [some (.cells (mc a)), some (.cells (mc b))]) (4) rfl ?_ ?_ ?_ ?_
  · exact ⟨Nat.le_refl _, by omega, by omega, by omega, by omega⟩
  · refine .heap ?_ rfl
    repeat (first | exact trivial | refine ⟨⟨_, rfl, .refl _⟩, ?_⟩)
  · rintro k ⟨h1, h2⟩
    obtain rfl | rfl | rfl | rfl | rfl : k = 4 ∨ k = 3 ∨ k = 2 ∨ k = 1 ∨ k = 0 := by omega
    · repeat (first | (with_reducible refine W.id_ ?_); (first | refine W.sreg ?_ | refine W.sdraw mixed (by kernel_rfl) (by kernel_rfl) ?_ | refine W.seq ?_ | refine W.blockS ?_ | refine W.skipT rfl ?_ | refine W.condT rfl ?_) | (with_reducible refine RK.id_ ?_); (first | refine RK.cons_ ?_; (first | refine RK.k_ 0 rfl ?_; refine .p rfl rfl rfl (by exact trivial) ?_ | refine RK.k_ 4 rfl ?_; (refine .p rfl rfl rfl (by omega) ?_) | refine RK.k_ 5 rfl ?_; (refine .ldl rfl rfl rfl rfl rfl rfl rfl (by rfl) (by rfl) ?_)) | refine RK.nilT rfl ?_ rfl))
      refine W.cond_dec rfl (fun h => ?_) (fun h => ?_)
      · repeat (first | (with_reducible refine W.id_ ?_); (refine W.sreg ?_) | (with_reducible refine RK.id_ ?_); (first | refine RK.cons_ ?_; (refine RK.k_ 0 rfl ?_; refine .p rfl rfl rfl (by exact trivial) ?_) | refine RK.nilT rfl ?_ rfl))
        refine W.ret ⟨_, rfl, .eq (by repeat (exact .int _ _)) ?_, rfl⟩
        exact congrArg I (by rw [cm_lt (by omega)])
      repeat (first | (with_reducible refine W.id_ ?_); (first | refine W.sdraw mixed (by kernel_rfl) (by kernel_rfl) ?_ | refine W.skipT rfl ?_) | (with_reducible refine RK.id_ ?_); (first | refine RK.cons_ ?_; (first | refine RK.k_ 0 rfl ?_; refine .p rfl rfl rfl (by exact trivial) ?_ | refine RK.k_ 4 rfl ?_; (refine .p rfl rfl rfl (by omega) ?_) | refine RK.k_ 5 rfl ?_; (refine .ldl rfl rfl rfl rfl rfl rfl rfl (by rfl) (by rfl) ?_)) | refine RK.nilT rfl ?_ rfl))
      refine W.cond_dec rfl (fun h2 => ?_) (fun h2 => ?_)
      · repeat (first | (with_reducible refine W.id_ ?_); (refine W.sreg ?_) | (with_reducible refine RK.id_ ?_); (first | refine RK.cons_ ?_; (refine RK.k_ 0 rfl ?_; refine .p rfl rfl rfl (by exact trivial) ?_) | refine RK.nilT rfl ?_ rfl))
        refine W.ret ⟨_, rfl, .eq (by repeat (exact .int _ _)) ?_, rfl⟩
        exact congrArg I (by rw [cm_gt (by omega)])
      repeat (first | (with_reducible refine W.id_ ?_); (first | refine W.reg ?_ | refine W.skipT rfl ?_) | (with_reducible refine RK.id_ ?_); (refine RK.cons_ ?_; (first | refine RK.k_ 0 rfl ?_; refine .p rfl rfl rfl (by exact trivial) ?_ | refine RK.k_ 1 rfl ?_; (refine .pa rfl rfl rfl rfl rfl rfl (by omega) (by omega) ?_))))
      refine .nil ?_ rfl
      refine ⟨3, by show 3 < 4; omega, ⟨by show 3 ≤ 4; omega, by omega⟩, .heap ?_ rfl⟩
      repeat (first | exact trivial | refine ⟨⟨_, rfl, .refl _⟩, ?_⟩)
    · repeat (first | (with_reducible refine W.id_ ?_); (first | refine W.sreg ?_ | refine W.sdraw mixed (by kernel_rfl) (by kernel_rfl) ?_ | refine W.seq ?_ | refine W.blockS ?_ | refine W.skipT rfl ?_ | refine W.condT rfl ?_) | (with_reducible refine RK.id_ ?_); (first | refine RK.cons_ ?_; (first | refine RK.k_ 0 rfl ?_; refine .p rfl rfl rfl (by exact trivial) ?_ | refine RK.k_ 4 rfl ?_; (refine .p rfl rfl rfl (by omega) ?_) | refine RK.k_ 5 rfl ?_; (refine .ldl rfl rfl rfl rfl rfl rfl rfl (by rfl) (by rfl) ?_)) | refine RK.nilT rfl ?_ rfl))
      refine W.cond_dec rfl (fun h => ?_) (fun h => ?_)
      · repeat (first | (with_reducible refine W.id_ ?_); (refine W.sreg ?_) | (with_reducible refine RK.id_ ?_); (first | refine RK.cons_ ?_; (refine RK.k_ 0 rfl ?_; refine .p rfl rfl rfl (by exact trivial) ?_) | refine RK.nilT rfl ?_ rfl))
        refine W.ret ⟨_, rfl, .eq (by repeat (exact .int _ _)) ?_, rfl⟩
        exact congrArg I (by rw [cm_lt (by omega)])
      repeat (first | (with_reducible refine W.id_ ?_); (first | refine W.sdraw mixed (by kernel_rfl) (by kernel_rfl) ?_ | refine W.skipT rfl ?_) | (with_reducible refine RK.id_ ?_); (first | refine RK.cons_ ?_; (first | refine RK.k_ 0 rfl ?_; refine .p rfl rfl rfl (by exact trivial) ?_ | refine RK.k_ 4 rfl ?_; (refine .p rfl rfl rfl (by omega) ?_) | refine RK.k_ 5 rfl ?_; (refine .ldl rfl rfl rfl rfl rfl rfl rfl (by rfl) (by rfl) ?_)) | refine RK.nilT rfl ?_ rfl))
      refine W.cond_dec rfl (fun h2 => ?_) (fun h2 => ?_)
      · repeat (first | (with_reducible refine W.id_ ?_); (refine W.sreg ?_) | (with_reducible refine RK.id_ ?_); (first | refine RK.cons_ ?_; (refine RK.k_ 0 rfl ?_; refine .p rfl rfl rfl (by exact trivial) ?_) | refine RK.nilT rfl ?_ rfl))
        refine W.ret ⟨_, rfl, .eq (by repeat (exact .int _ _)) ?_, rfl⟩
        exact congrArg I (by rw [cm_gt (by omega)])
      repeat (first | (with_reducible refine W.id_ ?_); (first | refine W.reg ?_ | refine W.skipT rfl ?_) | (with_reducible refine RK.id_ ?_); (refine RK.cons_ ?_; (first | refine RK.k_ 0 rfl ?_; refine .p rfl rfl rfl (by exact trivial) ?_ | refine RK.k_ 1 rfl ?_; (refine .pa rfl rfl rfl rfl rfl rfl (by omega) (by omega) ?_))))
      refine .nil ?_ rfl
      refine ⟨2, by show 2 < 3; omega, ⟨by show 2 ≤ 4; omega, by omega⟩, .heap ?_ rfl⟩
      repeat (first | exact trivial | refine ⟨⟨_, rfl, .refl _⟩, ?_⟩)
    · repeat (first | (with_reducible refine W.id_ ?_); (first | refine W.sreg ?_ | refine W.sdraw mixed (by kernel_rfl) (by kernel_rfl) ?_ | refine W.seq ?_ | refine W.blockS ?_ | refine W.skipT rfl ?_ | refine W.condT rfl ?_) | (with_reducible refine RK.id_ ?_); (first | refine RK.cons_ ?_; (first | refine RK.k_ 0 rfl ?_; refine .p rfl rfl rfl (by exact trivial) ?_ | refine RK.k_ 4 rfl ?_; (refine .p rfl rfl rfl (by omega) ?_) | refine RK.k_ 5 rfl ?_; (refine .ldl rfl rfl rfl rfl rfl rfl rfl (by rfl) (by rfl) ?_)) | refine RK.nilT rfl ?_ rfl))
      refine W.cond_dec rfl (fun h => ?_) (fun h => ?_)
      · repeat (first | (with_reducible refine W.id_ ?_); (refine W.sreg ?_) | (with_reducible refine RK.id_ ?_); (first | refine RK.cons_ ?_; (refine RK.k_ 0 rfl ?_; refine .p rfl rfl rfl (by exact trivial) ?_) | refine RK.nilT rfl ?_ rfl))
        refine W.ret ⟨_, rfl, .eq (by repeat (exact .int _ _)) ?_, rfl⟩
        exact congrArg I (by rw [cm_lt (by omega)])
      repeat (first | (with_reducible refine W.id_ ?_); (first | refine W.sdraw mixed (by kernel_rfl) (by kernel_rfl) ?_ | refine W.skipT rfl ?_) | (with_reducible refine RK.id_ ?_); (first | refine RK.cons_ ?_; (first | refine RK.k_ 0 rfl ?_; refine .p rfl rfl rfl (by exact trivial) ?_ | refine RK.k_ 4 rfl ?_; (refine .p rfl rfl rfl (by omega) ?_) | refine RK.k_ 5 rfl ?_; (refine .ldl rfl rfl rfl rfl rfl rfl rfl (by rfl) (by rfl) ?_)) | refine RK.nilT rfl ?_ rfl))
      refine W.cond_dec rfl (fun h2 => ?_) (fun h2 => ?_)
      · repeat (first | (with_reducible refine W.id_ ?_); (refine W.sreg ?_) | (with_reducible refine RK.id_ ?_); (first | refine RK.cons_ ?_; (refine RK.k_ 0 rfl ?_; refine .p rfl rfl rfl (by exact trivial) ?_) | refine RK.nilT rfl ?_ rfl))
        refine W.ret ⟨_, rfl, .eq (by repeat (exact .int _ _)) ?_, rfl⟩
        exact congrArg I (by rw [cm_gt (by omega)])
      repeat (first | (with_reducible refine W.id_ ?_); (first | refine W.reg ?_ | refine W.skipT rfl ?_) | (with_reducible refine RK.id_ ?_); (refine RK.cons_ ?_; (first | refine RK.k_ 0 rfl ?_; refine .p rfl rfl rfl (by exact trivial) ?_ | refine RK.k_ 1 rfl ?_; (refine .pa rfl rfl rfl rfl rfl rfl (by omega) (by omega) ?_))))
      refine .nil ?_ rfl
      refine ⟨1, by show 1 < 2; omega, ⟨by show 1 ≤ 4; omega, by omega⟩, .heap ?_ rfl⟩
      repeat (first | exact trivial | refine ⟨⟨_, rfl, .refl _⟩, ?_⟩)
    · repeat (first | (with_reducible refine W.id_ ?_); (first | refine W.sreg ?_ | refine W.sdraw mixed (by kernel_rfl) (by kernel_rfl) ?_ | refine W.seq ?_ | refine W.blockS ?_ | refine W.skipT rfl ?_ | refine W.condT rfl ?_) | (with_reducible refine RK.id_ ?_); (first | refine RK.cons_ ?_; (first | refine RK.k_ 0 rfl ?_; refine .p rfl rfl rfl (by exact trivial) ?_ | refine RK.k_ 4 rfl ?_; (refine .p rfl rfl rfl (by omega) ?_) | refine RK.k_ 5 rfl ?_; (refine .ldl rfl rfl rfl rfl rfl rfl rfl (by rfl) (by rfl) ?_)) | refine RK.nilT rfl ?_ rfl))
      refine W.cond_dec rfl (fun h => ?_) (fun h => ?_)
      · repeat (first | (with_reducible refine W.id_ ?_); (refine W.sreg ?_) | (with_reducible refine RK.id_ ?_); (first | refine RK.cons_ ?_; (refine RK.k_ 0 rfl ?_; refine .p rfl rfl rfl (by exact trivial) ?_) | refine RK.nilT rfl ?_ rfl))
        refine W.ret ⟨_, rfl, .eq (by repeat (exact .int _ _)) ?_, rfl⟩
        exact congrArg I (by rw [cm_lt (by omega)])
      repeat (first | (with_reducible refine W.id_ ?_); (first | refine W.sdraw mixed (by kernel_rfl) (by kernel_rfl) ?_ | refine W.skipT rfl ?_) | (with_reducible refine RK.id_ ?_); (first | refine RK.cons_ ?_; (first | refine RK.k_ 0 rfl ?_; refine .p rfl rfl rfl (by exact trivial) ?_ | refine RK.k_ 4 rfl ?_; (refine .p rfl rfl rfl (by omega) ?_) | refine RK.k_ 5 rfl ?_; (refine .ldl rfl rfl rfl rfl rfl rfl rfl (by rfl) (by rfl) ?_)) | refine RK.nilT rfl ?_ rfl))
      refine W.cond_dec rfl (fun h2 => ?_) (fun h2 => ?_)
      · repeat (first | (with_reducible refine W.id_ ?_); (refine W.sreg ?_) | (with_reducible refine RK.id_ ?_); (first | refine RK.cons_ ?_; (refine RK.k_ 0 rfl ?_; refine .p rfl rfl rfl (by exact trivial) ?_) | refine RK.nilT rfl ?_ rfl))
        refine W.ret ⟨_, rfl, .eq (by repeat (exact .int _ _)) ?_, rfl⟩
        exact congrArg I (by rw [cm_gt (by omega)])
      repeat (first | (with_reducible refine W.id_ ?_); (first | refine W.reg ?_ | refine W.skipT rfl ?_) | (with_reducible refine RK.id_ ?_); (refine RK.cons_ ?_; (first | refine RK.k_ 0 rfl ?_; refine .p rfl rfl rfl (by exact trivial) ?_ | refine RK.k_ 1 rfl ?_; (refine .pa rfl rfl rfl rfl rfl rfl (by omega) (by omega) ?_))))
      refine .nil ?_ rfl
      refine ⟨0, by show 0 < 1; omega, ⟨by show 0 ≤ 4; omega, by omega⟩, .heap ?_ rfl⟩
      repeat (first | exact trivial | refine ⟨⟨_, rfl, .refl _⟩, ?_⟩)
    · repeat (first | (with_reducible refine W.id_ ?_); (first | refine W.sreg ?_ | refine W.seq ?_ | refine W.condF rfl ?_) | (with_reducible refine RK.id_ ?_); (first | refine RK.cons_ ?_; (refine RK.k_ 0 rfl ?_; refine .p rfl rfl rfl (by exact trivial) ?_) | refine RK.nilT rfl ?_ rfl))
      refine W.exit ⟨0, by omega, .heap ?_ rfl⟩
      repeat (first | exact trivial | refine ⟨⟨_, rfl, .refl _⟩, ?_⟩)
  · intro k h
    repeat (first | (with_reducible refine W.id_ ?_); (refine W.sreg ?_) | (with_reducible refine RK.id_ ?_); (first | refine RK.cons_ ?_; (refine RK.k_ 0 rfl ?_; refine .p rfl rfl rfl (by exact trivial) ?_) | refine RK.nilT rfl ?_ rfl))
    refine W.ret ⟨_, rfl, .eq (by repeat (exact .int _ _)) ?_, rfl⟩
    exact congrArg I (by rw [cm_eq h])

/- cylinderref20.CompareMono -/

/- cylinderref20.Valid -/
theorem Valid_spec (m : M) : PureFn Try.prog 18 [eM m] (.bool (decide (V m))) := by
  refine .of_W (fn := Try.f18) (by repeat (first | exact trivial | refine ⟨(by repeat (exact eM_pure _)), ?_⟩)) Try.call18 Try.func18 rfl rfl ?_
  repeat (first | (with_reducible refine W.id_ ?_); (first | refine W.sreg ?_ | refine W.seq ?_) | (with_reducible refine RK.id_ ?_); (first | refine RK.cons_ ?_; (first | refine RK.k_ 0 rfl ?_; refine .p rfl rfl rfl (by exact trivial) ?_ | refine RK.k_ 6 rfl ?_; (refine .box _ rfl rfl rfl rfl rfl rfl rfl ?_)) | refine RK.nilT rfl ?_ rfl))
  refine W.loopE (fun k => k ≤ 4 ∧ (1 ≤ k → 0 ≤ m.x0) ∧ (2 ≤ k → 0 ≤ m.x1) ∧ (3 ≤ k → 0 ≤ m.x2) ∧ (4 ≤ k → 0 ≤ m.x3)) (fun k => V m) (fun k => 4 - k) (fun k => [(3, I (k : Int)), (1, .ptr 0 0)]) (fun _ => [some (.cells (mc m))]) (0) rfl ?_ ?_ ?_ ?_
  · exact ⟨Nat.zero_le _, by omega, by omega, by omega, by omega⟩
  · refine .heap ?_ rfl
    repeat (first | exact trivial | refine ⟨⟨_, rfl, .refl _⟩, ?_⟩)
  · rintro k ⟨h1, h2⟩
    obtain rfl | rfl | rfl | rfl | rfl : k = 0 ∨ k = 1 ∨ k = 2 ∨ k = 3 ∨ k = 4 := by omega
    · repeat (first | (with_reducible refine W.id_ ?_); (first | refine W.sreg ?_ | refine W.seq ?_ | refine W.blockS ?_ | refine W.skipT rfl ?_ | refine W.condT rfl ?_) | (with_reducible refine RK.id_ ?_); (first | refine RK.cons_ ?_; (first | refine RK.k_ 0 rfl ?_; refine .p rfl rfl rfl (by exact trivial) ?_ | refine RK.k_ 4 rfl ?_; (refine .p rfl rfl rfl (by omega) ?_) | refine RK.k_ 5 rfl ?_; (refine .ldl rfl rfl rfl rfl rfl rfl rfl (by rfl) (by rfl) ?_)) | refine RK.nilT rfl ?_ rfl))
      refine W.cond_dec rfl (fun h => ?_) (fun h => ?_)
      · repeat (first | (with_reducible refine W.id_ ?_); (refine W.sreg ?_) | (with_reducible refine RK.id_ ?_); (first | refine RK.cons_ ?_; (refine RK.k_ 0 rfl ?_; refine .p rfl rfl rfl (by exact trivial) ?_) | refine RK.nilT rfl ?_ rfl))
        refine W.ret ⟨_, rfl, .eq (by repeat (exact .bool _)) ?_, rfl⟩
        rw [decide_eq_false (fun hv => by unfold V at hv; omega)]
      repeat (first | (with_reducible refine W.id_ ?_); (first | refine W.reg ?_ | refine W.skipT rfl ?_) | (with_reducible refine RK.id_ ?_); (refine RK.cons_ ?_; (first | refine RK.k_ 0 rfl ?_; refine .p rfl rfl rfl (by exact trivial) ?_ | refine RK.k_ 1 rfl ?_; (refine .pa rfl rfl rfl rfl rfl rfl (by omega) (by omega) ?_))))
      refine .nil ?_ rfl
      refine ⟨1, by show 4 - 1 < 4 - 0; omega, ⟨by show 1 ≤ 4; omega, by omega⟩, .heap ?_ rfl⟩
      repeat (first | exact trivial | refine ⟨⟨_, rfl, .refl _⟩, ?_⟩)
    · repeat (first | (with_reducible refine W.id_ ?_); (first | refine W.sreg ?_ | refine W.seq ?_ | refine W.blockS ?_ | refine W.skipT rfl ?_ | refine W.condT rfl ?_) | (with_reducible refine RK.id_ ?_); (first | refine RK.cons_ ?_; (first | refine RK.k_ 0 rfl ?_; refine .p rfl rfl rfl (by exact trivial) ?_ | refine RK.k_ 4 rfl ?_; (refine .p rfl rfl rfl (by omega) ?_) | refine RK.k_ 5 rfl ?_; (refine .ldl rfl rfl rfl rfl rfl rfl rfl (by rfl) (by rfl) ?_)) | refine RK.nilT rfl ?_ rfl))
      refine W.cond_dec rfl (fun h => ?_) (fun h => ?_)
      · repeat (first | (with_reducible refine W.id_ ?_); (refine W.sreg ?_) | (with_reducible refine RK.id_ ?_); (first | refine RK.cons_ ?_; (refine RK.k_ 0 rfl ?_; refine .p rfl rfl rfl (by exact trivial) ?_) | refine RK.nilT rfl ?_ rfl))
        refine W.ret ⟨_, rfl, .eq (by repeat (exact .bool _)) ?_, rfl⟩
        rw [decide_eq_false (fun hv => by unfold V at hv; omega)]
      repeat (first | (with_reducible refine W.id_ ?_); (first | refine W.reg ?_ | refine W.skipT rfl ?_) | (with_reducible refine RK.id_ ?_); (refine RK.cons_ ?_; (first | refine RK.k_ 0 rfl ?_; refine .p rfl rfl rfl (by exact trivial) ?_ | refine RK.k_ 1 rfl ?_; (refine .pa rfl rfl rfl rfl rfl rfl (by omega) (by omega) ?_))))
      refine .nil ?_ rfl
      refine ⟨2, by show 4 - 2 < 4 - 1; omega, ⟨by show 2 ≤ 4; omega, by omega⟩, .heap ?_ rfl⟩
      repeat (first | exact trivial | refine ⟨⟨_, rfl, .refl _⟩, ?_⟩)
    · repeat (first | (with_reducible refine W.id_ ?_); (first | refine W.sreg ?_ | refine W.seq ?_ | refine W.blockS ?_ | refine W.skipT rfl ?_ | refine W.condT rfl ?_) | (with_reducible refine RK.id_ ?_); (first | refine RK.cons_ ?_; (first | refine RK.k_ 0 rfl ?_; refine .p rfl rfl rfl (by exact trivial) ?_ | refine RK.k_ 4 rfl ?_; (refine .p rfl rfl rfl (by omega) ?_) | refine RK.k_ 5 rfl ?_; (refine .ldl rfl rfl rfl rfl rfl rfl rfl (by rfl) (by rfl) ?_)) | refine RK.nilT rfl ?_ rfl))
      refine W.cond_dec rfl (fun h => ?_) (fun h => ?_)
      · repeat (first | (with_reducible refine W.id_ ?_); (refine W.sreg ?_) | (with_reducible refine RK.id_ ?_); (first | refine RK.cons_ ?_; (refine RK.k_ 0 rfl ?_; refine .p rfl rfl rfl (by exact trivial) ?_) | refine RK.nilT rfl ?_ rfl))
        refine W.ret ⟨_, rfl, .eq (by repeat (exact .bool _)) ?_, rfl⟩
        rw [decide_eq_false (fun hv => by unfold V at hv; omega)]
      repeat (first | (with_reducible refine W.id_ ?_); (first | refine W.reg ?_ | refine W.skipT rfl ?_) | (with_reducible refine RK.id_ ?_); (refine RK.cons_ ?_; (first | refine RK.k_ 0 rfl ?_; refine .p rfl rfl rfl (by exact trivial) ?_ | refine RK.k_ 1 rfl ?_; (refine .pa rfl rfl rfl rfl rfl rfl (by omega) (by omega) ?_))))
      refine .nil ?_ rfl
      refine ⟨3, by show 4 - 3 < 4 - 2; omega, ⟨by show 3 ≤ 4; omega, by omega⟩, .heap ?_ rfl⟩
      repeat (first | exact trivial | refine ⟨⟨_, rfl, .refl _⟩, ?_⟩)
    · repeat (first | (with_reducible refine W.id_ ?_); (first | refine W.sreg ?_ | refine W.seq ?_ | refine W.blockS ?_ | refine W.skipT rfl ?_ | refine W.condT rfl ?_) | (with_reducible refine RK.id_ ?_); (first | refine RK.cons_ ?_; (first | refine RK.k_ 0 rfl ?_; refine .p rfl rfl rfl (by exact trivial) ?_ | refine RK.k_ 4 rfl ?_; (refine .p rfl rfl rfl (by omega) ?_) | refine RK.k_ 5 rfl ?_; (refine .ldl rfl rfl rfl rfl rfl rfl rfl (by rfl) (by rfl) ?_)) | refine RK.nilT rfl ?_ rfl))
      refine W.cond_dec rfl (fun h => ?_) (fun h => ?_)
      · repeat (first | (with_reducible refine W.id_ ?_); (refine W.sreg ?_) | (with_reducible refine RK.id_ ?_); (first | refine RK.cons_ ?_; (refine RK.k_ 0 rfl ?_; refine .p rfl rfl rfl (by exact trivial) ?_) | refine RK.nilT rfl ?_ rfl))
        refine W.ret ⟨_, rfl, .eq (by repeat (exact .bool _)) ?_, rfl⟩
        rw [decide_eq_false (fun hv => by unfold V at hv; omega)]
      repeat (first | (with_reducible refine W.id_ ?_); (first | refine W.reg ?_ | refine W.skipT rfl ?_) | (with_reducible refine RK.id_ ?_); (refine RK.cons_ ?_; (first | refine RK.k_ 0 rfl ?_; refine .p rfl rfl rfl (by exact trivial) ?_ | refine RK.k_ 1 rfl ?_; (refine .pa rfl rfl rfl rfl rfl rfl (by omega) (by omega) ?_))))
      refine .nil ?_ rfl
      refine ⟨4, by show 4 - 4 < 4 - 3; omega, ⟨by show 4 ≤ 4; omega, by omega⟩, .heap ?_ rfl⟩
      repeat (first | exact trivial | refine ⟨⟨_, rfl, .refl _⟩, ?_⟩)
    · repeat (first | (with_reducible refine W.id_ ?_); (first | refine W.sreg ?_ | refine W.seq ?_ | refine W.condF rfl ?_) | (with_reducible refine RK.id_ ?_); (first | refine RK.cons_ ?_; (refine RK.k_ 0 rfl ?_; refine .p rfl rfl rfl (by exact trivial) ?_) | refine RK.nilT rfl ?_ rfl))
      refine W.exit ⟨4, by unfold V; omega, .heap ?_ rfl⟩
      repeat (first | exact trivial | refine ⟨⟨_, rfl, .refl _⟩, ?_⟩)
  · intro k h
    repeat (first | (with_reducible refine W.id_ ?_); (refine W.sreg ?_) | (with_reducible refine RK.id_ ?_); (first | refine RK.cons_ ?_; (refine RK.k_ 0 rfl ?_; refine .p rfl rfl rfl (by exact trivial) ?_) | refine RK.nilT rfl ?_ rfl))
    refine W.ret ⟨_, rfl, .eq (by repeat (exact .bool _)) ?_, rfl⟩
    rw [decide_eq_true h]
end Go.Proofs.Ytbdefjbekbbldaa

namespace Go.Proofs.Ytbdefjbekbbldaa
open Go.V Go.N
set_option maxHeartbeats 8000000
set_option maxRecDepth 20000
abbrev eI (xs : List Int) : D := encI .i64 xs
theorem eI_pure (xs : List Int) : Pure (eI xs) := encI_pure _ _

/-- The least of the first elements. -/
def mnI (xs : List Int) : Nat → Int
  | 0 => 0
  | 1 => xs.getD 0 0
  | i + 2 => if xs.getD (i + 1) 0 < mnI xs (i + 1) then xs.getD (i + 1) 0 else mnI xs (i + 1)

/- slices.Min -/
theorem Min_spec {xs : List Int} (h0 : 0 < xs.length) (h1 : xs.length ≤ 1000000) : PureFn Try.prog 65 [eI xs] (I (mnI xs xs.length)) := by
  refine .of_W (fn := Try.f65) (by repeat (first | exact trivial | refine ⟨(by repeat (exact eI_pure _)), ?_⟩)) Try.call65 Try.func65 rfl rfl ?_
  repeat (first | (with_reducible refine W.id_ ?_); (first | refine W.sreg ?_ | refine W.seq ?_) | (with_reducible refine RK.id_ ?_); (first | refine RK.cons_ ?_; (refine RK.k_ 0 rfl ?_; refine .p rfl rfl rfl (by exact trivial) ?_) | refine RK.nilT rfl ?_ rfl))
  refine W.cond_dec rfl (fun h => ?_) (fun h => ?_)
  · omega
  repeat (first | (with_reducible refine W.id_ ?_); (first | refine W.sreg ?_ | refine W.seq ?_ | refine W.skipT rfl ?_) | (with_reducible refine RK.id_ ?_); (first | refine RK.cons_ ?_; (first | refine RK.k_ 0 rfl ?_; refine .p rfl rfl rfl (by exact trivial) ?_ | refine RK.k_ 4 rfl ?_; (refine .ix _ (s := 1) rfl rfl rfl rfl rfl rfl rfl (by rfl) (by omega) ?_) | refine RK.k_ 5 rfl ?_; (refine .ld _ rfl rfl rfl rfl rfl rfl (by exact get_map0 (z := (0 : Int)) (by omega)) ?_)) | refine RK.nilT rfl ?_ rfl))
  refine W.loopE (fun k => 1 ≤ k ∧ k ≤ xs.length) (fun k => k = xs.length) (fun k => xs.length - k) (fun k => [(4, I (k : Int)), (3, I (mnI xs k)), (0, eI xs)]) (fun _ => []) (1) rfl ?_ ?_ ?_ ?_
  · exact ⟨Nat.le_refl _, h0⟩
  · refine .heap ?_ rfl
    repeat (first | exact trivial | refine ⟨⟨_, rfl, .refl _⟩, ?_⟩)
  · rintro k ⟨h2, h3⟩
    repeat (first | (with_reducible refine W.id_ ?_); (first | refine W.sreg ?_ | refine W.seq ?_) | (with_reducible refine RK.id_ ?_); (first | refine RK.cons_ ?_; (refine RK.k_ 0 rfl ?_; refine .p rfl rfl rfl (by exact trivial) ?_) | refine RK.nilT rfl ?_ rfl))
    refine W.cond_dec rfl (fun h4 => ?_) (fun h4 => ?_)
    · obtain ⟨i, rfl⟩ : ∃ i, k = i + 1 := ⟨k - 1, by omega⟩
      repeat (first | (with_reducible refine W.id_ ?_); (first | refine W.reg ?_ | refine W.seq ?_ | refine W.blockR ?_ | refine W.skipT rfl ?_) | (with_reducible refine RK.id_ ?_); (first | refine RK.cons_ ?_; (first | refine RK.k_ 0 rfl ?_; refine .p rfl rfl rfl (by exact trivial) ?_ | refine RK.k_ 1 rfl ?_; (refine .pa rfl rfl rfl rfl rfl rfl (by omega) (by omega) ?_) | refine RK.k_ 4 rfl ?_; (refine .ix _ (s := 1) rfl rfl rfl rfl rfl rfl rfl (by rfl) (by omega) ?_) | refine RK.k_ 5 rfl ?_; (refine .ld _ rfl rfl rfl rfl rfl rfl (by exact get_map (f := D.int .i64) (z := (0 : Int)) (by omega) rfl) ?_)) | refine RK.nilT rfl ?_ rfl))
      refine .nil ?_ rfl
      refine ⟨i + 2, by show xs.length - (i + 2) < xs.length - (i + 1); omega, ⟨by omega, by omega⟩, .heap ?_ rfl⟩
      repeat (first | exact trivial | refine ⟨⟨_, rfl, .refl _⟩, ?_⟩)
    · refine W.exit ⟨k, by omega, .heap ?_ rfl⟩
      repeat (first | exact trivial | refine ⟨⟨_, rfl, .refl _⟩, ?_⟩)
  · rintro k rfl
    repeat (first | (with_reducible refine W.id_ ?_); (refine W.sreg ?_) | (with_reducible refine RK.id_ ?_); (first | refine RK.cons_ ?_; (refine RK.k_ 0 rfl ?_; refine .p rfl rfl rfl (by exact trivial) ?_) | refine RK.nilT rfl ?_ rfl))
    refine W.ret ⟨_, rfl, .eq (by repeat (exact .int _ _)) ?_, rfl⟩
    rfl

theorem mn_V (m : M) : 0 ≤ mnI m.l 4 ↔ V m := by
  have h : ∀ a b : Int, 0 ≤ (if a < b then a else b) ↔ 0 ≤ a ∧ 0 ≤ b := fun a b => by split <;> omega
  show 0 ≤ (if m.x3 < (if m.x2 < (if m.x1 < m.x0 then m.x1 else m.x0) then m.x2 else (if m.x1 < m.x0 then m.x1 else m.x0)) then m.x3 else (if m.x2 < (if m.x1 < m.x0 then m.x1 else m.x0) then m.x2 else (if m.x1 < m.x0 then m.x1 else m.x0))) ↔ V m
  rw [h, h, h]
  unfold V
  omega

theorem encS_cells (p : List RT) : ∀ d ∈ p.flatMap tc, Pure d := fun d hd => by
  obtain ⟨t, _, ht⟩ := List.mem_flatMap.1 hd
  exact tc_pure t d ht

/- slices.Clip -/
theorem Clip_spec {p : List RT} (h : p.length ≤ 1000000) : PureFn Try.prog 68 [eP p] (eP p) := by
  refine .of_W (fn := Try.f68) (by repeat (first | exact trivial | refine ⟨(by repeat (exact eP_pure _)), ?_⟩)) Try.call68 Try.func68 rfl rfl ?_
  repeat (first | (with_reducible refine W.id_ ?_); (refine W.sreg ?_) | (with_reducible refine RK.id_ ?_); (first | refine RK.cons_ ?_; (first | refine RK.k_ 0 rfl ?_; refine .p rfl rfl rfl (by exact trivial) ?_ | refine RK.k_ 7 rfl ?_; (refine .p rfl rfl rfl (by omega) ?_)) | refine RK.nilT rfl ?_ rfl))
  have e : ((p.flatMap tc).drop (0 * 6)).take ((p.length - 0) * 6) = p.flatMap tc := by
    rw [Nat.zero_mul, List.drop_zero, Nat.sub_zero, List.take_of_length_le (by rw [flatMap_len tc_len]; exact Nat.le_refl _)]
  have e2 : ∀ t, D.snap (((p.flatMap tc).drop (0 * 6)).take ((p.length - 0) * 6)) (p.length - 0) t = D.snap (p.flatMap tc) p.length t := fun t => by rw [e]; rfl
  refine W.ret ⟨D.snap (((p.flatMap tc).drop (0 * 6)).take ((p.length - 0) * 6)) (p.length - 0) _, rfl, ?_, rfl⟩
  rw [e2]
  exact .pure (.snap (encS_cells p)) .tight

theorem Clip_live {xs : List RT} {H : Hp} {b : Nat} (hb : H[b]? = some (accB tc xs)) (h : xs.length ≤ 1000000) : FnTo Try.prog 68 [accD 6 b xs] H fun r H' => r = accD 6 b xs ∧ H' = H := by
  cases xs with
  | nil =>
    refine .of_W (fn := Try.f68) Try.call68 Try.func68 rfl (Nat.le_of_ble_eq_true rfl) ?_
    repeat (first | (with_reducible refine W.id_ ?_); (refine W.sreg ?_) | (with_reducible refine RK.id_ ?_); (first | refine RK.cons_ ?_; (first | refine RK.k_ 0 rfl ?_; refine .p rfl rfl rfl (by exact trivial) ?_ | refine RK.k_ 7 rfl ?_; (refine .p rfl rfl rfl (by omega) ?_)) | refine RK.nilT rfl ?_ rfl))
    exact .ret ⟨_, rfl, rfl, rfl⟩
  | cons x xs =>
    refine .of_W (fn := Try.f68) Try.call68 Try.func68 rfl (Nat.le_of_ble_eq_true rfl) ?_
    repeat (first | (with_reducible refine W.id_ ?_); (refine W.sreg ?_) | (with_reducible refine RK.id_ ?_); (first | refine RK.cons_ ?_; (first | refine RK.k_ 0 rfl ?_; refine .p rfl rfl rfl (by exact trivial) ?_ | refine RK.k_ 7 rfl ?_; (refine .p rfl rfl rfl (by omega) ?_)) | refine RK.nilT rfl ?_ rfl))
    exact .ret ⟨_, rfl, rfl, rfl⟩

/- sparse.Normal$1 -/
theorem Normal1_spec (x y : RT) : PureFn Try.prog 67 [eT x, eT y] (I (cmpM y.2 x.2)) := by
  refine .of_W (fn := Try.f67) (by repeat (first | exact trivial | refine ⟨(by repeat (exact eT_pure _)), ?_⟩)) Try.call67 Try.func67 rfl rfl ?_
  repeat (first | (with_reducible refine W.id_ ?_); (refine W.sreg ?_) | (with_reducible refine RK.id_ ?_); (first | refine RK.cons_ ?_; (first | refine RK.k_ 0 rfl ?_; refine .p rfl rfl rfl (by exact trivial) ?_ | refine RK.k_ 5 rfl ?_; (refine .ldla rfl rfl rfl rfl rfl rfl rfl (by rfl) rfl ?_) | refine RK.k_ 6 rfl ?_; (refine .box _ rfl rfl rfl rfl rfl rfl rfl ?_)) | refine RK.nilT rfl ?_ rfl))
  refine .call (CompareMono_spec y.2 x.2) rfl rfl rfl rfl ?_
  repeat ((with_reducible refine RK.id_ ?_); (first | refine RK.cons_ ?_; (refine RK.k_ 0 rfl ?_; refine .p rfl rfl rfl (by exact trivial) ?_) | refine RK.nilT rfl ?_ rfl))
  refine W.ret ⟨_, rfl, .eq (by repeat (exact .int _ _)) ?_, rfl⟩
  rfl

abbrev cmpT (x y : RT) : Int := cmpM y.2 x.2
theorem cmpT_ord : N.Ord cmpT := ⟨fun x y => by
  unfold cmpT
  rcases cmpM_cases x.2 y.2 with ⟨h, _⟩ | ⟨h, _⟩ | ⟨h, _⟩ <;> rw [cmpM_neg y.2 x.2] <;> omega, fun x y w h1 h2 => by
  unfold cmpT at *
  have e1 := cmpM_neg x.2 y.2
  have e2 := cmpM_neg y.2 w.2
  have e3 := cmpM_neg x.2 w.2
  intro h3
  rcases cmpM_cases x.2 y.2 with ⟨h, _⟩ | ⟨h, _⟩ | ⟨_, h⟩
  · omega
  · exact h2 (cmpM_trans (show cmpM y.2 x.2 < 0 by omega) h3)
  · rw [h] at h3; exact h2 h3⟩

/-- What a row of terms says. -/
def vals (p : List RT) : P := p.map fun t => (zv t.1, t.2)
def can (q : P) : List RT := q.map fun t => (zcan t.1, t.2)
theorem vals_can (q : P) : vals (can q) = q := by
  unfold vals can
  rw [List.map_map]
  have : ((fun t : RT => (zv t.1, t.2)) ∘ fun t : Int × M => (zcan t.1, t.2)) = id := funext fun t => by simp [zv_can]
  rw [this, List.map_id]
theorem l1_filter (p : List RT) : l1 (vals (p.filter (fun t => decide (V t.2)))) ≤ l1 (vals p) := by
  induction p with
  | nil => exact Nat.le_refl _
  | cons t p ih =>
    rw [List.filter_cons]
    split
    · show (zv t.1).natAbs + l1 (vals _) ≤ (zv t.1).natAbs + l1 (vals p); omega
    · show l1 (vals _) ≤ (zv t.1).natAbs + l1 (vals p); omega
theorem cf_filter (p : List RT) {m : M} (hm : V m) : cf (vals (p.filter (fun t => decide (V t.2)))) m = cf (vals p) m := by
  induction p with
  | nil => rfl
  | cons t p ih =>
    rw [List.filter_cons]
    split
    · show (if t.2 = m then zv t.1 else 0) + cf (vals _) m = (if t.2 = m then zv t.1 else 0) + cf (vals p) m; omega
    · rename_i h
      show cf (vals _) m = (if t.2 = m then zv t.1 else 0) + cf (vals p) m
      rw [if_neg (fun e => h (by rw [e]; exact decide_eq_true hm))]; omega

theorem eqM_true {a b : M} (h : (decide (a.x0 = b.x0) && (decide (a.x1 = b.x1) && (decide (a.x2 = b.x2) && (decide (a.x3 = b.x3) && true)))) = true) : a = b := by
  simp only [Bool.and_eq_true, decide_eq_true_eq] at h
  cases a; cases b; simp_all
theorem eqM_false {a b : M} (h : (decide (a.x0 = b.x0) && (decide (a.x1 = b.x1) && (decide (a.x2 = b.x2) && (decide (a.x3 = b.x3) && true)))) = false) : a ≠ b := by
  rintro rfl; simp at h
theorem eqM_dec {a b : M} : (decide (a.x0 = b.x0) && (decide (a.x1 = b.x1) && (decide (a.x2 = b.x2) && (decide (a.x3 = b.x3) && true)))) = decide (a = b) := by
  by_cases h : a = b
  · subst h; simp
  · rw [decide_eq_false h]
    cases hh : (decide (a.x0 = b.x0) && (decide (a.x1 = b.x1) && (decide (a.x2 = b.x2) && (decide (a.x3 = b.x3) && true)))) with
    | false => rfl
    | true => exact absurd (eqM_true hh) h

/-- A row of terms that is small enough: digits, sums, length. -/
structure Pok (p : List RT) : Prop where
  z : ∀ t ∈ p, okZ t.1
  l : l1 (vals p) < B32 ^ 1000000000
  n : p.length ≤ 1000000

theorem frz_flat {H : Hp} {b c n : Nat} {d : List RT} (hb : H[b]? = some (tB d)) (hn : n = d.length) : Frz H (.live b 0 n c 6) (eP d) := by
  subst hn
  refine .live hb (by rw [flatMap_len tc_len]; omega) (flatMap_len tc_len d) fun i u v hu hv => ?_
  rw [Nat.zero_add] at hu
  have e := Option.some.inj (hu.symm.trans hv)
  subst e
  exact .pure (encS_cells d u (List.mem_of_getElem? hu)) (.refl _)

theorem insort_nil {g : Nat} {H : Hp} : FnTo Try.prog 105 [.snil, I 0, I 0, .fn g []] H fun r H' => r = .tup [] ∧ H' = H := by
  refine .of_W (fn := Try.f105) Try.call105 Try.func105 rfl (Nat.le_of_ble_eq_true rfl) ?_
  repeat (first | (with_reducible refine W.id_ ?_); (refine W.sreg ?_) | (with_reducible refine RK.id_ ?_); (first | refine RK.cons_ ?_; (first | refine RK.k_ 0 rfl ?_; refine .p rfl rfl rfl (by exact trivial) ?_ | refine RK.k_ 1 rfl ?_; (refine .pa rfl rfl rfl rfl rfl rfl (by omega) (by omega) ?_)) | refine RK.nilT rfl ?_ rfl))
  refine W.block (.loop1 ?_)
  repeat (first | (with_reducible refine W.id_ ?_); (first | refine W.sreg ?_ | refine W.seq ?_ | refine W.condF rfl ?_) | (with_reducible refine RK.id_ ?_); (first | refine RK.cons_ ?_; (refine RK.k_ 0 rfl ?_; refine .p rfl rfl rfl (by exact trivial) ?_) | refine RK.nilT rfl ?_ rfl))
  exact W.exit ⟨_, rfl, rfl, rfl⟩
theorem stable_nil {g : Nat} {H : Hp} : FnTo Try.prog 94 [.snil, I 0, .fn g []] H fun r H' => r = .tup [] ∧ H' = H := by
  refine .of_W (fn := Try.f94) Try.call94 Try.func94 rfl (Nat.le_of_ble_eq_true rfl) ?_
  repeat (first | (with_reducible refine W.id_ ?_); (first | refine W.sreg ?_ | refine W.seq ?_) | (with_reducible refine RK.id_ ?_); (first | refine RK.cons_ ?_; (refine RK.k_ 0 rfl ?_; refine .p rfl rfl rfl (by exact trivial) ?_) | refine RK.nilT rfl ?_ rfl))
  refine W.block (.loop1 ?_)
  repeat (first | (with_reducible refine W.id_ ?_); (first | refine W.sreg ?_ | refine W.seq ?_ | refine W.condF rfl ?_) | (with_reducible refine RK.id_ ?_); (first | refine RK.cons_ ?_; (refine RK.k_ 0 rfl ?_; refine .p rfl rfl rfl (by exact trivial) ?_) | refine RK.nilT rfl ?_ rfl))
  refine W.exitT rfl ?_
  repeat (first | (with_reducible refine W.id_ ?_); (refine W.sreg ?_) | (with_reducible refine RK.id_ ?_); (refine RK.cons_ ?_; (refine RK.k_ 0 rfl ?_; refine .p rfl rfl rfl (by exact trivial) ?_)))
  refine .callF (insort_nil) rfl rfl rfl rfl ?_; rintro _ _ ⟨rfl, rfl⟩
  repeat ((with_reducible refine RK.id_ ?_); (refine RK.nilT rfl ?_ rfl))
  refine W.block (.loop1 ?_)
  repeat (first | (with_reducible refine W.id_ ?_); (first | refine W.sreg ?_ | refine W.seq ?_ | refine W.condF rfl ?_) | (with_reducible refine RK.id_ ?_); (first | refine RK.cons_ ?_; (refine RK.k_ 0 rfl ?_; refine .p rfl rfl rfl (by exact trivial) ?_) | refine RK.nilT rfl ?_ rfl))
  exact W.exit ⟨_, rfl, rfl, rfl⟩
theorem SortStable_nil {g : Nat} {H : Hp} : FnTo Try.prog 66 [.snil, .fn g []] H fun r H' => r = .tup [] ∧ H' = H := by
  refine .of_W (fn := Try.f66) Try.call66 Try.func66 rfl (Nat.le_of_ble_eq_true rfl) ?_
  repeat (first | (with_reducible refine W.id_ ?_); (refine W.reg ?_) | (with_reducible refine RK.id_ ?_); (refine RK.cons_ ?_; (refine RK.k_ 0 rfl ?_; refine .p rfl rfl rfl (by exact trivial) ?_)))
  refine .callF (stable_nil) rfl rfl rfl rfl ?_; rintro _ _ ⟨rfl, rfl⟩
  refine .nil ?_ rfl
  exact ⟨_, rfl, rfl, rfl⟩

theorem frz_mono {H : Hp} {b : Nat} {t : RT} (hb : H[b]? = some (some (.cells (tc t)))) : Frz H (.live b 2 4 4 1) (eI t.2.l) := by
  refine .live hb (Nat.le_refl 6) rfl fun i u v hu hv => ?_
  have hi : i < 4 := lt_of_getElem? hv
  obtain rfl | rfl | rfl | rfl : i = 0 ∨ i = 1 ∨ i = 2 ∨ i = 3 := by omega
  all_goals (cases hu; cases hv; exact .pure (.int _ _) (.refl _))

/- sparse.Normal -/
theorem Normal_live0 {p : List RT} (hp : Pok p) : FnTo Try.prog 22 [eP p] [] fun r H' => r = accD 6 0 (can (nrm (vals p))) ∧ H' = [accB tc (can (nrm (vals p)))] := by
  have hpn := hp.n
  refine .of_W (fn := Try.f22) Try.call22 Try.func22 rfl (Nat.le_of_ble_eq_true rfl) ?_
  repeat (first | (with_reducible refine W.id_ ?_); (first | refine W.sreg ?_ | refine W.seq ?_) | (with_reducible refine RK.id_ ?_); (first | refine RK.cons_ ?_; (refine RK.k_ 0 rfl ?_; refine .p rfl rfl rfl (by exact trivial) ?_) | refine RK.nilT rfl ?_ rfl))
  refine .rangeS (p.length) (fun i s => [(3, accD 6 0 s), (9, eP p)]) (fun i s => [accB tc s]) (fun i s => s = (p.take i).filter (fun t => decide (V t.2))) ([]) rfl rfl rfl rfl rfl rfl rfl rfl rfl rfl (by omega) ?_ ?_ (fun _ _ => rfl) (fun i s hi Ci => ?_) (fun s Ci => ?_)
  · rfl
  · refine .ren [0] [] (Nat.zero_le _) (fun b hb => absurd hb (Nat.not_lt_zero b)) (by simp) ?_ trivial
    repeat (first | exact trivial | refine ⟨⟨_, rfl, .wk (by repeat (first | exact .int _ _ | exact .snil | exact eP_pure _)) (by exact .refl _)⟩, ?_⟩)
  · have hsl : s.length ≤ i := by rw [Ci]; exact Nat.le_trans (List.length_filter_le _ _) (by rw [List.length_take]; omega)
    have hts : p.take (i + 1) = p.take i ++ [p.getD i zT] := by
      rw [List.take_succ_eq_append_getElem hi]; simp [hi]
    have hV := mn_V (p.getD i zT).2
    repeat (first | (with_reducible refine W.id_ ?_); (refine W.sreg ?_) | (with_reducible refine RK.id_ ?_); (first | refine RK.cons_ ?_; (first | refine RK.k_ 0 rfl ?_; refine .p rfl rfl rfl (by exact trivial) ?_ | refine RK.k_ 4 rfl ?_; (refine .ix _ (s := 6) rfl rfl rfl rfl rfl rfl rfl (by rfl) (by omega) ?_) | refine RK.k_ 5 rfl ?_; (refine .lda _ rfl rfl rfl rfl rfl rfl rfl (by exact take_flat (z := zT) tc_len (by omega) (by omega) rfl) ?_) | refine RK.k_ 6 rfl ?_; (first | refine .alloc _ rfl rfl rfl rfl rfl rfl rfl ?_ | refine .store rfl rfl rfl rfl rfl rfl rfl (by rfl) (by rfl) (by rfl) ?_)) | refine RK.nilT rfl ?_ rfl))
    refine .slA rfl rfl rfl rfl rfl rfl (by rfl) (Nat.le_of_ble_eq_true rfl) ?_
    refine .callB (Min_spec (xs := (p.getD i zT).2.l) (by show 0 < 4; omega) (by show 4 ≤ 1000000; omega)) rfl (noLoopB_spec (by (simp only [noLoop_acc]; rfl))) rfl rfl rfl rfl (.cons (frz_mono rfl) .nil) ?_
    repeat ((with_reducible refine RK.id_ ?_); (first | refine RK.cons_ ?_; (refine RK.k_ 0 rfl ?_; refine .p rfl rfl rfl (by exact trivial) ?_) | refine RK.nilT rfl ?_ rfl))
    refine W.cond_dec rfl (fun h => ?_) (fun h => ?_)
    · repeat (first | (with_reducible refine W.id_ ?_); (refine W.reg ?_) | (with_reducible refine RK.id_ ?_); (refine RK.cons_ ?_; (first | refine RK.k_ 0 rfl ?_; refine .p rfl rfl rfl (by exact trivial) ?_ | refine RK.k_ 5 rfl ?_; (refine .ldla rfl rfl rfl rfl rfl rfl rfl (by rfl) rfl ?_))))
      refine .grow 2 0 6 64 s [p.getD i zT] (enc := tc) tc_len rfl rfl rfl rfl rfl rfl rfl rfl rfl rfl (.snap (by rfl)) (by rfl) (by simp) (by simp; omega) (by simp; omega) rfl ?_
      repeat ((with_reducible refine RK.id_ ?_); (refine RK.cons_ ?_; (refine RK.k_ 0 rfl ?_; refine .p rfl rfl rfl (by exact trivial) ?_)))
      refine .nil ?_ rfl
      refine ⟨s ++ [p.getD i zT], ?_, .ren [2] [] (Nat.zero_le _) (fun b hb => absurd hb (Nat.not_lt_zero b)) (by simp) ?_ (.acc (by simp) rfl tc_pure trivial)⟩
      · dsimp only
        rw [hts, List.filter_append, ← Ci]
        have : V (p.getD i zT).2 := hV.1 h
        generalize p.getD i zT = t at this ⊢
        simp [this]
      · repeat (first | exact trivial | refine ⟨⟨_, rfl, .acc rfl⟩, ?_⟩ | refine ⟨⟨_, rfl, .wk (by repeat (first | exact .int _ _ | exact eP_pure _)) (by exact .refl _)⟩, ?_⟩)
    · refine .skip ⟨s, ?_, .ren [0] [] (Nat.zero_le _) (fun b hb => absurd hb (Nat.not_lt_zero b)) (by simp) ?_ (.acc (by simp) rfl tc_pure trivial)⟩
      · dsimp only
        rw [hts, List.filter_append, ← Ci]
        have : ¬ V (p.getD i zT).2 := fun hv => h (hV.2 hv)
        generalize p.getD i zT = t at this ⊢
        simp [this]
      · repeat (first | exact trivial | refine ⟨⟨_, rfl, .acc rfl⟩, ?_⟩ | refine ⟨⟨_, rfl, .wk (by repeat (first | exact .int _ _ | exact eP_pure _)) (by exact .refl _)⟩, ?_⟩)
  rw [List.take_of_length_le (Nat.le_refl _)] at Ci
  have hsl : s.length ≤ p.length := by rw [Ci]; exact List.length_filter_le _ _
  show W _ _ _ _ _ _ _
  refine .seq (.joinS (fun (d : List RT) => d.Perm s ∧ Srt zT cmpT 0 d.length d) (fun d => [(3, eP d)]) (fun _ => []) ?_ ?_)
  · cases s with
    | nil =>
      repeat (first | (with_reducible refine W.id_ ?_); (refine W.reg ?_) | (with_reducible refine RK.id_ ?_); (refine RK.cons_ ?_; (refine RK.k_ 0 rfl ?_; refine .p rfl rfl rfl (by exact trivial) ?_)))
      refine .callF (SortStable_nil) rfl rfl rfl rfl ?_; rintro _ _ ⟨rfl, rfl⟩
      refine .nil ⟨[], ⟨.refl _, fun i j h1 h2 h3 => absurd h3 (Nat.not_lt_zero j)⟩, .frz ?_⟩ rfl
      exact ⟨⟨_, rfl, .pure .snil (.snil _)⟩, trivial⟩
    | cons t r =>
      repeat (first | (with_reducible refine W.id_ ?_); (refine W.reg ?_) | (with_reducible refine RK.id_ ?_); (refine RK.cons_ ?_; (refine RK.k_ 0 rfl ?_; refine .p rfl rfl rfl (by exact trivial) ?_)))
      refine .callF (SortStable_spec (d := t :: r) Normal1_spec cmpT_ord rfl rfl (by omega)) rfl rfl rfl rfl ?_; rintro _ _ ⟨rfl, d, rfl, hpm, hst⟩
      refine .nil ⟨d, ⟨hpm, by rw [hpm.length_eq]; exact hst⟩, .frz ?_⟩ rfl
      exact ⟨⟨_, rfl, frz_flat rfl hpm.length_eq.symm⟩, trivial⟩
  rintro d ⟨hpm, hst⟩
  have hdl : d.length ≤ 1000000 := by rw [hpm.length_eq]; omega
  have hmem : ∀ t ∈ d, t ∈ p ∧ V t.2 := fun t ht => by
    have := hpm.mem_iff.1 ht
    rw [Ci] at this
    obtain ⟨h1, h2⟩ := List.mem_filter.1 this
    exact ⟨h1, of_decide_eq_true h2⟩
  have hat : ∀ k, k < d.length → okZ (d.getD k zT).1 ∧ V (d.getD k zT).2 := fun k hk => by
    have : d.getD k zT ∈ d := by rw [show d.getD k zT = d[k] by simp [hk]]; exact List.getElem_mem _
    obtain ⟨h1, h2⟩ := hmem _ this
    exact ⟨hp.z _ h1, h2⟩
  have hl1 : l1 (vals d) < B32 ^ 1000000000 := by
    have h1 : l1 (vals d) = l1 (vals s) := l1_perm (hpm.map _)
    have h2 : l1 (vals s) ≤ l1 (vals p) := by rw [Ci]; exact l1_filter p
    exact Nat.lt_of_le_of_lt (by omega) hp.l
  have hvl : (vals d).length = d.length := by simp [vals]
  have hva : ∀ k (h : k < (vals d).length), (vals d)[k] = (zv (d.getD k zT).1, (d.getD k zT).2) := fun k h => by
    have : k < d.length := by omega
    simp [vals, this]
  have hsort : (vals d).Pairwise (fun a b => ¬ cmpM a.2 b.2 < 0) := List.pairwise_iff_getElem.2 fun a b ha hb hab => by
    rw [hva a ha, hva b hb]
    exact hst a b (Nat.zero_le _) hab (by omega)
  repeat (first | (with_reducible refine W.id_ ?_); (first | refine W.sreg ?_ | refine W.seq ?_) | (with_reducible refine RK.id_ ?_); (first | refine RK.cons_ ?_; (refine RK.k_ 0 rfl ?_; refine .p rfl rfl rfl (by exact trivial) ?_) | refine RK.nilT rfl ?_ rfl))
  refine W.loopE (fun s => Grp (vals d) s.2 s.1 ∧ s.1 ≤ d.length ∧ s.2.length ≤ s.1) (fun s => Grp (vals d) s.2 d.length ∧ s.2.length ≤ d.length) (fun s => d.length - s.1) (fun (s : Nat × P) => [(7, I s.1), (6, accD 6 0 (can s.2)), (3, eP d)]) (fun s => [accB tc (can s.2)]) ((0, [])) rfl ?_ ?_ ?_ ?_
  · exact ⟨.start _, Nat.zero_le _, Nat.le_refl _⟩
  · refine .ren [0] [] (Nat.zero_le _) (fun b hb => absurd hb (Nat.not_lt_zero b)) (by simp) ?_ trivial
    repeat (first | exact trivial | refine ⟨⟨_, rfl, .wk (by repeat (first | exact .int _ _ | exact .snil | exact eP_pure _)) (by exact .refl _)⟩, ?_⟩)
  · rintro ⟨i, o⟩ ⟨h1, h2, h3⟩
    dsimp only at h1 h2 h3 ⊢
    repeat (first | (with_reducible refine W.id_ ?_); (first | refine W.sreg ?_ | refine W.seq ?_) | (with_reducible refine RK.id_ ?_); (first | refine RK.cons_ ?_; (refine RK.k_ 0 rfl ?_; refine .p rfl rfl rfl (by exact trivial) ?_) | refine RK.nilT rfl ?_ rfl))
    refine W.cond_dec rfl (fun h4 => ?_) (fun h4 => ?_)
    · have h4' : i < d.length := by omega
      obtain ⟨e, he⟩ : ∃ e, e = (d.getD i zT).2 := ⟨_, rfl⟩
      have hve := (hat i h4').2
      rw [← he] at hve
      repeat (first | (with_reducible refine W.id_ ?_); (first | refine W.sreg ?_ | refine W.seq ?_ | refine W.blockS ?_ | refine W.skipT rfl ?_) | (with_reducible refine RK.id_ ?_); (first | refine RK.cons_ ?_; (first | refine RK.k_ 0 rfl ?_; refine .p rfl rfl rfl (by exact trivial) ?_ | refine RK.k_ 4 rfl ?_; (refine .ix _ (s := 6) rfl rfl rfl rfl rfl rfl rfl (by rfl) (by omega) ?_) | refine RK.k_ 5 rfl ?_; (refine .lda _ rfl rfl rfl rfl rfl rfl rfl (by exact take_part (z := zT) tc_len (by omega) (Nat.le_of_ble_eq_true rfl) (Nat.le_of_ble_eq_true rfl) rfl rfl) ?_) | refine RK.k_ 6 rfl ?_; (first | refine .alloc _ rfl rfl rfl rfl rfl rfl rfl ?_ | refine .store rfl rfl rfl rfl rfl rfl rfl (by rfl) (by rfl) (by rfl) ?_)) | refine RK.nilT rfl ?_ rfl))
      refine W.loopE (fun s => i ≤ s.1 ∧ s.1 ≤ d.length ∧ (∀ t ∈ ((vals d).take s.1).drop i, t.2 = e) ∧ zv s.2 = ((((vals d).take s.1).drop i).map (·.1)).sum ∧ okZ s.2 ∧ (s.1 = i ∨ s.2 = zcan (zv s.2))) (fun s => i < s.1 ∧ s.1 ≤ d.length ∧ (∀ t ∈ ((vals d).take s.1).drop i, t.2 = e) ∧ zv s.2 = ((((vals d).take s.1).drop i).map (·.1)).sum ∧ okZ s.2 ∧ s.2 = zcan (zv s.2) ∧ (∀ h : s.1 < (vals d).length, (vals d)[s.1].2 ≠ e)) (fun s => d.length - s.1) (fun (s : Nat × Z) => [(7, I s.1), (8, .ptr 1 0), (6, accD 6 0 (can o)), (3, eP d)]) (fun s => [accB tc (can o), some (.cells (tc (s.2, e)))]) ((i, (false, []))) rfl ?_ ?_ ?_ ?_
      · refine ⟨Nat.le_refl _, h2, ?_, ?_, ⟨okN.nil, Nat.zero_le _⟩, .inl rfl⟩
        · intro t ht
          rw [List.drop_eq_nil_of_le (by rw [List.length_take]; omega)] at ht
          cases ht
        · rw [List.drop_eq_nil_of_le (by rw [List.length_take]; omega)]; rfl
      · subst he
        refine .ren [0, 1] [] (Nat.zero_le _) (fun b hb => absurd hb (Nat.not_lt_zero b)) (by simp) ?_ (.acc (by simp) rfl tc_pure (.cell (by simp) rfl (.cons (.refl _) (.cons (.snil _) (.refl _))) (PureL.mem ⟨.bool _, .snil, .int _ _, .int _ _, .int _ _, .int _ _, trivial⟩) trivial))
        repeat (first | exact trivial | refine ⟨⟨_, rfl, .acc rfl⟩, ?_⟩ | refine ⟨⟨_, rfl, .ptr rfl⟩, ?_⟩ | refine ⟨⟨_, rfl, .wk (by repeat (first | exact .int _ _ | exact eP_pure _)) (by exact .refl _)⟩, ?_⟩)
      · rintro ⟨j, z⟩ ⟨k1, k2, k3, k4, k5, k6⟩
        dsimp only at k1 k2 k3 k4 k5 k6 ⊢
        have hds : ∀ h : j < (vals d).length, j = i → (vals d)[j].2 = e := fun h hji => by rw [hva j h, hji, he]
        repeat (first | (with_reducible refine W.id_ ?_); (first | refine W.sdraw mixed (by kernel_rfl) (by kernel_rfl) ?_ | refine W.seq ?_) | (with_reducible refine RK.id_ ?_); (refine RK.cons_ ?_; (refine RK.k_ 0 rfl ?_; refine .p rfl rfl rfl (by exact trivial) ?_)))
        refine .dsplit (fun h5 => ?_) (fun h5 => ?_)
        · have h5' : j < d.length := by omega
          have hva' := hva j (by omega)
          repeat ((with_reducible refine RK.id_ ?_); (first | refine RK.cons_ ?_; (first | refine RK.k_ 0 rfl ?_; refine .p rfl rfl rfl (by exact trivial) ?_ | refine RK.k_ 4 rfl ?_; (refine .ix _ (s := 6) rfl rfl rfl rfl rfl rfl rfl (by rfl) (by omega) ?_) | refine RK.k_ 5 rfl ?_; (first | refine .ldla rfl rfl rfl rfl rfl rfl rfl (by rfl) rfl ?_ | refine .lda _ rfl rfl rfl rfl rfl rfl rfl (by exact take_part (z := zT) tc_len (by omega) (Nat.le_of_ble_eq_true rfl) (Nat.le_of_ble_eq_true rfl) rfl rfl) ?_)) | refine RK.nilT rfl ?_ rfl))
          refine W.cond rfl (fun h6 => ?_) (fun h6 => ?_)
          · have h7 : (d.getD j zT).2 = e := eqM_true h6
            have hz := (hat j h5').1
            repeat (first | (with_reducible refine W.id_ ?_); (first | refine W.sdraw mixed (by kernel_rfl) (by kernel_rfl) ?_ | refine W.blockS ?_ | refine W.skipT rfl ?_) | (with_reducible refine RK.id_ ?_); (refine RK.cons_ ?_; (first | refine RK.k_ 0 rfl ?_; refine .p rfl rfl rfl (by exact trivial) ?_ | refine RK.k_ 4 rfl ?_; (refine .ix _ (s := 6) rfl rfl rfl rfl rfl rfl rfl (by rfl) (by omega) ?_) | refine RK.k_ 5 rfl ?_; (first | refine .ldla rfl rfl rfl rfl rfl rfl rfl (by rfl) rfl ?_ | refine .lda _ rfl rfl rfl rfl rfl rfl rfl (by exact take_part (z := zT) tc_len (by omega) (Nat.le_of_ble_eq_true rfl) (Nat.le_of_ble_eq_true rfl) rfl rfl) ?_))))
            refine .call (Zadd_spec k5 hz) rfl rfl rfl rfl ?_
            repeat (first | (with_reducible refine W.id_ ?_); (refine W.reg ?_) | (with_reducible refine RK.id_ ?_); (first | refine RK.cons_ ?_; (first | refine RK.k_ 0 rfl ?_; refine .p rfl rfl rfl (by exact trivial) ?_ | refine RK.k_ 1 rfl ?_; (refine .pa rfl rfl rfl rfl rfl rfl (by omega) (by omega) ?_) | refine RK.k_ 6 rfl ?_; (refine .store rfl rfl rfl rfl rfl rfl rfl (by rfl) (by rfl) (by rfl) ?_)) | refine RK.nilT rfl ?_ rfl))
            refine .nil ?_ rfl
            have hk3 : ∀ t ∈ ((vals d).take (j + 1)).drop i, t.2 = e := by
              intro t ht
              rw [List.take_succ_eq_append_getElem (by omega), List.drop_append_of_le_length (by rw [List.length_take]; omega)] at ht
              rcases List.mem_append.1 ht with ht | ht
              · exact k3 t ht
              · simp only [List.mem_singleton] at ht
                rw [ht, hva', h7]
            have hk4 : zv z + zv (d.getD j zT).1 = (((vals d).take (j + 1)).drop i |>.map (·.1)).sum := by
              rw [part_succ k1 (by omega), k4, hva']
            have hsm : zsm (zv z + zv (d.getD j zT).1) := by
              unfold zsm
              rw [hk4]
              exact Nat.lt_of_le_of_lt (Nat.le_trans (sum_l1 _) (Nat.le_trans (l1_drop _ _) (l1_take _ _))) hl1
            refine ⟨(j + 1, zcan (zv z + zv (d.getD j zT).1)), by show d.length - (j + 1) < d.length - j; omega, ⟨by show i ≤ j + 1; omega, h5', hk3, by rw [zv_can]; exact hk4, .can hsm, .inr (by rw [zv_can])⟩, .heap ?_ rfl⟩
            repeat (first | exact trivial | refine ⟨⟨_, rfl, .refl _⟩, ?_⟩)
          · have h7 : (d.getD j zT).2 ≠ e := eqM_false h6
            have hne : j ≠ i := fun hji => h7 (by rw [hji, he])
            refine W.exit ⟨(j, z), ⟨by omega, k2, k3, k4, k5, k6.resolve_left hne, fun h => by rw [hva j h]; exact h7⟩, .heap ?_ rfl⟩
            repeat (first | exact trivial | refine ⟨⟨_, rfl, .refl _⟩, ?_⟩)
        · repeat (first | (with_reducible refine W.id_ ?_); (refine W.condF rfl ?_) | (with_reducible refine RK.id_ ?_); (first | refine RK.cons_ ?_; (first | refine .skip rfl rfl ?_ | refine RK.k_ 0 rfl ?_; refine .p rfl rfl rfl (by exact trivial) ?_) | refine RK.nilT rfl ?_ rfl))
          refine W.exit ⟨(j, z), ⟨by have : ¬ ((j : Int) < d.length) := h5; omega, k2, k3, k4, k5, by
            rcases k6 with k6 | k6
            · have : ¬ ((j : Int) < d.length) := h5; omega
            · exact k6, fun h => by have : ¬ ((j : Int) < d.length) := h5; omega⟩, .heap ?_ rfl⟩
          repeat (first | exact trivial | refine ⟨⟨_, rfl, .refl _⟩, ?_⟩)
      · rintro ⟨j, z⟩ ⟨k1, k2, k3, k4, k5, k6, k7⟩
        dsimp only at k1 k2 k3 k4 k5 k6 k7 ⊢
        have hstep := h1.step (e := e) (c := zv z) (by omega) (by omega) k3 k4 hve hsort k1 k7
        repeat (first | (with_reducible refine W.id_ ?_); (refine W.sreg ?_) | (with_reducible refine RK.id_ ?_); (refine RK.cons_ ?_; (first | refine RK.k_ 0 rfl ?_; refine .p rfl rfl rfl (by exact trivial) ?_ | refine RK.k_ 5 rfl ?_; (refine .ldla rfl rfl rfl rfl rfl rfl rfl (by rfl) rfl ?_))))
        refine .call (Sign_spec k5) rfl rfl rfl rfl ?_
        repeat ((with_reducible refine RK.id_ ?_); (first | refine RK.cons_ ?_; (refine RK.k_ 0 rfl ?_; refine .p rfl rfl rfl (by exact trivial) ?_) | refine RK.nilT rfl ?_ rfl))
        refine W.cond_ndec rfl (fun h5 => ?_) (fun h5 => ?_)
        · have hz0 : zv z ≠ 0 := fun h => h5 (by rw [h]; rfl)
          rw [if_neg hz0] at hstep
          have hcl : (can o).length ≤ i := by simpa [can] using h3
          repeat (first | (with_reducible refine W.id_ ?_); (refine W.reg ?_) | (with_reducible refine RK.id_ ?_); (refine RK.cons_ ?_; (first | refine RK.k_ 0 rfl ?_; refine .p rfl rfl rfl (by exact trivial) ?_ | refine RK.k_ 5 rfl ?_; (refine .ldla rfl rfl rfl rfl rfl rfl rfl (by rfl) rfl ?_))))
          refine .grow 2 0 6 64 (can o) [(z, e)] (enc := tc) tc_len rfl rfl rfl rfl rfl rfl rfl rfl rfl rfl (.snap (by rfl)) (by rfl) (by simp) (by simp; omega) (by simp; omega) rfl ?_
          repeat ((with_reducible refine RK.id_ ?_); (refine RK.cons_ ?_; (refine RK.k_ 0 rfl ?_; refine .p rfl rfl rfl (by exact trivial) ?_)))
          refine .nil ?_ rfl
          have hce : can o ++ [(z, e)] = can (o ++ [(zv z, e)]) := by
            unfold can; rw [List.map_append]; simp [← k6]
          rw [hce]
          refine ⟨(j, o ++ [(zv z, e)]), by show d.length - j < d.length - i; omega, ⟨hstep, k2, by show (o ++ [(zv z, e)]).length ≤ j; rw [List.length_append]; simp; omega⟩, .ren [2] [] (Nat.zero_le _) (fun b hb => absurd hb (Nat.not_lt_zero b)) (by simp) ?_ (.acc (by simp) rfl tc_pure trivial)⟩
          repeat (first | exact trivial | refine ⟨⟨_, rfl, .acc rfl⟩, ?_⟩ | refine ⟨⟨_, rfl, .wk (by repeat (first | exact .int _ _ | exact eP_pure _)) (by exact .refl _)⟩, ?_⟩)
        · have hz0 : zv z = 0 := by
            have h5 : sgI (zv z) = 0 := h5
            unfold sgI at h5
            split at h5
            · assumption
            · split at h5 <;> omega
          rw [if_pos hz0] at hstep
          refine .skip ⟨(j, o), by show d.length - j < d.length - i; omega, ⟨hstep, k2, by show o.length ≤ j; omega⟩, .ren [0] [] (Nat.zero_le _) (fun b hb => absurd hb (Nat.not_lt_zero b)) (by simp) ?_ (.acc (by simp) rfl tc_pure trivial)⟩
          repeat (first | exact trivial | refine ⟨⟨_, rfl, .acc rfl⟩, ?_⟩ | refine ⟨⟨_, rfl, .wk (by repeat (first | exact .int _ _ | exact eP_pure _)) (by exact .refl _)⟩, ?_⟩)
    · have : i = d.length := by omega
      subst this
      refine W.exit ⟨(d.length, o), ⟨h1, h3⟩, .heap ?_ rfl⟩
      repeat (first | exact trivial | refine ⟨⟨_, rfl, .refl _⟩, ?_⟩)
  · rintro ⟨i, o⟩ ⟨h1, h3⟩
    dsimp only at h1 h3 ⊢
    have ho : o = nrm (vals p) := Grp.fin (by rw [hvl]; exact h1) fun m hm => by
      rw [← cf_filter p hm, ← Ci]
      exact cf_perm (hpm.map _) m
    repeat (first | (with_reducible refine W.id_ ?_); (refine W.sreg ?_) | (with_reducible refine RK.id_ ?_); (refine RK.cons_ ?_; (refine RK.k_ 0 rfl ?_; refine .p rfl rfl rfl (by exact trivial) ?_)))
    refine .callF (Clip_live rfl (by simp [can]; omega)) rfl rfl rfl rfl ?_; rintro _ _ ⟨rfl, rfl⟩
    repeat ((with_reducible refine RK.id_ ?_); (first | refine RK.cons_ ?_; (refine RK.k_ 0 rfl ?_; refine .p rfl rfl rfl (by exact trivial) ?_) | refine RK.nilT rfl ?_ rfl))
    refine .ret ⟨_, rfl, ?_, ?_⟩
    · rw [ho]
    · rw [ho]

theorem Normal_spec {p : List RT} (hp : Pok p) : PureFn Try.prog 22 [eP p] (eP (can (nrm (vals p)))) :=
  .frz_acc (PureL.mem (ds := [eP p]) ⟨eP_pure _, trivial⟩) tc_len tc_pure (Normal_live0 hp)
theorem Normal_live {p : List RT} (hp : Pok p) (H : Hp) : FnTo Try.prog 22 [eP p] H fun r H' => r = accD 6 H.length (can (nrm (vals p))) ∧ H' = H ++ [accB tc (can (nrm (vals p)))] :=
  .lift (PureL.mem (ds := [eP p]) ⟨eP_pure _, trivial⟩) tc_pure (Normal_live0 hp) H
end Go.Proofs.Ytbdefjbekbbldaa

namespace Go.Proofs.Ytbdefjbekbbldaa
open Go.V Go.N
set_option maxHeartbeats 8000000
set_option maxRecDepth 20000

/- sparse.sameTerm -/
theorem sameTerm_spec {x y : RT} (h : okZ x.1) (h' : okZ y.1) : PureFn Try.prog 60 [eT x, eT y] (.bool (decide ((zv x.1, x.2) = (zv y.1, y.2)))) := by
  refine .of_W (fn := Try.f60) (by repeat (first | exact trivial | refine ⟨(by repeat (exact eT_pure _)), ?_⟩)) Try.call60 Try.func60 rfl rfl ?_
  repeat (first | (with_reducible refine W.id_ ?_); (first | refine W.sreg ?_ | refine W.sdraw mixed (by kernel_rfl) (by kernel_rfl) ?_) | (with_reducible refine RK.id_ ?_); (first | refine RK.cons_ ?_; (first | refine RK.k_ 0 rfl ?_; refine .p rfl rfl rfl (by exact trivial) ?_ | refine RK.k_ 5 rfl ?_; (refine .ldla rfl rfl rfl rfl rfl rfl rfl (by rfl) rfl ?_) | refine RK.k_ 6 rfl ?_; (first | refine .box _ rfl rfl rfl rfl rfl rfl rfl ?_ | refine .alloc _ rfl rfl rfl rfl rfl rfl rfl ?_ | refine .store rfl rfl rfl rfl rfl rfl rfl (by rfl) (by rfl) (by rfl) ?_)) | refine RK.nilT rfl ?_ rfl))
  refine .split (fun h1 => ?_) (fun h1 => ?_)
  · have h2 : x.2 = y.2 := eqM_true h1
    repeat ((with_reducible refine RK.id_ ?_); (refine RK.cons_ ?_; (first | refine RK.k_ 0 rfl ?_; refine .p rfl rfl rfl (by exact trivial) ?_ | refine RK.k_ 5 rfl ?_; (refine .ldla rfl rfl rfl rfl rfl rfl rfl (by rfl) rfl ?_))))
    refine .call (Zsame_spec h h') rfl rfl rfl rfl ?_
    repeat ((with_reducible refine RK.id_ ?_); (first | refine RK.cons_ ?_; (refine RK.k_ 0 rfl ?_; refine .p rfl rfl rfl (by exact trivial) ?_) | refine RK.nilT rfl ?_ rfl))
    refine W.ret ⟨_, rfl, .eq (by repeat (exact .bool _)) ?_, rfl⟩
    rw [h2]; simp
  · have h2 : x.2 ≠ y.2 := eqM_false h1
    repeat ((with_reducible refine RK.id_ ?_); (first | refine RK.cons_ ?_; (first | refine .skip rfl rfl ?_ | refine RK.k_ 0 rfl ?_; refine .p rfl rfl rfl (by exact trivial) ?_) | refine RK.nilT rfl ?_ rfl))
    refine W.ret ⟨_, rfl, .eq (by repeat (exact .bool _)) ?_, rfl⟩
    simp [h2]

/- slices.EqualFunc -/
theorem EqualFunc_spec {g : Nat} {a b : List RT} {R : RT → RT → Prop} [DecidableRel R] (hg : ∀ x ∈ a, ∀ y ∈ b, PureFn Try.prog g [eT x, eT y] (.bool (decide (R x y)))) (hl : a.length ≤ 1000000) (hl' : b.length ≤ 1000000) :
    PureFn Try.prog 59 [eP a, eP b, .fn g []] (.bool (decide (a.length = b.length ∧ ∀ k, k < a.length → R (a.getD k zT) (b.getD k zT)))) := by
  refine .of_W (fn := Try.f59) (by repeat (first | exact trivial | refine ⟨(by repeat (first | exact trivial | exact eP_pure _ | refine .fn (PureL.mem ?_))), ?_⟩)) Try.call59 Try.func59 rfl rfl ?_
  repeat (first | (with_reducible refine W.id_ ?_); (first | refine W.sreg ?_ | refine W.seq ?_) | (with_reducible refine RK.id_ ?_); (first | refine RK.cons_ ?_; (refine RK.k_ 0 rfl ?_; refine .p rfl rfl rfl (by exact trivial) ?_) | refine RK.nilT rfl ?_ rfl))
  refine W.cond_ndec rfl (fun h => ?_) (fun h => ?_)
  · repeat (first | (with_reducible refine W.id_ ?_); (refine W.sreg ?_) | (with_reducible refine RK.id_ ?_); (first | refine RK.cons_ ?_; (refine RK.k_ 0 rfl ?_; refine .p rfl rfl rfl (by exact trivial) ?_) | refine RK.nilT rfl ?_ rfl))
    refine W.ret ⟨_, rfl, .eq (by repeat (exact .bool _)) ?_, rfl⟩
    rw [decide_eq_false (fun hh => by omega)]
  have hab : a.length = b.length := by omega
  repeat (first | (with_reducible refine W.id_ ?_); (first | refine W.sreg ?_ | refine W.seq ?_ | refine W.skipT rfl ?_) | (with_reducible refine RK.id_ ?_); (first | refine RK.cons_ ?_; (refine RK.k_ 0 rfl ?_; refine .p rfl rfl rfl (by exact trivial) ?_) | refine RK.nilT rfl ?_ rfl))
  refine .rangeS (a.length) (fun i s => [(2, .fn g []), (1, eP b), (15, eP a)]) (fun i s => []) (fun i s => s = () ∧ ∀ k, k < i → R (a.getD k zT) (b.getD k zT)) (()) rfl rfl rfl rfl rfl rfl rfl rfl rfl rfl (by omega) ?_ ?_ (fun _ _ => rfl) (fun i s hi Ci => ?_) (fun s Ci => ?_)
  · exact ⟨rfl, fun k hk => absurd hk (Nat.not_lt_zero k)⟩
  · refine .heap ?_ rfl
    repeat (first | exact trivial | refine ⟨⟨_, rfl, .refl _⟩, ?_⟩)
  · have hib : i < b.length := by omega
    have hma : a.getD i zT ∈ a := by rw [show a.getD i zT = a[i] by simp [hi]]; exact List.getElem_mem _
    have hmb : b.getD i zT ∈ b := by rw [show b.getD i zT = b[i] by simp [hib]]; exact List.getElem_mem _
    repeat (first | (with_reducible refine W.id_ ?_); (refine W.sreg ?_) | (with_reducible refine RK.id_ ?_); (first | refine RK.cons_ ?_; (first | refine RK.k_ 0 rfl ?_; refine .p rfl rfl rfl (by exact trivial) ?_ | refine RK.k_ 4 rfl ?_; (refine .ix _ (s := 6) rfl rfl rfl rfl rfl rfl rfl (by rfl) (by omega) ?_) | refine RK.k_ 5 rfl ?_; (first | refine .ldla rfl rfl rfl rfl rfl rfl rfl (by rfl) rfl ?_ | refine .lda _ rfl rfl rfl rfl rfl rfl rfl (by exact take_flat (z := zT) tc_len (by omega) (by omega) rfl) ?_) | refine RK.k_ 6 rfl ?_; (first | refine .alloc _ rfl rfl rfl rfl rfl rfl rfl ?_ | refine .store rfl rfl rfl rfl rfl rfl rfl (by rfl) (by rfl) (by rfl) ?_)) | refine RK.nilT rfl ?_ rfl))
    refine .callP (hg _ hma _ hmb) rfl rfl rfl rfl rfl rfl ?_
    repeat ((with_reducible refine RK.id_ ?_); (first | refine RK.cons_ ?_; (refine RK.k_ 0 rfl ?_; refine .p rfl rfl rfl (by exact trivial) ?_) | refine RK.nilT rfl ?_ rfl))
    refine W.cond_ndec rfl (fun h2 => ?_) (fun h2 => ?_)
    · repeat (first | (with_reducible refine W.id_ ?_); (refine W.sreg ?_) | (with_reducible refine RK.id_ ?_); (first | refine RK.cons_ ?_; (refine RK.k_ 0 rfl ?_; refine .p rfl rfl rfl (by exact trivial) ?_) | refine RK.nilT rfl ?_ rfl))
      refine W.ret ⟨_, rfl, .eq (by repeat (exact .bool _)) ?_, rfl⟩
      rw [decide_eq_false (fun hh => h2 (hh.2 i hi))]
    · refine .skip ⟨(), ⟨rfl, fun k hk => ?_⟩, .ren [] [] (Nat.zero_le _) (fun b hb => absurd hb (Nat.not_lt_zero b)) (by simp) ?_ trivial⟩
      · rcases Nat.lt_succ_iff_lt_or_eq.1 hk with h3 | rfl
        · exact Ci.2 k h3
        · exact h2
      · repeat (first | exact trivial | refine ⟨⟨_, rfl, .wk (by repeat (first | exact trivial | exact .int _ _ | exact eP_pure _ | refine .fn (PureL.mem ?_))) (by exact .refl _)⟩, ?_⟩)
  have hc : a.length = b.length ∧ ∀ k, k < a.length → R (a.getD k zT) (b.getD k zT) := ⟨hab, fun k hk => Ci.2 k hk⟩
  show W _ _ _ _ _ _ _
  repeat (first | (with_reducible refine W.id_ ?_); (refine W.sreg ?_) | (with_reducible refine RK.id_ ?_); (first | refine RK.cons_ ?_; (refine RK.k_ 0 rfl ?_; refine .p rfl rfl rfl (by exact trivial) ?_) | refine RK.nilT rfl ?_ rfl))
  refine W.ret ⟨_, rfl, .eq (by repeat (exact .bool _)) ?_, rfl⟩
  rw [decide_eq_true hc]

theorem small_of {n k K : Nat} (h : n < B32 ^ k) (hk : k ≤ K) : n < B32 ^ K := Nat.lt_of_lt_of_le h (Nat.pow_le_pow_right (by decide) hk)
theorem small_lt {n k : Nat} (h : n < B32 ^ k) (hk : k ≤ 1000000000) : n < B32 ^ 1000000000 := small_of (K := 1000000000) h hk
/- Size of polynomials: bounds on the sum of coefficients, the number of terms, the exponents that count. -/
structure Sz (k n e : Nat) (q : P) : Prop where
  l : l1 q < B32 ^ k
  n : q.length ≤ n
  e : ∀ t ∈ q, V t.2 → t.2.x0 ≤ e ∧ t.2.x1 ≤ e ∧ t.2.x2 ≤ e ∧ t.2.x3 ≤ e
theorem Sz.nrm {k n e : Nat} {q : P} (h : Sz k n e q) : Sz k n e (nrm q) :=
  ⟨Nat.lt_of_le_of_lt (l1_nrm q) h.l, Nat.le_trans (nrm_len q) h.n, fun t ht hv => by
    obtain ⟨_, u, hu, e'⟩ := nrm_mem ht
    rw [← e'] at hv ⊢
    exact h.e u hu hv⟩
theorem Sz.mono {k n e k' n' e' : Nat} {q : P} (h : Sz k n e q) (h1 : k ≤ k') (h2 : n ≤ n') (h3 : e ≤ e') : Sz k' n' e' q :=
  ⟨Nat.lt_of_lt_of_le h.l (Nat.pow_le_pow_right (by decide) h1), Nat.le_trans h.n h2, fun t ht hv => by have := h.e t ht hv; omega⟩
theorem can_ok {k n e : Nat} {q : P} (h : Sz k n e q) (hk : k ≤ 1000000000) : ∀ t ∈ can q, okZ t.1 := fun t ht => by
  obtain ⟨u, hu, rfl⟩ := List.mem_map.1 ht
  exact .can (Nat.lt_of_le_of_lt (l1_mem hu) (small_lt h.l hk))
theorem can_pok {k n e : Nat} {q : P} (h : Sz k n e q) (hk : k ≤ 1000000000) (hn : n ≤ 1000000) : Pok (can q) :=
  ⟨can_ok h hk, by rw [vals_can]; exact small_lt h.l hk, by rw [can, List.length_map]; exact Nat.le_trans h.n hn⟩
theorem pok_sz {k n e : Nat} {p : List RT} (h : Sz k n e (vals p)) (hz : ∀ t ∈ p, okZ t.1) (hk : k ≤ 1000000000) (hn : n ≤ 1000000) : Pok p :=
  ⟨hz, small_lt h.l hk, by have := h.n; rw [vals, List.length_map] at this; omega⟩
theorem can_len (q : P) : (can q).length = q.length := by simp [can]
theorem can_get {q : P} {k : Nat} (h : k < q.length) : (can q).getD k zT = (zcan q[k].1, q[k].2) := by
  simp [can, h]

theorem list_dec {a b : P} : a = b ↔ a.length = b.length ∧ ∀ k, k < a.length → a[k]? = b[k]? := by
  constructor
  · rintro rfl; exact ⟨rfl, fun _ _ => rfl⟩
  · rintro ⟨h1, h2⟩
    refine List.ext_getElem? fun k => ?_
    by_cases hk : k < a.length
    · exact h2 k hk
    · rw [List.getElem?_eq_none (by omega), List.getElem?_eq_none (by omega)]

/- sparse.Same -/
theorem Same_spec {p q : List RT} (hp : Pok p) (hq : Pok q) : PureFn Try.prog 16 [eP p, eP q] (.bool (decide (nrm (vals p) = nrm (vals q)))) := by
  have lp : (can (nrm (vals p))).length ≤ 1000000 := by rw [can_len]; exact Nat.le_trans (nrm_len _) (by simp [vals]; exact hp.n)
  have lq : (can (nrm (vals q))).length ≤ 1000000 := by rw [can_len]; exact Nat.le_trans (nrm_len _) (by simp [vals]; exact hq.n)
  have zp : ∀ t ∈ can (nrm (vals p)), okZ t.1 := fun t ht => by
    obtain ⟨u, hu, rfl⟩ := List.mem_map.1 ht
    exact .can (Nat.lt_of_le_of_lt (Nat.le_trans (l1_mem hu) (l1_nrm _)) hp.l)
  have zq : ∀ t ∈ can (nrm (vals q)), okZ t.1 := fun t ht => by
    obtain ⟨u, hu, rfl⟩ := List.mem_map.1 ht
    exact .can (Nat.lt_of_le_of_lt (Nat.le_trans (l1_mem hu) (l1_nrm _)) hq.l)
  refine .of_W (fn := Try.f16) (by repeat (first | exact trivial | refine ⟨(by repeat (exact eP_pure _)), ?_⟩)) Try.call16 Try.func16 rfl rfl ?_
  repeat (first | (with_reducible refine W.id_ ?_); (refine W.sreg ?_) | (with_reducible refine RK.id_ ?_); (first | refine RK.cons_ ?_; (refine RK.k_ 0 rfl ?_; refine .p rfl rfl rfl (by exact trivial) ?_) | refine RK.nilT rfl ?_ rfl))
  refine .call (Normal_spec hp) rfl rfl rfl rfl ?_
  repeat ((with_reducible refine RK.id_ ?_); (refine RK.cons_ ?_; (refine RK.k_ 0 rfl ?_; refine .p rfl rfl rfl (by exact trivial) ?_)))
  refine .call (Normal_spec hq) rfl rfl rfl rfl ?_
  skip
  refine .call (EqualFunc_spec (R := fun x y => (zv x.1, x.2) = (zv y.1, y.2)) (fun x hx y hy => sameTerm_spec (zp x hx) (zq y hy)) lp lq) rfl rfl rfl rfl ?_
  repeat ((with_reducible refine RK.id_ ?_); (first | refine RK.cons_ ?_; (refine RK.k_ 0 rfl ?_; refine .p rfl rfl rfl (by exact trivial) ?_) | refine RK.nilT rfl ?_ rfl))
  refine W.ret ⟨_, rfl, .eq (by repeat (exact .bool _)) ?_, rfl⟩
  refine congrArg D.bool (decide_eq_decide.2 ?_)
  rw [list_dec, can_len, can_len]
  refine and_congr_right fun hl => ?_
  refine forall_congr' fun k => forall_congr' fun hk => ?_
  rw [can_get hk, can_get (by omega), zv_can, zv_can, List.getElem?_eq_getElem hk, List.getElem?_eq_getElem (by omega)]
  simp only [Option.some.injEq]
end Go.Proofs.Ytbdefjbekbbldaa

namespace Go.Proofs.Ytbdefjbekbbldaa
open Go.V Go.N
set_option maxHeartbeats 8000000
set_option maxRecDepth 20000

/-- The cells of an empty term. -/
def zt : List D := [D.bool false, D.snil, I 0, I 0, I 0, I 0]
theorem repR_len (m : Nat) : (repR m zt).length = m * 6 := by
  induction m with
  | zero => rfl
  | succ m ih => rw [repR, List.length_append, ih, Nat.succ_mul]; show 6 + m * 6 = _; omega
theorem repR_drop (a b : Nat) : (repR (a + b) zt).drop (a * 6) = repR b zt := by
  induction a with
  | zero => simp
  | succ a ih =>
    rw [show a + 1 + b = (a + b) + 1 by omega, repR, Nat.succ_mul, Nat.add_comm, ← List.drop_drop, List.drop_append_of_le_length (by show 6 ≤ 6; omega)]
    exact ih

/- slices.Grow, of nil -/
theorem Grow_pos {m : Nat} (h0 : 0 < m) (h1 : m ≤ 1000000) : FnTo Try.prog 89 [.snil, I m] [] fun r H' => r = .live 0 0 0 m 6 ∧ H' = [some (.cells (repR m zt))] := by
  refine .of_W (fn := Try.f89) Try.call89 Try.func89 rfl (Nat.le_of_ble_eq_true rfl) ?_
  repeat (first | (with_reducible refine W.id_ ?_); (first | refine W.sreg ?_ | refine W.seq ?_ | refine W.skipT rfl ?_ | refine W.condF rfl ?_) | (with_reducible refine RK.id_ ?_); (first | refine RK.cons_ ?_; (refine RK.k_ 0 rfl ?_; refine .p rfl rfl rfl (by exact trivial) ?_) | refine RK.nilT rfl ?_ rfl))
  iterate 1 refine .p rfl rfl rfl trivial ?_
  repeat (first | (with_reducible refine W.id_ ?_); (refine W.sreg ?_) | (with_reducible refine RK.id_ ?_); (first | refine RK.cons_ ?_; (first | refine RK.k_ 0 rfl ?_; refine .p rfl rfl rfl (by exact trivial) ?_ | refine RK.k_ 1 rfl ?_; (refine .pa rfl rfl rfl rfl rfl rfl (by omega) (by omega) ?_)) | refine RK.nilT rfl ?_ rfl))
  refine W.cond_dec rfl (fun h2 => ?_) (fun h2 => ?_)
  · repeat (first | (with_reducible refine W.id_ ?_); (refine W.reg ?_) | (with_reducible refine RK.id_ ?_); (refine RK.cons_ ?_; (refine RK.k_ 0 rfl ?_; refine .p rfl rfl rfl (by exact trivial) ?_)))
    iterate 1 refine .p rfl rfl rfl trivial ?_
    repeat ((with_reducible refine RK.id_ ?_); (refine RK.cons_ ?_; (first | refine RK.k_ 0 rfl ?_; refine .p rfl rfl rfl (by exact trivial) ?_ | refine RK.k_ 7 rfl ?_; (refine .p rfl rfl rfl (by omega) ?_))))
    refine .appMk 0 m 6 64 rfl rfl rfl rfl rfl rfl rfl rfl rfl (Nat.le_of_ble_eq_true rfl) rfl rfl (by omega) (by omega) (by omega) (by omega) ?_
    repeat (first | (with_reducible refine W.id_ ?_); (refine W.sreg ?_) | (with_reducible refine RK.id_ ?_); (first | refine RK.cons_ ?_; (first | refine RK.k_ 0 rfl ?_; refine .p rfl rfl rfl (by exact trivial) ?_ | refine RK.k_ 7 rfl ?_; (refine .p rfl rfl rfl (by omega) ?_)) | refine RK.nilT rfl ?_ rfl))
    exact .ret ⟨_, rfl, rfl, rfl⟩
  · omega
theorem Grow_zero : FnTo Try.prog 89 [.snil, I 0] [] fun r H' => r = .snil ∧ H' = [] := by
  refine .of_W (fn := Try.f89) Try.call89 Try.func89 rfl (Nat.le_of_ble_eq_true rfl) ?_
  repeat (first | (with_reducible refine W.id_ ?_); (first | refine W.sreg ?_ | refine W.seq ?_ | refine W.skipT rfl ?_ | refine W.condF rfl ?_) | (with_reducible refine RK.id_ ?_); (first | refine RK.cons_ ?_; (refine RK.k_ 0 rfl ?_; refine .p rfl rfl rfl (by exact trivial) ?_) | refine RK.nilT rfl ?_ rfl))
  iterate 1 refine .p rfl rfl rfl trivial ?_
  repeat (first | (with_reducible refine W.id_ ?_); (first | refine W.sreg ?_ | refine W.skipT rfl ?_ | refine W.condF rfl ?_) | (with_reducible refine RK.id_ ?_); (first | refine RK.cons_ ?_; (first | refine RK.k_ 0 rfl ?_; refine .p rfl rfl rfl (by exact trivial) ?_ | refine RK.k_ 1 rfl ?_; (refine .pa rfl rfl rfl rfl rfl rfl (by omega) (by omega) ?_)) | refine RK.nilT rfl ?_ rfl))
  exact .ret ⟨_, rfl, rfl, rfl⟩

theorem overR_0 : ∀ {b c : List D}, c.length ≤ b.length → overR b 0 c = some (c ++ b.drop c.length)
  | b, [], _ => by cases b <;> rfl
  | [], c :: cs, h => absurd h (by simp)
  | b :: bs, c :: cs, h => by
    rw [overR, overR_0 (by simpa using h)]; rfl
theorem overR_end {b c : List D} : ∀ {a : List D} {k : Nat}, k = a.length → c.length ≤ b.length → overR (a ++ b) k c = some (a ++ c ++ b.drop c.length)
  | [], _, rfl, h => overR_0 h
  | x :: a, _, rfl, h => by
    show overR (x :: (a ++ b)) (a.length + 1) c = _
    cases c <;> rw [overR, overR_end (a := a) rfl h] <;> rfl

/-- A row of polynomials. -/
abbrev ePP (ps : List (List RT)) : D := .snap (ps.map fun p => eP p) ps.length false
theorem ePP_pure (ps : List (List RT)) : Pure (ePP ps) := .snap fun d hd => by
  obtain ⟨p, _, rfl⟩ := List.mem_map.1 hd
  exact eP_pure p

/- slices.Concat -/
theorem Concat_spec {ps : List (List RT)} (hn : ps.flatten.length ≤ 1000000) (hl : ps.length ≤ 1000000) : PureFn Try.prog 61 [ePP ps] (eP ps.flatten) := by
  have hlen : ∀ i, i ≤ ps.length → (ps.take i).flatten.length ≤ ps.flatten.length := fun i hi => by
    conv => rhs; rw [← List.take_append_drop i ps, List.flatten_append, List.length_append]
    omega
  have hstep : ∀ i, i < ps.length → (ps.take (i + 1)).flatten = (ps.take i).flatten ++ ps.getD i [] := fun i hi => by
    rw [List.take_succ_eq_append_getElem hi, List.flatten_append]; simp [hi]
  refine .of_W (fn := Try.f61) (by repeat (first | exact trivial | refine ⟨(by repeat (exact ePP_pure _)), ?_⟩)) Try.call61 Try.func61 rfl rfl ?_
  repeat (first | (with_reducible refine W.id_ ?_); (first | refine W.sreg ?_ | refine W.seq ?_) | (with_reducible refine RK.id_ ?_); (first | refine RK.cons_ ?_; (refine RK.k_ 0 rfl ?_; refine .p rfl rfl rfl (by exact trivial) ?_) | refine RK.nilT rfl ?_ rfl))
  refine .rangeS (ps.length) (fun i s => [(3, I (ps.take i).flatten.length), (9, ePP ps), (0, ePP ps)]) (fun i s => []) (fun i s => s = ()) (()) rfl rfl rfl rfl rfl rfl rfl rfl rfl rfl (by omega) ?_ ?_ (fun _ _ => rfl) (fun i s hi Ci => ?_) (fun s Ci => ?_)
  · rfl
  · refine .heap ?_ rfl
    repeat (first | exact trivial | refine ⟨⟨_, rfl, .refl _⟩, ?_⟩)
  · have h1 := hlen (i + 1) (by omega)
    rw [hstep i hi, List.length_append] at h1
    repeat (first | (with_reducible refine W.id_ ?_); (first | refine W.sreg ?_ | refine W.condF rfl ?_) | (with_reducible refine RK.id_ ?_); (first | refine RK.cons_ ?_; (first | refine RK.k_ 0 rfl ?_; refine .p rfl rfl rfl (by exact trivial) ?_ | refine RK.k_ 1 rfl ?_; (refine .pa rfl rfl rfl rfl rfl rfl (by omega) (by omega) ?_) | refine RK.k_ 4 rfl ?_; (refine .ix _ (s := 1) rfl rfl rfl rfl rfl rfl rfl (by rfl) (by omega) ?_) | refine RK.k_ 5 rfl ?_; (refine .ld _ rfl rfl rfl rfl rfl rfl (by exact get_map (f := fun p => eP p) (z := ([] : List RT)) (by omega) rfl) ?_)) | refine RK.nilT rfl ?_ rfl))
    refine .skip ⟨(), rfl, .heap ?_ rfl⟩
    dsimp only
    rw [hstep i hi, List.length_append]
    repeat (first | exact trivial | refine ⟨⟨_, rfl, .refl _⟩, ?_⟩)
  rw [List.take_of_length_le (Nat.le_refl _)]
  show W _ _ _ _ _ _ _
  repeat (first | (with_reducible refine W.id_ ?_); (refine W.sreg ?_) | (with_reducible refine RK.id_ ?_); (refine RK.cons_ ?_; (refine RK.k_ 0 rfl ?_; refine .p rfl rfl rfl (by exact trivial) ?_)))
  by_cases h0 : ps.flatten.length = 0
  · have he : ∀ i, i < ps.length → ps.getD i [] = [] := fun i hi => by
      have h1 := hlen (i + 1) (by omega)
      rw [hstep i hi, List.length_append] at h1
      exact List.length_eq_zero_iff.1 (by omega)
    rw [h0]
    refine .callF (Grow_zero) rfl rfl rfl rfl ?_; rintro _ _ ⟨rfl, rfl⟩
    repeat (first | (with_reducible refine W.id_ ?_); (first | refine W.sreg ?_ | refine W.seq ?_) | (with_reducible refine RK.id_ ?_); (first | refine RK.cons_ ?_; (refine RK.k_ 0 rfl ?_; refine .p rfl rfl rfl (by exact trivial) ?_) | refine RK.nilT rfl ?_ rfl))
    refine .rangeS (ps.length) (fun i s => [(6, .snil), (25, ePP ps)]) (fun i s => []) (fun i s => s = ()) (()) rfl rfl rfl rfl rfl rfl rfl rfl rfl rfl (by omega) ?_ ?_ (fun _ _ => rfl) (fun i s hi Ci => ?_) (fun s Ci => ?_)
    · rfl
    · refine .heap ?_ rfl
      repeat (first | exact trivial | refine ⟨⟨_, rfl, .refl _⟩, ?_⟩)
    · repeat (first | (with_reducible refine W.id_ ?_); (first | refine W.sreg ?_ | refine W.reg ?_) | (with_reducible refine RK.id_ ?_); (first | refine RK.cons_ ?_; (first | refine RK.k_ 0 rfl ?_; refine .p rfl rfl rfl (by exact trivial) ?_ | refine RK.k_ 4 rfl ?_; (refine .ix _ (s := 1) rfl rfl rfl rfl rfl rfl rfl (by rfl) (by omega) ?_) | refine RK.k_ 5 rfl ?_; (refine .ld _ rfl rfl rfl rfl rfl rfl (by exact get_map (f := fun p => eP p) (z := ([] : List RT)) (by omega) rfl) ?_)) | refine RK.nilT rfl ?_ rfl))
      rw [he i hi]
      refine .app0 (cs := []) (rd := []) rfl rfl rfl rfl rfl rfl (.inl rfl) (.snap rfl) ?_
      repeat ((with_reducible refine RK.id_ ?_); (refine RK.cons_ ?_; (refine RK.k_ 0 rfl ?_; refine .p rfl rfl rfl (by exact trivial) ?_)))
      refine .nil ⟨(), rfl, .heap ?_ rfl⟩ rfl
      repeat (first | exact trivial | refine ⟨⟨_, rfl, .refl _⟩, ?_⟩)
    show W _ _ _ _ _ _ _
    repeat (first | (with_reducible refine W.id_ ?_); (refine W.sreg ?_) | (with_reducible refine RK.id_ ?_); (first | refine RK.cons_ ?_; (refine RK.k_ 0 rfl ?_; refine .p rfl rfl rfl (by exact trivial) ?_) | refine RK.nilT rfl ?_ rfl))
    refine W.ret ⟨_, rfl, ?_, rfl⟩
    rw [List.length_eq_zero_iff.1 h0]
    exact .pure .snil (.snil _)
  · have hc : ∀ i, i ≤ ps.length → (ps.take i).flatten.length + (ps.flatten.length - (ps.take i).flatten.length) = ps.flatten.length := fun i hi => by have := hlen i hi; omega
    refine .callF (Grow_pos (m := ps.flatten.length) (by omega) hn) rfl rfl rfl rfl ?_; rintro _ _ ⟨rfl, rfl⟩
    repeat (first | (with_reducible refine W.id_ ?_); (first | refine W.sreg ?_ | refine W.seq ?_) | (with_reducible refine RK.id_ ?_); (first | refine RK.cons_ ?_; (refine RK.k_ 0 rfl ?_; refine .p rfl rfl rfl (by exact trivial) ?_) | refine RK.nilT rfl ?_ rfl))
    refine .rangeS (ps.length) (fun i s => [(6, .live 0 0 (ps.take i).flatten.length ps.flatten.length 6), (25, ePP ps)]) (fun i s => [some (.cells ((ps.take i).flatten.flatMap tc ++ repR (ps.flatten.length - (ps.take i).flatten.length) zt))]) (fun i s => s = ()) (()) rfl rfl rfl rfl rfl rfl rfl rfl rfl rfl (by omega) ?_ ?_ (fun _ _ => rfl) (fun i s hi Ci => ?_) (fun s Ci => ?_)
    · rfl
    · refine .heap ?_ rfl
      repeat (first | exact trivial | refine ⟨⟨_, rfl, .refl _⟩, ?_⟩)
    · have h1 := hlen (i + 1) (by omega)
      rw [hstep i hi, List.length_append] at h1
      repeat (first | (with_reducible refine W.id_ ?_); (first | refine W.sreg ?_ | refine W.reg ?_) | (with_reducible refine RK.id_ ?_); (first | refine RK.cons_ ?_; (first | refine RK.k_ 0 rfl ?_; refine .p rfl rfl rfl (by exact trivial) ?_ | refine RK.k_ 4 rfl ?_; (refine .ix _ (s := 1) rfl rfl rfl rfl rfl rfl rfl (by rfl) (by omega) ?_) | refine RK.k_ 5 rfl ?_; (refine .ld _ rfl rfl rfl rfl rfl rfl (by exact get_map (f := fun p => eP p) (z := ([] : List RT)) (by omega) rfl) ?_)) | refine RK.nilT rfl ?_ rfl))
      refine .appIn (rs := (ps.take (i + 1)).flatten.flatMap tc ++ repR (ps.flatten.length - (ps.take (i + 1)).flatten.length) zt) (cs := (ps.getD i []).flatMap tc) (m := (ps.getD i []).length) rfl rfl rfl rfl rfl rfl rfl (.snap (flatMap_len tc_len _)) h1 ?_ rfl ?_
      · rw [hstep i hi, List.flatMap_append, Nat.zero_add]
        rw [overR_end (by rw [flatMap_len tc_len]; rfl) (by rw [flatMap_len tc_len, repR_len]; exact Nat.mul_le_mul_right 6 (by omega))]
        rw [flatMap_len tc_len, List.length_append]
        have := repR_drop (ps.getD i []).length (ps.flatten.length - ((ps.take i).flatten.length + (ps.getD i []).length))
        rw [show (ps.getD i []).length + (ps.flatten.length - ((ps.take i).flatten.length + (ps.getD i []).length)) = ps.flatten.length - (ps.take i).flatten.length by omega] at this
        rw [this]
      repeat ((with_reducible refine RK.id_ ?_); (refine RK.cons_ ?_; (refine RK.k_ 0 rfl ?_; refine .p rfl rfl rfl (by exact trivial) ?_)))
      refine .nil ⟨(), rfl, .heap ?_ rfl⟩ rfl
      rw [show (ps.take i).flatten.length + (ps.getD i []).length = (ps.take (i + 1)).flatten.length by rw [hstep i hi, List.length_append]]
      repeat (first | exact trivial | refine ⟨⟨_, rfl, .refl _⟩, ?_⟩)
    rw [List.take_of_length_le (Nat.le_refl _), Nat.sub_self, repR, List.append_nil]
    show W _ _ _ _ _ _ _
    repeat (first | (with_reducible refine W.id_ ?_); (refine W.sreg ?_) | (with_reducible refine RK.id_ ?_); (first | refine RK.cons_ ?_; (refine RK.k_ 0 rfl ?_; refine .p rfl rfl rfl (by exact trivial) ?_) | refine RK.nilT rfl ?_ rfl))
    refine W.ret ⟨_, rfl, frz_flat rfl rfl, rfl⟩
end Go.Proofs.Ytbdefjbekbbldaa

namespace Go.Proofs.Ytbdefjbekbbldaa
open Go.V Go.N
set_option maxHeartbeats 8000000
set_option maxRecDepth 20000

theorem vals_append (p q : List RT) : vals (p ++ q) = vals p ++ vals q := List.map_append
theorem vals_len (p : List RT) : (vals p).length = p.length := List.length_map _
theorem Pok.append {p q : List RT} (hp : ∀ t ∈ p, okZ t.1) (hq : ∀ t ∈ q, okZ t.1) (hl : l1 (vals p) + l1 (vals q) < B32 ^ 1000000000) (hn : p.length + q.length ≤ 1000000) : Pok (p ++ q) :=
  ⟨fun t ht => (List.mem_append.1 ht).elim (hp t) (hq t), by rw [vals_append, l1_append]; exact hl, by rw [List.length_append]; exact hn⟩

/- sparse.Add -/
theorem Add_spec {p q : List RT} (h : Pok (p ++ q)) : PureFn Try.prog 17 [eP p, eP q] (eP (can (nrm (vals p ++ vals q)))) := by
  have hn := h.n
  rw [← vals_append]
  refine .of_W (fn := Try.f17) (by repeat (first | exact trivial | refine ⟨(by repeat (exact eP_pure _)), ?_⟩)) Try.call17 Try.func17 rfl rfl ?_
  repeat (first | (with_reducible refine W.id_ ?_); (refine W.sreg ?_) | (with_reducible refine RK.id_ ?_); (first | refine RK.cons_ ?_; (refine RK.k_ 0 rfl ?_; refine .p rfl rfl rfl (by exact trivial) ?_) | refine RK.nilT rfl ?_ rfl))
  refine .call ((Concat_spec (ps := [p, q]) (by simpa using h.n) (by simp)).args (.cons .tight .nil)) rfl rfl rfl rfl ?_
  skip
  refine .call (Normal_spec (p := [p, q].flatten) (by simpa using h)) rfl rfl rfl rfl ?_
  repeat ((with_reducible refine RK.id_ ?_); (first | refine RK.cons_ ?_; (refine RK.k_ 0 rfl ?_; refine .p rfl rfl rfl (by exact trivial) ?_) | refine RK.nilT rfl ?_ rfl))
  refine W.ret ⟨_, rfl, .eq (by repeat (exact eP_pure _)) ?_, rfl⟩
  simp


/-- The first exponents of a sum. -/
def pt : Nat → M → M → M
  | 0, a, _ => a
  | 1, a, b => ⟨a.x0 + b.x0, a.x1, a.x2, a.x3⟩
  | 2, a, b => ⟨a.x0 + b.x0, a.x1 + b.x1, a.x2, a.x3⟩
  | 3, a, b => ⟨a.x0 + b.x0, a.x1 + b.x1, a.x2 + b.x2, a.x3⟩
  | _, a, b => a.add b
theorem getD_can {q : P} {k : Nat} (h : k < q.length) : (can q).getD k zT = (zcan (q.getD k (0, ⟨0, 0, 0, 0⟩)).1, (q.getD k (0, ⟨0, 0, 0, 0⟩)).2) := by
  rw [can_get h]; simp [h]
theorem getD_mem {α : Type} {q : List α} {k : Nat} {z : α} (h : k < q.length) : q.getD k z ∈ q := by
  rw [show q.getD k z = q[k] by simp [h]]; exact List.getElem_mem _
theorem take_next {α : Type} {q : List α} {k : Nat} {z : α} (h : k < q.length) : q.take (k + 1) = q.take k ++ [q.getD k z] := by
  rw [List.take_succ_eq_append_getElem h]; simp [h]

abbrev tz : Int × M := (0, ⟨0, 0, 0, 0⟩)
/-- What the product of two canonical rows has gathered: whole rows, then a part of one. -/
def gat (a b : P) (i k : Nat) : P := mulL (a.take i) b ++ mul1 (a.getD i tz) (b.take k)
theorem gat_next {a b : P} {i k : Nat} (h : k < b.length) : gat a b i (k + 1) = gat a b i k ++ [((a.getD i tz).1 * (b.getD k tz).1, (a.getD i tz).2.add (b.getD k tz).2)] := by
  unfold gat
  rw [take_next h, mul1_append, List.append_assoc]; rfl
theorem gat_end {a b : P} {i : Nat} (h : i < a.length) : gat a b i b.length = mulL (a.take (i + 1)) b := by
  unfold gat
  rw [take_next (z := tz) h, mulL_append, List.take_of_length_le (Nat.le_refl _)]; simp [mulL]
theorem gat_0 {a b : P} {i : Nat} : gat a b i 0 = mulL (a.take i) b := by
  unfold gat; simp [mul1]
theorem gat_len {a b : P} {i k : Nat} (hi : i < a.length) (hk : k ≤ b.length) : (gat a b i k).length ≤ a.length * b.length := by
  unfold gat
  rw [List.length_append, mulL_len, mul1_len, List.length_take, List.length_take, Nat.min_eq_left (by omega), Nat.min_eq_left hk]
  have : (i + 1) * b.length ≤ a.length * b.length := Nat.mul_le_mul_right _ hi
  rw [Nat.succ_mul] at this; omega
theorem can_append (a b : P) : can (a ++ b) = can a ++ can b := List.map_append

/- sparse.Mul -/
theorem Mul_spec {p q : List RT} {a b : P} (hp : Pok p) (hq : Pok q) (ea : a = nrm (vals p)) (eb : b = nrm (vals q)) {e : Int} (he : e ≤ 4611686018427387903) (ha : ∀ t ∈ a, Mb e t.2) (hb : ∀ t ∈ b, Mb e t.2) (hl : l1 a * l1 b < B32 ^ 1000000000) (hn : a.length * b.length ≤ 1000000) :
    PureFn Try.prog 14 [eP p, eP q] (eP (can (nrm (mulL a b)))) := by
  have hla : a.length ≤ 1000000 := by rw [ea]; exact Nat.le_trans (nrm_len _) (by rw [vals_len]; exact hp.n)
  have hlb : b.length ≤ 1000000 := by rw [eb]; exact Nat.le_trans (nrm_len _) (by rw [vals_len]; exact hq.n)
  have ka : (can a).length = a.length := can_len a
  have kb : (can b).length = b.length := can_len b
  have za : ∀ i, i < a.length → okZ ((can a).getD i zT).1 := fun i hi => by
    have hm : (can a).getD i zT ∈ can a := getD_mem (by omega)
    obtain ⟨u, hu, e'⟩ := List.mem_map.1 hm
    rw [← e']
    exact .can (Nat.lt_of_le_of_lt (l1_mem hu) (by rw [ea]; exact Nat.lt_of_le_of_lt (l1_nrm _) hp.l))
  have zb : ∀ i, i < b.length → okZ ((can b).getD i zT).1 := fun i hi => by
    have hm : (can b).getD i zT ∈ can b := getD_mem (by omega)
    obtain ⟨u, hu, e'⟩ := List.mem_map.1 hm
    rw [← e']
    exact .can (Nat.lt_of_le_of_lt (l1_mem hu) (by rw [eb]; exact Nat.lt_of_le_of_lt (l1_nrm _) hq.l))
  refine .of_W (fn := Try.f14) (by repeat (first | exact trivial | refine ⟨(by repeat (exact eP_pure _)), ?_⟩)) Try.call14 Try.func14 rfl rfl ?_
  repeat (first | (with_reducible refine W.id_ ?_); (refine W.sreg ?_) | (with_reducible refine RK.id_ ?_); (first | refine RK.cons_ ?_; (refine RK.k_ 0 rfl ?_; refine .p rfl rfl rfl (by exact trivial) ?_) | refine RK.nilT rfl ?_ rfl))
  refine .call (Normal_spec hp) rfl rfl rfl rfl ?_
  repeat ((with_reducible refine RK.id_ ?_); (refine RK.cons_ ?_; (refine RK.k_ 0 rfl ?_; refine .p rfl rfl rfl (by exact trivial) ?_)))
  refine .call (Normal_spec hq) rfl rfl rfl rfl ?_
  rw [← ea, ← eb]
  repeat (first | (with_reducible refine W.id_ ?_); (first | refine W.sreg ?_ | refine W.seq ?_) | (with_reducible refine RK.id_ ?_); (first | refine RK.cons_ ?_; (refine RK.k_ 0 rfl ?_; refine .p rfl rfl rfl (by exact trivial) ?_) | refine RK.nilT rfl ?_ rfl))
  refine .rangeS ((can a).length) (fun i s => [(5, accD 6 0 s), (7, eP (can b)), (18, eP (can a))]) (fun i s => [accB tc s]) (fun i s => s = can (mulL (a.take i) b)) ([]) rfl rfl rfl rfl rfl rfl rfl rfl rfl rfl (by omega) ?_ ?_ (fun _ _ => rfl) (fun i s hi Ci => ?_) (fun s Ci => ?_)
  · rfl
  · refine .ren [0] [] (Nat.zero_le _) (fun b hb => absurd hb (Nat.not_lt_zero b)) (by simp) ?_ trivial
    repeat (first | exact trivial | refine ⟨⟨_, rfl, .wk (by repeat (first | exact .int _ _ | exact .snil | exact eP_pure _)) (by exact .refl _)⟩, ?_⟩)
  · have hi : i < a.length := by omega
    repeat (first | (with_reducible refine W.id_ ?_); (refine W.sreg ?_) | (with_reducible refine RK.id_ ?_); (first | refine RK.cons_ ?_; (first | refine RK.k_ 0 rfl ?_; refine .p rfl rfl rfl (by exact trivial) ?_ | refine RK.k_ 4 rfl ?_; (refine .ix _ (s := 6) rfl rfl rfl rfl rfl rfl rfl (by rfl) (by omega) ?_) | refine RK.k_ 5 rfl ?_; (refine .lda _ rfl rfl rfl rfl rfl rfl rfl (by exact take_flat (z := zT) tc_len (by omega) (by omega) rfl) ?_) | refine RK.k_ 6 rfl ?_; (first | refine .alloc _ rfl rfl rfl rfl rfl rfl rfl ?_ | refine .store rfl rfl rfl rfl rfl rfl rfl (by rfl) (by rfl) (by rfl) ?_)) | refine RK.nilT rfl ?_ rfl))
    refine .rangeS ((can b).length) (fun k r => [(5, accD 6 0 r), (9, .ptr 1 0), (24, eP (can b)), (7, eP (can b)), (18, eP (can a)), (20, I i), (19, I (can a).length)]) (fun k r => [accB tc r, some (.cells (tc ((can a).getD i zT)))]) (fun k r => r = can (gat a b i k)) (s) rfl rfl rfl rfl rfl rfl rfl rfl rfl rfl (by omega) ?_ ?_ (fun _ _ => rfl) (fun k r hk Ck => ?_) (fun r Ck => ?_)
    · rw [Ci, gat_0]
    · refine .ren [0, 1] [] (Nat.zero_le _) (fun b hb => absurd hb (Nat.not_lt_zero b)) (by simp) ?_ (.acc (by simp) rfl tc_pure (.cell (by simp) rfl (.refl _) (tc_pure _) trivial))
      repeat (first | exact trivial | refine ⟨⟨_, rfl, .acc rfl⟩, ?_⟩ | refine ⟨⟨_, rfl, .ptr rfl⟩, ?_⟩ | refine ⟨⟨_, rfl, .wk (by repeat (first | exact .int _ _ | exact eP_pure _)) (by exact .refl _)⟩, ?_⟩)
    · have hk' : k < b.length := by omega
      repeat (first | (with_reducible refine W.id_ ?_); (first | refine W.sreg ?_ | refine W.sdraw mixed (by kernel_rfl) (by kernel_rfl) ?_) | (with_reducible refine RK.id_ ?_); (first | refine RK.cons_ ?_; (first | refine RK.k_ 0 rfl ?_; refine .p rfl rfl rfl (by exact trivial) ?_ | refine RK.k_ 4 rfl ?_; (refine .ix _ (s := 6) rfl rfl rfl rfl rfl rfl rfl (by rfl) (by omega) ?_) | refine RK.k_ 5 rfl ?_; (first | refine .ldla rfl rfl rfl rfl rfl rfl rfl (by rfl) rfl ?_ | refine .lda _ rfl rfl rfl rfl rfl rfl rfl (by exact take_flat (z := zT) tc_len (by omega) (by omega) rfl) ?_) | refine RK.k_ 6 rfl ?_; (first | refine .alloc _ rfl rfl rfl rfl rfl rfl rfl ?_ | refine .store rfl rfl rfl rfl rfl rfl rfl (by rfl) (by rfl) (by rfl) ?_)) | refine RK.nilT rfl ?_ rfl))
      refine .call (Zmul_spec (za i hi) (zb k hk')) rfl rfl rfl rfl ?_
      repeat (first | (with_reducible refine W.id_ ?_); (first | refine W.sreg ?_ | refine W.seq ?_) | (with_reducible refine RK.id_ ?_); (first | refine RK.cons_ ?_; (first | refine RK.k_ 0 rfl ?_; refine .p rfl rfl rfl (by exact trivial) ?_ | refine RK.k_ 5 rfl ?_; (refine .ldla rfl rfl rfl rfl rfl rfl rfl (by rfl) rfl ?_) | refine RK.k_ 6 rfl ?_; (first | refine .alloc _ rfl rfl rfl rfl rfl rfl rfl ?_ | refine .store rfl rfl rfl rfl rfl rfl rfl (by rfl) (by rfl) (by rfl) ?_)) | refine RK.nilT rfl ?_ rfl))
      have hbx : Mb e ((can a).getD i zT).2 := by rw [getD_can hi]; exact ha _ (getD_mem hi)
      have hby : Mb e ((can b).getD k zT).2 := by rw [getD_can hk']; exact hb _ (getD_mem hk')
      unfold Mb at hbx hby
      refine W.loopE (fun j => j ≤ 4) (fun j => j = 4) (fun j => 4 - j) (fun j => [(38, I (j : Int)), (12, .ptr 3 0), (11, .ptr 2 0), (5, accD 6 0 r), (9, .ptr 1 0), (24, eP (can b)), (7, eP (can b)), (18, eP (can a)), (20, I i), (19, I (can a).length), (26, I k), (25, I (can b).length)]) (fun j => [accB tc r, some (.cells (tc ((can a).getD i zT))), some (.cells (tc ((can b).getD k zT))), some (.cells (tc (zcan (zv ((can a).getD i zT).1 * zv ((can b).getD k zT).1), pt j ((can a).getD i zT).2 ((can b).getD k zT).2)))]) (0) rfl ?_ ?_ ?_ ?_
      · exact Nat.zero_le _
      · refine .heap ?_ rfl
        repeat (first | exact trivial | refine ⟨⟨_, rfl, .refl _⟩, ?_⟩)
      · intro j hj
        obtain rfl | rfl | rfl | rfl | rfl : j = 0 ∨ j = 1 ∨ j = 2 ∨ j = 3 ∨ j = 4 := by omega
        · have q0 : (zcan (zv ((can a).getD i zT).1 * zv ((can b).getD k zT).1), pt 0 ((can a).getD i zT).2 ((can b).getD k zT).2).2.x0 = ((can a).getD i zT).2.x0 := rfl
          repeat (first | (with_reducible refine W.id_ ?_); (first | refine W.sreg ?_ | refine W.reg ?_ | refine W.draw mixed (by kernel_rfl) (by kernel_rfl) ?_ | refine W.seq ?_ | refine W.blockS ?_ | refine W.skipT rfl ?_ | refine W.condT rfl ?_) | (with_reducible refine RK.id_ ?_); (first | refine RK.cons_ ?_; (first | refine RK.k_ 0 rfl ?_; refine .p rfl rfl rfl (by exact trivial) ?_ | refine RK.k_ 1 rfl ?_; (refine .pa rfl rfl rfl rfl rfl rfl (by omega) (by omega) ?_) | refine RK.k_ 4 rfl ?_; (refine .p rfl rfl rfl (by omega) ?_) | refine RK.k_ 5 rfl ?_; (refine .ldl rfl rfl rfl rfl rfl rfl rfl (by rfl) (by rfl) ?_) | refine RK.k_ 6 rfl ?_; (refine .store rfl rfl rfl rfl rfl rfl rfl (by rfl) (by rfl) (by rfl) ?_)) | refine RK.nilT rfl ?_ rfl))
          refine .nil ?_ rfl
          refine ⟨1, by show 4 - 1 < 4 - 0; omega, by show 1 ≤ 4; omega, .heap ?_ rfl⟩
          repeat (first | exact trivial | refine ⟨⟨_, rfl, .refl _⟩, ?_⟩)
        · have q0 : (zcan (zv ((can a).getD i zT).1 * zv ((can b).getD k zT).1), pt 1 ((can a).getD i zT).2 ((can b).getD k zT).2).2.x1 = ((can a).getD i zT).2.x1 := rfl
          repeat (first | (with_reducible refine W.id_ ?_); (first | refine W.sreg ?_ | refine W.reg ?_ | refine W.draw mixed (by kernel_rfl) (by kernel_rfl) ?_ | refine W.seq ?_ | refine W.blockS ?_ | refine W.skipT rfl ?_ | refine W.condT rfl ?_) | (with_reducible refine RK.id_ ?_); (first | refine RK.cons_ ?_; (first | refine RK.k_ 0 rfl ?_; refine .p rfl rfl rfl (by exact trivial) ?_ | refine RK.k_ 1 rfl ?_; (refine .pa rfl rfl rfl rfl rfl rfl (by omega) (by omega) ?_) | refine RK.k_ 4 rfl ?_; (refine .p rfl rfl rfl (by omega) ?_) | refine RK.k_ 5 rfl ?_; (refine .ldl rfl rfl rfl rfl rfl rfl rfl (by rfl) (by rfl) ?_) | refine RK.k_ 6 rfl ?_; (refine .store rfl rfl rfl rfl rfl rfl rfl (by rfl) (by rfl) (by rfl) ?_)) | refine RK.nilT rfl ?_ rfl))
          refine .nil ?_ rfl
          refine ⟨2, by show 4 - 2 < 4 - 1; omega, by show 2 ≤ 4; omega, .heap ?_ rfl⟩
          repeat (first | exact trivial | refine ⟨⟨_, rfl, .refl _⟩, ?_⟩)
        · have q0 : (zcan (zv ((can a).getD i zT).1 * zv ((can b).getD k zT).1), pt 2 ((can a).getD i zT).2 ((can b).getD k zT).2).2.x2 = ((can a).getD i zT).2.x2 := rfl
          repeat (first | (with_reducible refine W.id_ ?_); (first | refine W.sreg ?_ | refine W.reg ?_ | refine W.draw mixed (by kernel_rfl) (by kernel_rfl) ?_ | refine W.seq ?_ | refine W.blockS ?_ | refine W.skipT rfl ?_ | refine W.condT rfl ?_) | (with_reducible refine RK.id_ ?_); (first | refine RK.cons_ ?_; (first | refine RK.k_ 0 rfl ?_; refine .p rfl rfl rfl (by exact trivial) ?_ | refine RK.k_ 1 rfl ?_; (refine .pa rfl rfl rfl rfl rfl rfl (by omega) (by omega) ?_) | refine RK.k_ 4 rfl ?_; (refine .p rfl rfl rfl (by omega) ?_) | refine RK.k_ 5 rfl ?_; (refine .ldl rfl rfl rfl rfl rfl rfl rfl (by rfl) (by rfl) ?_) | refine RK.k_ 6 rfl ?_; (refine .store rfl rfl rfl rfl rfl rfl rfl (by rfl) (by rfl) (by rfl) ?_)) | refine RK.nilT rfl ?_ rfl))
          refine .nil ?_ rfl
          refine ⟨3, by show 4 - 3 < 4 - 2; omega, by show 3 ≤ 4; omega, .heap ?_ rfl⟩
          repeat (first | exact trivial | refine ⟨⟨_, rfl, .refl _⟩, ?_⟩)
        · have q0 : (zcan (zv ((can a).getD i zT).1 * zv ((can b).getD k zT).1), pt 3 ((can a).getD i zT).2 ((can b).getD k zT).2).2.x3 = ((can a).getD i zT).2.x3 := rfl
          repeat (first | (with_reducible refine W.id_ ?_); (first | refine W.sreg ?_ | refine W.reg ?_ | refine W.draw mixed (by kernel_rfl) (by kernel_rfl) ?_ | refine W.seq ?_ | refine W.blockS ?_ | refine W.skipT rfl ?_ | refine W.condT rfl ?_) | (with_reducible refine RK.id_ ?_); (first | refine RK.cons_ ?_; (first | refine RK.k_ 0 rfl ?_; refine .p rfl rfl rfl (by exact trivial) ?_ | refine RK.k_ 1 rfl ?_; (refine .pa rfl rfl rfl rfl rfl rfl (by omega) (by omega) ?_) | refine RK.k_ 4 rfl ?_; (refine .p rfl rfl rfl (by omega) ?_) | refine RK.k_ 5 rfl ?_; (refine .ldl rfl rfl rfl rfl rfl rfl rfl (by rfl) (by rfl) ?_) | refine RK.k_ 6 rfl ?_; (refine .store rfl rfl rfl rfl rfl rfl rfl (by rfl) (by rfl) (by rfl) ?_)) | refine RK.nilT rfl ?_ rfl))
          refine .nil ?_ rfl
          refine ⟨4, by show 4 - 4 < 4 - 3; omega, by show 4 ≤ 4; omega, .heap ?_ rfl⟩
          repeat (first | exact trivial | refine ⟨⟨_, rfl, .refl _⟩, ?_⟩)
        · repeat (first | (with_reducible refine W.id_ ?_); (first | refine W.sreg ?_ | refine W.seq ?_ | refine W.condF rfl ?_) | (with_reducible refine RK.id_ ?_); (first | refine RK.cons_ ?_; (refine RK.k_ 0 rfl ?_; refine .p rfl rfl rfl (by exact trivial) ?_) | refine RK.nilT rfl ?_ rfl))
          refine W.exit ⟨4, rfl, .heap ?_ rfl⟩
          repeat (first | exact trivial | refine ⟨⟨_, rfl, .refl _⟩, ?_⟩)
      · rintro j rfl
        have hsl : r.length ≤ 1000000 := by rw [Ck, can_len]; exact Nat.le_trans (gat_len hi (by omega)) hn
        repeat (first | (with_reducible refine W.id_ ?_); (refine W.reg ?_) | (with_reducible refine RK.id_ ?_); (refine RK.cons_ ?_; (first | refine RK.k_ 0 rfl ?_; refine .p rfl rfl rfl (by exact trivial) ?_ | refine RK.k_ 5 rfl ?_; (refine .ldla rfl rfl rfl rfl rfl rfl rfl (by rfl) rfl ?_))))
        refine .grow 4 0 6 64 r [(zcan (zv ((can a).getD i zT).1 * zv ((can b).getD k zT).1), pt 4 ((can a).getD i zT).2 ((can b).getD k zT).2)] (enc := tc) tc_len rfl rfl rfl rfl rfl rfl rfl rfl rfl rfl (.snap (by rfl)) (by rfl) (by simp) (by simp; omega) (by simp; omega) rfl ?_
        repeat ((with_reducible refine RK.id_ ?_); (refine RK.cons_ ?_; (refine RK.k_ 0 rfl ?_; refine .p rfl rfl rfl (by exact trivial) ?_)))
        refine .nil ?_ rfl
        refine ⟨r ++ [(zcan (zv ((can a).getD i zT).1 * zv ((can b).getD k zT).1), pt 4 ((can a).getD i zT).2 ((can b).getD k zT).2)], ?_, .ren [4, 1] [] (Nat.zero_le _) (fun b hb => absurd hb (Nat.not_lt_zero b)) (by simp) ?_ (.acc (by simp) rfl tc_pure (.cell (by simp) rfl (.refl _) (tc_pure _) trivial))⟩
        · dsimp only
          rw [gat_next hk', can_append, Ck, getD_can hi, getD_can hk', zv_can, zv_can]
          rfl
        · repeat (first | exact trivial | refine ⟨⟨_, rfl, .acc rfl⟩, ?_⟩ | refine ⟨⟨_, rfl, .ptr rfl⟩, ?_⟩ | refine ⟨⟨_, rfl, .wk (by repeat (first | exact .int _ _ | exact eP_pure _)) (by exact .refl _)⟩, ?_⟩)
    refine ⟨r, ?_, .ren [0] [] (Nat.zero_le _) (fun b hb => absurd hb (Nat.not_lt_zero b)) (by simp) ?_ (.acc (by simp) rfl tc_pure trivial)⟩
    · dsimp only
      rw [Ck, kb, gat_end hi]
    · repeat (first | exact trivial | refine ⟨⟨_, rfl, .acc rfl⟩, ?_⟩ | refine ⟨⟨_, rfl, .wk (by repeat (first | exact .int _ _ | exact eP_pure _)) (by exact .refl _)⟩, ?_⟩)
  rw [List.take_of_length_le (by omega)] at Ci
  have hpk : Pok (can (mulL a b)) := ⟨fun t ht => by
    obtain ⟨u, hu, e'⟩ := List.mem_map.1 ht
    rw [← e']
    exact .can (Nat.lt_of_le_of_lt (l1_mem hu) (by rw [l1_mulL]; exact hl)), by rw [vals_can, l1_mulL]; exact hl, by rw [can_len, mulL_len]; exact hn⟩
  have hN := Normal_spec hpk
  rw [vals_can] at hN
  refine W.to (F' := [(5, eP (can (mulL a b)))]) (H' := []) (.frz ⟨⟨_, rfl, by rw [← Ci]; exact frz_accS tc_len tc_pure rfl⟩, trivial⟩) ?_
  repeat (first | (with_reducible refine W.id_ ?_); (refine W.sreg ?_) | (with_reducible refine RK.id_ ?_); (refine RK.cons_ ?_; (refine RK.k_ 0 rfl ?_; refine .p rfl rfl rfl (by exact trivial) ?_)))
  refine .call (hN) rfl rfl rfl rfl ?_
  repeat ((with_reducible refine RK.id_ ?_); (first | refine RK.cons_ ?_; (refine RK.k_ 0 rfl ?_; refine .p rfl rfl rfl (by exact trivial) ?_) | refine RK.nilT rfl ?_ rfl))
  refine W.ret ⟨_, rfl, .eq (by repeat (exact eP_pure _)) ?_, rfl⟩
  rfl
end Go.Proofs.Ytbdefjbekbbldaa

namespace Go.Proofs.Ytbdefjbekbbldaa
open Go.V Go.N
set_option maxHeartbeats 8000000
set_option maxRecDepth 20000

/-- Every coefficient times a number. -/
def scl (k : Int) (a : P) : P := a.map fun t => (t.1 * k, t.2)
/-- A row of terms whose first coefficients are multiplied. -/
def sclR (k : Int) (a : P) (i : Nat) : List RT := can (scl k (a.take i) ++ a.drop i)
theorem sclR_len {k : Int} {a : P} {i : Nat} : (sclR k a i).length = a.length := by
  unfold sclR scl
  rw [can_len, List.length_append, List.length_map, ← List.length_append, List.take_append_drop]
theorem sclR_0 {k : Int} {a : P} : sclR k a 0 = can a := rfl
theorem sclR_end {k : Int} {a : P} : sclR k a a.length = can (scl k a) := by
  unfold sclR
  rw [List.take_of_length_le (Nat.le_refl _), List.drop_eq_nil_of_le (Nat.le_refl _), List.append_nil]
theorem sclR_get {k : Int} {a : P} {i : Nat} (h : i < a.length) : (sclR k a i).getD i zT = (zcan (a.getD i tz).1, (a.getD i tz).2) := by
  have hm : min i a.length = i := Nat.min_eq_left (Nat.le_of_lt h)
  unfold sclR
  rw [getD_can (by simp [scl, hm]; omega)]
  have : (scl k (a.take i) ++ a.drop i).getD i (0, ⟨0, 0, 0, 0⟩) = a.getD i tz := by
    simp [scl, List.getElem?_append_right, hm]
  rw [this]
theorem sclR_next {k : Int} {a : P} {i : Nat} (h : i < a.length) : sclR k a (i + 1) = (sclR k a i).set i (zcan ((a.getD i tz).1 * k), (a.getD i tz).2) := by
  have hm : min i a.length = i := Nat.min_eq_left (Nat.le_of_lt h)
  unfold sclR
  have e1 : a.drop i = a.getD i tz :: a.drop (i + 1) := by rw [List.drop_eq_getElem_cons h]; simp [h]
  rw [take_next (z := tz) h, e1]
  unfold can scl
  rw [List.map_append, List.map_append, List.map_append, List.map_cons, List.map_append, List.map_map]
  rw [List.set_append_right _ _ (by simp [hm])]
  simp [hm]
theorem l1_scl (k : Int) (a : P) : l1 (scl k a) = l1 a * k.natAbs := by
  induction a with
  | nil => simp [scl, l1]
  | cons t a ih =>
    unfold scl at *
    rw [List.map_cons, l1, ih, l1, Int.natAbs_mul, Nat.add_mul]
theorem cf_scl (k : Int) (a : P) (m : M) : cf (scl k a) m = cf a m * k := by
  induction a with
  | nil => simp [scl, cf]
  | cons t a ih =>
    unfold scl at *
    rw [List.map_cons, cf, ih, cf, Int.add_mul]
    simp only
    split <;> simp

/- sparse.Scale -/
theorem Scale_spec {p : List RT} {a : P} {c : Z} (hp : Pok p) (hc : okZ c) (ea : a = nrm (vals p)) (hl : l1 a * (zv c).natAbs < B32 ^ 1000000000) : PureFn Try.prog 30 [eP p, eZ c] (eP (can (nrm (scl (zv c) a)))) := by
  have hla : a.length ≤ 1000000 := by rw [ea]; exact Nat.le_trans (nrm_len _) (by rw [vals_len]; exact hp.n)
  have hpk : Pok (can (scl (zv c) a)) := ⟨fun t ht => by
    obtain ⟨u, hu, e'⟩ := List.mem_map.1 ht
    rw [← e']
    exact .can (Nat.lt_of_le_of_lt (l1_mem hu) (by rw [l1_scl]; exact hl)), by rw [vals_can, l1_scl]; exact hl, by rw [can_len, scl, List.length_map]; exact hla⟩
  have hN := Normal_spec hpk
  rw [vals_can] at hN
  have hz : ∀ i, i < a.length → okZ (zcan (a.getD i tz).1) := fun i hi => .can (Nat.lt_of_le_of_lt (l1_mem (getD_mem hi)) (by rw [ea]; exact Nat.lt_of_le_of_lt (l1_nrm _) hp.l))
  refine .of_W (fn := Try.f30) (by repeat (first | exact trivial | refine ⟨(by repeat (first | exact eZ_pure _ | exact eP_pure _)), ?_⟩)) Try.call30 Try.func30 rfl rfl ?_
  repeat (first | (with_reducible refine W.id_ ?_); (refine W.sreg ?_) | (with_reducible refine RK.id_ ?_); (first | refine RK.cons_ ?_; (first | refine RK.k_ 0 rfl ?_; refine .p rfl rfl rfl (by exact trivial) ?_ | refine RK.k_ 6 rfl ?_; (refine .box _ rfl rfl rfl rfl rfl rfl rfl ?_)) | refine RK.nilT rfl ?_ rfl))
  refine .callF (Normal_live hp _) rfl rfl rfl rfl ?_; rintro _ _ ⟨rfl, rfl⟩
  rw [← ea]
  cases hd : can a with
  | nil =>
    have ha : a = [] := by cases a with | nil => rfl | cons t a => cases hd
    subst ha
    repeat (first | (with_reducible refine W.id_ ?_); (first | refine W.sreg ?_ | refine W.seq ?_) | (with_reducible refine RK.id_ ?_); (first | refine RK.cons_ ?_; (refine RK.k_ 0 rfl ?_; refine .p rfl rfl rfl (by exact trivial) ?_) | refine RK.nilT rfl ?_ rfl))
    refine W.block (.loop1 ?_)
    repeat (first | (with_reducible refine W.id_ ?_); (first | refine W.sreg ?_ | refine W.seq ?_ | refine W.condF rfl ?_) | (with_reducible refine RK.id_ ?_); (first | refine RK.cons_ ?_; (refine RK.k_ 0 rfl ?_; refine .p rfl rfl rfl (by exact trivial) ?_) | refine RK.nilT rfl ?_ rfl))
    refine W.exitT rfl ?_
    refine W.to (F' := [(5, eP (can (scl (zv c) [])))]) (H' := []) (.frz ⟨⟨_, rfl, .pure .snil (.snil _)⟩, trivial⟩) ?_
    repeat (first | (with_reducible refine W.id_ ?_); (refine W.sreg ?_) | (with_reducible refine RK.id_ ?_); (refine RK.cons_ ?_; (refine RK.k_ 0 rfl ?_; refine .p rfl rfl rfl (by exact trivial) ?_)))
    refine .call (hN) rfl rfl rfl rfl ?_
    repeat ((with_reducible refine RK.id_ ?_); (first | refine RK.cons_ ?_; (refine RK.k_ 0 rfl ?_; refine .p rfl rfl rfl (by exact trivial) ?_) | refine RK.nilT rfl ?_ rfl))
    refine W.ret ⟨_, rfl, .eq (by repeat (exact eP_pure _)) ?_, rfl⟩
    rfl
  | cons t r =>
    have hlen : r.length + 1 = a.length := by rw [← can_len a, hd]; rfl
    repeat (first | (with_reducible refine W.id_ ?_); (first | refine W.sreg ?_ | refine W.seq ?_) | (with_reducible refine RK.id_ ?_); (first | refine RK.cons_ ?_; (refine RK.k_ 0 rfl ?_; refine .p rfl rfl rfl (by exact trivial) ?_) | refine RK.nilT rfl ?_ rfl))
    refine .rangeS (r.length + 1) (fun i s => [(5, .live 1 0 (r.length + 1) (r.length + 1) 6), (3, .ptr 0 0)]) (fun i s => [some (.cells (zc c)), some (.cells (s.flatMap tc))]) (fun i s => s = sclR (zv c) a i) (t :: r) rfl rfl rfl rfl rfl rfl rfl rfl rfl rfl (by omega) ?_ ?_ (fun _ _ => rfl) (fun i s hi Ci => ?_) (fun s Ci => ?_)
    · rw [← hd]; rfl
    · refine .heap ?_ rfl
      repeat (first | exact trivial | refine ⟨⟨_, rfl, .refl _⟩, ?_⟩)
    · have hi : i < a.length := by omega
      have hsl : s.length = a.length := by rw [Ci, sclR_len]
      have hgt : s.getD i zT = (zcan (a.getD i tz).1, (a.getD i tz).2) := by rw [Ci, sclR_get hi]
      have hgz : okZ (s.getD i zT).1 := by rw [hgt]; exact hz i hi
      repeat (first | (with_reducible refine W.id_ ?_); (first | refine W.sreg ?_ | refine W.draw mixed (by kernel_rfl) (by kernel_rfl) ?_) | (with_reducible refine RK.id_ ?_); (first | refine RK.cons_ ?_; (first | refine RK.k_ 0 rfl ?_; refine .p rfl rfl rfl (by exact trivial) ?_ | refine RK.k_ 4 rfl ?_; (refine .ixl _ _ (s := 6) rfl rfl rfl rfl rfl rfl rfl (by rfl) (by omega) rfl ?_)) | refine RK.nilT rfl ?_ rfl))
      refine .ldla rfl rfl rfl rfl rfl rfl rfl rfl (take_part (z := zT) tc_len (by omega) (Nat.le_of_ble_eq_true rfl) (Nat.le_of_ble_eq_true rfl) (show 0 + i * 6 + 0 = i * 6 + 0 by omega) rfl) ?_
      repeat ((with_reducible refine RK.id_ ?_); (refine RK.cons_ ?_; (refine RK.k_ 5 rfl ?_; (refine .ldla rfl rfl rfl rfl rfl rfl rfl (by rfl) rfl ?_))))
      refine .call (Zmul_spec hgz hc) rfl rfl rfl rfl ?_
      repeat ((with_reducible refine RK.id_ ?_); (refine RK.cons_ ?_; (first | refine RK.k_ 0 rfl ?_; refine .p rfl rfl rfl (by exact trivial) ?_ | refine RK.k_ 4 rfl ?_; (refine .ixl _ _ (s := 6) rfl rfl rfl rfl rfl rfl rfl (by rfl) (by omega) rfl ?_))))
      refine .store rfl rfl rfl rfl rfl rfl rfl rfl (overR_part (z := zT) (i := i) (j := 0) (v := (zcan (zv (s.getD i zT).1 * zv c), (s.getD i zT).2)) tc_len (by omega) (Nat.le_of_ble_eq_true rfl) (show 0 + i * 6 + 0 = i * 6 + 0 by omega) rfl) rfl ?_
      refine .nil ?_ rfl
      refine ⟨s.set i (zcan (zv (s.getD i zT).1 * zv c), (s.getD i zT).2), ?_, .heap ?_ rfl⟩
      · dsimp only
        rw [sclR_next hi, hgt, zv_can, ← Ci]
      · repeat (first | exact trivial | refine ⟨⟨_, rfl, .refl _⟩, ?_⟩)
    rw [hlen, sclR_end] at Ci
    refine W.to (F' := [(5, eP (can (scl (zv c) a)))]) (H' := []) (.frz ⟨⟨_, rfl, frz_flat (by rw [← Ci]; rfl) (by rw [can_len, scl, List.length_map, hlen])⟩, trivial⟩) ?_
    repeat (first | (with_reducible refine W.id_ ?_); (refine W.sreg ?_) | (with_reducible refine RK.id_ ?_); (refine RK.cons_ ?_; (refine RK.k_ 0 rfl ?_; refine .p rfl rfl rfl (by exact trivial) ?_)))
    refine .call (hN) rfl rfl rfl rfl ?_
    repeat ((with_reducible refine RK.id_ ?_); (first | refine RK.cons_ ?_; (refine RK.k_ 0 rfl ?_; refine .p rfl rfl rfl (by exact trivial) ?_) | refine RK.nilT rfl ?_ rfl))
    refine W.ret ⟨_, rfl, .eq (by repeat (exact eP_pure _)) ?_, rfl⟩
    rfl
end Go.Proofs.Ytbdefjbekbbldaa

namespace Go.Proofs.Ytbdefjbekbbldaa
open Go.V Go.N
set_option maxHeartbeats 8000000
set_option maxRecDepth 20000

theorem vals_len' (q : P) : (vals (can q)).length = q.length := by rw [vals_can]
/-- Small canonical rows. -/
theorem can_pok' {q : P} (hl : l1 q < B32 ^ 1000000000) (hn : q.length ≤ 1000000) : Pok (can q) := ⟨fun t ht => by
  obtain ⟨u, hu, e'⟩ := List.mem_map.1 ht
  rw [← e']
  exact .can (Nat.lt_of_le_of_lt (l1_mem hu) hl), by rw [vals_can]; exact hl, by rw [can_len]; exact hn⟩

/- sparse.Neg -/
theorem Neg_spec {p : List RT} {a : P} (hp : Pok p) (ea : a = nrm (vals p)) : PureFn Try.prog 31 [eP p] (eP (can (nrm (scl (-1) a)))) := by
  have h1 : okZ (zcan (-1)) := .can (small_lt (show (1 : Nat) < B32 ^ 1 by decide) (by omega))
  have hS := Scale_spec (c := zcan (-1)) hp h1 ea (by rw [zv_can, ea]; show l1 _ * 1 < _; rw [Nat.mul_one]; exact Nat.lt_of_le_of_lt (l1_nrm _) hp.l)
  rw [zv_can] at hS
  refine .of_W (fn := Try.f31) (by repeat (first | exact trivial | refine ⟨(by repeat (exact eP_pure _)), ?_⟩)) Try.call31 Try.func31 rfl rfl ?_
  repeat (first | (with_reducible refine W.id_ ?_); (refine W.sreg ?_) | (with_reducible refine RK.id_ ?_); (first | refine RK.cons_ ?_; (refine RK.k_ 0 rfl ?_; refine .p rfl rfl rfl (by exact trivial) ?_) | refine RK.nilT rfl ?_ rfl))
  refine .call (Of_spec (n := -1) (by decide) (by decide)) rfl rfl rfl rfl ?_
  skip
  refine .call (hS) rfl rfl rfl rfl ?_
  repeat ((with_reducible refine RK.id_ ?_); (first | refine RK.cons_ ?_; (refine RK.k_ 0 rfl ?_; refine .p rfl rfl rfl (by exact trivial) ?_) | refine RK.nilT rfl ?_ rfl))
  refine W.ret ⟨_, rfl, .eq (by repeat (exact eP_pure _)) ?_, rfl⟩
  rfl

/- sparse.Sub -/
theorem Sub_spec {p q : List RT} {b : P} (hp : Pok p) (hq : Pok q) (eb : b = nrm (vals q)) (hl : l1 (vals p) + l1 (vals q) < B32 ^ 1000000000) (hn : p.length + q.length ≤ 1000000) : PureFn Try.prog 29 [eP p, eP q] (eP (can (nrm (vals p ++ nrm (scl (-1) b))))) := by
  have hb1 : l1 (nrm (scl (-1) b)) ≤ l1 (vals q) := Nat.le_trans (l1_nrm _) (by rw [l1_scl]; show l1 b * 1 ≤ _; rw [Nat.mul_one, eb]; exact l1_nrm _)
  have hb2 : (nrm (scl (-1) b)).length ≤ q.length := Nat.le_trans (nrm_len _) (by rw [scl, List.length_map, eb]; exact Nat.le_trans (nrm_len _) (by rw [vals_len]; exact Nat.le_refl _))
  have hk := can_pok' (q := nrm (scl (-1) b)) (by omega) (by omega)
  have hA := Add_spec (p := p) (q := can (nrm (scl (-1) b))) (.append hp.z hk.z (by rw [vals_can]; omega) (by rw [can_len]; omega))
  rw [vals_can] at hA
  refine .of_W (fn := Try.f29) (by repeat (first | exact trivial | refine ⟨(by repeat (exact eP_pure _)), ?_⟩)) Try.call29 Try.func29 rfl rfl ?_
  repeat (first | (with_reducible refine W.id_ ?_); (refine W.sreg ?_) | (with_reducible refine RK.id_ ?_); (first | refine RK.cons_ ?_; (refine RK.k_ 0 rfl ?_; refine .p rfl rfl rfl (by exact trivial) ?_) | refine RK.nilT rfl ?_ rfl))
  refine .call (Neg_spec hq eb) rfl rfl rfl rfl ?_
  skip
  refine .call (hA) rfl rfl rfl rfl ?_
  repeat ((with_reducible refine RK.id_ ?_); (first | refine RK.cons_ ?_; (refine RK.k_ 0 rfl ?_; refine .p rfl rfl rfl (by exact trivial) ?_) | refine RK.nilT rfl ?_ rfl))
  refine W.ret ⟨_, rfl, .eq (by repeat (exact eP_pure _)) ?_, rfl⟩
  rfl

theorem okZ_l1 {z : Z} (hz : okZ z) : (zv z).natAbs < B32 ^ 1000000000 := by
  rw [← nv_abs]
  exact small_lt (nv_lt hz.ok) hz.len
/- sparse.Const -/
theorem Const_spec {c : Z} (hc : okZ c) : PureFn Try.prog 35 [eZ c] (eP (can (con (zv c)))) := by
  have hk : Pok [(c, M0)] := ⟨fun t ht => by simp at ht; subst ht; exact hc, by show (zv c).natAbs + 0 < _; exact okZ_l1 hc, by show 1 ≤ 1000000; omega⟩
  have hN := Normal_spec hk
  rw [show vals [(c, M0)] = [(zv c, M0)] from rfl, nrm_con] at hN
  refine .of_W (fn := Try.f35) (by repeat (first | exact trivial | refine ⟨(by repeat (exact eZ_pure _)), ?_⟩)) Try.call35 Try.func35 rfl rfl ?_
  repeat (first | (with_reducible refine W.id_ ?_); (refine W.sreg ?_) | (with_reducible refine RK.id_ ?_); (first | refine RK.cons_ ?_; (first | refine RK.k_ 0 rfl ?_; refine .p rfl rfl rfl (by exact trivial) ?_ | refine RK.k_ 5 rfl ?_; (refine .ldla rfl rfl rfl rfl rfl rfl rfl (by rfl) rfl ?_) | refine RK.k_ 6 rfl ?_; (refine .box _ rfl rfl rfl rfl rfl rfl rfl ?_)) | refine RK.nilT rfl ?_ rfl))
  refine .call ((hN).args (.cons .tight .nil)) rfl rfl rfl rfl ?_
  repeat ((with_reducible refine RK.id_ ?_); (first | refine RK.cons_ ?_; (refine RK.k_ 0 rfl ?_; refine .p rfl rfl rfl (by exact trivial) ?_) | refine RK.nilT rfl ?_ rfl))
  refine W.ret ⟨_, rfl, .eq (by repeat (exact eP_pure _)) ?_, rfl⟩
  rfl

theorem one_small : (1 : Nat) < B32 ^ 1000000000 := small_lt (show (1 : Nat) < B32 ^ 1 by decide) (by omega)
/- sparse.Var -/
theorem Var_spec (l : Int) (h1 : -9223372036854775808 ≤ l) (h2 : l ≤ 9223372036854775807) : PureFn Try.prog 28 [I l] (eP (can (var' l))) := by
  refine .of_W (fn := Try.f28) (by repeat (first | exact trivial | refine ⟨(by repeat (exact .int _ _)), ?_⟩)) Try.call28 Try.func28 rfl rfl ?_
  repeat (first | (with_reducible refine W.id_ ?_); (first | refine W.sreg ?_ | refine W.seq ?_) | (with_reducible refine RK.id_ ?_); (first | refine RK.cons_ ?_; (refine RK.k_ 0 rfl ?_; refine .p rfl rfl rfl (by exact trivial) ?_) | refine RK.nilT rfl ?_ rfl))
  refine .dsplit (fun h => ?_) (fun h => ?_)
  · repeat (first | (with_reducible refine W.id_ ?_); (first | refine W.sreg ?_ | refine W.condT rfl ?_) | (with_reducible refine RK.id_ ?_); (first | refine RK.cons_ ?_; (first | refine .skip rfl rfl ?_ | refine RK.k_ 0 rfl ?_; refine .p rfl rfl rfl (by exact trivial) ?_) | refine RK.nilT rfl ?_ rfl))
    refine W.ret ⟨_, rfl, ?_, rfl⟩
    rw [show var' l = [] by unfold var'; rw [if_neg (by omega)]]
    exact .pure .snil (.snil _)
  · repeat ((with_reducible refine RK.id_ ?_); (first | refine RK.cons_ ?_; (refine RK.k_ 0 rfl ?_; refine .p rfl rfl rfl (by exact trivial) ?_) | refine RK.nilT rfl ?_ rfl))
    refine W.cond_dec rfl (fun h3 => ?_) (fun h3 => ?_)
    · repeat (first | (with_reducible refine W.id_ ?_); (refine W.sreg ?_) | (with_reducible refine RK.id_ ?_); (first | refine RK.cons_ ?_; (refine RK.k_ 0 rfl ?_; refine .p rfl rfl rfl (by exact trivial) ?_) | refine RK.nilT rfl ?_ rfl))
      refine W.ret ⟨_, rfl, ?_, rfl⟩
      rw [show var' l = [] by unfold var'; rw [if_neg (by omega)]]
      exact .pure .snil (.snil _)
    · repeat ((with_reducible refine W.id_ ?_); (first | refine W.sreg ?_ | refine W.skipT rfl ?_))
      refine .call (Of_spec (n := 1) (by decide) (by decide)) rfl rfl rfl rfl ?_
      obtain rfl | rfl | rfl | rfl : l = 1 ∨ l = 2 ∨ l = 3 ∨ l = 4 := by omega
      · repeat (first | (with_reducible refine W.id_ ?_); (refine W.sreg ?_) | (with_reducible refine RK.id_ ?_); (first | refine RK.cons_ ?_; (first | refine RK.k_ 0 rfl ?_; refine .p rfl rfl rfl (by exact trivial) ?_ | refine RK.k_ 1 rfl ?_; (refine .pa rfl rfl rfl rfl rfl rfl (by omega) (by omega) ?_) | refine RK.k_ 4 rfl ?_; (refine .p rfl rfl rfl (by omega) ?_) | refine RK.k_ 5 rfl ?_; (refine .ldla rfl rfl rfl rfl rfl rfl rfl (by rfl) rfl ?_) | refine RK.k_ 6 rfl ?_; (first | refine .alloc _ rfl rfl rfl rfl rfl rfl rfl ?_ | refine .store rfl rfl rfl rfl rfl rfl rfl (by rfl) (by rfl) (by rfl) ?_)) | refine RK.nilT rfl ?_ rfl))
        refine W.ret ⟨_, rfl, ?_, rfl⟩
        exact .pure (.snap (tc_pure (zcan 1, unit 1))) .tight
      · repeat (first | (with_reducible refine W.id_ ?_); (refine W.sreg ?_) | (with_reducible refine RK.id_ ?_); (first | refine RK.cons_ ?_; (first | refine RK.k_ 0 rfl ?_; refine .p rfl rfl rfl (by exact trivial) ?_ | refine RK.k_ 1 rfl ?_; (refine .pa rfl rfl rfl rfl rfl rfl (by omega) (by omega) ?_) | refine RK.k_ 4 rfl ?_; (refine .p rfl rfl rfl (by omega) ?_) | refine RK.k_ 5 rfl ?_; (refine .ldla rfl rfl rfl rfl rfl rfl rfl (by rfl) rfl ?_) | refine RK.k_ 6 rfl ?_; (first | refine .alloc _ rfl rfl rfl rfl rfl rfl rfl ?_ | refine .store rfl rfl rfl rfl rfl rfl rfl (by rfl) (by rfl) (by rfl) ?_)) | refine RK.nilT rfl ?_ rfl))
        refine W.ret ⟨_, rfl, ?_, rfl⟩
        exact .pure (.snap (tc_pure (zcan 1, unit 2))) .tight
      · repeat (first | (with_reducible refine W.id_ ?_); (refine W.sreg ?_) | (with_reducible refine RK.id_ ?_); (first | refine RK.cons_ ?_; (first | refine RK.k_ 0 rfl ?_; refine .p rfl rfl rfl (by exact trivial) ?_ | refine RK.k_ 1 rfl ?_; (refine .pa rfl rfl rfl rfl rfl rfl (by omega) (by omega) ?_) | refine RK.k_ 4 rfl ?_; (refine .p rfl rfl rfl (by omega) ?_) | refine RK.k_ 5 rfl ?_; (refine .ldla rfl rfl rfl rfl rfl rfl rfl (by rfl) rfl ?_) | refine RK.k_ 6 rfl ?_; (first | refine .alloc _ rfl rfl rfl rfl rfl rfl rfl ?_ | refine .store rfl rfl rfl rfl rfl rfl rfl (by rfl) (by rfl) (by rfl) ?_)) | refine RK.nilT rfl ?_ rfl))
        refine W.ret ⟨_, rfl, ?_, rfl⟩
        exact .pure (.snap (tc_pure (zcan 1, unit 3))) .tight
      · repeat (first | (with_reducible refine W.id_ ?_); (refine W.sreg ?_) | (with_reducible refine RK.id_ ?_); (first | refine RK.cons_ ?_; (first | refine RK.k_ 0 rfl ?_; refine .p rfl rfl rfl (by exact trivial) ?_ | refine RK.k_ 1 rfl ?_; (refine .pa rfl rfl rfl rfl rfl rfl (by omega) (by omega) ?_) | refine RK.k_ 4 rfl ?_; (refine .p rfl rfl rfl (by omega) ?_) | refine RK.k_ 5 rfl ?_; (refine .ldla rfl rfl rfl rfl rfl rfl rfl (by rfl) rfl ?_) | refine RK.k_ 6 rfl ?_; (first | refine .alloc _ rfl rfl rfl rfl rfl rfl rfl ?_ | refine .store rfl rfl rfl rfl rfl rfl rfl (by rfl) (by rfl) (by rfl) ?_)) | refine RK.nilT rfl ?_ rfl))
        refine W.ret ⟨_, rfl, ?_, rfl⟩
        exact .pure (.snap (tc_pure (zcan 1, unit 4))) .tight
end Go.Proofs.Ytbdefjbekbbldaa

namespace Go.Proofs.Ytbdefjbekbbldaa
open Go.V Go.N
set_option maxHeartbeats 8000000
set_option maxRecDepth 20000

/- sparse.Pow -/
theorem Pow_spec {p : List RT} {a : P} {n : Int} {L N : Nat} {e : Int} (hp : Pok p) (ea : a = nrm (vals p)) (h1 : -9223372036854775808 ≤ n) (h2 : n ≤ 9223372036854775807) (hL : l1 a ≤ L) (hN : a.length ≤ N) (he : Eb e a) (h0 : 0 ≤ e)
    (hl : ∀ k, k ≤ n.toNat → L ^ k < B32 ^ 1000000000) (hn : ∀ k, k ≤ n.toNat → N ^ k ≤ 1000000) (hb : e * (n.toNat : Int) ≤ 4611686018427387903) : PureFn Try.prog 36 [eP p, I n] (eP (can (powc a n.toNat))) := by
  have ha : Canon a := by rw [ea]; exact nrm_canon _
  have hbk : ∀ k : Nat, k ≤ n.toNat → e * (k : Int) ≤ 4611686018427387903 := fun k hk => Int.le_trans (Int.mul_le_mul_of_nonneg_left (by omega) h0) hb
  have hpk : ∀ k, k ≤ n.toNat → Pok (can (powc a k)) := fun k hk => can_pok' (Nat.lt_of_le_of_lt (l1_powc hL k) (hl k hk)) (Nat.le_trans (powc_len hN k) (hn k hk))
  have hM : ∀ u w, u + w ≤ n.toNat → PureFn Try.prog 14 [eP (can (powc a u)), eP (can (powc a w))] (eP (can (powc a (u + w)))) := fun u w huw => by
    rw [powc_add ha]
    refine Mul_spec (e := 4611686018427387903) (hpk u (by omega)) (hpk w (by omega)) (by rw [vals_can, nrm_self (powc_canon _ _)]) (by rw [vals_can, nrm_self (powc_canon _ _)]) (by decide) ((Eb.pow h0 he u).mono (hbk u (by omega))) ((Eb.pow h0 he w).mono (hbk w (by omega))) ?_ ?_
    · exact Nat.lt_of_le_of_lt (Nat.mul_le_mul (l1_powc hL u) (l1_powc hL w)) (by rw [← Nat.pow_add]; exact hl _ huw)
    · exact Nat.le_trans (Nat.mul_le_mul (powc_len hN u) (powc_len hN w)) (by rw [← Nat.pow_add]; exact hn _ huw)
  have hC := Const_spec (c := zcan 1) (.can one_small)
  rw [zv_can] at hC
  have hA := Normal_spec hp
  rw [← ea, ← powc_1 ha] at hA
  refine .of_W (fn := Try.f36) (by repeat (first | exact trivial | refine ⟨(by repeat (first | exact .int _ _ | exact eP_pure _)), ?_⟩)) Try.call36 Try.func36 rfl rfl ?_
  repeat (first | (with_reducible refine W.id_ ?_); (refine W.sreg ?_) | (with_reducible refine RK.id_ ?_); (first | refine RK.cons_ ?_; (refine RK.k_ 0 rfl ?_; refine .p rfl rfl rfl (by exact trivial) ?_) | refine RK.nilT rfl ?_ rfl))
  refine .call (Of_spec (n := 1) (by decide) (by decide)) rfl rfl rfl rfl ?_
  skip
  refine .call (hC) rfl rfl rfl rfl ?_
  repeat (first | (with_reducible refine W.id_ ?_); (first | refine W.sreg ?_ | refine W.seq ?_) | (with_reducible refine RK.id_ ?_); (first | refine RK.cons_ ?_; (refine RK.k_ 0 rfl ?_; refine .p rfl rfl rfl (by exact trivial) ?_) | refine RK.nilT rfl ?_ rfl))
  refine .call (hA) rfl rfl rfl rfl ?_
  repeat ((with_reducible refine RK.id_ ?_); (first | refine RK.cons_ ?_; (refine RK.k_ 0 rfl ?_; refine .p rfl rfl rfl (by exact trivial) ?_) | refine RK.nilT rfl ?_ rfl))
  refine W.loopE (fun (s : Nat × Nat × Int) => s.1 + s.2.1 * s.2.2.toNat = n.toNat ∧ s.2.2 ≤ 9223372036854775807) (fun (s : Nat × Nat × Int) => s.1 = n.toNat) (fun (s : Nat × Nat × Int) => s.2.2.toNat) (fun (s : Nat × Nat × Int) => [(1, I s.2.2), (5, eP (can (powc a s.1))), (6, eP (can (powc a s.2.1)))]) (fun _ => []) ((0, 1, n)) rfl ?_ ?_ ?_ ?_
  · exact ⟨by simp, h2⟩
  · refine .heap ?_ rfl
    repeat (first | exact trivial | refine ⟨⟨_, rfl, .refl _⟩, ?_⟩)
  · rintro ⟨u, w, r⟩ ⟨k1, k2⟩
    dsimp only at k1 k2 ⊢
    repeat (first | (with_reducible refine W.id_ ?_); (first | refine W.sreg ?_ | refine W.seq ?_) | (with_reducible refine RK.id_ ?_); (first | refine RK.cons_ ?_; (refine RK.k_ 0 rfl ?_; refine .p rfl rfl rfl (by exact trivial) ?_) | refine RK.nilT rfl ?_ rfl))
    refine W.cond_dec rfl (fun h3 => ?_) (fun h3 => ?_)
    · obtain ⟨m, rfl⟩ : ∃ m : Nat, r = m := ⟨r.toNat, by omega⟩
      repeat (first | (with_reducible refine W.id_ ?_); (first | refine W.sreg ?_ | refine W.seq ?_ | refine W.blockS ?_ | refine W.skipT rfl ?_) | (with_reducible refine RK.id_ ?_); (first | refine RK.cons_ ?_; (first | refine RK.k_ 0 rfl ?_; refine .p rfl rfl rfl (by exact trivial) ?_ | refine RK.k_ 3 rfl ?_; (refine .and1 rfl rfl rfl rfl rfl (by omega) (by omega) ?_)) | refine RK.nilT rfl ?_ rfl))
      refine W.cond_dec rfl (fun h4 => ?_) (fun h4 => ?_)
      · obtain ⟨q, rfl⟩ : ∃ q, m = 2 * q + 1 := ⟨m / 2, by omega⟩
        have e1 : w * (2 * q + 1) = 2 * (w * q) + w := by rw [Nat.mul_add, Nat.mul_one, Nat.mul_left_comm]
        rw [Int.toNat_natCast, e1] at k1
        repeat (first | (with_reducible refine W.id_ ?_); (refine W.reg ?_) | (with_reducible refine RK.id_ ?_); (refine RK.cons_ ?_; (refine RK.k_ 0 rfl ?_; refine .p rfl rfl rfl (by exact trivial) ?_)))
        refine .call (hM u w (by omega)) rfl rfl rfl rfl ?_
        repeat (first | (with_reducible refine W.id_ ?_); (refine W.sreg ?_) | (with_reducible refine RK.id_ ?_); (first | refine RK.cons_ ?_; (refine RK.k_ 0 rfl ?_; refine .p rfl rfl rfl (by exact trivial) ?_) | refine RK.nilT rfl ?_ rfl))
        refine W.cond_dec rfl (fun h5 => ?_) (fun h5 => ?_)
        · obtain ⟨q', rfl⟩ : ∃ q', q = q' + 1 := ⟨q - 1, by omega⟩
          rw [Nat.mul_add, Nat.mul_one] at k1
          repeat (first | (with_reducible refine W.id_ ?_); (refine W.reg ?_) | (with_reducible refine RK.id_ ?_); (refine RK.cons_ ?_; (refine RK.k_ 0 rfl ?_; refine .p rfl rfl rfl (by exact trivial) ?_)))
          refine .call (hM w w (by omega)) rfl rfl rfl rfl ?_
          repeat (first | (with_reducible refine W.id_ ?_); (refine W.reg ?_) | (with_reducible refine RK.id_ ?_); (first | refine RK.cons_ ?_; (first | refine RK.k_ 0 rfl ?_; refine .p rfl rfl rfl (by exact trivial) ?_ | refine RK.k_ 3 rfl ?_; (refine .shr 2 rfl rfl rfl rfl rfl (by omega) rfl ?_)) | refine RK.nilT rfl ?_ rfl))
          refine .nil ?_ rfl
          refine ⟨(u + w, w + w, ((q' + 1 : Nat) : Int)), by show (((q' + 1 : Nat) : Int)).toNat < ((2 * (q' + 1) + 1 : Nat) : Int).toNat; omega, ⟨?_, by show ((q' + 1 : Nat) : Int) ≤ _; omega⟩, .heap ?_ rfl⟩
          · show u + w + (w + w) * (((q' + 1 : Nat) : Int)).toNat = n.toNat
            rw [Int.toNat_natCast, Nat.add_mul, Nat.mul_add, Nat.mul_one]; omega
          · repeat (first | exact trivial | refine ⟨⟨_, rfl, .refl _⟩, ?_⟩ | refine ⟨⟨_, rfl, .of_eq (congrArg (D.int _) (by (dsimp only; omega)))⟩, ?_⟩)
        · have hq0 : q = 0 := by omega
          subst hq0
          repeat (first | (with_reducible refine W.id_ ?_); (first | refine W.reg ?_ | refine W.skipT rfl ?_) | (with_reducible refine RK.id_ ?_); (refine RK.cons_ ?_; (first | refine RK.k_ 0 rfl ?_; refine .p rfl rfl rfl (by exact trivial) ?_ | refine RK.k_ 3 rfl ?_; (refine .shr 2 rfl rfl rfl rfl rfl (by omega) rfl ?_))))
          refine .nil ?_ rfl
          refine ⟨(u + w, w, 0), by show (0 : Int).toNat < ((2 * 0 + 1 : Nat) : Int).toNat; omega, ⟨?_, by show (0 : Int) ≤ _; omega⟩, .heap ?_ rfl⟩
          · show u + w + w * 0 = n.toNat
            omega
          · repeat (first | exact trivial | refine ⟨⟨_, rfl, .refl _⟩, ?_⟩)
      · obtain ⟨q, rfl⟩ : ∃ q, m = 2 * q := ⟨m / 2, by omega⟩
        have e1 : w * (2 * q) = 2 * (w * q) := Nat.mul_left_comm ..
        rw [Int.toNat_natCast, e1] at k1
        repeat (first | (with_reducible refine W.id_ ?_); (first | refine W.sreg ?_ | refine W.skipT rfl ?_) | (with_reducible refine RK.id_ ?_); (first | refine RK.cons_ ?_; (refine RK.k_ 0 rfl ?_; refine .p rfl rfl rfl (by exact trivial) ?_) | refine RK.nilT rfl ?_ rfl))
        refine W.cond_dec rfl (fun h5 => ?_) (fun h5 => ?_)
        · obtain ⟨q', rfl⟩ : ∃ q', q = q' + 1 := ⟨q - 1, by omega⟩
          rw [Nat.mul_add, Nat.mul_one] at k1
          repeat (first | (with_reducible refine W.id_ ?_); (refine W.reg ?_) | (with_reducible refine RK.id_ ?_); (refine RK.cons_ ?_; (refine RK.k_ 0 rfl ?_; refine .p rfl rfl rfl (by exact trivial) ?_)))
          refine .call (hM w w (by omega)) rfl rfl rfl rfl ?_
          repeat (first | (with_reducible refine W.id_ ?_); (refine W.reg ?_) | (with_reducible refine RK.id_ ?_); (first | refine RK.cons_ ?_; (first | refine RK.k_ 0 rfl ?_; refine .p rfl rfl rfl (by exact trivial) ?_ | refine RK.k_ 3 rfl ?_; (refine .shr 2 rfl rfl rfl rfl rfl (by omega) rfl ?_)) | refine RK.nilT rfl ?_ rfl))
          refine .nil ?_ rfl
          refine ⟨(u, w + w, ((q' + 1 : Nat) : Int)), by show (((q' + 1 : Nat) : Int)).toNat < ((2 * (q' + 1) : Nat) : Int).toNat; omega, ⟨?_, by show ((q' + 1 : Nat) : Int) ≤ _; omega⟩, .heap ?_ rfl⟩
          · show u + (w + w) * (((q' + 1 : Nat) : Int)).toNat = n.toNat
            rw [Int.toNat_natCast, Nat.add_mul, Nat.mul_add, Nat.mul_one]; omega
          · repeat (first | exact trivial | refine ⟨⟨_, rfl, .refl _⟩, ?_⟩ | refine ⟨⟨_, rfl, .of_eq (congrArg (D.int _) (by (dsimp only; omega)))⟩, ?_⟩)
        · omega
    · refine W.exit ⟨(u, w, r), ?_, .heap ?_ rfl⟩
      · dsimp only
        have : r.toNat = 0 := by omega
        rw [this] at k1
        omega
      · repeat (first | exact trivial | refine ⟨⟨_, rfl, .refl _⟩, ?_⟩)
  · rintro ⟨u, w, r⟩ hu
    dsimp only at hu ⊢
    subst hu
    repeat (first | (with_reducible refine W.id_ ?_); (refine W.sreg ?_) | (with_reducible refine RK.id_ ?_); (first | refine RK.cons_ ?_; (refine RK.k_ 0 rfl ?_; refine .p rfl rfl rfl (by exact trivial) ?_) | refine RK.nilT rfl ?_ rfl))
    refine W.ret ⟨_, rfl, .eq (by repeat (exact eP_pure _)) ?_, rfl⟩
    rfl
end Go.Proofs.Ytbdefjbekbbldaa

namespace Go.Proofs.Ytbdefjbekbbldaa
open Go.V Go.N
set_option maxHeartbeats 8000000
set_option maxRecDepth 20000

theorem vals_take (p : List RT) (i : Nat) : vals (p.take i) = (vals p).take i := List.map_take
theorem vals_next {p : List RT} {i : Nat} (h : i < p.length) : vals (p.take (i + 1)) = vals (p.take i) ++ [(zv (p.getD i zT).1, (p.getD i zT).2)] := by
  rw [take_next (z := zT) h, vals_append]; rfl
theorem cf_next {p : List RT} {i : Nat} {m : M} (h : i < p.length) : cf (vals (p.take (i + 1))) m = (if (p.getD i zT).2 = m then zv (p.getD i zT).1 else 0) + cf (vals (p.take i)) m := by
  rw [vals_next h, cf_append]
  simp only [cf]
  omega

/- cylinderref20.Coef -/
theorem RCoef_spec {p : List RT} {m : M} (hp : Pok p) : PureFn Try.prog 21 [eP p, eM m] (eZ (zcan (if V m then cf (vals p) m else 0))) := by
  have hpn := hp.n
  have hsm : ∀ i, okZ (zcan (cf (vals (p.take i)) m)) := fun i => .can (Nat.lt_of_le_of_lt (cf_l1 _ _) (by rw [vals_take]; exact Nat.lt_of_le_of_lt (l1_take _ _) hp.l))
  refine .of_W (fn := Try.f21) (by repeat (first | exact trivial | refine ⟨(by repeat (first | exact eP_pure _ | exact eM_pure _)), ?_⟩)) Try.call21 Try.func21 rfl rfl ?_
  repeat (first | (with_reducible refine W.id_ ?_); (refine W.sreg ?_) | (with_reducible refine RK.id_ ?_); (first | refine RK.cons_ ?_; (refine RK.k_ 6 rfl ?_; (first | refine .box _ rfl rfl rfl rfl rfl rfl rfl ?_ | refine .alloc _ rfl rfl rfl rfl rfl rfl rfl ?_)) | refine RK.nilT rfl ?_ rfl))
  refine .call (Of_spec (n := 0) (by decide) (by decide)) rfl rfl rfl rfl ?_
  repeat (first | (with_reducible refine W.id_ ?_); (first | refine W.sreg ?_ | refine W.seq ?_) | (with_reducible refine RK.id_ ?_); (first | refine RK.cons_ ?_; (first | refine RK.k_ 5 rfl ?_; (refine .ldla rfl rfl rfl rfl rfl rfl rfl (by rfl) rfl ?_) | refine RK.k_ 6 rfl ?_; (first | refine .alloc _ rfl rfl rfl rfl rfl rfl rfl ?_ | refine .store rfl rfl rfl rfl rfl rfl rfl (by rfl) (by rfl) (by rfl) ?_)) | refine RK.nilT rfl ?_ rfl))
  refine .call (Valid_spec m) rfl rfl rfl rfl ?_
  repeat ((with_reducible refine RK.id_ ?_); (first | refine RK.cons_ ?_; (refine RK.k_ 0 rfl ?_; refine .p rfl rfl rfl (by exact trivial) ?_) | refine RK.nilT rfl ?_ rfl))
  refine W.cond_ndec rfl (fun h => ?_) (fun h => ?_)
  · repeat (first | (with_reducible refine W.id_ ?_); (refine W.sreg ?_) | (with_reducible refine RK.id_ ?_); (first | refine RK.cons_ ?_; (first | refine RK.k_ 5 rfl ?_; (refine .ldla rfl rfl rfl rfl rfl rfl rfl (by rfl) rfl ?_) | refine RK.k_ 6 rfl ?_; (refine .store rfl rfl rfl rfl rfl rfl rfl (by rfl) (by rfl) (by rfl) ?_)) | refine RK.nilT rfl ?_ rfl))
    refine W.ret ⟨_, rfl, .eq (by repeat (exact eZ_pure _)) ?_, rfl⟩
    rw [if_neg h]; rfl
  repeat (first | (with_reducible refine W.id_ ?_); (first | refine W.sreg ?_ | refine W.seq ?_ | refine W.skipT rfl ?_) | (with_reducible refine RK.id_ ?_); (first | refine RK.cons_ ?_; (refine RK.k_ 0 rfl ?_; refine .p rfl rfl rfl (by exact trivial) ?_) | refine RK.nilT rfl ?_ rfl))
  refine W.loopE (fun i => i ≤ p.length) (fun i => i = p.length) (fun i => p.length - i) (fun i => [(6, I (i : Int)), (0, eP p), (3, .ptr 0 0), (4, .ptr 1 0), (5, .ptr 2 0)]) (fun i => [some (.cells (mc m)), some (.cells [.bool false, .snil]), some (.cells (zc (zcan (cf (vals (p.take i)) m))))]) (0) rfl ?_ ?_ ?_ ?_
  · exact Nat.zero_le _
  · refine .heap ?_ rfl
    repeat (first | exact trivial | refine ⟨⟨_, rfl, .refl _⟩, ?_⟩)
  · intro i hi
    repeat (first | (with_reducible refine W.id_ ?_); (first | refine W.sreg ?_ | refine W.seq ?_) | (with_reducible refine RK.id_ ?_); (first | refine RK.cons_ ?_; (refine RK.k_ 0 rfl ?_; refine .p rfl rfl rfl (by exact trivial) ?_) | refine RK.nilT rfl ?_ rfl))
    refine W.cond_dec rfl (fun h2 => ?_) (fun h2 => ?_)
    · have hi : i < p.length := by omega
      repeat (first | (with_reducible refine W.id_ ?_); (first | refine W.sdraw mixed (by kernel_rfl) (by kernel_rfl) ?_ | refine W.seq ?_ | refine W.blockS ?_ | refine W.skipT rfl ?_) | (with_reducible refine RK.id_ ?_); (first | refine RK.cons_ ?_; (first | refine RK.k_ 0 rfl ?_; refine .p rfl rfl rfl (by exact trivial) ?_ | refine RK.k_ 4 rfl ?_; (refine .ix _ (s := 6) rfl rfl rfl rfl rfl rfl rfl (by rfl) (by omega) ?_) | refine RK.k_ 5 rfl ?_; (first | refine .ldla rfl rfl rfl rfl rfl rfl rfl (by rfl) rfl ?_ | refine .lda _ rfl rfl rfl rfl rfl rfl rfl (by exact take_part (z := zT) tc_len (by omega) (Nat.le_of_ble_eq_true rfl) (Nat.le_of_ble_eq_true rfl) rfl rfl) ?_)) | refine RK.nilT rfl ?_ rfl))
      refine W.cond rfl (fun h3 => ?_) (fun h3 => ?_)
      · have h4 : (p.getD i zT).2 = m := eqM_true h3
        have hz : okZ (p.getD i zT).1 := hp.z _ (getD_mem hi)
        have hA := Zadd_spec (hsm i) hz
        rw [zv_can, show cf (vals (p.take i)) m + zv (p.getD i zT).1 = cf (vals (p.take (i + 1))) m by rw [cf_next hi, if_pos h4]; omega] at hA
        repeat (first | (with_reducible refine W.id_ ?_); (refine W.draw mixed (by kernel_rfl) (by kernel_rfl) ?_) | (with_reducible refine RK.id_ ?_); (refine RK.cons_ ?_; (first | refine RK.k_ 0 rfl ?_; refine .p rfl rfl rfl (by exact trivial) ?_ | refine RK.k_ 4 rfl ?_; (refine .ix _ (s := 6) rfl rfl rfl rfl rfl rfl rfl (by rfl) (by omega) ?_) | refine RK.k_ 5 rfl ?_; (first | refine .ldla rfl rfl rfl rfl rfl rfl rfl (by rfl) rfl ?_ | refine .lda _ rfl rfl rfl rfl rfl rfl rfl (by exact take_part (z := zT) tc_len (by omega) (Nat.le_of_ble_eq_true rfl) (Nat.le_of_ble_eq_true rfl) rfl rfl) ?_))))
        refine .call (hA) rfl rfl rfl rfl ?_
        repeat (first | (with_reducible refine W.id_ ?_); (refine W.reg ?_) | (with_reducible refine RK.id_ ?_); (first | refine RK.cons_ ?_; (first | refine RK.k_ 0 rfl ?_; refine .p rfl rfl rfl (by exact trivial) ?_ | refine RK.k_ 1 rfl ?_; (refine .pa rfl rfl rfl rfl rfl rfl (by omega) (by omega) ?_) | refine RK.k_ 6 rfl ?_; (refine .store rfl rfl rfl rfl rfl rfl rfl (by rfl) (by rfl) (by rfl) ?_)) | refine RK.nilT rfl ?_ rfl))
        refine .nil ?_ rfl
        refine ⟨i + 1, by show p.length - (i + 1) < p.length - i; omega, by show i + 1 ≤ _; omega, .heap ?_ rfl⟩
        repeat (first | exact trivial | refine ⟨⟨_, rfl, .refl _⟩, ?_⟩)
      · have h4 : (p.getD i zT).2 ≠ m := eqM_false h3
        repeat (first | (with_reducible refine W.id_ ?_); (first | refine W.reg ?_ | refine W.skipT rfl ?_) | (with_reducible refine RK.id_ ?_); (refine RK.cons_ ?_; (first | refine RK.k_ 0 rfl ?_; refine .p rfl rfl rfl (by exact trivial) ?_ | refine RK.k_ 1 rfl ?_; (refine .pa rfl rfl rfl rfl rfl rfl (by omega) (by omega) ?_))))
        refine .nil ?_ rfl
        refine ⟨i + 1, by show p.length - (i + 1) < p.length - i; omega, by show i + 1 ≤ _; omega, .heap ?_ (by dsimp only; rw [cf_next hi, if_neg h4, Int.zero_add])⟩
        repeat (first | exact trivial | refine ⟨⟨_, rfl, .refl _⟩, ?_⟩)
    · refine W.exit ⟨i, by omega, .heap ?_ rfl⟩
      repeat (first | exact trivial | refine ⟨⟨_, rfl, .refl _⟩, ?_⟩)
  · rintro i rfl
    rw [List.take_of_length_le (Nat.le_refl _)]
    repeat (first | (with_reducible refine W.id_ ?_); (refine W.sreg ?_) | (with_reducible refine RK.id_ ?_); (first | refine RK.cons_ ?_; (first | refine RK.k_ 5 rfl ?_; (refine .ldla rfl rfl rfl rfl rfl rfl rfl (by rfl) rfl ?_) | refine RK.k_ 6 rfl ?_; (refine .store rfl rfl rfl rfl rfl rfl rfl (by rfl) (by rfl) (by rfl) ?_)) | refine RK.nilT rfl ?_ rfl))
    refine W.ret ⟨_, rfl, .eq (by repeat (exact eZ_pure _)) ?_, rfl⟩
    rw [if_pos (by simpa using h)]
    rfl
/- cylinderref20.CompareMono -/
theorem RCompareMono_spec (a b : M) : PureFn Try.prog 42 [eM a, eM b] (I (cmpM a b)) := by
  refine .of_W (fn := Try.f42) (by repeat (first | exact trivial | refine ⟨(by repeat (exact eM_pure _)), ?_⟩)) Try.call42 Try.func42 rfl rfl ?_
  repeat (first | (with_reducible refine W.id_ ?_); (first | refine W.sreg ?_ | refine W.seq ?_) | (with_reducible refine RK.id_ ?_); (first | refine RK.cons_ ?_; (first | refine RK.k_ 0 rfl ?_; refine .p rfl rfl rfl (by exact trivial) ?_ | refine RK.k_ 6 rfl ?_; (refine .box _ rfl rfl rfl rfl rfl rfl rfl ?_)) | refine RK.nilT rfl ?_ rfl))
  refine W.loopE (fun k => k ≤ 4 ∧ (k ≤ 3 → a.x3 = b.x3) ∧ (k ≤ 2 → a.x2 = b.x2) ∧ (k ≤ 1 → a.x1 = b.x1) ∧ (k = 0 → a.x0 = b.x0)) (fun k => a.x3 = b.x3 ∧ a.x2 = b.x2 ∧ a.x1 = b.x1 ∧ a.x0 = b.x0) (fun k => k) (fun k => [(5, I ((k : Int) - 1)), (2, .ptr 0 0), (3, .ptr 1 0)]) (fun _ => [some (.cells (mc a)), some (.cells (mc b))]) (4) rfl ?_ ?_ ?_ ?_
  · exact ⟨Nat.le_refl _, by omega, by omega, by omega, by omega⟩
  · refine .heap ?_ rfl
    repeat (first | exact trivial | refine ⟨⟨_, rfl, .refl _⟩, ?_⟩)
  · rintro k ⟨h1, h2⟩
    obtain rfl | rfl | rfl | rfl | rfl : k = 4 ∨ k = 3 ∨ k = 2 ∨ k = 1 ∨ k = 0 := by omega
    · repeat (first | (with_reducible refine W.id_ ?_); (first | refine W.sreg ?_ | refine W.sdraw mixed (by kernel_rfl) (by kernel_rfl) ?_ | refine W.seq ?_ | refine W.blockS ?_ | refine W.skipT rfl ?_ | refine W.condT rfl ?_) | (with_reducible refine RK.id_ ?_); (first | refine RK.cons_ ?_; (first | refine RK.k_ 0 rfl ?_; refine .p rfl rfl rfl (by exact trivial) ?_ | refine RK.k_ 4 rfl ?_; (refine .p rfl rfl rfl (by omega) ?_) | refine RK.k_ 5 rfl ?_; (refine .ldl rfl rfl rfl rfl rfl rfl rfl (by rfl) (by rfl) ?_)) | refine RK.nilT rfl ?_ rfl))
      refine W.cond_dec rfl (fun h => ?_) (fun h => ?_)
      · repeat (first | (with_reducible refine W.id_ ?_); (refine W.sreg ?_) | (with_reducible refine RK.id_ ?_); (first | refine RK.cons_ ?_; (refine RK.k_ 0 rfl ?_; refine .p rfl rfl rfl (by exact trivial) ?_) | refine RK.nilT rfl ?_ rfl))
        refine W.ret ⟨_, rfl, .eq (by repeat (exact .int _ _)) ?_, rfl⟩
        exact congrArg I (by rw [cm_gt (by omega)])
      repeat (first | (with_reducible refine W.id_ ?_); (first | refine W.sdraw mixed (by kernel_rfl) (by kernel_rfl) ?_ | refine W.skipT rfl ?_) | (with_reducible refine RK.id_ ?_); (first | refine RK.cons_ ?_; (first | refine RK.k_ 0 rfl ?_; refine .p rfl rfl rfl (by exact trivial) ?_ | refine RK.k_ 4 rfl ?_; (refine .p rfl rfl rfl (by omega) ?_) | refine RK.k_ 5 rfl ?_; (refine .ldl rfl rfl rfl rfl rfl rfl rfl (by rfl) (by rfl) ?_)) | refine RK.nilT rfl ?_ rfl))
      refine W.cond_dec rfl (fun h2 => ?_) (fun h2 => ?_)
      · repeat (first | (with_reducible refine W.id_ ?_); (refine W.sreg ?_) | (with_reducible refine RK.id_ ?_); (first | refine RK.cons_ ?_; (refine RK.k_ 0 rfl ?_; refine .p rfl rfl rfl (by exact trivial) ?_) | refine RK.nilT rfl ?_ rfl))
        refine W.ret ⟨_, rfl, .eq (by repeat (exact .int _ _)) ?_, rfl⟩
        exact congrArg I (by rw [cm_lt (by omega)])
      repeat (first | (with_reducible refine W.id_ ?_); (first | refine W.reg ?_ | refine W.skipT rfl ?_) | (with_reducible refine RK.id_ ?_); (refine RK.cons_ ?_; (first | refine RK.k_ 0 rfl ?_; refine .p rfl rfl rfl (by exact trivial) ?_ | refine RK.k_ 1 rfl ?_; (refine .pa rfl rfl rfl rfl rfl rfl (by omega) (by omega) ?_))))
      refine .nil ?_ rfl
      refine ⟨3, by show 3 < 4; omega, ⟨by show 3 ≤ 4; omega, by omega⟩, .heap ?_ rfl⟩
      repeat (first | exact trivial | refine ⟨⟨_, rfl, .refl _⟩, ?_⟩)
    · repeat (first | (with_reducible refine W.id_ ?_); (first | refine W.sreg ?_ | refine W.sdraw mixed (by kernel_rfl) (by kernel_rfl) ?_ | refine W.seq ?_ | refine W.blockS ?_ | refine W.skipT rfl ?_ | refine W.condT rfl ?_) | (with_reducible refine RK.id_ ?_); (first | refine RK.cons_ ?_; (first | refine RK.k_ 0 rfl ?_; refine .p rfl rfl rfl (by exact trivial) ?_ | refine RK.k_ 4 rfl ?_; (refine .p rfl rfl rfl (by omega) ?_) | refine RK.k_ 5 rfl ?_; (refine .ldl rfl rfl rfl rfl rfl rfl rfl (by rfl) (by rfl) ?_)) | refine RK.nilT rfl ?_ rfl))
      refine W.cond_dec rfl (fun h => ?_) (fun h => ?_)
      · repeat (first | (with_reducible refine W.id_ ?_); (refine W.sreg ?_) | (with_reducible refine RK.id_ ?_); (first | refine RK.cons_ ?_; (refine RK.k_ 0 rfl ?_; refine .p rfl rfl rfl (by exact trivial) ?_) | refine RK.nilT rfl ?_ rfl))
        refine W.ret ⟨_, rfl, .eq (by repeat (exact .int _ _)) ?_, rfl⟩
        exact congrArg I (by rw [cm_gt (by omega)])
      repeat (first | (with_reducible refine W.id_ ?_); (first | refine W.sdraw mixed (by kernel_rfl) (by kernel_rfl) ?_ | refine W.skipT rfl ?_) | (with_reducible refine RK.id_ ?_); (first | refine RK.cons_ ?_; (first | refine RK.k_ 0 rfl ?_; refine .p rfl rfl rfl (by exact trivial) ?_ | refine RK.k_ 4 rfl ?_; (refine .p rfl rfl rfl (by omega) ?_) | refine RK.k_ 5 rfl ?_; (refine .ldl rfl rfl rfl rfl rfl rfl rfl (by rfl) (by rfl) ?_)) | refine RK.nilT rfl ?_ rfl))
      refine W.cond_dec rfl (fun h2 => ?_) (fun h2 => ?_)
      · repeat (first | (with_reducible refine W.id_ ?_); (refine W.sreg ?_) | (with_reducible refine RK.id_ ?_); (first | refine RK.cons_ ?_; (refine RK.k_ 0 rfl ?_; refine .p rfl rfl rfl (by exact trivial) ?_) | refine RK.nilT rfl ?_ rfl))
        refine W.ret ⟨_, rfl, .eq (by repeat (exact .int _ _)) ?_, rfl⟩
        exact congrArg I (by rw [cm_lt (by omega)])
      repeat (first | (with_reducible refine W.id_ ?_); (first | refine W.reg ?_ | refine W.skipT rfl ?_) | (with_reducible refine RK.id_ ?_); (refine RK.cons_ ?_; (first | refine RK.k_ 0 rfl ?_; refine .p rfl rfl rfl (by exact trivial) ?_ | refine RK.k_ 1 rfl ?_; (refine .pa rfl rfl rfl rfl rfl rfl (by omega) (by omega) ?_))))
      refine .nil ?_ rfl
      refine ⟨2, by show 2 < 3; omega, ⟨by show 2 ≤ 4; omega, by omega⟩, .heap ?_ rfl⟩
      repeat (first | exact trivial | refine ⟨⟨_, rfl, .refl _⟩, ?_⟩)
    · repeat (first | (with_reducible refine W.id_ ?_); (first | refine W.sreg ?_ | refine W.sdraw mixed (by kernel_rfl) (by kernel_rfl) ?_ | refine W.seq ?_ | refine W.blockS ?_ | refine W.skipT rfl ?_ | refine W.condT rfl ?_) | (with_reducible refine RK.id_ ?_); (first | refine RK.cons_ ?_; (first | refine RK.k_ 0 rfl ?_; refine .p rfl rfl rfl (by exact trivial) ?_ | refine RK.k_ 4 rfl ?_; (refine .p rfl rfl rfl (by omega) ?_) | refine RK.k_ 5 rfl ?_; (refine .ldl rfl rfl rfl rfl rfl rfl rfl (by rfl) (by rfl) ?_)) | refine RK.nilT rfl ?_ rfl))
      refine W.cond_dec rfl (fun h => ?_) (fun h => ?_)
      · repeat (first | (with_reducible refine W.id_ ?_); (refine W.sreg ?_) | (with_reducible refine RK.id_ ?_); (first | refine RK.cons_ ?_; (refine RK.k_ 0 rfl ?_; refine .p rfl rfl rfl (by exact trivial) ?_) | refine RK.nilT rfl ?_ rfl))
        refine W.ret ⟨_, rfl, .eq (by repeat (exact .int _ _)) ?_, rfl⟩
        exact congrArg I (by rw [cm_gt (by omega)])
      repeat (first | (with_reducible refine W.id_ ?_); (first | refine W.sdraw mixed (by kernel_rfl) (by kernel_rfl) ?_ | refine W.skipT rfl ?_) | (with_reducible refine RK.id_ ?_); (first | refine RK.cons_ ?_; (first | refine RK.k_ 0 rfl ?_; refine .p rfl rfl rfl (by exact trivial) ?_ | refine RK.k_ 4 rfl ?_; (refine .p rfl rfl rfl (by omega) ?_) | refine RK.k_ 5 rfl ?_; (refine .ldl rfl rfl rfl rfl rfl rfl rfl (by rfl) (by rfl) ?_)) | refine RK.nilT rfl ?_ rfl))
      refine W.cond_dec rfl (fun h2 => ?_) (fun h2 => ?_)
      · repeat (first | (with_reducible refine W.id_ ?_); (refine W.sreg ?_) | (with_reducible refine RK.id_ ?_); (first | refine RK.cons_ ?_; (refine RK.k_ 0 rfl ?_; refine .p rfl rfl rfl (by exact trivial) ?_) | refine RK.nilT rfl ?_ rfl))
        refine W.ret ⟨_, rfl, .eq (by repeat (exact .int _ _)) ?_, rfl⟩
        exact congrArg I (by rw [cm_lt (by omega)])
      repeat (first | (with_reducible refine W.id_ ?_); (first | refine W.reg ?_ | refine W.skipT rfl ?_) | (with_reducible refine RK.id_ ?_); (refine RK.cons_ ?_; (first | refine RK.k_ 0 rfl ?_; refine .p rfl rfl rfl (by exact trivial) ?_ | refine RK.k_ 1 rfl ?_; (refine .pa rfl rfl rfl rfl rfl rfl (by omega) (by omega) ?_))))
      refine .nil ?_ rfl
      refine ⟨1, by show 1 < 2; omega, ⟨by show 1 ≤ 4; omega, by omega⟩, .heap ?_ rfl⟩
      repeat (first | exact trivial | refine ⟨⟨_, rfl, .refl _⟩, ?_⟩)
    · repeat (first | (with_reducible refine W.id_ ?_); (first | refine W.sreg ?_ | refine W.sdraw mixed (by kernel_rfl) (by kernel_rfl) ?_ | refine W.seq ?_ | refine W.blockS ?_ | refine W.skipT rfl ?_ | refine W.condT rfl ?_) | (with_reducible refine RK.id_ ?_); (first | refine RK.cons_ ?_; (first | refine RK.k_ 0 rfl ?_; refine .p rfl rfl rfl (by exact trivial) ?_ | refine RK.k_ 4 rfl ?_; (refine .p rfl rfl rfl (by omega) ?_) | refine RK.k_ 5 rfl ?_; (refine .ldl rfl rfl rfl rfl rfl rfl rfl (by rfl) (by rfl) ?_)) | refine RK.nilT rfl ?_ rfl))
      refine W.cond_dec rfl (fun h => ?_) (fun h => ?_)
      · repeat (first | (with_reducible refine W.id_ ?_); (refine W.sreg ?_) | (with_reducible refine RK.id_ ?_); (first | refine RK.cons_ ?_; (refine RK.k_ 0 rfl ?_; refine .p rfl rfl rfl (by exact trivial) ?_) | refine RK.nilT rfl ?_ rfl))
        refine W.ret ⟨_, rfl, .eq (by repeat (exact .int _ _)) ?_, rfl⟩
        exact congrArg I (by rw [cm_gt (by omega)])
      repeat (first | (with_reducible refine W.id_ ?_); (first | refine W.sdraw mixed (by kernel_rfl) (by kernel_rfl) ?_ | refine W.skipT rfl ?_) | (with_reducible refine RK.id_ ?_); (first | refine RK.cons_ ?_; (first | refine RK.k_ 0 rfl ?_; refine .p rfl rfl rfl (by exact trivial) ?_ | refine RK.k_ 4 rfl ?_; (refine .p rfl rfl rfl (by omega) ?_) | refine RK.k_ 5 rfl ?_; (refine .ldl rfl rfl rfl rfl rfl rfl rfl (by rfl) (by rfl) ?_)) | refine RK.nilT rfl ?_ rfl))
      refine W.cond_dec rfl (fun h2 => ?_) (fun h2 => ?_)
      · repeat (first | (with_reducible refine W.id_ ?_); (refine W.sreg ?_) | (with_reducible refine RK.id_ ?_); (first | refine RK.cons_ ?_; (refine RK.k_ 0 rfl ?_; refine .p rfl rfl rfl (by exact trivial) ?_) | refine RK.nilT rfl ?_ rfl))
        refine W.ret ⟨_, rfl, .eq (by repeat (exact .int _ _)) ?_, rfl⟩
        exact congrArg I (by rw [cm_lt (by omega)])
      repeat (first | (with_reducible refine W.id_ ?_); (first | refine W.reg ?_ | refine W.skipT rfl ?_) | (with_reducible refine RK.id_ ?_); (refine RK.cons_ ?_; (first | refine RK.k_ 0 rfl ?_; refine .p rfl rfl rfl (by exact trivial) ?_ | refine RK.k_ 1 rfl ?_; (refine .pa rfl rfl rfl rfl rfl rfl (by omega) (by omega) ?_))))
      refine .nil ?_ rfl
      refine ⟨0, by show 0 < 1; omega, ⟨by show 0 ≤ 4; omega, by omega⟩, .heap ?_ rfl⟩
      repeat (first | exact trivial | refine ⟨⟨_, rfl, .refl _⟩, ?_⟩)
    · repeat (first | (with_reducible refine W.id_ ?_); (first | refine W.sreg ?_ | refine W.seq ?_ | refine W.condF rfl ?_) | (with_reducible refine RK.id_ ?_); (first | refine RK.cons_ ?_; (refine RK.k_ 0 rfl ?_; refine .p rfl rfl rfl (by exact trivial) ?_) | refine RK.nilT rfl ?_ rfl))
      refine W.exit ⟨0, by omega, .heap ?_ rfl⟩
      repeat (first | exact trivial | refine ⟨⟨_, rfl, .refl _⟩, ?_⟩)
  · intro k h
    repeat (first | (with_reducible refine W.id_ ?_); (refine W.sreg ?_) | (with_reducible refine RK.id_ ?_); (first | refine RK.cons_ ?_; (refine RK.k_ 0 rfl ?_; refine .p rfl rfl rfl (by exact trivial) ?_) | refine RK.nilT rfl ?_ rfl))
    refine W.ret ⟨_, rfl, .eq (by repeat (exact .int _ _)) ?_, rfl⟩
    exact congrArg I (by rw [cm_eq h])


end Go.Proofs.Ytbdefjbekbbldaa

namespace Go.Proofs.Ytbdefjbekbbldaa
open Go.V Go.N
set_option maxHeartbeats 8000000
set_option maxRecDepth 20000

theorem zcan_nz {c : Int} (h : c ≠ 0) : 0 < (zcan c).2.length ∧ (zcan c).2.getD ((zcan c).2.length - 1) 0 ≠ 0 := by
  show 0 < (dig c.natAbs).length ∧ (dig c.natAbs).getD ((dig c.natAbs).length - 1) 0 ≠ 0
  have hn : c.natAbs ≠ 0 := by omega
  have h0 : (dig c.natAbs).length ≠ 0 := fun e => hn (dig_len0.1 (by omega))
  refine ⟨by omega, ?_⟩
  rcases dig_last c.natAbs with e | ⟨x, e, hx⟩
  · rw [e] at h0; exact absurd rfl h0
  · rw [List.getLast?_eq_getElem?] at e
    rw [List.getD_eq_getElem?_getD, e]; exact hx

/- cylinderref20.Canonical -/
theorem Canonical_spec {q : P} (hc : Canon q) (hq : Pok (can q)) : PureFn Try.prog 15 [eP (can q)] (.bool true) := by
  have hn : (can q).length ≤ 1000000 := hq.n
  have hl : (can q).length = q.length := can_len q
  refine .of_W (fn := Try.f15) (by repeat (first | exact trivial | refine ⟨(by repeat (exact eP_pure _)), ?_⟩)) Try.call15 Try.func15 rfl rfl ?_
  repeat (first | (with_reducible refine W.id_ ?_); (first | refine W.sreg ?_ | refine W.seq ?_) | (with_reducible refine RK.id_ ?_); (first | refine RK.cons_ ?_; (refine RK.k_ 0 rfl ?_; refine .p rfl rfl rfl (by exact trivial) ?_) | refine RK.nilT rfl ?_ rfl))
  refine W.loopE (fun i => i ≤ q.length) (fun i => True) (fun i => q.length - i) (fun i => [(3, I (i : Int)), (0, eP (can q))]) (fun i => []) (0) rfl ?_ ?_ ?_ ?_
  · exact Nat.zero_le _
  · refine .heap ?_ rfl
    repeat (first | exact trivial | refine ⟨⟨_, rfl, .refl _⟩, ?_⟩)
  · intro i hi
    repeat (first | (with_reducible refine W.id_ ?_); (first | refine W.sreg ?_ | refine W.seq ?_) | (with_reducible refine RK.id_ ?_); (first | refine RK.cons_ ?_; (refine RK.k_ 0 rfl ?_; refine .p rfl rfl rfl (by exact trivial) ?_) | refine RK.nilT rfl ?_ rfl))
    refine W.cond_dec rfl (fun h2 => ?_) (fun h2 => ?_)
    · have hi' : i < q.length := by omega
      have hm : q.getD i tz ∈ q := getD_mem hi'
      have hg : (can q).getD i zT = (zcan (q.getD i tz).1, (q.getD i tz).2) := getD_can hi'
      have hnz := zcan_nz (hc.nz _ hm)
      have hv := hc.v _ hm
      have hz : okZ ((can q).getD i zT).1 := hq.z _ (getD_mem (by omega))
      rw [← show ((can q).getD i zT).1 = zcan (q.getD i tz).1 by rw [hg]] at hnz
      rw [← show ((can q).getD i zT).2 = (q.getD i tz).2 by rw [hg]] at hv
      have hV := Valid_spec ((can q).getD i zT).2
      rw [decide_eq_true hv] at hV
      repeat (first | (with_reducible refine W.id_ ?_); (first | refine W.sreg ?_ | refine W.seq ?_ | refine W.blockS ?_ | refine W.skipT rfl ?_) | (with_reducible refine RK.id_ ?_); (first | refine RK.cons_ ?_; (first | refine RK.k_ 0 rfl ?_; refine .p rfl rfl rfl (by exact trivial) ?_ | refine RK.k_ 4 rfl ?_; (refine .ix _ (s := 6) rfl rfl rfl rfl rfl rfl rfl (by rfl) (by omega) ?_) | refine RK.k_ 5 rfl ?_; (first | refine .ldl rfl rfl rfl rfl rfl rfl rfl (by rfl) (by rfl) ?_ | refine .lda _ rfl rfl rfl rfl rfl rfl rfl (by exact take_part (z := zT) tc_len (by omega) (Nat.le_of_ble_eq_true rfl) (Nat.le_of_ble_eq_true rfl) rfl rfl) ?_) | refine RK.k_ 6 rfl ?_; (first | refine .alloc _ rfl rfl rfl rfl rfl rfl rfl ?_ | refine .store rfl rfl rfl rfl rfl rfl rfl (by rfl) (by rfl) (by rfl) ?_)) | refine RK.nilT rfl ?_ rfl))
      refine .call (hV) rfl rfl rfl rfl ?_
      repeat ((with_reducible refine RK.id_ ?_); (refine RK.cons_ ?_; (refine RK.k_ 0 rfl ?_; refine .p rfl rfl rfl (by exact trivial) ?_)))
      refine .dsplit (fun h3 => ?_) (fun h3 => ?_)
      · omega
      · obtain ⟨k, hk⟩ : ∃ k, ((can q).getD i zT).1.2.length = k + 1 := ⟨((can q).getD i zT).1.2.length - 1, by omega⟩
        rw [hk, Nat.add_sub_cancel] at hnz
        have hzl := hz.len
        repeat ((with_reducible refine RK.id_ ?_); (first | refine RK.cons_ ?_; (first | refine RK.k_ 0 rfl ?_; refine .p rfl rfl rfl (by exact trivial) ?_ | refine RK.k_ 1 rfl ?_; (refine .pa rfl rfl rfl rfl rfl rfl (by omega) (by omega) ?_) | refine RK.k_ 4 rfl ?_; (refine .ix _ (s := 1) rfl rfl rfl rfl rfl rfl rfl (by exact (Int.toNat_of_nonneg (by omega)).symm) (by omega) ?_) | refine RK.k_ 5 rfl ?_; (first | refine .ldl rfl rfl rfl rfl rfl rfl rfl (by rfl) (by rfl) ?_ | refine .ld _ rfl rfl rfl rfl rfl rfl (by exact n_get (by omega) rfl) ?_)) | refine RK.nilT rfl ?_ rfl))
        refine W.cond_dec rfl (fun h4 => ?_) (fun h4 => ?_)
        · rw [show ((((can q).getD i zT).1.2.length : Int) - 1).toNat = k by omega] at h4
          exact absurd h4 hnz.2
        repeat (first | (with_reducible refine W.id_ ?_); (first | refine W.sdraw mixed (by kernel_rfl) (by kernel_rfl) ?_ | refine W.skipT rfl ?_) | (with_reducible refine RK.id_ ?_); (refine RK.cons_ ?_; (refine RK.k_ 0 rfl ?_; refine .p rfl rfl rfl (by exact trivial) ?_)))
        cases i with
        | zero =>
          refine .dsplit (fun h5 => ?_) (fun h5 => ?_)
          · omega
          repeat (first | (with_reducible refine W.id_ ?_); (first | refine W.reg ?_ | refine W.skipT rfl ?_ | refine W.condF rfl ?_) | (with_reducible refine RK.id_ ?_); (first | refine RK.cons_ ?_; (first | refine .skip rfl rfl ?_ | refine RK.k_ 0 rfl ?_; refine .p rfl rfl rfl (by exact trivial) ?_ | refine RK.k_ 1 rfl ?_; (refine .pa rfl rfl rfl rfl rfl rfl (by omega) (by omega) ?_)) | refine RK.nilT rfl ?_ rfl))
          refine .nil ?_ rfl
          refine ⟨1, by show q.length - 1 < q.length - 0; omega, by show 1 ≤ _; omega, .ren [] [] (Nat.zero_le _) (fun b hb => absurd hb (Nat.not_lt_zero b)) (by simp) ?_ trivial⟩
          repeat (first | exact trivial | refine ⟨⟨_, rfl, .wk (by repeat (first | exact .int _ _ | exact eP_pure _)) (by exact .refl _)⟩, ?_⟩)
        | succ i =>
          have hlt : cmpM ((can q).getD i zT).2 ((can q).getD (i + 1) zT).2 > 0 := by
            rw [getD_can (show i < q.length by omega), getD_can hi']
            have := List.pairwise_iff_getElem.1 hc.ord i (i + 1) (by omega) hi' (by omega)
            rw [cmpM_neg]
            simp [show i < q.length by omega, hi']
            omega
          refine .dsplit (fun h5 => ?_) (fun h5 => ?_)
          · repeat ((with_reducible refine RK.id_ ?_); (refine RK.cons_ ?_; (first | refine RK.k_ 0 rfl ?_; refine .p rfl rfl rfl (by exact trivial) ?_ | refine RK.k_ 1 rfl ?_; (refine .pa rfl rfl rfl rfl rfl rfl (by omega) (by omega) ?_) | refine RK.k_ 4 rfl ?_; (refine .ix _ (s := 6) rfl rfl rfl rfl rfl rfl rfl (by first | rfl | exact (Int.toNat_of_nonneg (by omega)).symm) (by omega) ?_) | refine RK.k_ 5 rfl ?_; (refine .lda _ rfl rfl rfl rfl rfl rfl rfl (by exact take_part (z := zT) tc_len (by omega) (Nat.le_of_ble_eq_true rfl) (Nat.le_of_ble_eq_true rfl) rfl rfl) ?_))))
            refine .call (RCompareMono_spec ((can q).getD (((i + 1 : Nat) : Int) - 1).toNat zT).2 ((can q).getD (i + 1) zT).2) rfl rfl rfl rfl ?_
            repeat ((with_reducible refine RK.id_ ?_); (first | refine RK.cons_ ?_; (refine RK.k_ 0 rfl ?_; refine .p rfl rfl rfl (by exact trivial) ?_) | refine RK.nilT rfl ?_ rfl))
            refine W.cond_dec rfl (fun h6 => ?_) (fun h6 => ?_)
            · rw [show ((((i + 1 : Nat)) : Int) - 1).toNat = i by omega] at h6
              omega
            repeat (first | (with_reducible refine W.id_ ?_); (first | refine W.reg ?_ | refine W.skipT rfl ?_) | (with_reducible refine RK.id_ ?_); (refine RK.cons_ ?_; (first | refine RK.k_ 0 rfl ?_; refine .p rfl rfl rfl (by exact trivial) ?_ | refine RK.k_ 1 rfl ?_; (refine .pa rfl rfl rfl rfl rfl rfl (by omega) (by omega) ?_))))
            refine .nil ?_ rfl
            refine ⟨i + 2, by show q.length - (i + 2) < q.length - (i + 1); omega, by show i + 2 ≤ _; omega, .ren [] [] (Nat.zero_le _) (fun b hb => absurd hb (Nat.not_lt_zero b)) (by simp) ?_ trivial⟩
            repeat (first | exact trivial | refine ⟨⟨_, rfl, .wk (by repeat (first | exact .int _ _ | exact eP_pure _)) (by exact .refl _)⟩, ?_⟩)
          · omega
    · refine W.exit ⟨i, trivial, .heap ?_ rfl⟩
      repeat (first | exact trivial | refine ⟨⟨_, rfl, .refl _⟩, ?_⟩)
  · rintro i _
    repeat (first | (with_reducible refine W.id_ ?_); (refine W.sreg ?_) | (with_reducible refine RK.id_ ?_); (first | refine RK.cons_ ?_; (refine RK.k_ 0 rfl ?_; refine .p rfl rfl rfl (by exact trivial) ?_) | refine RK.nilT rfl ?_ rfl))
    refine W.ret ⟨_, rfl, .eq (by repeat (exact .bool _)) ?_, rfl⟩
    rfl
end Go.Proofs.Ytbdefjbekbbldaa

namespace Go.Proofs.Ytbdefjbekbbldaa
open Go.V Go.N
set_option maxHeartbeats 8000000
set_option maxRecDepth 20000

def xok (e : Nat) (x : Int) : Prop := x ≤ e ∧ -1000 ≤ x
instance (e : Nat) (x : Int) : Decidable (xok e x) := inferInstanceAs (Decidable (_ ∧ _))
def fewT (d e : Nat) (t : RT) : Prop := t.1.2.length ≤ d ∧ xok e t.2.x0 ∧ xok e t.2.x1 ∧ xok e t.2.x2 ∧ xok e t.2.x3
instance (d e : Nat) (t : RT) : Decidable (fewT d e t) := inferInstanceAs (Decidable (_ ∧ _ ∧ _ ∧ _ ∧ _))
def few (p : List RT) (n d e : Nat) : Prop := p.length ≤ n ∧ ∀ t ∈ p, fewT d e t
instance (p : List RT) (n d e : Nat) : Decidable (few p n d e) := inferInstanceAs (Decidable (_ ∧ _))

/- cylinderref20.Few -/
theorem Few_spec {p : List RT} {n d e : Nat} (hn : n ≤ 1000) (hd : d ≤ 1000) (he : e ≤ 1000) (hp : p.length ≤ 9223372036854775807) (hz : ∀ t ∈ p, t.1.2.length ≤ 9223372036854775807) : PureFn Try.prog 55 [eP p, I n, I d, I e] (.bool (decide (few p n d e))) := by
  refine .of_W (fn := Try.f55) (by repeat (first | exact trivial | refine ⟨(by repeat (first | exact .int _ _ | exact eP_pure _)), ?_⟩)) Try.call55 Try.func55 rfl rfl ?_
  repeat (first | (with_reducible refine W.id_ ?_); (first | refine W.sreg ?_ | refine W.seq ?_) | (with_reducible refine RK.id_ ?_); (first | refine RK.cons_ ?_; (refine RK.k_ 0 rfl ?_; refine .p rfl rfl rfl (by exact trivial) ?_) | refine RK.nilT rfl ?_ rfl))
  refine W.cond_dec rfl (fun h => ?_) (fun h => ?_)
  · repeat (first | (with_reducible refine W.id_ ?_); (refine W.sreg ?_) | (with_reducible refine RK.id_ ?_); (first | refine RK.cons_ ?_; (refine RK.k_ 0 rfl ?_; refine .p rfl rfl rfl (by exact trivial) ?_) | refine RK.nilT rfl ?_ rfl))
    refine W.ret ⟨_, rfl, .eq (by repeat (exact .bool _)) ?_, rfl⟩
    rw [decide_eq_false (fun hf => by have := hf.1; omega)]
  repeat (first | (with_reducible refine W.id_ ?_); (first | refine W.sreg ?_ | refine W.seq ?_ | refine W.skipT rfl ?_) | (with_reducible refine RK.id_ ?_); (first | refine RK.cons_ ?_; (refine RK.k_ 0 rfl ?_; refine .p rfl rfl rfl (by exact trivial) ?_) | refine RK.nilT rfl ?_ rfl))
  refine W.loopE (fun i => i ≤ p.length ∧ ∀ k, k < i → fewT d e (p.getD k zT)) (fun i => ∀ k, k < p.length → fewT d e (p.getD k zT)) (fun i => p.length - i) (fun i => [(9, I (i : Int)), (0, eP p), (1, I n), (2, I d), (3, I e)]) (fun i => []) (0) rfl ?_ ?_ ?_ ?_
  · exact ⟨Nat.zero_le _, fun k hk => absurd hk (Nat.not_lt_zero k)⟩
  · refine .heap ?_ rfl
    repeat (first | exact trivial | refine ⟨⟨_, rfl, .refl _⟩, ?_⟩)
  · rintro i ⟨hi, hall⟩
    repeat (first | (with_reducible refine W.id_ ?_); (first | refine W.sreg ?_ | refine W.seq ?_) | (with_reducible refine RK.id_ ?_); (first | refine RK.cons_ ?_; (refine RK.k_ 0 rfl ?_; refine .p rfl rfl rfl (by exact trivial) ?_) | refine RK.nilT rfl ?_ rfl))
    refine W.cond_dec rfl (fun h2 => ?_) (fun h2 => ?_)
    · have hi' : i < p.length := by omega
      have hm : p.getD i zT ∈ p := getD_mem hi'
      have hzi := hz _ hm
      repeat (first | (with_reducible refine W.id_ ?_); (first | refine W.sreg ?_ | refine W.seq ?_ | refine W.blockS ?_ | refine W.skipT rfl ?_) | (with_reducible refine RK.id_ ?_); (first | refine RK.cons_ ?_; (first | refine RK.k_ 0 rfl ?_; refine .p rfl rfl rfl (by exact trivial) ?_ | refine RK.k_ 4 rfl ?_; (refine .ix _ (s := 6) rfl rfl rfl rfl rfl rfl rfl (by rfl) (by omega) ?_) | refine RK.k_ 5 rfl ?_; (refine .ld _ rfl rfl rfl rfl rfl rfl (by exact get_flat tc_len (z := zT) (j := 1) (by omega) (Nat.le_of_ble_eq_true rfl) rfl rfl) ?_)) | refine RK.nilT rfl ?_ rfl))
      refine W.cond_dec rfl (fun h3 => ?_) (fun h3 => ?_)
      · repeat (first | (with_reducible refine W.id_ ?_); (refine W.sreg ?_) | (with_reducible refine RK.id_ ?_); (first | refine RK.cons_ ?_; (refine RK.k_ 0 rfl ?_; refine .p rfl rfl rfl (by exact trivial) ?_) | refine RK.nilT rfl ?_ rfl))
        refine W.ret ⟨_, rfl, .eq (by repeat (exact .bool _)) ?_, rfl⟩
        rw [decide_eq_false (fun hf => by have := (hf.2 _ hm).1; omega)]
      repeat (first | (with_reducible refine W.id_ ?_); (first | refine W.sreg ?_ | refine W.skipT rfl ?_) | (with_reducible refine RK.id_ ?_); (first | refine RK.cons_ ?_; (refine RK.k_ 0 rfl ?_; refine .p rfl rfl rfl (by exact trivial) ?_) | refine RK.nilT rfl ?_ rfl))
      refine W.loopE (fun k => k ≤ 4 ∧ (1 ≤ k → xok e (p.getD i zT).2.x0) ∧ (2 ≤ k → xok e (p.getD i zT).2.x1) ∧ (3 ≤ k → xok e (p.getD i zT).2.x2) ∧ (4 ≤ k → xok e (p.getD i zT).2.x3)) (fun k => fewT d e (p.getD i zT)) (fun k => 4 - k) (fun k => [(10, I (k : Int)), (9, I (i : Int)), (0, eP p), (1, I n), (2, I d), (3, I e)]) (fun k => []) (0) rfl ?_ ?_ ?_ ?_
      · exact ⟨Nat.zero_le _, by omega, by omega, by omega, by omega⟩
      · refine .heap ?_ rfl
        repeat (first | exact trivial | refine ⟨⟨_, rfl, .refl _⟩, ?_⟩)
      · rintro k ⟨h4, h5⟩
        obtain rfl | rfl | rfl | rfl | rfl : k = 0 ∨ k = 1 ∨ k = 2 ∨ k = 3 ∨ k = 4 := by omega
        · repeat (first | (with_reducible refine W.id_ ?_); (first | refine W.sreg ?_ | refine W.seq ?_ | refine W.blockS ?_ | refine W.skipT rfl ?_ | refine W.condT rfl ?_) | (with_reducible refine RK.id_ ?_); (first | refine RK.cons_ ?_; (first | refine RK.k_ 0 rfl ?_; refine .p rfl rfl rfl (by exact trivial) ?_ | refine RK.k_ 4 rfl ?_; (first | refine .ix _ (s := 6) rfl rfl rfl rfl rfl rfl rfl (by rfl) (by omega) ?_ | refine .p rfl rfl rfl (by omega) ?_) | refine RK.k_ 5 rfl ?_; (refine .ld _ rfl rfl rfl rfl rfl rfl (by exact get_flat tc_len (z := zT) (j := 2) (by omega) (Nat.le_of_ble_eq_true rfl) rfl rfl) ?_)) | refine RK.nilT rfl ?_ rfl))
          refine .dsplit (fun h6 => ?_) (fun h6 => ?_)
          · repeat (first | (with_reducible refine W.id_ ?_); (first | refine W.sreg ?_ | refine W.condT rfl ?_) | (with_reducible refine RK.id_ ?_); (first | refine RK.cons_ ?_; (first | refine .skip rfl rfl ?_ | refine RK.k_ 0 rfl ?_; refine .p rfl rfl rfl (by exact trivial) ?_) | refine RK.nilT rfl ?_ rfl))
            refine W.ret ⟨_, rfl, .eq (by repeat (exact .bool _)) ?_, rfl⟩
            rw [decide_eq_false (fun hf => by have := (hf.2 _ hm).2; unfold xok at this; omega)]
          · repeat ((with_reducible refine RK.id_ ?_); (first | refine RK.cons_ ?_; (first | refine RK.k_ 0 rfl ?_; refine .p rfl rfl rfl (by exact trivial) ?_ | refine RK.k_ 4 rfl ?_; (first | refine .ix _ (s := 6) rfl rfl rfl rfl rfl rfl rfl (by rfl) (by omega) ?_ | refine .p rfl rfl rfl (by omega) ?_) | refine RK.k_ 5 rfl ?_; (refine .ld _ rfl rfl rfl rfl rfl rfl (by exact get_flat tc_len (z := zT) (j := 2) (by omega) (Nat.le_of_ble_eq_true rfl) rfl rfl) ?_)) | refine RK.nilT rfl ?_ rfl))
            refine W.cond_dec rfl (fun h7 => ?_) (fun h7 => ?_)
            · repeat (first | (with_reducible refine W.id_ ?_); (refine W.sreg ?_) | (with_reducible refine RK.id_ ?_); (first | refine RK.cons_ ?_; (refine RK.k_ 0 rfl ?_; refine .p rfl rfl rfl (by exact trivial) ?_) | refine RK.nilT rfl ?_ rfl))
              refine W.ret ⟨_, rfl, .eq (by repeat (exact .bool _)) ?_, rfl⟩
              rw [decide_eq_false (fun hf => by have := (hf.2 _ hm).2; unfold xok at this; omega)]
            repeat (first | (with_reducible refine W.id_ ?_); (first | refine W.reg ?_ | refine W.skipT rfl ?_) | (with_reducible refine RK.id_ ?_); (refine RK.cons_ ?_; (first | refine RK.k_ 0 rfl ?_; refine .p rfl rfl rfl (by exact trivial) ?_ | refine RK.k_ 1 rfl ?_; (refine .pa rfl rfl rfl rfl rfl rfl (by omega) (by omega) ?_))))
            refine .nil ?_ rfl
            refine ⟨1, by show 4 - 1 < 4 - 0; omega, ⟨by show 1 ≤ 4; omega, by unfold xok at h5 ⊢; omega⟩, .heap ?_ rfl⟩
            repeat (first | exact trivial | refine ⟨⟨_, rfl, .refl _⟩, ?_⟩)
        · repeat (first | (with_reducible refine W.id_ ?_); (first | refine W.sreg ?_ | refine W.seq ?_ | refine W.blockS ?_ | refine W.skipT rfl ?_ | refine W.condT rfl ?_) | (with_reducible refine RK.id_ ?_); (first | refine RK.cons_ ?_; (first | refine RK.k_ 0 rfl ?_; refine .p rfl rfl rfl (by exact trivial) ?_ | refine RK.k_ 4 rfl ?_; (first | refine .ix _ (s := 6) rfl rfl rfl rfl rfl rfl rfl (by rfl) (by omega) ?_ | refine .p rfl rfl rfl (by omega) ?_) | refine RK.k_ 5 rfl ?_; (refine .ld _ rfl rfl rfl rfl rfl rfl (by exact get_flat tc_len (z := zT) (j := 3) (by omega) (Nat.le_of_ble_eq_true rfl) rfl rfl) ?_)) | refine RK.nilT rfl ?_ rfl))
          refine .dsplit (fun h6 => ?_) (fun h6 => ?_)
          · repeat (first | (with_reducible refine W.id_ ?_); (first | refine W.sreg ?_ | refine W.condT rfl ?_) | (with_reducible refine RK.id_ ?_); (first | refine RK.cons_ ?_; (first | refine .skip rfl rfl ?_ | refine RK.k_ 0 rfl ?_; refine .p rfl rfl rfl (by exact trivial) ?_) | refine RK.nilT rfl ?_ rfl))
            refine W.ret ⟨_, rfl, .eq (by repeat (exact .bool _)) ?_, rfl⟩
            rw [decide_eq_false (fun hf => by have := (hf.2 _ hm).2; unfold xok at this; omega)]
          · repeat ((with_reducible refine RK.id_ ?_); (first | refine RK.cons_ ?_; (first | refine RK.k_ 0 rfl ?_; refine .p rfl rfl rfl (by exact trivial) ?_ | refine RK.k_ 4 rfl ?_; (first | refine .ix _ (s := 6) rfl rfl rfl rfl rfl rfl rfl (by rfl) (by omega) ?_ | refine .p rfl rfl rfl (by omega) ?_) | refine RK.k_ 5 rfl ?_; (refine .ld _ rfl rfl rfl rfl rfl rfl (by exact get_flat tc_len (z := zT) (j := 3) (by omega) (Nat.le_of_ble_eq_true rfl) rfl rfl) ?_)) | refine RK.nilT rfl ?_ rfl))
            refine W.cond_dec rfl (fun h7 => ?_) (fun h7 => ?_)
            · repeat (first | (with_reducible refine W.id_ ?_); (refine W.sreg ?_) | (with_reducible refine RK.id_ ?_); (first | refine RK.cons_ ?_; (refine RK.k_ 0 rfl ?_; refine .p rfl rfl rfl (by exact trivial) ?_) | refine RK.nilT rfl ?_ rfl))
              refine W.ret ⟨_, rfl, .eq (by repeat (exact .bool _)) ?_, rfl⟩
              rw [decide_eq_false (fun hf => by have := (hf.2 _ hm).2; unfold xok at this; omega)]
            repeat (first | (with_reducible refine W.id_ ?_); (first | refine W.reg ?_ | refine W.skipT rfl ?_) | (with_reducible refine RK.id_ ?_); (refine RK.cons_ ?_; (first | refine RK.k_ 0 rfl ?_; refine .p rfl rfl rfl (by exact trivial) ?_ | refine RK.k_ 1 rfl ?_; (refine .pa rfl rfl rfl rfl rfl rfl (by omega) (by omega) ?_))))
            refine .nil ?_ rfl
            refine ⟨2, by show 4 - 2 < 4 - 1; omega, ⟨by show 2 ≤ 4; omega, by unfold xok at h5 ⊢; omega⟩, .heap ?_ rfl⟩
            repeat (first | exact trivial | refine ⟨⟨_, rfl, .refl _⟩, ?_⟩)
        · repeat (first | (with_reducible refine W.id_ ?_); (first | refine W.sreg ?_ | refine W.seq ?_ | refine W.blockS ?_ | refine W.skipT rfl ?_ | refine W.condT rfl ?_) | (with_reducible refine RK.id_ ?_); (first | refine RK.cons_ ?_; (first | refine RK.k_ 0 rfl ?_; refine .p rfl rfl rfl (by exact trivial) ?_ | refine RK.k_ 4 rfl ?_; (first | refine .ix _ (s := 6) rfl rfl rfl rfl rfl rfl rfl (by rfl) (by omega) ?_ | refine .p rfl rfl rfl (by omega) ?_) | refine RK.k_ 5 rfl ?_; (refine .ld _ rfl rfl rfl rfl rfl rfl (by exact get_flat tc_len (z := zT) (j := 4) (by omega) (Nat.le_of_ble_eq_true rfl) rfl rfl) ?_)) | refine RK.nilT rfl ?_ rfl))
          refine .dsplit (fun h6 => ?_) (fun h6 => ?_)
          · repeat (first | (with_reducible refine W.id_ ?_); (first | refine W.sreg ?_ | refine W.condT rfl ?_) | (with_reducible refine RK.id_ ?_); (first | refine RK.cons_ ?_; (first | refine .skip rfl rfl ?_ | refine RK.k_ 0 rfl ?_; refine .p rfl rfl rfl (by exact trivial) ?_) | refine RK.nilT rfl ?_ rfl))
            refine W.ret ⟨_, rfl, .eq (by repeat (exact .bool _)) ?_, rfl⟩
            rw [decide_eq_false (fun hf => by have := (hf.2 _ hm).2; unfold xok at this; omega)]
          · repeat ((with_reducible refine RK.id_ ?_); (first | refine RK.cons_ ?_; (first | refine RK.k_ 0 rfl ?_; refine .p rfl rfl rfl (by exact trivial) ?_ | refine RK.k_ 4 rfl ?_; (first | refine .ix _ (s := 6) rfl rfl rfl rfl rfl rfl rfl (by rfl) (by omega) ?_ | refine .p rfl rfl rfl (by omega) ?_) | refine RK.k_ 5 rfl ?_; (refine .ld _ rfl rfl rfl rfl rfl rfl (by exact get_flat tc_len (z := zT) (j := 4) (by omega) (Nat.le_of_ble_eq_true rfl) rfl rfl) ?_)) | refine RK.nilT rfl ?_ rfl))
            refine W.cond_dec rfl (fun h7 => ?_) (fun h7 => ?_)
            · repeat (first | (with_reducible refine W.id_ ?_); (refine W.sreg ?_) | (with_reducible refine RK.id_ ?_); (first | refine RK.cons_ ?_; (refine RK.k_ 0 rfl ?_; refine .p rfl rfl rfl (by exact trivial) ?_) | refine RK.nilT rfl ?_ rfl))
              refine W.ret ⟨_, rfl, .eq (by repeat (exact .bool _)) ?_, rfl⟩
              rw [decide_eq_false (fun hf => by have := (hf.2 _ hm).2; unfold xok at this; omega)]
            repeat (first | (with_reducible refine W.id_ ?_); (first | refine W.reg ?_ | refine W.skipT rfl ?_) | (with_reducible refine RK.id_ ?_); (refine RK.cons_ ?_; (first | refine RK.k_ 0 rfl ?_; refine .p rfl rfl rfl (by exact trivial) ?_ | refine RK.k_ 1 rfl ?_; (refine .pa rfl rfl rfl rfl rfl rfl (by omega) (by omega) ?_))))
            refine .nil ?_ rfl
            refine ⟨3, by show 4 - 3 < 4 - 2; omega, ⟨by show 3 ≤ 4; omega, by unfold xok at h5 ⊢; omega⟩, .heap ?_ rfl⟩
            repeat (first | exact trivial | refine ⟨⟨_, rfl, .refl _⟩, ?_⟩)
        · repeat (first | (with_reducible refine W.id_ ?_); (first | refine W.sreg ?_ | refine W.seq ?_ | refine W.blockS ?_ | refine W.skipT rfl ?_ | refine W.condT rfl ?_) | (with_reducible refine RK.id_ ?_); (first | refine RK.cons_ ?_; (first | refine RK.k_ 0 rfl ?_; refine .p rfl rfl rfl (by exact trivial) ?_ | refine RK.k_ 4 rfl ?_; (first | refine .ix _ (s := 6) rfl rfl rfl rfl rfl rfl rfl (by rfl) (by omega) ?_ | refine .p rfl rfl rfl (by omega) ?_) | refine RK.k_ 5 rfl ?_; (refine .ld _ rfl rfl rfl rfl rfl rfl (by exact get_flat tc_len (z := zT) (j := 5) (by omega) (Nat.le_of_ble_eq_true rfl) rfl rfl) ?_)) | refine RK.nilT rfl ?_ rfl))
          refine .dsplit (fun h6 => ?_) (fun h6 => ?_)
          · repeat (first | (with_reducible refine W.id_ ?_); (first | refine W.sreg ?_ | refine W.condT rfl ?_) | (with_reducible refine RK.id_ ?_); (first | refine RK.cons_ ?_; (first | refine .skip rfl rfl ?_ | refine RK.k_ 0 rfl ?_; refine .p rfl rfl rfl (by exact trivial) ?_) | refine RK.nilT rfl ?_ rfl))
            refine W.ret ⟨_, rfl, .eq (by repeat (exact .bool _)) ?_, rfl⟩
            rw [decide_eq_false (fun hf => by have := (hf.2 _ hm).2; unfold xok at this; omega)]
          · repeat ((with_reducible refine RK.id_ ?_); (first | refine RK.cons_ ?_; (first | refine RK.k_ 0 rfl ?_; refine .p rfl rfl rfl (by exact trivial) ?_ | refine RK.k_ 4 rfl ?_; (first | refine .ix _ (s := 6) rfl rfl rfl rfl rfl rfl rfl (by rfl) (by omega) ?_ | refine .p rfl rfl rfl (by omega) ?_) | refine RK.k_ 5 rfl ?_; (refine .ld _ rfl rfl rfl rfl rfl rfl (by exact get_flat tc_len (z := zT) (j := 5) (by omega) (Nat.le_of_ble_eq_true rfl) rfl rfl) ?_)) | refine RK.nilT rfl ?_ rfl))
            refine W.cond_dec rfl (fun h7 => ?_) (fun h7 => ?_)
            · repeat (first | (with_reducible refine W.id_ ?_); (refine W.sreg ?_) | (with_reducible refine RK.id_ ?_); (first | refine RK.cons_ ?_; (refine RK.k_ 0 rfl ?_; refine .p rfl rfl rfl (by exact trivial) ?_) | refine RK.nilT rfl ?_ rfl))
              refine W.ret ⟨_, rfl, .eq (by repeat (exact .bool _)) ?_, rfl⟩
              rw [decide_eq_false (fun hf => by have := (hf.2 _ hm).2; unfold xok at this; omega)]
            repeat (first | (with_reducible refine W.id_ ?_); (first | refine W.reg ?_ | refine W.skipT rfl ?_) | (with_reducible refine RK.id_ ?_); (refine RK.cons_ ?_; (first | refine RK.k_ 0 rfl ?_; refine .p rfl rfl rfl (by exact trivial) ?_ | refine RK.k_ 1 rfl ?_; (refine .pa rfl rfl rfl rfl rfl rfl (by omega) (by omega) ?_))))
            refine .nil ?_ rfl
            refine ⟨4, by show 4 - 4 < 4 - 3; omega, ⟨by show 4 ≤ 4; omega, by unfold xok at h5 ⊢; omega⟩, .heap ?_ rfl⟩
            repeat (first | exact trivial | refine ⟨⟨_, rfl, .refl _⟩, ?_⟩)
        · repeat (first | (with_reducible refine W.id_ ?_); (first | refine W.sreg ?_ | refine W.seq ?_ | refine W.condF rfl ?_) | (with_reducible refine RK.id_ ?_); (first | refine RK.cons_ ?_; (refine RK.k_ 0 rfl ?_; refine .p rfl rfl rfl (by exact trivial) ?_) | refine RK.nilT rfl ?_ rfl))
          refine W.exit ⟨4, ⟨by omega, h5.1 (by omega), h5.2.1 (by omega), h5.2.2.1 (by omega), h5.2.2.2 (by omega)⟩, .heap ?_ rfl⟩
          repeat (first | exact trivial | refine ⟨⟨_, rfl, .refl _⟩, ?_⟩)
      · intro k h6
        repeat (first | (with_reducible refine W.id_ ?_); (refine W.reg ?_) | (with_reducible refine RK.id_ ?_); (refine RK.cons_ ?_; (first | refine RK.k_ 0 rfl ?_; refine .p rfl rfl rfl (by exact trivial) ?_ | refine RK.k_ 1 rfl ?_; (refine .pa rfl rfl rfl rfl rfl rfl (by omega) (by omega) ?_))))
        refine .nil ?_ rfl
        refine ⟨i + 1, by show p.length - (i + 1) < p.length - i; omega, ⟨by show i + 1 ≤ _; omega, fun k hk => ?_⟩, .heap ?_ rfl⟩
        · rcases Nat.lt_succ_iff_lt_or_eq.1 hk with h7 | rfl
          · exact hall k h7
          · exact h6
        · repeat (first | exact trivial | refine ⟨⟨_, rfl, .refl _⟩, ?_⟩)
    · refine W.exit ⟨i, fun k hk => hall k (by omega), .heap ?_ rfl⟩
      repeat (first | exact trivial | refine ⟨⟨_, rfl, .refl _⟩, ?_⟩)
  · intro i hall
    have hf : few p n d e := ⟨by omega, fun t ht => by
      obtain ⟨k, hk, rfl⟩ := List.mem_iff_getElem.1 ht
      have := hall k hk
      rwa [show p.getD k zT = p[k] by simp [hk]] at this⟩
    repeat (first | (with_reducible refine W.id_ ?_); (refine W.sreg ?_) | (with_reducible refine RK.id_ ?_); (first | refine RK.cons_ ?_; (refine RK.k_ 0 rfl ?_; refine .p rfl rfl rfl (by exact trivial) ?_) | refine RK.nilT rfl ?_ rfl))
    refine W.ret ⟨_, rfl, .eq (by repeat (exact .bool _)) ?_, rfl⟩
    rw [decide_eq_true hf]

/- cylinderlaw20.few -/
theorem few_spec {p : List RT} (hp : p.length ≤ 9223372036854775807) (hz : ∀ t ∈ p, t.1.2.length ≤ 9223372036854775807) : PureFn Try.prog 13 [eP p] (.bool (decide (few p 8 6 9))) := by
  refine .of_W (fn := Try.f13) (by repeat (first | exact trivial | refine ⟨(by repeat (exact eP_pure _)), ?_⟩)) Try.call13 Try.func13 rfl rfl ?_
  repeat (first | (with_reducible refine W.id_ ?_); (refine W.sreg ?_) | (with_reducible refine RK.id_ ?_); (first | refine RK.cons_ ?_; (refine RK.k_ 0 rfl ?_; refine .p rfl rfl rfl (by exact trivial) ?_) | refine RK.nilT rfl ?_ rfl))
  refine .call (Few_spec (n := 8) (d := 6) (e := 9) (by decide) (by decide) (by decide) hp hz) rfl rfl rfl rfl ?_
  repeat ((with_reducible refine RK.id_ ?_); (first | refine RK.cons_ ?_; (refine RK.k_ 0 rfl ?_; refine .p rfl rfl rfl (by exact trivial) ?_) | refine RK.nilT rfl ?_ rfl))
  refine W.ret ⟨_, rfl, .eq (by repeat (exact .bool _)) ?_, rfl⟩
  rfl
end Go.Proofs.Ytbdefjbekbbldaa

namespace Go.Proofs.Ytbdefjbekbbldaa
open Go.V Go.N
set_option maxHeartbeats 8000000
set_option maxRecDepth 20000

/-- The iterator over a canonical row. -/
abbrev itP (q : P) : D := .fn 69 [.sptr [eP (can q)] 0]

/- sparse.Terms -/
theorem Terms_spec {p : List RT} {q : P} (hp : Pok p) (eq : q = nrm (vals p)) : PureFn Try.prog 27 [eP p] (itP q) := by
  have hN := Normal_spec hp
  rw [← eq] at hN
  refine .of_W (fn := Try.f27) (by repeat (first | exact trivial | refine ⟨(by repeat (exact eP_pure _)), ?_⟩)) Try.call27 Try.func27 rfl rfl ?_
  repeat (first | (with_reducible refine W.id_ ?_); (refine W.sreg ?_) | (with_reducible refine RK.id_ ?_); (first | refine RK.cons_ ?_; (refine RK.k_ 0 rfl ?_; refine .p rfl rfl rfl (by exact trivial) ?_) | refine RK.nilT rfl ?_ rfl))
  refine .call (hN) rfl rfl rfl rfl ?_
  repeat (first | (with_reducible refine W.id_ ?_); (refine W.sreg ?_) | (with_reducible refine RK.id_ ?_); (first | refine RK.cons_ ?_; (first | refine RK.k_ 0 rfl ?_; refine .p rfl rfl rfl (by exact trivial) ?_ | refine RK.k_ 6 rfl ?_; (first | refine .alloc _ rfl rfl rfl rfl rfl rfl rfl ?_ | refine .store rfl rfl rfl rfl rfl rfl rfl (by rfl) (by rfl) (by rfl) ?_)) | refine RK.nilT rfl ?_ rfl))
  refine W.ret ⟨_, rfl, ?_, rfl⟩
  exact .fn rfl fun i x y hx hy => by
    cases i with
    | zero =>
      cases hx; cases hy
      exact .ptr rfl (Nat.le_refl _) fun j u v hu hv => by
        rw [hu] at hv; cases hv
        obtain rfl : u = eP (can q) := by
          cases j with
          | zero => cases hu; rfl
          | succ j => cases hu
        exact .pure (eP_pure _) (.refl _)
    | succ i => cases hx

theorem setR_last {H : Hp} {y x : Option Blk} : (H ++ [y]).setR H.length x = some (H ++ [x]) := by
  rw [setR_eq _ (by simp)]; simp
/- sparse.Terms$1 -/
theorem Terms1_spec {q : P} {b N : Nat} {Y : Nat → Hp} {co : Nat → Bool} (hq : Pok (can q)) (hlen : ∀ i, (Y i).length = N) (hcl : ∀ i, ClH N (Y i)) (hb : b < N)
    (hy : ∀ i, i < q.length → (∀ j, j < i → co j = true) → YTo Try.prog b [eM (q.getD i tz).2, eZ (zcan (q.getD i tz).1)] (Y i) fun d H' => d = .bool (co i) ∧ H' = Y (i + 1)) :
    FnTo Try.prog 69 [.yield b, .sptr [eP (can q)] 0] (Y 0) fun d H' => d = .tup [] ∧ ∃ i, i ≤ q.length ∧ H' = Y i ∧ ((i = q.length ∧ ∀ j, j < i → co j = true) ∨ ∃ j, i = j + 1 ∧ co j = false ∧ ∀ k, k < j → co k = true) := by
  have hqn := hq.n
  refine .of_W (fn := Try.f69) Try.call69 Try.func69 rfl (Nat.le_of_ble_eq_true rfl) ?_
  repeat (first | (with_reducible refine W.id_ ?_); (refine W.sreg ?_) | (with_reducible refine RK.id_ ?_); (first | refine RK.cons_ ?_; (first | refine RK.k_ 0 rfl ?_; refine .p rfl rfl rfl (by exact trivial) ?_ | refine RK.k_ 5 rfl ?_; (refine .ld _ rfl rfl rfl rfl rfl rfl (by rfl) ?_)) | refine RK.nilT rfl ?_ rfl))
  refine .rangeS ((can q).length) (fun i s => [(5, eP (can q)), (0, .yield b)]) (fun i s => Y i) (fun i s => s = () ∧ ∀ j, j < i → co j = true) (()) rfl rfl rfl rfl rfl rfl rfl rfl rfl rfl (by omega) ?_ ?_ (fun _ _ => rfl) (fun i s hi Ci => ?_) (fun s Ci => ?_)
  · exact ⟨rfl, fun j hj => absurd hj (Nat.not_lt_zero j)⟩
  · refine .heap ?_ rfl
    repeat (first | exact trivial | refine ⟨⟨_, rfl, .refl _⟩, ?_⟩)
  · have hi' : i < q.length := by rw [can_len] at hi; exact hi
    have hz : okZ ((can q).getD i zT).1 := hq.z _ (getD_mem hi)
    repeat (first | (with_reducible refine W.id_ ?_); (refine W.sreg ?_) | (with_reducible refine RK.id_ ?_); (refine RK.cons_ ?_; (first | refine RK.k_ 4 rfl ?_; (refine .ix _ (s := 6) rfl rfl rfl rfl rfl rfl rfl (by rfl) (by omega) ?_) | refine RK.k_ 5 rfl ?_; (refine .lda _ rfl rfl rfl rfl rfl rfl rfl (by exact take_flat (z := zT) tc_len (by omega) (by omega) rfl) ?_))))
    refine .alloc (Y i).length rfl rfl rfl rfl rfl rfl (pushR_eq _ _) ?_
    refine .store rfl rfl rfl rfl rfl rfl rfl (List.getElem?_concat_length ..) rfl setR_last ?_
    refine .nil ?_ rfl
    refine W.to (F' := [(7, I i), (6, I (can q).length), (5, eP (can q)), (0, .yield b), (4, .sptr (tc ((can q).getD i zT)) 0)]) (H' := Y i) (.fixLast (by rw [hlen, hlen]; exact Nat.le_refl _) (by rw [hlen]; exact hcl i) ?_) ?_
    · have hr : (List.range' 0 (Y i).length)[b]? = some b := range_get (by rw [hlen]; exact hb)
      refine ⟨⟨_, rfl, .wk (.int _ _) (.refl _)⟩, ⟨_, rfl, .wk (.int _ _) (.refl _)⟩, ⟨_, rfl, .wk (eP_pure _) (.refl _)⟩, ⟨_, rfl, .yield hr⟩, ⟨_, rfl, ?_⟩, trivial⟩
      refine .fixP (by simp) (List.getElem?_concat_length ..) (Nat.le_refl _) fun j u v hu hv => ?_
      have hu' : (tc ((can q).getD i zT))[j]? = some u := hu
      rw [hu'] at hv; cases hv
      exact .wk (tc_pure _ _ (List.mem_of_getElem? hu')) (.refl _)
    have hY := hy i hi' Ci.2
    rw [← show ((can q).getD i zT).2 = (q.getD i tz).2 by rw [getD_can hi'], ← show ((can q).getD i zT).1 = zcan (q.getD i tz).1 by rw [getD_can hi']] at hY
    have hNo := Znormal_spec hz
    rw [show zcan (zv ((can q).getD i zT).1) = ((can q).getD i zT).1 by rw [getD_can hi', zv_can]] at hNo
    repeat (first | (with_reducible refine W.id_ ?_); (refine W.sdraw mixed (by kernel_rfl) (by kernel_rfl) ?_) | (with_reducible refine RK.id_ ?_); (refine RK.cons_ ?_; (first | refine RK.k_ 0 rfl ?_; refine .p rfl rfl rfl (by exact trivial) ?_ | refine RK.k_ 5 rfl ?_; (refine .lda _ rfl rfl rfl rfl rfl rfl rfl (by rfl) ?_))))
    refine .call (hNo) rfl rfl rfl rfl ?_
    skip
    refine .callY hY (by rw [hlen, hlen]; exact Nat.le_refl _) rfl rfl rfl rfl rfl ?_
    repeat ((with_reducible refine RK.id_ ?_); (first | refine RK.cons_ ?_; (refine RK.k_ 0 rfl ?_; refine .p rfl rfl rfl (by exact trivial) ?_) | refine RK.nilT rfl ?_ rfl))
    refine W.cond rfl (fun h3 => ?_) (fun h3 => ?_)
    · exact .ret ⟨_, rfl, rfl, i + 1, hi', rfl, .inr ⟨i, rfl, by simpa using h3, Ci.2⟩⟩
    · refine .skip ⟨(), ⟨rfl, fun j hj => ?_⟩, .heap ?_ rfl⟩
      · rcases Nat.lt_succ_iff_lt_or_eq.1 hj with h4 | rfl
        · exact Ci.2 j h4
        · simpa using h3
      · repeat (first | exact trivial | refine ⟨⟨_, rfl, .refl _⟩, ?_⟩)
  exact ⟨_, rfl, rfl, (can q).length, by rw [can_len]; exact Nat.le_refl _, rfl, .inl ⟨can_len q, Ci.2⟩⟩

theorem Terms_iter {q : P} (hq : Pok (can q)) : IterSpec Try.prog 69 [.sptr [eP (can q)] 0] q.length (fun i => [eM (q.getD i tz).2, eZ (zcan (q.getD i tz).1)]) :=
  fun b N Y co h1 h2 h3 h4 => (Terms1_spec hq h1 h2 h3 h4).mono fun d H' h => h.2
theorem itP_pure (q : P) : Pure (itP q) := .fn (PureL.mem ⟨.sptr (PureL.mem ⟨eP_pure _, trivial⟩), trivial⟩)
end Go.Proofs.Ytbdefjbekbbldaa

namespace Go.Proofs.Ytbdefjbekbbldaa
open Go.V Go.N
set_option maxHeartbeats 8000000
set_option maxRecDepth 20000

def mxI (a b : Int) : Int := if b > a then b else a
/-- The highest of the first k variables that occur, from 'o' on. -/
def lv1 (o : Int) (m : M) : Int := if m.x0 > 0 then mxI o 1 else o
def lv2 (o : Int) (m : M) : Int := if m.x1 > 0 then mxI (lv1 o m) 2 else lv1 o m
def lv3 (o : Int) (m : M) : Int := if m.x2 > 0 then mxI (lv2 o m) 3 else lv2 o m
def lv4 (o : Int) (m : M) : Int := if m.x3 > 0 then mxI (lv3 o m) 4 else lv3 o m
def lvs (o : Int) (m : M) : Nat → Int
  | 0 => o
  | 1 => lv1 o m
  | 2 => lv2 o m
  | 3 => lv3 o m
  | _ => lv4 o m
def lvl (q : P) : Int := q.foldl (fun o t => lvs o t.2 4) 0
theorem foldl_next {α β : Type} {f : β → α → β} {q : List α} {i : Nat} {z : α} {o : β} (h : i < q.length) : (q.take (i + 1)).foldl f o = f ((q.take i).foldl f o) (q.getD i z) := by
  rw [take_next (z := z) h, List.foldl_append]; rfl

/- sparse.Level -/
theorem Level_spec {p : List RT} {q : P} (hp : Pok p) (eq : q = nrm (vals p)) : PureFn Try.prog 24 [eP p] (I (lvl q)) := by
  have hq : Pok (can q) := by rw [eq]; exact can_pok' (Nat.lt_of_le_of_lt (l1_nrm _) hp.l) (Nat.le_trans (nrm_len _) (by rw [vals_len]; exact hp.n))
  refine .of_W (fn := Try.f24) (by repeat (first | exact trivial | refine ⟨(by repeat (exact eP_pure _)), ?_⟩)) Try.call24 Try.func24 rfl rfl ?_
  repeat (first | (with_reducible refine W.id_ ?_); (first | refine W.sreg ?_ | refine W.seq ?_) | (with_reducible refine RK.id_ ?_); (first | refine RK.cons_ ?_; (first | refine RK.k_ 0 rfl ?_; refine .p rfl rfl rfl (by exact trivial) ?_ | refine RK.k_ 6 rfl ?_; (first | refine .alloc _ rfl rfl rfl rfl rfl rfl rfl ?_ | refine .store rfl rfl rfl rfl rfl rfl rfl (by rfl) (by rfl) (by rfl) ?_)) | refine RK.nilT rfl ?_ rfl))
  refine .call (Terms_spec hp eq) rfl rfl rfl rfl ?_
  repeat ((with_reducible refine RK.id_ ?_); (refine RK.nilT rfl ?_ rfl))
  refine W.block ?_
  refine W.to (F' := [(3, .ptr 0 0), (8, itP q)]) (H' := [some (.cells [I 0])]) (.heap ?_ rfl) ?_
  · repeat (first | exact trivial | refine ⟨⟨_, rfl, .refl _⟩, ?_⟩)
  refine W.iter (Terms_iter hq) (fun i => [some (.cells [I (lvl (q.take i))])]) (fun _ => true) .ret 1 (by simp) rfl (fun _ => rfl) (fun i => ⟨⟨.pure (.int _ _), trivial⟩, trivial⟩) ⟨.ptr (by decide), .pure (itP_pure _), trivial⟩ (by simp) (fun _ => rfl) (by decide) rfl rfl (fun r i hi _ => ?_) (fun _ => ?_) (fun i _ h => absurd h (by simp))
  · repeat (first | (with_reducible refine W.id_ ?_); (refine W.reg ?_) | (with_reducible refine RK.id_ ?_); (refine RK.cons_ ?_; (refine RK.k_ 6 rfl ?_; (first | refine .alloc _ rfl rfl rfl rfl rfl rfl rfl ?_ | refine .store rfl rfl rfl rfl rfl rfl rfl (by rfl) (by rfl) (by rfl) ?_))))
    refine .nil ⟨rfl, rfl, ?_⟩ rfl
    repeat (first | (with_reducible refine W.id_ ?_); (first | refine W.sreg ?_ | refine W.blockS ?_) | (with_reducible refine RK.id_ ?_); (first | refine RK.cons_ ?_; (first | refine RK.k_ 0 rfl ?_; refine .p rfl rfl rfl (by exact trivial) ?_ | refine RK.k_ 5 rfl ?_; (refine .ldla rfl rfl rfl rfl rfl rfl rfl (by rfl) rfl ?_)) | refine RK.nilT rfl ?_ rfl))
    rw [show lvl (q.take (i + 1)) = lvs (lvl (q.take i)) (q.getD i tz).2 4 from foldl_next hi]
    refine W.block (.loopT (fun k => k ≤ 4) (fun k => 4 - k) (fun k => [(12, I (k : Int)), (11, eM (q.getD i tz).2), (3, .ptr 0 0)]) (fun k => [some (.cells [I (lvs (lvl (q.take i)) (q.getD i tz).2 k)]), some (.loop (busy r) [(3, .ptr 0 0), (8, itP q)]), some (.cells (mc (q.getD i tz).2))]) (0) ?_ ?_ ?_)
    · exact Nat.zero_le _
    · refine .heap ?_ rfl
      repeat (first | exact trivial | refine ⟨⟨_, rfl, .refl _⟩, ?_⟩)
    · intro k hk
      obtain rfl | rfl | rfl | rfl | rfl : k = 0 ∨ k = 1 ∨ k = 2 ∨ k = 3 ∨ k = 4 := by omega
      · repeat (first | (with_reducible refine W.id_ ?_); (first | refine W.sreg ?_ | refine W.seq ?_ | refine W.blockS ?_ | refine W.skipT rfl ?_ | refine W.condT rfl ?_) | (with_reducible refine RK.id_ ?_); (first | refine RK.cons_ ?_; (refine RK.k_ 0 rfl ?_; refine .p rfl rfl rfl (by first | exact trivial | exact ⟨⟨by decide, by decide⟩, Nat.le_of_ble_eq_true rfl⟩) ?_) | refine RK.nilT rfl ?_ rfl))
        refine W.cond_dec rfl (fun h => ?_) (fun h => ?_)
        · repeat (first | (with_reducible refine W.id_ ?_); (refine W.reg ?_) | (with_reducible refine RK.id_ ?_); (first | refine RK.cons_ ?_; (first | refine RK.k_ 0 rfl ?_; refine .p rfl rfl rfl (by exact trivial) ?_ | refine RK.k_ 1 rfl ?_; (refine .pa rfl rfl rfl rfl rfl rfl (by omega) (by omega) ?_) | refine RK.k_ 5 rfl ?_; (refine .ldl rfl rfl rfl rfl rfl rfl rfl (by rfl) (by rfl) ?_) | refine RK.k_ 6 rfl ?_; (refine .store rfl rfl rfl rfl rfl rfl rfl (by rfl) (by rfl) (by rfl) ?_)) | refine RK.nilT rfl ?_ rfl))
          refine .nil ?_ rfl
          refine ⟨1, by show 4 - 1 < 4 - 0; omega, by show 1 ≤ 4; omega, .heap ?_ ?_⟩
          · repeat (first | exact trivial | refine ⟨⟨_, rfl, .refl _⟩, ?_⟩)
          · show [some _, _, _] = _; rw [show lvs (lvl (q.take i)) (q.getD i tz).2 1 = mxI (lvs (lvl (q.take i)) (q.getD i tz).2 0) 1 from if_pos h]; rfl
        · repeat (first | (with_reducible refine W.id_ ?_); (first | refine W.reg ?_ | refine W.skipT rfl ?_) | (with_reducible refine RK.id_ ?_); (refine RK.cons_ ?_; (first | refine RK.k_ 0 rfl ?_; refine .p rfl rfl rfl (by exact trivial) ?_ | refine RK.k_ 1 rfl ?_; (refine .pa rfl rfl rfl rfl rfl rfl (by omega) (by omega) ?_))))
          refine .nil ?_ rfl
          refine ⟨1, by show 4 - 1 < 4 - 0; omega, by show 1 ≤ 4; omega, .heap ?_ ?_⟩
          · repeat (first | exact trivial | refine ⟨⟨_, rfl, .refl _⟩, ?_⟩)
          · show [some _, _, _] = _; rw [show lvs (lvl (q.take i)) (q.getD i tz).2 1 = lvs (lvl (q.take i)) (q.getD i tz).2 0 from if_neg h]
      · repeat (first | (with_reducible refine W.id_ ?_); (first | refine W.sreg ?_ | refine W.seq ?_ | refine W.blockS ?_ | refine W.skipT rfl ?_ | refine W.condT rfl ?_) | (with_reducible refine RK.id_ ?_); (first | refine RK.cons_ ?_; (refine RK.k_ 0 rfl ?_; refine .p rfl rfl rfl (by first | exact trivial | exact ⟨⟨by decide, by decide⟩, Nat.le_of_ble_eq_true rfl⟩) ?_) | refine RK.nilT rfl ?_ rfl))
        refine W.cond_dec rfl (fun h => ?_) (fun h => ?_)
        · repeat (first | (with_reducible refine W.id_ ?_); (refine W.reg ?_) | (with_reducible refine RK.id_ ?_); (first | refine RK.cons_ ?_; (first | refine RK.k_ 0 rfl ?_; refine .p rfl rfl rfl (by exact trivial) ?_ | refine RK.k_ 1 rfl ?_; (refine .pa rfl rfl rfl rfl rfl rfl (by omega) (by omega) ?_) | refine RK.k_ 5 rfl ?_; (refine .ldl rfl rfl rfl rfl rfl rfl rfl (by rfl) (by rfl) ?_) | refine RK.k_ 6 rfl ?_; (refine .store rfl rfl rfl rfl rfl rfl rfl (by rfl) (by rfl) (by rfl) ?_)) | refine RK.nilT rfl ?_ rfl))
          refine .nil ?_ rfl
          refine ⟨2, by show 4 - 2 < 4 - 1; omega, by show 2 ≤ 4; omega, .heap ?_ ?_⟩
          · repeat (first | exact trivial | refine ⟨⟨_, rfl, .refl _⟩, ?_⟩)
          · show [some _, _, _] = _; rw [show lvs (lvl (q.take i)) (q.getD i tz).2 2 = mxI (lvs (lvl (q.take i)) (q.getD i tz).2 1) 2 from if_pos h]; rfl
        · repeat (first | (with_reducible refine W.id_ ?_); (first | refine W.reg ?_ | refine W.skipT rfl ?_) | (with_reducible refine RK.id_ ?_); (refine RK.cons_ ?_; (first | refine RK.k_ 0 rfl ?_; refine .p rfl rfl rfl (by exact trivial) ?_ | refine RK.k_ 1 rfl ?_; (refine .pa rfl rfl rfl rfl rfl rfl (by omega) (by omega) ?_))))
          refine .nil ?_ rfl
          refine ⟨2, by show 4 - 2 < 4 - 1; omega, by show 2 ≤ 4; omega, .heap ?_ ?_⟩
          · repeat (first | exact trivial | refine ⟨⟨_, rfl, .refl _⟩, ?_⟩)
          · show [some _, _, _] = _; rw [show lvs (lvl (q.take i)) (q.getD i tz).2 2 = lvs (lvl (q.take i)) (q.getD i tz).2 1 from if_neg h]
      · repeat (first | (with_reducible refine W.id_ ?_); (first | refine W.sreg ?_ | refine W.seq ?_ | refine W.blockS ?_ | refine W.skipT rfl ?_ | refine W.condT rfl ?_) | (with_reducible refine RK.id_ ?_); (first | refine RK.cons_ ?_; (refine RK.k_ 0 rfl ?_; refine .p rfl rfl rfl (by first | exact trivial | exact ⟨⟨by decide, by decide⟩, Nat.le_of_ble_eq_true rfl⟩) ?_) | refine RK.nilT rfl ?_ rfl))
        refine W.cond_dec rfl (fun h => ?_) (fun h => ?_)
        · repeat (first | (with_reducible refine W.id_ ?_); (refine W.reg ?_) | (with_reducible refine RK.id_ ?_); (first | refine RK.cons_ ?_; (first | refine RK.k_ 0 rfl ?_; refine .p rfl rfl rfl (by exact trivial) ?_ | refine RK.k_ 1 rfl ?_; (refine .pa rfl rfl rfl rfl rfl rfl (by omega) (by omega) ?_) | refine RK.k_ 5 rfl ?_; (refine .ldl rfl rfl rfl rfl rfl rfl rfl (by rfl) (by rfl) ?_) | refine RK.k_ 6 rfl ?_; (refine .store rfl rfl rfl rfl rfl rfl rfl (by rfl) (by rfl) (by rfl) ?_)) | refine RK.nilT rfl ?_ rfl))
          refine .nil ?_ rfl
          refine ⟨3, by show 4 - 3 < 4 - 2; omega, by show 3 ≤ 4; omega, .heap ?_ ?_⟩
          · repeat (first | exact trivial | refine ⟨⟨_, rfl, .refl _⟩, ?_⟩)
          · show [some _, _, _] = _; rw [show lvs (lvl (q.take i)) (q.getD i tz).2 3 = mxI (lvs (lvl (q.take i)) (q.getD i tz).2 2) 3 from if_pos h]; rfl
        · repeat (first | (with_reducible refine W.id_ ?_); (first | refine W.reg ?_ | refine W.skipT rfl ?_) | (with_reducible refine RK.id_ ?_); (refine RK.cons_ ?_; (first | refine RK.k_ 0 rfl ?_; refine .p rfl rfl rfl (by exact trivial) ?_ | refine RK.k_ 1 rfl ?_; (refine .pa rfl rfl rfl rfl rfl rfl (by omega) (by omega) ?_))))
          refine .nil ?_ rfl
          refine ⟨3, by show 4 - 3 < 4 - 2; omega, by show 3 ≤ 4; omega, .heap ?_ ?_⟩
          · repeat (first | exact trivial | refine ⟨⟨_, rfl, .refl _⟩, ?_⟩)
          · show [some _, _, _] = _; rw [show lvs (lvl (q.take i)) (q.getD i tz).2 3 = lvs (lvl (q.take i)) (q.getD i tz).2 2 from if_neg h]
      · repeat (first | (with_reducible refine W.id_ ?_); (first | refine W.sreg ?_ | refine W.seq ?_ | refine W.blockS ?_ | refine W.skipT rfl ?_ | refine W.condT rfl ?_) | (with_reducible refine RK.id_ ?_); (first | refine RK.cons_ ?_; (refine RK.k_ 0 rfl ?_; refine .p rfl rfl rfl (by first | exact trivial | exact ⟨⟨by decide, by decide⟩, Nat.le_of_ble_eq_true rfl⟩) ?_) | refine RK.nilT rfl ?_ rfl))
        refine W.cond_dec rfl (fun h => ?_) (fun h => ?_)
        · repeat (first | (with_reducible refine W.id_ ?_); (refine W.reg ?_) | (with_reducible refine RK.id_ ?_); (first | refine RK.cons_ ?_; (first | refine RK.k_ 0 rfl ?_; refine .p rfl rfl rfl (by exact trivial) ?_ | refine RK.k_ 1 rfl ?_; (refine .pa rfl rfl rfl rfl rfl rfl (by omega) (by omega) ?_) | refine RK.k_ 5 rfl ?_; (refine .ldl rfl rfl rfl rfl rfl rfl rfl (by rfl) (by rfl) ?_) | refine RK.k_ 6 rfl ?_; (refine .store rfl rfl rfl rfl rfl rfl rfl (by rfl) (by rfl) (by rfl) ?_)) | refine RK.nilT rfl ?_ rfl))
          refine .nil ?_ rfl
          refine ⟨4, by show 4 - 4 < 4 - 3; omega, by show 4 ≤ 4; omega, .heap ?_ ?_⟩
          · repeat (first | exact trivial | refine ⟨⟨_, rfl, .refl _⟩, ?_⟩)
          · show [some _, _, _] = _; rw [show lvs (lvl (q.take i)) (q.getD i tz).2 4 = mxI (lvs (lvl (q.take i)) (q.getD i tz).2 3) 4 from if_pos h]; rfl
        · repeat (first | (with_reducible refine W.id_ ?_); (first | refine W.reg ?_ | refine W.skipT rfl ?_) | (with_reducible refine RK.id_ ?_); (refine RK.cons_ ?_; (first | refine RK.k_ 0 rfl ?_; refine .p rfl rfl rfl (by exact trivial) ?_ | refine RK.k_ 1 rfl ?_; (refine .pa rfl rfl rfl rfl rfl rfl (by omega) (by omega) ?_))))
          refine .nil ?_ rfl
          refine ⟨4, by show 4 - 4 < 4 - 3; omega, by show 4 ≤ 4; omega, .heap ?_ ?_⟩
          · repeat (first | exact trivial | refine ⟨⟨_, rfl, .refl _⟩, ?_⟩)
          · show [some _, _, _] = _; rw [show lvs (lvl (q.take i)) (q.getD i tz).2 4 = lvs (lvl (q.take i)) (q.getD i tz).2 3 from if_neg h]
      · repeat (first | (with_reducible refine W.id_ ?_); (first | refine W.sreg ?_ | refine W.seq ?_ | refine W.condF rfl ?_) | (with_reducible refine RK.id_ ?_); (first | refine RK.cons_ ?_; (refine RK.k_ 0 rfl ?_; refine .p rfl rfl rfl (by exact trivial) ?_) | refine RK.nilT rfl ?_ rfl))
        refine W.exit ⟨.dropTail (Y := [some (.cells [I (lvs (lvl (q.take i)) (q.getD i tz).2 4)]), some (.loop (busy r) [(3, .ptr 0 0), (8, itP q)])]) (T := [some (.cells (mc (q.getD i tz).2))]) (Nat.le_refl 2) ⟨⟨.pure (.int _ _), trivial⟩, ⟨⟨.ptr (by simp), .pure (itP_pure _), trivial⟩, by simp⟩, trivial⟩, rfl⟩
  · rw [List.take_of_length_le (Nat.le_refl _)]
    show W _ _ _ _ _ _ _
    repeat (first | (with_reducible refine W.id_ ?_); (refine W.sreg ?_) | (with_reducible refine RK.id_ ?_); (first | refine RK.cons_ ?_; (first | refine RK.k_ 0 rfl ?_; refine .p rfl rfl rfl (by exact trivial) ?_ | refine RK.k_ 5 rfl ?_; (refine .ldl rfl rfl rfl rfl rfl rfl rfl (by rfl) (by rfl) ?_)) | refine RK.nilT rfl ?_ rfl))
    refine W.ret ⟨_, rfl, .eq (by repeat (exact .int _ _)) ?_, rfl⟩
    rfl
end Go.Proofs.Ytbdefjbekbbldaa

namespace Go.Proofs.Ytbdefjbekbbldaa
open Go.V Go.N
set_option maxHeartbeats 8000000
set_option maxRecDepth 20000

/-- The example. -/
abbrev exA : P := [(1, ⟨0, 1, 0, 0⟩), (1, ⟨1, 0, 0, 0⟩)]
abbrev exF : P := [(1, ⟨0, 2, 0, 0⟩), (2, ⟨1, 1, 0, 0⟩), (1, ⟨2, 0, 0, 0⟩)]
theorem exA_eq : nrm (var' 1 ++ var' 2) = exA := by decide
theorem exA_nrm : exA = nrm exA := by decide
theorem exF_eq : powc exA 2 = exF := by decide

theorem pw_le {a b : Nat} (h : a ≤ b) : B32 ^ a ≤ B32 ^ b := Nat.pow_le_pow_right (by decide) h
theorem tiny {n : Nat} (h : n < 4294967296) : n < B32 ^ 1000000000 := small_lt (k := 1) (by rw [Nat.pow_one]; exact h) (by omega)

/- cylinderlaw20.fit -/
theorem fit_spec : PureFn Try.prog 12 [] (.bool true) := by
  have k1 : Pok (can (var' 1)) := can_pok' (tiny (by decide)) (by decide)
  have k2 : Pok (can (var' 2)) := can_pok' (tiny (by decide)) (by decide)
  have hA := Add_spec (p := can (var' 1)) (q := can (var' 2)) (.append k1.z k2.z (by rw [vals_can, vals_can]; exact tiny (by decide)) (by decide))
  rw [vals_can, vals_can, exA_eq] at hA
  have hl : ∀ k, k ≤ 2 → 2 ^ k < B32 ^ 1000000000 := fun k hk => by
    refine tiny ?_
    obtain rfl | rfl | rfl : k = 0 ∨ k = 1 ∨ k = 2 := by omega
    all_goals decide
  have hn : ∀ k, k ≤ 2 → 2 ^ k ≤ 1000000 := fun k hk => by
    obtain rfl | rfl | rfl : k = 0 ∨ k = 1 ∨ k = 2 := by omega
    all_goals decide
  have hP := Pow_spec (p := can exA) (a := exA) (n := 2) (L := 2) (N := 2) (e := 1) (can_pok' (tiny (by decide)) (by decide)) (by rw [vals_can]; exact exA_nrm) (by decide) (by decide) (by decide) (by decide) (by
    intro t ht
    rcases List.mem_cons.1 ht with rfl | ht
    · unfold Mb; simp only; omega
    · obtain rfl := List.mem_singleton.1 ht
      unfold Mb; simp only; omega) (by decide) hl hn (by decide)
  rw [show powc exA (2 : Int).toNat = exF from exF_eq] at hP
  have hS := Zsame_spec (z := zcan 2) (w := zcan 2) (.can (tiny (by decide))) (.can (tiny (by decide)))
  rw [decide_eq_true rfl] at hS
  have hL := Level_spec (p := can exF) (q := exF) (can_pok' (tiny (by decide)) (by decide)) (by rw [vals_can]; decide)
  rw [show lvl exF = 2 by decide] at hL
  have hlen : (can exF).length = 3 := rfl
  refine .of_W (fn := Try.f12) (by repeat (exact trivial)) Try.call12 Try.func12 rfl rfl ?_
  repeat (first | (with_reducible refine W.id_ ?_); (refine W.sreg ?_) | (with_reducible refine RK.id_ ?_); (first | refine RK.cons_ ?_; (refine RK.k_ 0 rfl ?_; refine .p rfl rfl rfl (by exact trivial) ?_) | refine RK.nilT rfl ?_ rfl))
  refine .call (Var_spec 1 (by decide) (by decide)) rfl rfl rfl rfl ?_
  skip
  refine .call (Var_spec 2 (by decide) (by decide)) rfl rfl rfl rfl ?_
  skip
  refine .call (hA) rfl rfl rfl rfl ?_
  skip
  refine .call (hP) rfl rfl rfl rfl ?_
  repeat (first | (with_reducible refine W.id_ ?_); (refine W.sdraw mixed (by kernel_rfl) (by kernel_rfl) ?_) | (with_reducible refine RK.id_ ?_); (first | refine RK.cons_ ?_; (first | refine RK.k_ 0 rfl ?_; refine .p rfl rfl rfl (by exact trivial) ?_ | refine RK.k_ 4 rfl ?_; (refine .p rfl rfl rfl (by omega) ?_) | refine RK.k_ 5 rfl ?_; (refine .lda _ rfl rfl rfl rfl rfl rfl rfl (by rfl) ?_)) | refine RK.nilT rfl ?_ rfl))
  refine .call (Of_spec (n := 2) (by decide) (by decide)) rfl rfl rfl rfl ?_
  skip
  refine .call (hS) rfl rfl rfl rfl ?_
  repeat ((with_reducible refine RK.id_ ?_); (refine RK.cons_ ?_; (refine RK.k_ 0 rfl ?_; refine .p rfl rfl rfl (by exact trivial) ?_)))
  refine .call (hL) rfl rfl rfl rfl ?_
  repeat ((with_reducible refine RK.id_ ?_); (first | refine RK.cons_ ?_; (refine RK.k_ 0 rfl ?_; refine .p rfl rfl rfl (by exact trivial) ?_) | refine RK.nilT rfl ?_ rfl))
  refine W.ret ⟨_, rfl, .eq (by repeat (exact .bool _)) ?_, rfl⟩
  rfl
end Go.Proofs.Ytbdefjbekbbldaa

namespace Go.Proofs.Ytbdefjbekbbldaa
open Go.V Go.N
set_option maxHeartbeats 8000000
set_option maxRecDepth 20000

/-- The sum of what canonical rows say. -/
abbrev addc (a b : P) : P := nrm (a ++ b)
theorem nrm_app (x y : P) : nrm (nrm x ++ nrm y) = nrm (x ++ y) := nrm_eq fun m hm => by
  rw [cf_append, cf_append, cf_nrm, cf_nrm, if_pos hm, if_pos hm]

/-- A row of terms that says 'a', and how big it is at most. -/
structure Rp (k n : Nat) (e : Int) (p : List RT) (a : P) : Prop where
  z : ∀ t ∈ p, okZ t.1
  hl : N.l1 (vals p) < B32 ^ k
  hn : p.length ≤ n
  eqn : a = nrm (vals p)
  eb : Eb e a

section
variable {k n k' n' : Nat} {e e' : Int} {p q : List RT} {a b : P}
theorem Rp.canon (h : Rp k n e p a) : Canon a := by rw [h.eqn]; exact nrm_canon _
theorem Rp.pok (h : Rp k n e p a) (hk : k ≤ 1000000000) (hn : n ≤ 1000000) : Pok p := ⟨h.z, small_lt h.hl hk, Nat.le_trans h.hn hn⟩
theorem Rp.l1 (h : Rp k n e p a) : l1 a < B32 ^ k := by rw [h.eqn]; exact Nat.lt_of_le_of_lt (l1_nrm _) h.hl
theorem Rp.len (h : Rp k n e p a) : a.length ≤ n := by rw [h.eqn]; exact Nat.le_trans (nrm_len _) (by rw [vals_len]; exact h.hn)
theorem Rp.mono (h : Rp k n e p a) (hk : k ≤ k') (hn : n ≤ n') (he : e ≤ e') : Rp k' n' e' p a := ⟨h.z, Nat.lt_of_lt_of_le h.hl (pw_le hk), Nat.le_trans h.hn hn, h.eqn, h.eb.mono he⟩
/-- A canonical row. -/
theorem Rp.cn (hc : Canon a) (hl : N.l1 a < B32 ^ k) (hn : a.length ≤ n) (he : Eb e a) (hk : k ≤ 1000000000) : Rp k n e (can a) a :=
  ⟨fun t ht => by
    obtain ⟨u, hu, e'⟩ := List.mem_map.1 ht
    rw [← e']
    exact .can (Nat.lt_of_le_of_lt (l1_mem hu) (small_lt hl hk)), by rw [vals_can]; exact hl, by rw [can_len]; exact hn, by rw [vals_can, nrm_self hc], he⟩

theorem Rp.mul (h : Rp k n e p a) (h' : Rp k' n' e' q b) (hk : k + k' ≤ 1000000000) (hn : n * n' ≤ 1000000) (hn1 : n ≤ 1000000) (hn2 : n' ≤ 1000000) (h0 : 0 ≤ e) (h0' : 0 ≤ e') (he : e + e' ≤ 4611686018427387903) :
    PureFn Try.prog 14 [eP p, eP q] (eP (can (mulc a b))) ∧ Rp (k + k') (n * n') (e + e') (can (mulc a b)) (mulc a b) := by
  have hl : N.l1 a * N.l1 b < B32 ^ (k + k') := by rw [Nat.pow_add]; exact Nat.mul_lt_mul'' h.l1 h'.l1
  have hln : a.length * b.length ≤ n * n' := Nat.mul_le_mul h.len h'.len
  exact ⟨Mul_spec (e := e + e') (h.pok (by omega) hn1) (h'.pok (by omega) hn2) h.eqn h'.eqn (by omega) (h.eb.mono (by omega)) (h'.eb.mono (by omega)) (small_lt hl hk) (by omega),
    .cn (nrm_canon _) (Nat.lt_of_le_of_lt (l1_mulc a b) hl) (Nat.le_trans (mulc_len a b) hln) ((h.eb.mul h'.eb).nrm) hk⟩
theorem two_pow (k : Nat) : B32 ^ k + B32 ^ k ≤ B32 ^ (k + 1) := by
  rw [Nat.pow_succ]
  have : B32 ^ k * 2 ≤ B32 ^ k * B32 := Nat.mul_le_mul_left _ (by decide)
  omega
theorem Rp.add (h : Rp k n e p a) (h' : Rp k n' e q b) (hk : k + 1 ≤ 1000000000) (hn : n + n' ≤ 1000000) :
    PureFn Try.prog 17 [eP p, eP q] (eP (can (addc a b))) ∧ Rp (k + 1) (n + n') e (can (addc a b)) (addc a b) := by
  have ht := two_pow k
  have hl1 := h.l1
  have hl2 := h'.l1
  have hl3 := h.hl
  have hl4 := h'.hl
  have hln := h.len
  have hln' := h'.len
  have hpn := h.hn
  have hqn := h'.hn
  have e1 : addc a b = nrm (vals p ++ vals q) := by rw [h.eqn, h'.eqn]; exact nrm_app _ _
  refine ⟨by rw [e1]; exact Add_spec (.append h.z h'.z (small_lt (k := k + 1) (by omega) hk) (by omega)), .cn (nrm_canon _) (Nat.lt_of_le_of_lt (l1_nrm _) (by rw [l1_append]; omega)) (Nat.le_trans (nrm_len _) (by rw [List.length_append]; omega)) ((h.eb.append h'.eb).nrm) hk⟩
theorem Rp.same (h : Rp k n e p a) (h' : Rp k' n' e' q b) (hk : k ≤ 1000000000) (hk' : k' ≤ 1000000000) (hn : n ≤ 1000000) (hn' : n' ≤ 1000000) : PureFn Try.prog 16 [eP p, eP q] (.bool (decide (a = b))) := by
  rw [h.eqn, h'.eqn]; exact Same_spec (h.pok hk hn) (h'.pok hk' hn')
theorem Rp.canonical (hc : Canon a) (h : Rp k n e (can a) a) (hk : k ≤ 1000000000) (hn : n ≤ 1000000) : PureFn Try.prog 15 [eP (can a)] (.bool true) := Canonical_spec hc (h.pok hk hn)
theorem scl_canon {c : Int} (h0 : c ≠ 0) (h : Canon a) : Canon (scl c a) := ⟨by
    unfold scl
    rw [List.pairwise_map]; exact h.ord, fun t ht => by
    obtain ⟨u, hu, rfl⟩ := List.mem_map.1 ht
    exact Int.mul_ne_zero (h.nz u hu) h0, fun t ht => by
    obtain ⟨u, hu, rfl⟩ := List.mem_map.1 ht
    exact h.v u hu⟩
/-- Every coefficient times a number. -/
abbrev sclc (c : Int) (a : P) : P := nrm (scl c a)
theorem Eb.scl {c : Int} (h : Eb e a) : Eb e (scl c a) := fun t ht => by
  obtain ⟨u, hu, rfl⟩ := List.mem_map.1 ht
  exact h u hu
theorem scl_len (c : Int) (a : P) : (scl c a).length = a.length := List.length_map _
theorem Rp.scale {c : Z} (h : Rp k n e p a) (hc : okZ c) (hcl : (zv c).natAbs < B32 ^ k') (hk : k + k' ≤ 1000000000) (hn : n ≤ 1000000) :
    PureFn Try.prog 30 [eP p, eZ c] (eP (can (sclc (zv c) a))) ∧ Rp (k + k') n e (can (sclc (zv c) a)) (sclc (zv c) a) := by
  have hl : N.l1 a * (zv c).natAbs < B32 ^ (k + k') := by rw [Nat.pow_add]; exact Nat.mul_lt_mul'' h.l1 hcl
  exact ⟨Scale_spec (h.pok (by omega) hn) hc h.eqn (small_lt hl hk), .cn (nrm_canon _) (Nat.lt_of_le_of_lt (l1_nrm _) (by rw [l1_scl]; exact hl)) (Nat.le_trans (nrm_len _) (by rw [scl_len]; exact h.len)) ((Eb.scl h.eb).nrm) hk⟩
theorem Rp.neg (h : Rp k n e p a) (hk : k ≤ 1000000000) (hn : n ≤ 1000000) : PureFn Try.prog 31 [eP p] (eP (can (sclc (-1) a))) ∧ Rp k n e (can (sclc (-1) a)) (sclc (-1) a) :=
  ⟨Neg_spec (h.pok hk hn) h.eqn, .cn (nrm_canon _) (Nat.lt_of_le_of_lt (l1_nrm _) (by rw [l1_scl]; show N.l1 a * 1 < _; rw [Nat.mul_one]; exact h.l1)) (Nat.le_trans (nrm_len _) (by rw [scl_len]; exact h.len)) ((Eb.scl h.eb).nrm) hk⟩
theorem Rp.sub (h : Rp k n e p a) (h' : Rp k n' e q b) (hk : k + 1 ≤ 1000000000) (hn : n + n' ≤ 1000000) :
    PureFn Try.prog 29 [eP p, eP q] (eP (can (addc a (sclc (-1) b)))) ∧ Rp (k + 1) (n + n') e (can (addc a (sclc (-1) b))) (addc a (sclc (-1) b)) := by
  have ht := two_pow k
  have hl3 := h.hl
  have hl4 := h'.hl
  have hpn := h.hn
  have hqn := h'.hn
  have hN := (h'.neg (by omega) (by omega)).2
  have hA := h.add hN hk hn
  refine ⟨?_, hA.2⟩
  have e1 : addc a (sclc (-1) b) = nrm (vals p ++ nrm (scl (-1) b)) := by
    rw [h.eqn]
    have := nrm_app (vals p) (nrm (scl (-1) b))
    rw [nrm_nrm] at this
    exact this
  rw [e1]
  exact Sub_spec (h.pok (by omega) (by omega)) (h'.pok (by omega) (by omega)) h'.eqn (small_lt (k := k + 1) (by omega) hk) (by omega)
end

/- Small inputs. -/
theorem l1_few : ∀ {p : List RT}, (∀ t ∈ p, okN t.1.2 ∧ t.1.2.length ≤ 6) → l1 (vals p) ≤ p.length * B32 ^ 6
  | [], _ => Nat.zero_le _
  | t :: p, h => by
    have h1 := l1_few (p := p) fun u hu => h u (by simp [hu])
    have h2 := h t (by simp)
    have h3 : (zv t.1).natAbs < B32 ^ 6 := by rw [← nv_abs]; exact Nat.lt_of_lt_of_le (nv_lt h2.1) (pw_le h2.2)
    show (zv t.1).natAbs + l1 (vals p) ≤ (p.length + 1) * B32 ^ 6
    rw [Nat.succ_mul]; omega
theorem few_Rp {p : List RT} (h : few p 8 6 9) (hz : ∀ t ∈ p, okN t.1.2) : Rp 7 8 9 p (nrm (vals p)) :=
  ⟨fun t ht => ⟨hz t ht, Nat.le_trans (h.2 t ht).1 (by decide)⟩, by
    have h1 := l1_few (p := p) fun t ht => ⟨hz t ht, (h.2 t ht).1⟩
    have h2 : p.length * B32 ^ 6 ≤ 8 * B32 ^ 6 := Nat.mul_le_mul_right _ h.1
    exact Nat.lt_of_le_of_lt (Nat.le_trans h1 h2) (by decide), h.1, rfl, fun t ht => by
    obtain ⟨hv, u, hu, e⟩ := nrm_mem ht
    obtain ⟨x, hx, rfl⟩ := List.mem_map.1 hu
    have hf := (h.2 x hx).2
    have e' : x.2 = t.2 := e
    rw [← e'] at hv ⊢
    unfold xok at hf; unfold V at hv; unfold Mb; omega⟩
end Go.Proofs.Ytbdefjbekbbldaa
