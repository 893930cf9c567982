import Derived.Test.YtbdefjbekbbldaaA5
set_option linter.unusedVariables false
set_option linter.unusedSimpArgs false
set_option linter.unnecessarySimpa false
namespace Go.Proofs.Ytbdefjbekbbldaa
open Go.V Go.N
set_option maxHeartbeats 8000000
set_option maxRecDepth 20000

/-- The sum of the first k exponents. -/
def sm (m : M) : Nat → Int
  | 0 => 0
  | 1 => 0 + m.x0
  | 2 => 0 + m.x0 + m.x1
  | 3 => 0 + m.x0 + m.x1 + m.x2
  | _ => 0 + m.x0 + m.x1 + m.x2 + m.x3
def tot (q : P) : Int := q.foldl (fun o t => mxI o (sm t.2 4)) (-1)
/-- The exponent that counts for a level. -/
def lex (l : Int) (m : M) : Int := if 1 ≤ l ∧ l ≤ 4 then ex l.toNat m else 0
def dgr (l : Int) (q : P) : Int := q.foldl (fun o t => mxI o (lex l t.2)) (-1)

/- sparse.Total -/
theorem Total_spec {p : List RT} {q : P} (hp : Pok p) (eq : q = nrm (vals p)) (he : Eb 1000000 q) : PureFn Try.prog 26 [eP p] (I (tot q)) := by
  have hq : Pok (can q) := by rw [eq]; exact can_pok' (Nat.lt_of_le_of_lt (l1_nrm _) hp.l) (Nat.le_trans (nrm_len _) (by rw [vals_len]; exact hp.n))
  refine .of_W (fn := Try.f26) (by repeat (first | exact trivial | refine ⟨(by repeat (exact eP_pure _)), ?_⟩)) Try.call26 Try.func26 rfl rfl ?_
  repeat (first | (with_reducible refine W.id_ ?_); (first | refine W.sreg ?_ | refine W.seq ?_) | (with_reducible refine RK.id_ ?_); (first | refine RK.cons_ ?_; (first | refine RK.k_ 0 rfl ?_; refine .p rfl rfl rfl (by exact trivial) ?_ | refine RK.k_ 6 rfl ?_; (first | refine .alloc _ rfl rfl rfl rfl rfl rfl rfl ?_ | refine .store rfl rfl rfl rfl rfl rfl rfl (by rfl) (by rfl) (by rfl) ?_)) | refine RK.nilT rfl ?_ rfl))
  refine .call (Terms_spec hp eq) rfl rfl rfl rfl ?_
  repeat ((with_reducible refine RK.id_ ?_); (refine RK.nilT rfl ?_ rfl))
  refine W.block ?_
  refine W.to (F' := [(3, .ptr 0 0), (9, itP q)]) (H' := [some (.cells [I (-1)])]) (.heap ?_ rfl) ?_
  · repeat (first | exact trivial | refine ⟨⟨_, rfl, .refl _⟩, ?_⟩)
  refine W.iter (Terms_iter hq) (fun i => [some (.cells [I (tot (q.take i))])]) (fun _ => true) .ret 1 (by simp) rfl (fun _ => rfl) (fun i => ⟨⟨.pure (.int _ _), trivial⟩, trivial⟩) ⟨.ptr (by decide), .pure (itP_pure _), trivial⟩ (by simp) (fun _ => rfl) (by decide) rfl rfl (fun r i hi _ => ?_) (fun _ => ?_) (fun i _ h => absurd h (by simp))
  · have hb := he _ (getD_mem (z := tz) hi)
    unfold Mb at hb
    repeat (first | (with_reducible refine W.id_ ?_); (refine W.reg ?_) | (with_reducible refine RK.id_ ?_); (refine RK.cons_ ?_; (refine RK.k_ 6 rfl ?_; (first | refine .alloc _ rfl rfl rfl rfl rfl rfl rfl ?_ | refine .store rfl rfl rfl rfl rfl rfl rfl (by rfl) (by rfl) (by rfl) ?_))))
    refine .nil ⟨rfl, rfl, ?_⟩ rfl
    rw [show tot (q.take (i + 1)) = mxI (tot (q.take i)) (sm (q.getD i tz).2 4) from foldl_next hi]
    repeat (first | (with_reducible refine W.id_ ?_); (first | refine W.sreg ?_ | refine W.seq ?_ | refine W.blockS ?_) | (with_reducible refine RK.id_ ?_); (first | refine RK.cons_ ?_; (first | refine RK.k_ 0 rfl ?_; refine .p rfl rfl rfl (by exact trivial) ?_ | refine RK.k_ 5 rfl ?_; (refine .ldla rfl rfl rfl rfl rfl rfl rfl (by rfl) rfl ?_)) | refine RK.nilT rfl ?_ rfl))
    refine W.loopE (fun k => k ≤ 4) (fun k => k = 4) (fun k => 4 - k) (fun k => [(13, I (k : Int)), (12, eM (q.getD i tz).2), (5, I (sm (q.getD i tz).2 k)), (3, .ptr 0 0)]) (fun k => [some (.cells [I (tot (q.take i))]), some (.loop (busy r) [(3, .ptr 0 0), (9, itP q)]), some (.cells (mc (q.getD i tz).2))]) (0) rfl ?_ ?_ ?_ ?_
    · exact Nat.zero_le _
    · refine .heap ?_ rfl
      repeat (first | exact trivial | refine ⟨⟨_, rfl, .refl _⟩, ?_⟩)
    · intro k hk
      obtain rfl | rfl | rfl | rfl | rfl : k = 0 ∨ k = 1 ∨ k = 2 ∨ k = 3 ∨ k = 4 := by omega
      · have s0 : sm (q.getD i tz).2 0 = 0 := rfl
        have s1 : sm (q.getD i tz).2 1 = sm (q.getD i tz).2 0 + (q.getD i tz).2.x0 := rfl
        repeat (first | (with_reducible refine W.id_ ?_); (first | refine W.sreg ?_ | refine W.reg ?_ | refine W.seq ?_ | refine W.blockS ?_ | refine W.skipT rfl ?_ | refine W.condT rfl ?_) | (with_reducible refine RK.id_ ?_); (first | refine RK.cons_ ?_; (first | refine RK.k_ 0 rfl ?_; refine .p rfl rfl rfl (by first | exact trivial | exact ⟨⟨by decide, by decide⟩, Nat.le_of_ble_eq_true rfl⟩) ?_ | refine RK.k_ 1 rfl ?_; (refine .pa rfl rfl rfl rfl rfl rfl (by omega) (by omega) ?_)) | refine RK.nilT rfl ?_ rfl))
        refine .nil ?_ rfl
        refine ⟨1, by show 4 - 1 < 4 - 0; omega, by show 1 ≤ 4; omega, .heap ?_ rfl⟩
        repeat (first | exact trivial | refine ⟨⟨_, rfl, .refl _⟩, ?_⟩)
      · have s0 : sm (q.getD i tz).2 1 = 0 + (q.getD i tz).2.x0 := rfl
        have s1 : sm (q.getD i tz).2 2 = sm (q.getD i tz).2 1 + (q.getD i tz).2.x1 := rfl
        repeat (first | (with_reducible refine W.id_ ?_); (first | refine W.sreg ?_ | refine W.reg ?_ | refine W.seq ?_ | refine W.blockS ?_ | refine W.skipT rfl ?_ | refine W.condT rfl ?_) | (with_reducible refine RK.id_ ?_); (first | refine RK.cons_ ?_; (first | refine RK.k_ 0 rfl ?_; refine .p rfl rfl rfl (by first | exact trivial | exact ⟨⟨by decide, by decide⟩, Nat.le_of_ble_eq_true rfl⟩) ?_ | refine RK.k_ 1 rfl ?_; (refine .pa rfl rfl rfl rfl rfl rfl (by omega) (by omega) ?_)) | refine RK.nilT rfl ?_ rfl))
        refine .nil ?_ rfl
        refine ⟨2, by show 4 - 2 < 4 - 1; omega, by show 2 ≤ 4; omega, .heap ?_ rfl⟩
        repeat (first | exact trivial | refine ⟨⟨_, rfl, .refl _⟩, ?_⟩)
      · have s0 : sm (q.getD i tz).2 2 = 0 + (q.getD i tz).2.x0 + (q.getD i tz).2.x1 := rfl
        have s1 : sm (q.getD i tz).2 3 = sm (q.getD i tz).2 2 + (q.getD i tz).2.x2 := rfl
        repeat (first | (with_reducible refine W.id_ ?_); (first | refine W.sreg ?_ | refine W.reg ?_ | refine W.seq ?_ | refine W.blockS ?_ | refine W.skipT rfl ?_ | refine W.condT rfl ?_) | (with_reducible refine RK.id_ ?_); (first | refine RK.cons_ ?_; (first | refine RK.k_ 0 rfl ?_; refine .p rfl rfl rfl (by first | exact trivial | exact ⟨⟨by decide, by decide⟩, Nat.le_of_ble_eq_true rfl⟩) ?_ | refine RK.k_ 1 rfl ?_; (refine .pa rfl rfl rfl rfl rfl rfl (by omega) (by omega) ?_)) | refine RK.nilT rfl ?_ rfl))
        refine .nil ?_ rfl
        refine ⟨3, by show 4 - 3 < 4 - 2; omega, by show 3 ≤ 4; omega, .heap ?_ rfl⟩
        repeat (first | exact trivial | refine ⟨⟨_, rfl, .refl _⟩, ?_⟩)
      · have s0 : sm (q.getD i tz).2 3 = 0 + (q.getD i tz).2.x0 + (q.getD i tz).2.x1 + (q.getD i tz).2.x2 := rfl
        have s1 : sm (q.getD i tz).2 4 = sm (q.getD i tz).2 3 + (q.getD i tz).2.x3 := rfl
        repeat (first | (with_reducible refine W.id_ ?_); (first | refine W.sreg ?_ | refine W.reg ?_ | refine W.seq ?_ | refine W.blockS ?_ | refine W.skipT rfl ?_ | refine W.condT rfl ?_) | (with_reducible refine RK.id_ ?_); (first | refine RK.cons_ ?_; (first | refine RK.k_ 0 rfl ?_; refine .p rfl rfl rfl (by first | exact trivial | exact ⟨⟨by decide, by decide⟩, Nat.le_of_ble_eq_true rfl⟩) ?_ | refine RK.k_ 1 rfl ?_; (refine .pa rfl rfl rfl rfl rfl rfl (by omega) (by omega) ?_)) | refine RK.nilT rfl ?_ rfl))
        refine .nil ?_ rfl
        refine ⟨4, by show 4 - 4 < 4 - 3; omega, by show 4 ≤ 4; omega, .heap ?_ rfl⟩
        repeat (first | exact trivial | refine ⟨⟨_, rfl, .refl _⟩, ?_⟩)
      · repeat (first | (with_reducible refine W.id_ ?_); (first | refine W.sreg ?_ | refine W.seq ?_ | refine W.condF rfl ?_) | (with_reducible refine RK.id_ ?_); (first | refine RK.cons_ ?_; (refine RK.k_ 0 rfl ?_; refine .p rfl rfl rfl (by exact trivial) ?_) | refine RK.nilT rfl ?_ rfl))
        refine W.exit ⟨4, rfl, .heap ?_ rfl⟩
        repeat (first | exact trivial | refine ⟨⟨_, rfl, .refl _⟩, ?_⟩)
    · rintro k rfl
      repeat (first | (with_reducible refine W.id_ ?_); (refine W.reg ?_) | (with_reducible refine RK.id_ ?_); (refine RK.cons_ ?_; (first | refine RK.k_ 0 rfl ?_; refine .p rfl rfl rfl (by exact trivial) ?_ | refine RK.k_ 5 rfl ?_; (refine .ldl rfl rfl rfl rfl rfl rfl rfl (by rfl) (by rfl) ?_) | refine RK.k_ 6 rfl ?_; (refine .store rfl rfl rfl rfl rfl rfl rfl (by rfl) (by rfl) (by rfl) ?_))))
      refine .nil ?_ rfl
      exact ⟨.dropTail (Y := [some (.cells [I (mxI (tot (q.take i)) (sm (q.getD i tz).2 4))]), some (.loop (busy r) [(3, .ptr 0 0), (9, itP q)])]) (T := [some (.cells (mc (q.getD i tz).2))]) (Nat.le_refl 2) ⟨⟨.pure (.int _ _), trivial⟩, ⟨⟨.ptr (by simp), .pure (itP_pure _), trivial⟩, by simp⟩, trivial⟩, rfl⟩
  · rw [List.take_of_length_le (Nat.le_refl _)]
    show W _ _ _ _ _ _ _
    repeat (first | (with_reducible refine W.id_ ?_); (refine W.sreg ?_) | (with_reducible refine RK.id_ ?_); (first | refine RK.cons_ ?_; (first | refine RK.k_ 0 rfl ?_; refine .p rfl rfl rfl (by exact trivial) ?_ | refine RK.k_ 5 rfl ?_; (refine .ldl rfl rfl rfl rfl rfl rfl rfl (by rfl) (by rfl) ?_)) | refine RK.nilT rfl ?_ rfl))
    refine W.ret ⟨_, rfl, .eq (by repeat (exact .int _ _)) ?_, rfl⟩
    rfl
end Go.Proofs.Ytbdefjbekbbldaa

namespace Go.Proofs.Ytbdefjbekbbldaa
open Go.V Go.N
set_option maxHeartbeats 8000000
set_option maxRecDepth 20000

theorem Pok.nrm {p : List RT} {q : P} (hp : Pok p) (eq : q = nrm (vals p)) : Pok (can q) := by
  rw [eq]; exact can_pok' (Nat.lt_of_le_of_lt (l1_nrm _) hp.l) (Nat.le_trans (nrm_len _) (by rw [vals_len]; exact hp.n))

theorem Degree_1 {p : List RT} {q : P} (hp : Pok p) (eq : q = nrm (vals p)) : PureFn Try.prog 25 [eP p, I 1] (I (dgr 1 q)) := by
  have hq := hp.nrm eq
  refine .of_W (fn := Try.f25) (by repeat (first | exact trivial | refine ⟨(by repeat (first | exact .int _ _ | exact eP_pure _)), ?_⟩)) Try.call25 Try.func25 rfl rfl ?_
  repeat (first | (with_reducible refine W.id_ ?_); (first | refine W.sreg ?_ | refine W.seq ?_) | (with_reducible refine RK.id_ ?_); (first | refine RK.cons_ ?_; (first | refine RK.k_ 0 rfl ?_; refine .p rfl rfl rfl (by exact trivial) ?_ | refine RK.k_ 6 rfl ?_; (first | refine .box _ rfl rfl rfl rfl rfl rfl rfl ?_ | refine .alloc _ rfl rfl rfl rfl rfl rfl rfl ?_ | refine .store rfl rfl rfl rfl rfl rfl rfl (by rfl) (by rfl) (by rfl) ?_)) | refine RK.nilT rfl ?_ rfl))
  refine .call (Terms_spec hp eq) rfl rfl rfl rfl ?_
  repeat ((with_reducible refine RK.id_ ?_); (refine RK.nilT rfl ?_ rfl))
  refine W.block ?_
  refine W.to (F' := [(3, .ptr 0 0), (4, .ptr 1 0), (5, .ptr 2 0), (8, itP q)]) (H' := [some (.cells [I 1]), some (.cells [I 0]), some (.cells [I (-1)])]) (.heap ?_ rfl) ?_
  · repeat (first | exact trivial | refine ⟨⟨_, rfl, .refl _⟩, ?_⟩)
  refine W.iter (Terms_iter hq) (fun i => [some (.cells [I 1]), some (.cells [I 0]), some (.cells [I (dgr 1 (q.take i))])]) (fun _ => true) .ret 3 (by simp) rfl (fun _ => rfl) (fun i => ⟨⟨.pure (.int _ _), trivial⟩, ⟨.pure (.int _ _), trivial⟩, ⟨.pure (.int _ _), trivial⟩, trivial⟩) ⟨.ptr (by decide), .ptr (by decide), .ptr (by decide), .pure (itP_pure _), trivial⟩ (by simp) (fun _ => rfl) (by decide) rfl rfl (fun r i hi _ => ?_) (fun _ => ?_) (fun i _ h => absurd h (by simp))
  · repeat (first | (with_reducible refine W.id_ ?_); (refine W.reg ?_) | (with_reducible refine RK.id_ ?_); (refine RK.cons_ ?_; (refine RK.k_ 6 rfl ?_; (first | refine .alloc _ rfl rfl rfl rfl rfl rfl rfl ?_ | refine .store rfl rfl rfl rfl rfl rfl rfl (by rfl) (by rfl) (by rfl) ?_))))
    refine .nil ⟨rfl, rfl, ?_⟩ rfl
    rw [show dgr 1 (q.take (i + 1)) = mxI (dgr 1 (q.take i)) (q.getD i tz).2.x0 from foldl_next hi]
    repeat (first | (with_reducible refine W.id_ ?_); (first | refine W.sreg ?_ | refine W.draw mixed (by kernel_rfl) (by kernel_rfl) ?_ | refine W.seq ?_ | refine W.blockS ?_ | refine W.skipT rfl ?_ | refine W.condF rfl ?_) | (with_reducible refine RK.id_ ?_); (first | refine RK.cons_ ?_; (first | refine RK.k_ 0 rfl ?_; refine .p rfl rfl rfl (by exact trivial) ?_ | refine RK.k_ 1 rfl ?_; (refine .pa rfl rfl rfl rfl rfl rfl (by omega) (by omega) ?_) | refine RK.k_ 4 rfl ?_; (refine .p rfl rfl rfl (by omega) ?_) | refine RK.k_ 5 rfl ?_; (refine .ldl rfl rfl rfl rfl rfl rfl rfl (by rfl) (by rfl) ?_) | refine RK.k_ 6 rfl ?_; (refine .store rfl rfl rfl rfl rfl rfl rfl (by rfl) (by rfl) (by rfl) ?_)) | refine RK.nilT rfl ?_ rfl))
    refine .nil ?_ rfl
    exact ⟨.dropTail (Y := [some (.cells [I 1]), some (.cells [I 0]), some (.cells [I (mxI (dgr 1 (q.take i)) (q.getD i tz).2.x0)]), some (.loop (busy r) [(3, .ptr 0 0), (4, .ptr 1 0), (5, .ptr 2 0), (8, itP q)])]) (T := [some (.cells (mc (q.getD i tz).2))]) (Nat.le_refl 4) ⟨⟨.pure (.int _ _), trivial⟩, ⟨.pure (.int _ _), trivial⟩, ⟨.pure (.int _ _), trivial⟩, ⟨⟨.ptr (by simp), .ptr (by simp), .ptr (by simp), .pure (itP_pure _), trivial⟩, by simp⟩, trivial⟩, rfl⟩
  · rw [List.take_of_length_le (Nat.le_refl _)]
    show W _ _ _ _ _ _ _
    repeat (first | (with_reducible refine W.id_ ?_); (first | refine W.sreg ?_ | refine W.seq ?_ | refine W.skipT rfl ?_ | refine W.condF rfl ?_) | (with_reducible refine RK.id_ ?_); (first | refine RK.cons_ ?_; (first | refine RK.k_ 0 rfl ?_; refine .p rfl rfl rfl (by exact trivial) ?_ | refine RK.k_ 5 rfl ?_; (refine .ldl rfl rfl rfl rfl rfl rfl rfl (by rfl) (by rfl) ?_) | refine RK.k_ 6 rfl ?_; (refine .store rfl rfl rfl rfl rfl rfl rfl (by rfl) (by rfl) (by rfl) ?_)) | refine RK.nilT rfl ?_ rfl))
    refine W.ret ⟨_, rfl, .eq (by repeat (exact .int _ _)) ?_, rfl⟩
    rfl

theorem Degree_2 {p : List RT} {q : P} (hp : Pok p) (eq : q = nrm (vals p)) : PureFn Try.prog 25 [eP p, I 2] (I (dgr 2 q)) := by
  have hq := hp.nrm eq
  refine .of_W (fn := Try.f25) (by repeat (first | exact trivial | refine ⟨(by repeat (first | exact .int _ _ | exact eP_pure _)), ?_⟩)) Try.call25 Try.func25 rfl rfl ?_
  repeat (first | (with_reducible refine W.id_ ?_); (first | refine W.sreg ?_ | refine W.seq ?_) | (with_reducible refine RK.id_ ?_); (first | refine RK.cons_ ?_; (first | refine RK.k_ 0 rfl ?_; refine .p rfl rfl rfl (by exact trivial) ?_ | refine RK.k_ 6 rfl ?_; (first | refine .box _ rfl rfl rfl rfl rfl rfl rfl ?_ | refine .alloc _ rfl rfl rfl rfl rfl rfl rfl ?_ | refine .store rfl rfl rfl rfl rfl rfl rfl (by rfl) (by rfl) (by rfl) ?_)) | refine RK.nilT rfl ?_ rfl))
  refine .call (Terms_spec hp eq) rfl rfl rfl rfl ?_
  repeat ((with_reducible refine RK.id_ ?_); (refine RK.nilT rfl ?_ rfl))
  refine W.block ?_
  refine W.to (F' := [(3, .ptr 0 0), (4, .ptr 1 0), (5, .ptr 2 0), (8, itP q)]) (H' := [some (.cells [I 2]), some (.cells [I 0]), some (.cells [I (-1)])]) (.heap ?_ rfl) ?_
  · repeat (first | exact trivial | refine ⟨⟨_, rfl, .refl _⟩, ?_⟩)
  refine W.iter (Terms_iter hq) (fun i => [some (.cells [I 2]), some (.cells [I 0]), some (.cells [I (dgr 2 (q.take i))])]) (fun _ => true) .ret 3 (by simp) rfl (fun _ => rfl) (fun i => ⟨⟨.pure (.int _ _), trivial⟩, ⟨.pure (.int _ _), trivial⟩, ⟨.pure (.int _ _), trivial⟩, trivial⟩) ⟨.ptr (by decide), .ptr (by decide), .ptr (by decide), .pure (itP_pure _), trivial⟩ (by simp) (fun _ => rfl) (by decide) rfl rfl (fun r i hi _ => ?_) (fun _ => ?_) (fun i _ h => absurd h (by simp))
  · repeat (first | (with_reducible refine W.id_ ?_); (refine W.reg ?_) | (with_reducible refine RK.id_ ?_); (refine RK.cons_ ?_; (refine RK.k_ 6 rfl ?_; (first | refine .alloc _ rfl rfl rfl rfl rfl rfl rfl ?_ | refine .store rfl rfl rfl rfl rfl rfl rfl (by rfl) (by rfl) (by rfl) ?_))))
    refine .nil ⟨rfl, rfl, ?_⟩ rfl
    rw [show dgr 2 (q.take (i + 1)) = mxI (dgr 2 (q.take i)) (q.getD i tz).2.x1 from foldl_next hi]
    repeat (first | (with_reducible refine W.id_ ?_); (first | refine W.sreg ?_ | refine W.draw mixed (by kernel_rfl) (by kernel_rfl) ?_ | refine W.seq ?_ | refine W.blockS ?_ | refine W.skipT rfl ?_ | refine W.condF rfl ?_) | (with_reducible refine RK.id_ ?_); (first | refine RK.cons_ ?_; (first | refine RK.k_ 0 rfl ?_; refine .p rfl rfl rfl (by exact trivial) ?_ | refine RK.k_ 1 rfl ?_; (refine .pa rfl rfl rfl rfl rfl rfl (by omega) (by omega) ?_) | refine RK.k_ 4 rfl ?_; (refine .p rfl rfl rfl (by omega) ?_) | refine RK.k_ 5 rfl ?_; (refine .ldl rfl rfl rfl rfl rfl rfl rfl (by rfl) (by rfl) ?_) | refine RK.k_ 6 rfl ?_; (refine .store rfl rfl rfl rfl rfl rfl rfl (by rfl) (by rfl) (by rfl) ?_)) | refine RK.nilT rfl ?_ rfl))
    refine .nil ?_ rfl
    exact ⟨.dropTail (Y := [some (.cells [I 2]), some (.cells [I 0]), some (.cells [I (mxI (dgr 2 (q.take i)) (q.getD i tz).2.x1)]), some (.loop (busy r) [(3, .ptr 0 0), (4, .ptr 1 0), (5, .ptr 2 0), (8, itP q)])]) (T := [some (.cells (mc (q.getD i tz).2))]) (Nat.le_refl 4) ⟨⟨.pure (.int _ _), trivial⟩, ⟨.pure (.int _ _), trivial⟩, ⟨.pure (.int _ _), trivial⟩, ⟨⟨.ptr (by simp), .ptr (by simp), .ptr (by simp), .pure (itP_pure _), trivial⟩, by simp⟩, trivial⟩, rfl⟩
  · rw [List.take_of_length_le (Nat.le_refl _)]
    show W _ _ _ _ _ _ _
    repeat (first | (with_reducible refine W.id_ ?_); (first | refine W.sreg ?_ | refine W.seq ?_ | refine W.skipT rfl ?_ | refine W.condF rfl ?_) | (with_reducible refine RK.id_ ?_); (first | refine RK.cons_ ?_; (first | refine RK.k_ 0 rfl ?_; refine .p rfl rfl rfl (by exact trivial) ?_ | refine RK.k_ 5 rfl ?_; (refine .ldl rfl rfl rfl rfl rfl rfl rfl (by rfl) (by rfl) ?_) | refine RK.k_ 6 rfl ?_; (refine .store rfl rfl rfl rfl rfl rfl rfl (by rfl) (by rfl) (by rfl) ?_)) | refine RK.nilT rfl ?_ rfl))
    refine W.ret ⟨_, rfl, .eq (by repeat (exact .int _ _)) ?_, rfl⟩
    rfl

theorem Degree_3 {p : List RT} {q : P} (hp : Pok p) (eq : q = nrm (vals p)) : PureFn Try.prog 25 [eP p, I 3] (I (dgr 3 q)) := by
  have hq := hp.nrm eq
  refine .of_W (fn := Try.f25) (by repeat (first | exact trivial | refine ⟨(by repeat (first | exact .int _ _ | exact eP_pure _)), ?_⟩)) Try.call25 Try.func25 rfl rfl ?_
  repeat (first | (with_reducible refine W.id_ ?_); (first | refine W.sreg ?_ | refine W.seq ?_) | (with_reducible refine RK.id_ ?_); (first | refine RK.cons_ ?_; (first | refine RK.k_ 0 rfl ?_; refine .p rfl rfl rfl (by exact trivial) ?_ | refine RK.k_ 6 rfl ?_; (first | refine .box _ rfl rfl rfl rfl rfl rfl rfl ?_ | refine .alloc _ rfl rfl rfl rfl rfl rfl rfl ?_ | refine .store rfl rfl rfl rfl rfl rfl rfl (by rfl) (by rfl) (by rfl) ?_)) | refine RK.nilT rfl ?_ rfl))
  refine .call (Terms_spec hp eq) rfl rfl rfl rfl ?_
  repeat ((with_reducible refine RK.id_ ?_); (refine RK.nilT rfl ?_ rfl))
  refine W.block ?_
  refine W.to (F' := [(3, .ptr 0 0), (4, .ptr 1 0), (5, .ptr 2 0), (8, itP q)]) (H' := [some (.cells [I 3]), some (.cells [I 0]), some (.cells [I (-1)])]) (.heap ?_ rfl) ?_
  · repeat (first | exact trivial | refine ⟨⟨_, rfl, .refl _⟩, ?_⟩)
  refine W.iter (Terms_iter hq) (fun i => [some (.cells [I 3]), some (.cells [I 0]), some (.cells [I (dgr 3 (q.take i))])]) (fun _ => true) .ret 3 (by simp) rfl (fun _ => rfl) (fun i => ⟨⟨.pure (.int _ _), trivial⟩, ⟨.pure (.int _ _), trivial⟩, ⟨.pure (.int _ _), trivial⟩, trivial⟩) ⟨.ptr (by decide), .ptr (by decide), .ptr (by decide), .pure (itP_pure _), trivial⟩ (by simp) (fun _ => rfl) (by decide) rfl rfl (fun r i hi _ => ?_) (fun _ => ?_) (fun i _ h => absurd h (by simp))
  · repeat (first | (with_reducible refine W.id_ ?_); (refine W.reg ?_) | (with_reducible refine RK.id_ ?_); (refine RK.cons_ ?_; (refine RK.k_ 6 rfl ?_; (first | refine .alloc _ rfl rfl rfl rfl rfl rfl rfl ?_ | refine .store rfl rfl rfl rfl rfl rfl rfl (by rfl) (by rfl) (by rfl) ?_))))
    refine .nil ⟨rfl, rfl, ?_⟩ rfl
    rw [show dgr 3 (q.take (i + 1)) = mxI (dgr 3 (q.take i)) (q.getD i tz).2.x2 from foldl_next hi]
    repeat (first | (with_reducible refine W.id_ ?_); (first | refine W.sreg ?_ | refine W.draw mixed (by kernel_rfl) (by kernel_rfl) ?_ | refine W.seq ?_ | refine W.blockS ?_ | refine W.skipT rfl ?_ | refine W.condF rfl ?_) | (with_reducible refine RK.id_ ?_); (first | refine RK.cons_ ?_; (first | refine RK.k_ 0 rfl ?_; refine .p rfl rfl rfl (by exact trivial) ?_ | refine RK.k_ 1 rfl ?_; (refine .pa rfl rfl rfl rfl rfl rfl (by omega) (by omega) ?_) | refine RK.k_ 4 rfl ?_; (refine .p rfl rfl rfl (by omega) ?_) | refine RK.k_ 5 rfl ?_; (refine .ldl rfl rfl rfl rfl rfl rfl rfl (by rfl) (by rfl) ?_) | refine RK.k_ 6 rfl ?_; (refine .store rfl rfl rfl rfl rfl rfl rfl (by rfl) (by rfl) (by rfl) ?_)) | refine RK.nilT rfl ?_ rfl))
    refine .nil ?_ rfl
    exact ⟨.dropTail (Y := [some (.cells [I 3]), some (.cells [I 0]), some (.cells [I (mxI (dgr 3 (q.take i)) (q.getD i tz).2.x2)]), some (.loop (busy r) [(3, .ptr 0 0), (4, .ptr 1 0), (5, .ptr 2 0), (8, itP q)])]) (T := [some (.cells (mc (q.getD i tz).2))]) (Nat.le_refl 4) ⟨⟨.pure (.int _ _), trivial⟩, ⟨.pure (.int _ _), trivial⟩, ⟨.pure (.int _ _), trivial⟩, ⟨⟨.ptr (by simp), .ptr (by simp), .ptr (by simp), .pure (itP_pure _), trivial⟩, by simp⟩, trivial⟩, rfl⟩
  · rw [List.take_of_length_le (Nat.le_refl _)]
    show W _ _ _ _ _ _ _
    repeat (first | (with_reducible refine W.id_ ?_); (first | refine W.sreg ?_ | refine W.seq ?_ | refine W.skipT rfl ?_ | refine W.condF rfl ?_) | (with_reducible refine RK.id_ ?_); (first | refine RK.cons_ ?_; (first | refine RK.k_ 0 rfl ?_; refine .p rfl rfl rfl (by exact trivial) ?_ | refine RK.k_ 5 rfl ?_; (refine .ldl rfl rfl rfl rfl rfl rfl rfl (by rfl) (by rfl) ?_) | refine RK.k_ 6 rfl ?_; (refine .store rfl rfl rfl rfl rfl rfl rfl (by rfl) (by rfl) (by rfl) ?_)) | refine RK.nilT rfl ?_ rfl))
    refine W.ret ⟨_, rfl, .eq (by repeat (exact .int _ _)) ?_, rfl⟩
    rfl

theorem Degree_4 {p : List RT} {q : P} (hp : Pok p) (eq : q = nrm (vals p)) : PureFn Try.prog 25 [eP p, I 4] (I (dgr 4 q)) := by
  have hq := hp.nrm eq
  refine .of_W (fn := Try.f25) (by repeat (first | exact trivial | refine ⟨(by repeat (first | exact .int _ _ | exact eP_pure _)), ?_⟩)) Try.call25 Try.func25 rfl rfl ?_
  repeat (first | (with_reducible refine W.id_ ?_); (first | refine W.sreg ?_ | refine W.seq ?_) | (with_reducible refine RK.id_ ?_); (first | refine RK.cons_ ?_; (first | refine RK.k_ 0 rfl ?_; refine .p rfl rfl rfl (by exact trivial) ?_ | refine RK.k_ 6 rfl ?_; (first | refine .box _ rfl rfl rfl rfl rfl rfl rfl ?_ | refine .alloc _ rfl rfl rfl rfl rfl rfl rfl ?_ | refine .store rfl rfl rfl rfl rfl rfl rfl (by rfl) (by rfl) (by rfl) ?_)) | refine RK.nilT rfl ?_ rfl))
  refine .call (Terms_spec hp eq) rfl rfl rfl rfl ?_
  repeat ((with_reducible refine RK.id_ ?_); (refine RK.nilT rfl ?_ rfl))
  refine W.block ?_
  refine W.to (F' := [(3, .ptr 0 0), (4, .ptr 1 0), (5, .ptr 2 0), (8, itP q)]) (H' := [some (.cells [I 4]), some (.cells [I 0]), some (.cells [I (-1)])]) (.heap ?_ rfl) ?_
  · repeat (first | exact trivial | refine ⟨⟨_, rfl, .refl _⟩, ?_⟩)
  refine W.iter (Terms_iter hq) (fun i => [some (.cells [I 4]), some (.cells [I 0]), some (.cells [I (dgr 4 (q.take i))])]) (fun _ => true) .ret 3 (by simp) rfl (fun _ => rfl) (fun i => ⟨⟨.pure (.int _ _), trivial⟩, ⟨.pure (.int _ _), trivial⟩, ⟨.pure (.int _ _), trivial⟩, trivial⟩) ⟨.ptr (by decide), .ptr (by decide), .ptr (by decide), .pure (itP_pure _), trivial⟩ (by simp) (fun _ => rfl) (by decide) rfl rfl (fun r i hi _ => ?_) (fun _ => ?_) (fun i _ h => absurd h (by simp))
  · repeat (first | (with_reducible refine W.id_ ?_); (refine W.reg ?_) | (with_reducible refine RK.id_ ?_); (refine RK.cons_ ?_; (refine RK.k_ 6 rfl ?_; (first | refine .alloc _ rfl rfl rfl rfl rfl rfl rfl ?_ | refine .store rfl rfl rfl rfl rfl rfl rfl (by rfl) (by rfl) (by rfl) ?_))))
    refine .nil ⟨rfl, rfl, ?_⟩ rfl
    rw [show dgr 4 (q.take (i + 1)) = mxI (dgr 4 (q.take i)) (q.getD i tz).2.x3 from foldl_next hi]
    repeat (first | (with_reducible refine W.id_ ?_); (first | refine W.sreg ?_ | refine W.draw mixed (by kernel_rfl) (by kernel_rfl) ?_ | refine W.seq ?_ | refine W.blockS ?_ | refine W.skipT rfl ?_ | refine W.condF rfl ?_) | (with_reducible refine RK.id_ ?_); (first | refine RK.cons_ ?_; (first | refine RK.k_ 0 rfl ?_; refine .p rfl rfl rfl (by exact trivial) ?_ | refine RK.k_ 1 rfl ?_; (refine .pa rfl rfl rfl rfl rfl rfl (by omega) (by omega) ?_) | refine RK.k_ 4 rfl ?_; (refine .p rfl rfl rfl (by omega) ?_) | refine RK.k_ 5 rfl ?_; (refine .ldl rfl rfl rfl rfl rfl rfl rfl (by rfl) (by rfl) ?_) | refine RK.k_ 6 rfl ?_; (refine .store rfl rfl rfl rfl rfl rfl rfl (by rfl) (by rfl) (by rfl) ?_)) | refine RK.nilT rfl ?_ rfl))
    refine .nil ?_ rfl
    exact ⟨.dropTail (Y := [some (.cells [I 4]), some (.cells [I 0]), some (.cells [I (mxI (dgr 4 (q.take i)) (q.getD i tz).2.x3)]), some (.loop (busy r) [(3, .ptr 0 0), (4, .ptr 1 0), (5, .ptr 2 0), (8, itP q)])]) (T := [some (.cells (mc (q.getD i tz).2))]) (Nat.le_refl 4) ⟨⟨.pure (.int _ _), trivial⟩, ⟨.pure (.int _ _), trivial⟩, ⟨.pure (.int _ _), trivial⟩, ⟨⟨.ptr (by simp), .ptr (by simp), .ptr (by simp), .pure (itP_pure _), trivial⟩, by simp⟩, trivial⟩, rfl⟩
  · rw [List.take_of_length_le (Nat.le_refl _)]
    show W _ _ _ _ _ _ _
    repeat (first | (with_reducible refine W.id_ ?_); (first | refine W.sreg ?_ | refine W.seq ?_ | refine W.skipT rfl ?_ | refine W.condF rfl ?_) | (with_reducible refine RK.id_ ?_); (first | refine RK.cons_ ?_; (first | refine RK.k_ 0 rfl ?_; refine .p rfl rfl rfl (by exact trivial) ?_ | refine RK.k_ 5 rfl ?_; (refine .ldl rfl rfl rfl rfl rfl rfl rfl (by rfl) (by rfl) ?_) | refine RK.k_ 6 rfl ?_; (refine .store rfl rfl rfl rfl rfl rfl rfl (by rfl) (by rfl) (by rfl) ?_)) | refine RK.nilT rfl ?_ rfl))
    refine W.ret ⟨_, rfl, .eq (by repeat (exact .int _ _)) ?_, rfl⟩
    rfl

theorem dgr_out {l : Int} (hl : ¬ (1 ≤ l ∧ l ≤ 4)) : ∀ (q : P) (o : Int), o = -1 ∨ o = 0 → q.foldl (fun o t => mxI o (lex l t.2)) o = if q = [] then o else 0
  | [], o, _ => rfl
  | t :: q, o, ho => by
    have e1 : mxI o (lex l t.2) = 0 := by
      unfold mxI lex
      rw [if_neg hl]
      split <;> omega
    show q.foldl (fun o t => mxI o (lex l t.2)) (mxI o (lex l t.2)) = _
    rw [e1, dgr_out hl q 0 (.inr rfl)]
    split <;> simp
theorem Degree_out {p : List RT} {q : P} {l : Int} (hp : Pok p) (eq : q = nrm (vals p)) (hl : ¬ (1 ≤ l ∧ l ≤ 4)) : PureFn Try.prog 25 [eP p, I l] (I (dgr l q)) := by
  have hq := hp.nrm eq
  have hd : dgr l q = if q = [] then -1 else 0 := dgr_out hl q (-1) (.inl rfl)
  refine .of_W (fn := Try.f25) (by repeat (first | exact trivial | refine ⟨(by repeat (first | exact .int _ _ | exact eP_pure _)), ?_⟩)) Try.call25 Try.func25 rfl rfl ?_
  repeat (first | (with_reducible refine W.id_ ?_); (first | refine W.sreg ?_ | refine W.seq ?_) | (with_reducible refine RK.id_ ?_); (first | refine RK.cons_ ?_; (first | refine RK.k_ 0 rfl ?_; refine .p rfl rfl rfl (by exact trivial) ?_ | refine RK.k_ 6 rfl ?_; (first | refine .box _ rfl rfl rfl rfl rfl rfl rfl ?_ | refine .alloc _ rfl rfl rfl rfl rfl rfl rfl ?_ | refine .store rfl rfl rfl rfl rfl rfl rfl (by rfl) (by rfl) (by rfl) ?_)) | refine RK.nilT rfl ?_ rfl))
  refine .call (Terms_spec hp eq) rfl rfl rfl rfl ?_
  repeat ((with_reducible refine RK.id_ ?_); (refine RK.nilT rfl ?_ rfl))
  refine W.block ?_
  refine W.to (F' := [(3, .ptr 0 0), (4, .ptr 1 0), (5, .ptr 2 0), (8, itP q)]) (H' := [some (.cells [I l]), some (.cells [I 0]), some (.cells [I (-1)])]) (.heap ?_ rfl) ?_
  · repeat (first | exact trivial | refine ⟨⟨_, rfl, .refl _⟩, ?_⟩)
  refine W.iter (Terms_iter hq) (fun i => [some (.cells [I l]), some (.cells [I 0]), some (.cells [I (-1)])]) (fun _ => false) .ret 3 (by simp) rfl (fun _ => rfl) (fun i => ⟨⟨.pure (.int _ _), trivial⟩, ⟨.pure (.int _ _), trivial⟩, ⟨.pure (.int _ _), trivial⟩, trivial⟩) ⟨.ptr (by decide), .ptr (by decide), .ptr (by decide), .pure (itP_pure _), trivial⟩ (by simp) (fun _ => rfl) (by decide) rfl rfl (fun r i hi _ => ?_) (fun hco => ?_) (fun i hi _ _ => ?_)
  · repeat (first | (with_reducible refine W.id_ ?_); (refine W.reg ?_) | (with_reducible refine RK.id_ ?_); (refine RK.cons_ ?_; (refine RK.k_ 6 rfl ?_; (first | refine .alloc _ rfl rfl rfl rfl rfl rfl rfl ?_ | refine .store rfl rfl rfl rfl rfl rfl rfl (by rfl) (by rfl) (by rfl) ?_))))
    refine .nil ⟨rfl, rfl, ?_⟩ rfl
    repeat (first | (with_reducible refine W.id_ ?_); (first | refine W.sreg ?_ | refine W.seq ?_ | refine W.blockS ?_) | (with_reducible refine RK.id_ ?_); (refine RK.cons_ ?_; (first | refine RK.k_ 0 rfl ?_; refine .p rfl rfl rfl (by exact trivial) ?_ | refine RK.k_ 5 rfl ?_; (refine .ldl rfl rfl rfl rfl rfl rfl rfl (by rfl) (by rfl) ?_))))
    refine .dsplit (fun h1 => ?_) (fun h1 => ?_)
    · repeat (first | (with_reducible refine W.id_ ?_); (first | refine W.sreg ?_ | refine W.condT rfl ?_) | (with_reducible refine RK.id_ ?_); (first | refine RK.cons_ ?_; (first | refine .skip rfl rfl ?_ | refine RK.k_ 0 rfl ?_; refine .p rfl rfl rfl (by exact trivial) ?_ | refine RK.k_ 6 rfl ?_; (refine .store rfl rfl rfl rfl rfl rfl rfl (by rfl) (by rfl) (by rfl) ?_)) | refine RK.nilT rfl ?_ rfl))
      exact W.ret ⟨.dropTail (Y := [some (.cells [I l]), some (.cells [I 0]), some (.cells [I (-1)]), some (.loop (busy r) [(3, .ptr 0 0), (4, .ptr 1 0), (5, .ptr 2 0), (8, itP q)])]) (T := [some (.cells (mc (q.getD i tz).2))]) (Nat.le_refl 4) ⟨⟨.pure (.int _ _), trivial⟩, ⟨.pure (.int _ _), trivial⟩, ⟨.pure (.int _ _), trivial⟩, ⟨⟨.ptr (by simp), .ptr (by simp), .ptr (by simp), .pure (itP_pure _), trivial⟩, by simp⟩, trivial⟩, rfl⟩
    · repeat ((with_reducible refine RK.id_ ?_); (first | refine RK.cons_ ?_; (first | refine RK.k_ 0 rfl ?_; refine .p rfl rfl rfl (by exact trivial) ?_ | refine RK.k_ 5 rfl ?_; (refine .ldl rfl rfl rfl rfl rfl rfl rfl (by rfl) (by rfl) ?_)) | refine RK.nilT rfl ?_ rfl))
      refine W.cond_dec rfl (fun h2 => ?_) (fun h2 => ?_)
      · repeat (first | (with_reducible refine W.id_ ?_); (refine W.sreg ?_) | (with_reducible refine RK.id_ ?_); (first | refine RK.cons_ ?_; (refine RK.k_ 6 rfl ?_; (refine .store rfl rfl rfl rfl rfl rfl rfl (by rfl) (by rfl) (by rfl) ?_)) | refine RK.nilT rfl ?_ rfl))
        exact W.ret ⟨.dropTail (Y := [some (.cells [I l]), some (.cells [I 0]), some (.cells [I (-1)]), some (.loop (busy r) [(3, .ptr 0 0), (4, .ptr 1 0), (5, .ptr 2 0), (8, itP q)])]) (T := [some (.cells (mc (q.getD i tz).2))]) (Nat.le_refl 4) ⟨⟨.pure (.int _ _), trivial⟩, ⟨.pure (.int _ _), trivial⟩, ⟨.pure (.int _ _), trivial⟩, ⟨⟨.ptr (by simp), .ptr (by simp), .ptr (by simp), .pure (itP_pure _), trivial⟩, by simp⟩, trivial⟩, rfl⟩
      · omega
  · have h0 : q = [] := by
      cases q with
      | nil => rfl
      | cons t q => exact absurd (hco 0 (Nat.succ_pos _)) (by simp)
    rw [hd, if_pos h0]
    show W _ _ _ _ _ _ _
    repeat (first | (with_reducible refine W.id_ ?_); (first | refine W.sreg ?_ | refine W.seq ?_) | (with_reducible refine RK.id_ ?_); (refine RK.cons_ ?_; (first | refine RK.k_ 0 rfl ?_; refine .p rfl rfl rfl (by exact trivial) ?_ | refine RK.k_ 5 rfl ?_; (refine .ldl rfl rfl rfl rfl rfl rfl rfl (by rfl) (by rfl) ?_))))
    refine .dsplit (fun h1 => ?_) (fun h1 => ?_)
    · repeat (first | (with_reducible refine W.id_ ?_); (first | refine W.sreg ?_ | refine W.condT rfl ?_) | (with_reducible refine RK.id_ ?_); (first | refine RK.cons_ ?_; (first | refine .skip rfl rfl ?_ | refine RK.k_ 0 rfl ?_; refine .p rfl rfl rfl (by exact trivial) ?_ | refine RK.k_ 5 rfl ?_; (refine .ldl rfl rfl rfl rfl rfl rfl rfl (by rfl) (by rfl) ?_) | refine RK.k_ 6 rfl ?_; (refine .store rfl rfl rfl rfl rfl rfl rfl (by rfl) (by rfl) (by rfl) ?_)) | refine RK.nilT rfl ?_ rfl))
      refine W.ret ⟨_, rfl, .eq (by repeat (exact .int _ _)) ?_, rfl⟩
      rfl
    · repeat ((with_reducible refine RK.id_ ?_); (first | refine RK.cons_ ?_; (first | refine RK.k_ 0 rfl ?_; refine .p rfl rfl rfl (by exact trivial) ?_ | refine RK.k_ 5 rfl ?_; (refine .ldl rfl rfl rfl rfl rfl rfl rfl (by rfl) (by rfl) ?_)) | refine RK.nilT rfl ?_ rfl))
      refine W.cond_dec rfl (fun h2 => ?_) (fun h2 => ?_)
      · repeat (first | (with_reducible refine W.id_ ?_); (refine W.sreg ?_) | (with_reducible refine RK.id_ ?_); (first | refine RK.cons_ ?_; (first | refine RK.k_ 0 rfl ?_; refine .p rfl rfl rfl (by exact trivial) ?_ | refine RK.k_ 5 rfl ?_; (refine .ldl rfl rfl rfl rfl rfl rfl rfl (by rfl) (by rfl) ?_) | refine RK.k_ 6 rfl ?_; (refine .store rfl rfl rfl rfl rfl rfl rfl (by rfl) (by rfl) (by rfl) ?_)) | refine RK.nilT rfl ?_ rfl))
        refine W.ret ⟨_, rfl, .eq (by repeat (exact .int _ _)) ?_, rfl⟩
        rfl
      · omega
  · have h0 : q ≠ [] := by rintro rfl; cases hi
    rw [hd, if_neg h0]
    exact ⟨_, rfl, .eq (.int _ _) rfl, rfl⟩
theorem Degree_spec {p : List RT} {q : P} (hp : Pok p) (eq : q = nrm (vals p)) (l : Int) : PureFn Try.prog 25 [eP p, I l] (I (dgr l q)) := by
  by_cases hl : 1 ≤ l ∧ l ≤ 4
  · obtain rfl | rfl | rfl | rfl : l = 1 ∨ l = 2 ∨ l = 3 ∨ l = 4 := by omega
    · exact Degree_1 hp eq
    · exact Degree_2 hp eq
    · exact Degree_3 hp eq
    · exact Degree_4 hp eq
  · exact Degree_out hp eq hl
end Go.Proofs.Ytbdefjbekbbldaa
