import Derived.Test.YtbdefjbekbbldaaA6
set_option linter.unusedVariables false
set_option linter.unusedSimpArgs false
set_option linter.unnecessarySimpa false
namespace Go.Proofs.Ytbdefjbekbbldaa
open Go.V Go.N
set_option maxHeartbeats 8000000
set_option maxRecDepth 20000

/- cylinderlaw20.SparseDegrees -/
theorem LDegrees_spec {p : List RT} {l n : Int} (hp : p.length ≤ 9223372036854775807) (zp : ∀ t ∈ p, okN t.1.2 ∧ t.1.2.length ≤ 9223372036854775807) (h0 : -9223372036854775808 ≤ l ∧ l ≤ 9223372036854775807) (hn : 0 ≤ n ∧ n < 256) :
    PureFn Try.prog 4 [eP p, I l, .int .u8 n] (.bool true) := by
  refine .of_W (fn := Try.f4) (by repeat (first | exact trivial | refine ⟨(by repeat (first | exact .int _ _ | exact eP_pure _)), ?_⟩)) Try.call4 Try.func4 rfl rfl ?_
  repeat (first | (with_reducible refine W.id_ ?_); (first | refine W.sreg ?_ | refine W.seq ?_) | (with_reducible refine RK.id_ ?_); (first | refine RK.cons_ ?_; (refine RK.k_ 6 rfl ?_; (refine .alloc _ rfl rfl rfl rfl rfl rfl rfl ?_)) | refine RK.nilT rfl ?_ rfl))
  refine .call (fit_spec) rfl rfl rfl rfl ?_
  repeat (first | (with_reducible refine W.id_ ?_); (first | refine W.sreg ?_ | refine W.seq ?_ | refine W.skipT rfl ?_ | refine W.condF rfl ?_) | (with_reducible refine RK.id_ ?_); (first | refine RK.cons_ ?_; (refine RK.k_ 0 rfl ?_; refine .p rfl rfl rfl (by exact trivial) ?_) | refine RK.nilT rfl ?_ rfl))
  refine .call (few_spec hp (fun t ht => (zp t ht).2)) rfl rfl rfl rfl ?_
  repeat ((with_reducible refine RK.id_ ?_); (first | refine RK.cons_ ?_; (refine RK.k_ 0 rfl ?_; refine .p rfl rfl rfl (by exact trivial) ?_) | refine RK.nilT rfl ?_ rfl))
  refine W.cond_ndec rfl (fun h1 => ?_) (fun h1 => ?_)
  · repeat (first | (with_reducible refine W.id_ ?_); (refine W.sreg ?_) | (with_reducible refine RK.id_ ?_); (first | refine RK.cons_ ?_; (refine RK.k_ 6 rfl ?_; (refine .store rfl rfl rfl rfl rfl rfl rfl (by rfl) (by rfl) (by rfl) ?_)) | refine RK.nilT rfl ?_ rfl))
    refine W.ret ⟨_, rfl, .eq (by repeat (exact .bool _)) ?_, rfl⟩
    rfl
  have h1 : few p 8 6 9 := by simpa using h1
  have hP := few_Rp h1 (fun t ht => (zp t ht).1)
  obtain ⟨q, hq⟩ : ∃ q, q = nrm (vals p) := ⟨_, rfl⟩
  rw [← hq] at hP
  have kp := hP.pok (by omega) (by omega)
  have n1 := Normal_spec kp
  rw [← hq] at n1
  have kq := kp.nrm hq
  have hcl : (can q).length = q.length := can_len q
  have hqn : q.length ≤ 8 := hP.len
  have v1 := Level_spec kp hq
  have v2 := Degree_spec kp hq l
  have v3 := Total_spec kp hq (hP.eb.mono (by omega))
  repeat (first | (with_reducible refine W.id_ ?_); (first | refine W.sreg ?_ | refine W.skipT rfl ?_) | (with_reducible refine RK.id_ ?_); (refine RK.cons_ ?_; (refine RK.k_ 0 rfl ?_; refine .p rfl rfl rfl (by exact trivial) ?_)))
  refine .call (n1) rfl rfl rfl rfl ?_
  repeat (first | (with_reducible refine W.id_ ?_); (first | refine W.sreg ?_ | refine W.seq ?_) | (with_reducible refine RK.id_ ?_); (first | refine RK.cons_ ?_; (first | refine RK.k_ 0 rfl ?_; refine .p rfl rfl rfl (by exact trivial) ?_ | refine RK.k_ 5 rfl ?_; (refine .ldl rfl rfl rfl rfl rfl rfl rfl (by rfl) (by rfl) ?_) | refine RK.k_ 6 rfl ?_; (first | refine .alloc _ rfl rfl rfl rfl rfl rfl rfl ?_ | refine .store rfl rfl rfl rfl rfl rfl rfl (by rfl) (by rfl) (by rfl) ?_)) | refine RK.nilT rfl ?_ rfl))
  refine .rangeS ((can q).length) (fun i s => [(8, I (lvl (q.take i))), (9, I (dgr l (q.take i))), (10, I (tot (q.take i))), (29, eP (can q)), (7, .ptr 1 0), (6, .ptr 0 0), (0, eP p), (1, I l), (2, .int .u8 n)]) (fun i s => [some (.cells [.bool false]), some (.cells [eP (can q)])]) (fun i s => s = ()) (()) rfl rfl rfl rfl rfl rfl rfl rfl rfl rfl (by omega) ?_ ?_ (fun _ _ => rfl) (fun i s hi Ci => ?_) (fun s Ci => ?_)
  · rfl
  · refine .heap ?_ rfl
    repeat (first | exact trivial | refine ⟨⟨_, rfl, .refl _⟩, ?_⟩)
  · have hi' : i < q.length := by omega
    have hm : ((can q).getD i zT).2 = (q.getD i tz).2 := by rw [getD_can hi']
    have hb := hP.eb _ (getD_mem (z := tz) hi')
    rw [← hm] at hb
    unfold Mb at hb
    have f1 : lvl (q.take (i + 1)) = lvs (lvl (q.take i)) ((can q).getD i zT).2 4 := by rw [hm]; exact foldl_next hi'
    have f2 : dgr l (q.take (i + 1)) = mxI (dgr l (q.take i)) (lex l ((can q).getD i zT).2) := by rw [hm]; exact foldl_next hi'
    have f3 : tot (q.take (i + 1)) = mxI (tot (q.take i)) (sm ((can q).getD i zT).2 4) := by rw [hm]; exact foldl_next hi'
    repeat (first | (with_reducible refine W.id_ ?_); (first | refine W.sreg ?_ | refine W.seq ?_) | (with_reducible refine RK.id_ ?_); (first | refine RK.cons_ ?_; (first | refine RK.k_ 0 rfl ?_; refine .p rfl rfl rfl (by exact trivial) ?_ | refine RK.k_ 4 rfl ?_; (refine .ix _ (s := 6) rfl rfl rfl rfl rfl rfl rfl (by rfl) (by omega) ?_) | refine RK.k_ 5 rfl ?_; (first | refine .ldla rfl rfl rfl rfl rfl rfl rfl (by rfl) rfl ?_ | refine .lda _ rfl rfl rfl rfl rfl rfl rfl (by exact take_flat (z := zT) tc_len (by omega) (by omega) rfl) ?_) | refine RK.k_ 6 rfl ?_; (first | refine .alloc _ rfl rfl rfl rfl rfl rfl rfl ?_ | refine .store rfl rfl rfl rfl rfl rfl rfl (by rfl) (by rfl) (by rfl) ?_)) | refine RK.nilT rfl ?_ rfl))
    refine W.loopE (fun k => k ≤ 4) (fun k => k = 4) (fun k => 4 - k) (fun k => [(37, I (k : Int)), (36, eM ((can q).getD i zT).2), (13, I (sm ((can q).getD i zT).2 k)), (8, I (lvs (lvl (q.take i)) ((can q).getD i zT).2 k)), (9, I (dgr l (q.take i))), (10, I (tot (q.take i))), (29, eP (can q)), (7, .ptr 1 0), (6, .ptr 0 0), (0, eP p), (1, I l), (2, .int .u8 n), (12, .ptr 2 0), (31, I i), (30, I (can q).length)]) (fun k => [some (.cells [.bool false]), some (.cells [eP (can q)]), some (.cells (tc ((can q).getD i zT)))]) (0) rfl ?_ ?_ ?_ ?_
    · exact Nat.zero_le _
    · refine .heap ?_ rfl
      repeat (first | exact trivial | refine ⟨⟨_, rfl, .refl _⟩, ?_⟩)
    · intro k hk
      obtain rfl | rfl | rfl | rfl | rfl : k = 0 ∨ k = 1 ∨ k = 2 ∨ k = 3 ∨ k = 4 := by omega
      · have s0 : sm ((can q).getD i zT).2 0 = 0 := rfl
        have s1 : sm ((can q).getD i zT).2 1 = sm ((can q).getD i zT).2 0 + ((can q).getD i zT).2.x0 := rfl
        repeat (first | (with_reducible refine W.id_ ?_); (first | refine W.sreg ?_ | refine W.seq ?_ | refine W.blockS ?_ | refine W.skipT rfl ?_ | refine W.condT rfl ?_) | (with_reducible refine RK.id_ ?_); (first | refine RK.cons_ ?_; (first | refine RK.k_ 0 rfl ?_; refine .p rfl rfl rfl (by first | exact trivial | exact ⟨⟨by decide, by decide⟩, Nat.le_of_ble_eq_true rfl⟩) ?_ | refine RK.k_ 1 rfl ?_; (refine .pa rfl rfl rfl rfl rfl rfl (by omega) (by omega) ?_)) | refine RK.nilT rfl ?_ rfl))
        refine W.cond_dec rfl (fun h => ?_) (fun h => ?_)
        · have e1 : lvs (lvl (q.take i)) ((can q).getD i zT).2 1 = mxI (lvs (lvl (q.take i)) ((can q).getD i zT).2 0) 1 := if_pos h
          repeat (first | (with_reducible refine W.id_ ?_); (refine W.reg ?_) | (with_reducible refine RK.id_ ?_); (first | refine RK.cons_ ?_; (first | refine RK.k_ 0 rfl ?_; refine .p rfl rfl rfl (by exact trivial) ?_ | refine RK.k_ 1 rfl ?_; (refine .pa rfl rfl rfl rfl rfl rfl (by omega) (by omega) ?_)) | refine RK.nilT rfl ?_ rfl))
          refine .nil ?_ rfl
          refine ⟨1, by show 4 - 1 < 4 - 0; omega, by show 1 ≤ 4; omega, .heap ?_ rfl⟩
          dsimp only
          rw [e1]
          repeat (first | exact trivial | refine ⟨⟨_, rfl, .refl _⟩, ?_⟩)
        · have e1 : lvs (lvl (q.take i)) ((can q).getD i zT).2 1 = lvs (lvl (q.take i)) ((can q).getD i zT).2 0 := if_neg h
          repeat (first | (with_reducible refine W.id_ ?_); (first | refine W.reg ?_ | refine W.skipT rfl ?_) | (with_reducible refine RK.id_ ?_); (refine RK.cons_ ?_; (first | refine RK.k_ 0 rfl ?_; refine .p rfl rfl rfl (by exact trivial) ?_ | refine RK.k_ 1 rfl ?_; (refine .pa rfl rfl rfl rfl rfl rfl (by omega) (by omega) ?_))))
          refine .nil ?_ rfl
          refine ⟨1, by show 4 - 1 < 4 - 0; omega, by show 1 ≤ 4; omega, .heap ?_ rfl⟩
          dsimp only
          rw [e1]
          repeat (first | exact trivial | refine ⟨⟨_, rfl, .refl _⟩, ?_⟩)
      · have s0 : sm ((can q).getD i zT).2 1 = 0 + ((can q).getD i zT).2.x0 := rfl
        have s1 : sm ((can q).getD i zT).2 2 = sm ((can q).getD i zT).2 1 + ((can q).getD i zT).2.x1 := rfl
        repeat (first | (with_reducible refine W.id_ ?_); (first | refine W.sreg ?_ | refine W.seq ?_ | refine W.blockS ?_ | refine W.skipT rfl ?_ | refine W.condT rfl ?_) | (with_reducible refine RK.id_ ?_); (first | refine RK.cons_ ?_; (first | refine RK.k_ 0 rfl ?_; refine .p rfl rfl rfl (by first | exact trivial | exact ⟨⟨by decide, by decide⟩, Nat.le_of_ble_eq_true rfl⟩) ?_ | refine RK.k_ 1 rfl ?_; (refine .pa rfl rfl rfl rfl rfl rfl (by omega) (by omega) ?_)) | refine RK.nilT rfl ?_ rfl))
        refine W.cond_dec rfl (fun h => ?_) (fun h => ?_)
        · have e1 : lvs (lvl (q.take i)) ((can q).getD i zT).2 2 = mxI (lvs (lvl (q.take i)) ((can q).getD i zT).2 1) 2 := if_pos h
          repeat (first | (with_reducible refine W.id_ ?_); (refine W.reg ?_) | (with_reducible refine RK.id_ ?_); (first | refine RK.cons_ ?_; (first | refine RK.k_ 0 rfl ?_; refine .p rfl rfl rfl (by exact trivial) ?_ | refine RK.k_ 1 rfl ?_; (refine .pa rfl rfl rfl rfl rfl rfl (by omega) (by omega) ?_)) | refine RK.nilT rfl ?_ rfl))
          refine .nil ?_ rfl
          refine ⟨2, by show 4 - 2 < 4 - 1; omega, by show 2 ≤ 4; omega, .heap ?_ rfl⟩
          dsimp only
          rw [e1]
          repeat (first | exact trivial | refine ⟨⟨_, rfl, .refl _⟩, ?_⟩)
        · have e1 : lvs (lvl (q.take i)) ((can q).getD i zT).2 2 = lvs (lvl (q.take i)) ((can q).getD i zT).2 1 := if_neg h
          repeat (first | (with_reducible refine W.id_ ?_); (first | refine W.reg ?_ | refine W.skipT rfl ?_) | (with_reducible refine RK.id_ ?_); (refine RK.cons_ ?_; (first | refine RK.k_ 0 rfl ?_; refine .p rfl rfl rfl (by exact trivial) ?_ | refine RK.k_ 1 rfl ?_; (refine .pa rfl rfl rfl rfl rfl rfl (by omega) (by omega) ?_))))
          refine .nil ?_ rfl
          refine ⟨2, by show 4 - 2 < 4 - 1; omega, by show 2 ≤ 4; omega, .heap ?_ rfl⟩
          dsimp only
          rw [e1]
          repeat (first | exact trivial | refine ⟨⟨_, rfl, .refl _⟩, ?_⟩)
      · have s0 : sm ((can q).getD i zT).2 2 = 0 + ((can q).getD i zT).2.x0 + ((can q).getD i zT).2.x1 := rfl
        have s1 : sm ((can q).getD i zT).2 3 = sm ((can q).getD i zT).2 2 + ((can q).getD i zT).2.x2 := rfl
        repeat (first | (with_reducible refine W.id_ ?_); (first | refine W.sreg ?_ | refine W.seq ?_ | refine W.blockS ?_ | refine W.skipT rfl ?_ | refine W.condT rfl ?_) | (with_reducible refine RK.id_ ?_); (first | refine RK.cons_ ?_; (first | refine RK.k_ 0 rfl ?_; refine .p rfl rfl rfl (by first | exact trivial | exact ⟨⟨by decide, by decide⟩, Nat.le_of_ble_eq_true rfl⟩) ?_ | refine RK.k_ 1 rfl ?_; (refine .pa rfl rfl rfl rfl rfl rfl (by omega) (by omega) ?_)) | refine RK.nilT rfl ?_ rfl))
        refine W.cond_dec rfl (fun h => ?_) (fun h => ?_)
        · have e1 : lvs (lvl (q.take i)) ((can q).getD i zT).2 3 = mxI (lvs (lvl (q.take i)) ((can q).getD i zT).2 2) 3 := if_pos h
          repeat (first | (with_reducible refine W.id_ ?_); (refine W.reg ?_) | (with_reducible refine RK.id_ ?_); (first | refine RK.cons_ ?_; (first | refine RK.k_ 0 rfl ?_; refine .p rfl rfl rfl (by exact trivial) ?_ | refine RK.k_ 1 rfl ?_; (refine .pa rfl rfl rfl rfl rfl rfl (by omega) (by omega) ?_)) | refine RK.nilT rfl ?_ rfl))
          refine .nil ?_ rfl
          refine ⟨3, by show 4 - 3 < 4 - 2; omega, by show 3 ≤ 4; omega, .heap ?_ rfl⟩
          dsimp only
          rw [e1]
          repeat (first | exact trivial | refine ⟨⟨_, rfl, .refl _⟩, ?_⟩)
        · have e1 : lvs (lvl (q.take i)) ((can q).getD i zT).2 3 = lvs (lvl (q.take i)) ((can q).getD i zT).2 2 := if_neg h
          repeat (first | (with_reducible refine W.id_ ?_); (first | refine W.reg ?_ | refine W.skipT rfl ?_) | (with_reducible refine RK.id_ ?_); (refine RK.cons_ ?_; (first | refine RK.k_ 0 rfl ?_; refine .p rfl rfl rfl (by exact trivial) ?_ | refine RK.k_ 1 rfl ?_; (refine .pa rfl rfl rfl rfl rfl rfl (by omega) (by omega) ?_))))
          refine .nil ?_ rfl
          refine ⟨3, by show 4 - 3 < 4 - 2; omega, by show 3 ≤ 4; omega, .heap ?_ rfl⟩
          dsimp only
          rw [e1]
          repeat (first | exact trivial | refine ⟨⟨_, rfl, .refl _⟩, ?_⟩)
      · have s0 : sm ((can q).getD i zT).2 3 = 0 + ((can q).getD i zT).2.x0 + ((can q).getD i zT).2.x1 + ((can q).getD i zT).2.x2 := rfl
        have s1 : sm ((can q).getD i zT).2 4 = sm ((can q).getD i zT).2 3 + ((can q).getD i zT).2.x3 := rfl
        repeat (first | (with_reducible refine W.id_ ?_); (first | refine W.sreg ?_ | refine W.seq ?_ | refine W.blockS ?_ | refine W.skipT rfl ?_ | refine W.condT rfl ?_) | (with_reducible refine RK.id_ ?_); (first | refine RK.cons_ ?_; (first | refine RK.k_ 0 rfl ?_; refine .p rfl rfl rfl (by first | exact trivial | exact ⟨⟨by decide, by decide⟩, Nat.le_of_ble_eq_true rfl⟩) ?_ | refine RK.k_ 1 rfl ?_; (refine .pa rfl rfl rfl rfl rfl rfl (by omega) (by omega) ?_)) | refine RK.nilT rfl ?_ rfl))
        refine W.cond_dec rfl (fun h => ?_) (fun h => ?_)
        · have e1 : lvs (lvl (q.take i)) ((can q).getD i zT).2 4 = mxI (lvs (lvl (q.take i)) ((can q).getD i zT).2 3) 4 := if_pos h
          repeat (first | (with_reducible refine W.id_ ?_); (refine W.reg ?_) | (with_reducible refine RK.id_ ?_); (first | refine RK.cons_ ?_; (first | refine RK.k_ 0 rfl ?_; refine .p rfl rfl rfl (by exact trivial) ?_ | refine RK.k_ 1 rfl ?_; (refine .pa rfl rfl rfl rfl rfl rfl (by omega) (by omega) ?_)) | refine RK.nilT rfl ?_ rfl))
          refine .nil ?_ rfl
          refine ⟨4, by show 4 - 4 < 4 - 3; omega, by show 4 ≤ 4; omega, .heap ?_ rfl⟩
          dsimp only
          rw [e1]
          repeat (first | exact trivial | refine ⟨⟨_, rfl, .refl _⟩, ?_⟩)
        · have e1 : lvs (lvl (q.take i)) ((can q).getD i zT).2 4 = lvs (lvl (q.take i)) ((can q).getD i zT).2 3 := if_neg h
          repeat (first | (with_reducible refine W.id_ ?_); (first | refine W.reg ?_ | refine W.skipT rfl ?_) | (with_reducible refine RK.id_ ?_); (refine RK.cons_ ?_; (first | refine RK.k_ 0 rfl ?_; refine .p rfl rfl rfl (by exact trivial) ?_ | refine RK.k_ 1 rfl ?_; (refine .pa rfl rfl rfl rfl rfl rfl (by omega) (by omega) ?_))))
          refine .nil ?_ rfl
          refine ⟨4, by show 4 - 4 < 4 - 3; omega, by show 4 ≤ 4; omega, .heap ?_ rfl⟩
          dsimp only
          rw [e1]
          repeat (first | exact trivial | refine ⟨⟨_, rfl, .refl _⟩, ?_⟩)
      · repeat (first | (with_reducible refine W.id_ ?_); (first | refine W.sreg ?_ | refine W.seq ?_ | refine W.condF rfl ?_) | (with_reducible refine RK.id_ ?_); (first | refine RK.cons_ ?_; (refine RK.k_ 0 rfl ?_; refine .p rfl rfl rfl (by exact trivial) ?_) | refine RK.nilT rfl ?_ rfl))
        refine W.exit ⟨4, rfl, .heap ?_ rfl⟩
        repeat (first | exact trivial | refine ⟨⟨_, rfl, .refl _⟩, ?_⟩)
    · rintro k rfl
      repeat (first | (with_reducible refine W.id_ ?_); (first | refine W.sreg ?_ | refine W.seq ?_) | (with_reducible refine RK.id_ ?_); (first | refine RK.cons_ ?_; (refine RK.k_ 0 rfl ?_; refine .p rfl rfl rfl (by exact trivial) ?_) | refine RK.nilT rfl ?_ rfl))
      refine .call (inner_spec l) rfl rfl rfl rfl ?_
      repeat ((with_reducible refine RK.id_ ?_); (refine RK.nilT rfl ?_ rfl))
      refine W.cond_dec rfl (fun h => ?_) (fun h => ?_)
      · obtain rfl | rfl | rfl | rfl : l = 1 ∨ l = 2 ∨ l = 3 ∨ l = 4 := by omega
        · have f4 : lex 1 ((can q).getD i zT).2 = ((can q).getD i zT).2.x0 := rfl
          rw [f4] at f2
          repeat (first | (with_reducible refine W.id_ ?_); (refine W.reg ?_) | (with_reducible refine RK.id_ ?_); (first | refine RK.cons_ ?_; (first | refine RK.k_ 0 rfl ?_; refine .p rfl rfl rfl (by exact trivial) ?_ | refine RK.k_ 1 rfl ?_; (refine .pa rfl rfl rfl rfl rfl rfl (by omega) (by omega) ?_) | refine RK.k_ 4 rfl ?_; (refine .p rfl rfl rfl (by omega) ?_) | refine RK.k_ 5 rfl ?_; (refine .ldl rfl rfl rfl rfl rfl rfl rfl (by rfl) (by rfl) ?_)) | refine RK.nilT rfl ?_ rfl))
          refine .nil ?_ rfl
          refine ⟨(), rfl, .ren [0, 1] [] (Nat.zero_le _) (fun b hb => absurd hb (Nat.not_lt_zero b)) (by simp) ?_ (.cell (by simp) rfl (.refl _) (PureL.mem ⟨.bool _, trivial⟩) (.cell (by simp) rfl (.refl _) (PureL.mem ⟨eP_pure _, trivial⟩) trivial))⟩
          dsimp only
          rw [f1, f2, f3]
          repeat (first | exact trivial | refine ⟨⟨_, rfl, .ptr rfl⟩, ?_⟩ | refine ⟨⟨_, rfl, .wk (by repeat (first | exact .int _ _ | exact eP_pure _)) (by exact .refl _)⟩, ?_⟩)
        · have f4 : lex 2 ((can q).getD i zT).2 = ((can q).getD i zT).2.x1 := rfl
          rw [f4] at f2
          repeat (first | (with_reducible refine W.id_ ?_); (refine W.reg ?_) | (with_reducible refine RK.id_ ?_); (first | refine RK.cons_ ?_; (first | refine RK.k_ 0 rfl ?_; refine .p rfl rfl rfl (by exact trivial) ?_ | refine RK.k_ 1 rfl ?_; (refine .pa rfl rfl rfl rfl rfl rfl (by omega) (by omega) ?_) | refine RK.k_ 4 rfl ?_; (refine .p rfl rfl rfl (by omega) ?_) | refine RK.k_ 5 rfl ?_; (refine .ldl rfl rfl rfl rfl rfl rfl rfl (by rfl) (by rfl) ?_)) | refine RK.nilT rfl ?_ rfl))
          refine .nil ?_ rfl
          refine ⟨(), rfl, .ren [0, 1] [] (Nat.zero_le _) (fun b hb => absurd hb (Nat.not_lt_zero b)) (by simp) ?_ (.cell (by simp) rfl (.refl _) (PureL.mem ⟨.bool _, trivial⟩) (.cell (by simp) rfl (.refl _) (PureL.mem ⟨eP_pure _, trivial⟩) trivial))⟩
          dsimp only
          rw [f1, f2, f3]
          repeat (first | exact trivial | refine ⟨⟨_, rfl, .ptr rfl⟩, ?_⟩ | refine ⟨⟨_, rfl, .wk (by repeat (first | exact .int _ _ | exact eP_pure _)) (by exact .refl _)⟩, ?_⟩)
        · have f4 : lex 3 ((can q).getD i zT).2 = ((can q).getD i zT).2.x2 := rfl
          rw [f4] at f2
          repeat (first | (with_reducible refine W.id_ ?_); (refine W.reg ?_) | (with_reducible refine RK.id_ ?_); (first | refine RK.cons_ ?_; (first | refine RK.k_ 0 rfl ?_; refine .p rfl rfl rfl (by exact trivial) ?_ | refine RK.k_ 1 rfl ?_; (refine .pa rfl rfl rfl rfl rfl rfl (by omega) (by omega) ?_) | refine RK.k_ 4 rfl ?_; (refine .p rfl rfl rfl (by omega) ?_) | refine RK.k_ 5 rfl ?_; (refine .ldl rfl rfl rfl rfl rfl rfl rfl (by rfl) (by rfl) ?_)) | refine RK.nilT rfl ?_ rfl))
          refine .nil ?_ rfl
          refine ⟨(), rfl, .ren [0, 1] [] (Nat.zero_le _) (fun b hb => absurd hb (Nat.not_lt_zero b)) (by simp) ?_ (.cell (by simp) rfl (.refl _) (PureL.mem ⟨.bool _, trivial⟩) (.cell (by simp) rfl (.refl _) (PureL.mem ⟨eP_pure _, trivial⟩) trivial))⟩
          dsimp only
          rw [f1, f2, f3]
          repeat (first | exact trivial | refine ⟨⟨_, rfl, .ptr rfl⟩, ?_⟩ | refine ⟨⟨_, rfl, .wk (by repeat (first | exact .int _ _ | exact eP_pure _)) (by exact .refl _)⟩, ?_⟩)
        · have f4 : lex 4 ((can q).getD i zT).2 = ((can q).getD i zT).2.x3 := rfl
          rw [f4] at f2
          repeat (first | (with_reducible refine W.id_ ?_); (refine W.reg ?_) | (with_reducible refine RK.id_ ?_); (first | refine RK.cons_ ?_; (first | refine RK.k_ 0 rfl ?_; refine .p rfl rfl rfl (by exact trivial) ?_ | refine RK.k_ 1 rfl ?_; (refine .pa rfl rfl rfl rfl rfl rfl (by omega) (by omega) ?_) | refine RK.k_ 4 rfl ?_; (refine .p rfl rfl rfl (by omega) ?_) | refine RK.k_ 5 rfl ?_; (refine .ldl rfl rfl rfl rfl rfl rfl rfl (by rfl) (by rfl) ?_)) | refine RK.nilT rfl ?_ rfl))
          refine .nil ?_ rfl
          refine ⟨(), rfl, .ren [0, 1] [] (Nat.zero_le _) (fun b hb => absurd hb (Nat.not_lt_zero b)) (by simp) ?_ (.cell (by simp) rfl (.refl _) (PureL.mem ⟨.bool _, trivial⟩) (.cell (by simp) rfl (.refl _) (PureL.mem ⟨eP_pure _, trivial⟩) trivial))⟩
          dsimp only
          rw [f1, f2, f3]
          repeat (first | exact trivial | refine ⟨⟨_, rfl, .ptr rfl⟩, ?_⟩ | refine ⟨⟨_, rfl, .wk (by repeat (first | exact .int _ _ | exact eP_pure _)) (by exact .refl _)⟩, ?_⟩)
      · have f4 : lex l ((can q).getD i zT).2 = 0 := if_neg h
        rw [f4] at f2
        repeat (first | (with_reducible refine W.id_ ?_); (first | refine W.reg ?_ | refine W.skipT rfl ?_) | (with_reducible refine RK.id_ ?_); (refine RK.cons_ ?_; (refine RK.k_ 0 rfl ?_; refine .p rfl rfl rfl (by exact trivial) ?_)))
        refine .nil ?_ rfl
        refine ⟨(), rfl, .ren [0, 1] [] (Nat.zero_le _) (fun b hb => absurd hb (Nat.not_lt_zero b)) (by simp) ?_ (.cell (by simp) rfl (.refl _) (PureL.mem ⟨.bool _, trivial⟩) (.cell (by simp) rfl (.refl _) (PureL.mem ⟨eP_pure _, trivial⟩) trivial))⟩
        dsimp only
        rw [f1, f2, f3]
        repeat (first | exact trivial | refine ⟨⟨_, rfl, .ptr rfl⟩, ?_⟩ | refine ⟨⟨_, rfl, .wk (by repeat (first | exact .int _ _ | exact eP_pure _)) (by exact .refl _)⟩, ?_⟩)
  rw [List.take_of_length_le (by omega)]
  show W _ _ _ _ _ _ _
  repeat (first | (with_reducible refine W.id_ ?_); (first | refine W.sreg ?_ | refine W.seq ?_) | (with_reducible refine RK.id_ ?_); (refine RK.cons_ ?_; (refine RK.k_ 0 rfl ?_; refine .p rfl rfl rfl (by exact trivial) ?_)))
  refine .call (v1) rfl rfl rfl rfl ?_
  repeat ((with_reducible refine RK.id_ ?_); (refine RK.cons_ ?_; (refine RK.k_ 0 rfl ?_; refine .p rfl rfl rfl (by exact trivial) ?_)))
  refine .split (fun h3 => ?_) (fun h3 => ?_)
  · exact absurd h3 (by simp)
  repeat ((with_reducible refine RK.id_ ?_); (refine RK.cons_ ?_; (refine RK.k_ 0 rfl ?_; refine .p rfl rfl rfl (by exact trivial) ?_)))
  refine .call (v2) rfl rfl rfl rfl ?_
  repeat ((with_reducible refine RK.id_ ?_); (refine RK.cons_ ?_; (refine RK.k_ 0 rfl ?_; refine .p rfl rfl rfl (by exact trivial) ?_)))
  refine .split (fun h4 => ?_) (fun h4 => ?_)
  · exact absurd h4 (by simp)
  repeat ((with_reducible refine RK.id_ ?_); (refine RK.cons_ ?_; (refine RK.k_ 0 rfl ?_; refine .p rfl rfl rfl (by exact trivial) ?_)))
  refine .call (v3) rfl rfl rfl rfl ?_
  repeat ((with_reducible refine RK.id_ ?_); (first | refine RK.cons_ ?_; (refine RK.k_ 0 rfl ?_; refine .p rfl rfl rfl (by exact trivial) ?_) | refine RK.nilT rfl ?_ rfl))
  refine W.cond_ndec rfl (fun h5 => ?_) (fun h5 => ?_)
  · exact absurd h5 (by simp)
  obtain ⟨s, hs, s0, s1⟩ : ∃ s : Int, IntKind.u8.wrap (((BitVec.ofInt 8 n &&& BitVec.ofInt 8 7).toNat : Nat) : Int) = s ∧ 0 ≤ s ∧ s < 256 := ⟨_, rfl, by simp [IntKind.wrap, IntKind.signed, IntKind.bits]; omega, by simp [IntKind.wrap, IntKind.signed, IntKind.bits]; omega⟩
  repeat (first | (with_reducible refine W.id_ ?_); (first | refine W.sreg ?_ | refine W.skipT rfl ?_) | (with_reducible refine RK.id_ ?_); (refine RK.cons_ ?_; (refine RK.k_ 0 rfl ?_; refine .p rfl rfl rfl (by exact trivial) ?_)))
  refine .pe (.int .u8 s) rfl rfl rfl trivial ?_ ?_
  · exact congrArg (D.int .u8) hs
  repeat (first | (with_reducible refine W.id_ ?_); (first | refine W.sreg ?_ | refine W.seq ?_) | (with_reducible refine RK.id_ ?_); (first | refine RK.cons_ ?_; (first | refine RK.k_ 0 rfl ?_; refine .p rfl rfl rfl (by exact trivial) ?_ | refine RK.k_ 2 rfl ?_; (refine .cv64 rfl rfl rfl rfl rfl rfl (by omega) (by omega) ?_) | refine RK.k_ 6 rfl ?_; (first | refine .alloc _ rfl rfl rfl rfl rfl rfl rfl ?_ | refine .store rfl rfl rfl rfl rfl rfl rfl (by rfl) (by rfl) (by rfl) ?_)) | refine RK.nilT rfl ?_ rfl))
  refine .call (Terms_spec kp hq) rfl rfl rfl rfl ?_
  repeat ((with_reducible refine RK.id_ ?_); (refine RK.nilT rfl ?_ rfl))
  refine .joinS (fun v : Int => v = if (((can q).length : Nat) : Int) < s then (((can q).length : Nat) : Int) else s) (fun _ => [(17, .ptr 2 0), (18, .ptr 3 0), (7, .ptr 1 0), (6, .ptr 0 0), (1, I l)]) (fun v => [some (.cells [.bool false]), some (.cells [eP (can q)]), some (.cells [I v]), some (.cells [I s])]) ?_ ?_
  refine W.block ?_
  refine W.to (F' := [(17, .ptr 2 0), (18, .ptr 3 0), (7, .ptr 1 0), (6, .ptr 0 0), (0, eP p), (1, I l), (86, itP q)]) (H' := [some (.cells [.bool false]), some (.cells [eP (can q)]), some (.cells [I 0]), some (.cells [I s])]) (.heap ?_ rfl) ?_
  · repeat (first | exact trivial | refine ⟨⟨_, rfl, .refl _⟩, ?_⟩)
  obtain ⟨co, hco⟩ : ∃ co : Nat → Bool, ∀ i, co i = !decide ((i : Int) = s) := ⟨_, fun _ => rfl⟩
  obtain ⟨mn, hmn⟩ : ∃ mn : Nat → Int, ∀ i, mn i = if (i : Int) ≤ s then (i : Int) else s := ⟨_, fun _ => rfl⟩
  have hle : ∀ i, (∀ k, k < i → co k = true) → (i : Int) ≤ s := fun i h => by
    rcases Int.lt_or_le s i with h6 | h6
    · have := h s.toNat (by omega)
      rw [hco] at this
      simp at this
      omega
    · exact h6
  have hm0 : mn 0 = 0 := by rw [hmn, if_pos (by omega)]; rfl
  rw [show I 0 = I (mn 0) by rw [hm0]]
  refine W.iter (Terms_iter kq) (fun i => [some (.cells [.bool false]), some (.cells [eP (can q)]), some (.cells [I (mn i)]), some (.cells [I s])]) co (.exit 4) 4 (by simp) rfl (fun _ => rfl) (fun i => ⟨⟨.pure (.bool _), trivial⟩, ⟨.pure (eP_pure _), trivial⟩, ⟨.pure (.int _ _), trivial⟩, ⟨.pure (.int _ _), trivial⟩, trivial⟩) ⟨.ptr (by decide), .ptr (by decide), .ptr (by decide), .ptr (by decide), .pure (eP_pure _), .pure (.int _ _), .pure (itP_pure _), trivial⟩ (by simp) (fun _ => rfl) (by decide) rfl rfl (fun r i hi hk => ?_) (fun hk => ?_) (fun i hi hci hk => ?_)
  · have his := hle i hk
    have hmi : mn i = i := by rw [hmn, if_pos his]
    rw [hmi]
    repeat (first | (with_reducible refine W.id_ ?_); (first | refine W.sreg ?_ | refine W.reg ?_) | (with_reducible refine RK.id_ ?_); (first | refine RK.cons_ ?_; (refine RK.k_ 6 rfl ?_; (first | refine .alloc _ rfl rfl rfl rfl rfl rfl rfl ?_ | refine .store rfl rfl rfl rfl rfl rfl rfl (by rfl) (by rfl) (by rfl) ?_)) | refine RK.nilT rfl ?_ rfl))
    refine .nil ⟨rfl, rfl, ?_⟩ rfl
    by_cases hs' : (i : Int) = s
    · have e1 : co i = false := by rw [hco]; simp [hs']
      have e2 : mn (i + 1) = i := by rw [hmn, if_neg (by omega)]; omega
      rw [e1, e2]
      repeat (first | (with_reducible refine W.id_ ?_); (first | refine W.sreg ?_ | refine W.seq ?_ | refine W.blockS ?_) | (with_reducible refine RK.id_ ?_); (first | refine RK.cons_ ?_; (first | refine RK.k_ 0 rfl ?_; refine .p rfl rfl rfl (by exact trivial) ?_ | refine RK.k_ 5 rfl ?_; (refine .ldl rfl rfl rfl rfl rfl rfl rfl (by rfl) (by rfl) ?_)) | refine RK.nilT rfl ?_ rfl))
      refine W.cond_dec rfl (fun h6 => ?_) (fun h6 => ?_)
      · exact W.exit ⟨.dropTail (Y := [some (.cells [.bool false]), some (.cells [eP (can q)]), some (.cells [I i]), some (.cells [I s]), some (.loop (busy r) [(17, .ptr 2 0), (18, .ptr 3 0), (7, .ptr 1 0), (6, .ptr 0 0), (0, eP p), (1, I l), (86, itP q)])]) (T := [some (.cells (mc (q.getD i tz).2)), some (.cells (zc (zcan (q.getD i tz).1)))]) (Nat.le_refl 5) ⟨⟨.pure (.bool _), trivial⟩, ⟨.pure (eP_pure _), trivial⟩, ⟨.pure (.int _ _), trivial⟩, ⟨.pure (.int _ _), trivial⟩, ⟨⟨.ptr (by simp), .ptr (by simp), .ptr (by simp), .ptr (by simp), .pure (eP_pure _), .pure (.int _ _), .pure (itP_pure _), trivial⟩, by simp⟩, trivial⟩, rfl⟩
      · omega
    · have e1 : co i = true := by rw [hco]; simp [hs']
      have e2 : mn (i + 1) = i + 1 := by rw [hmn, if_pos (by omega)]; omega
      rw [e1, e2]
      repeat (first | (with_reducible refine W.id_ ?_); (first | refine W.sreg ?_ | refine W.seq ?_ | refine W.blockS ?_) | (with_reducible refine RK.id_ ?_); (first | refine RK.cons_ ?_; (first | refine RK.k_ 0 rfl ?_; refine .p rfl rfl rfl (by exact trivial) ?_ | refine RK.k_ 5 rfl ?_; (refine .ldl rfl rfl rfl rfl rfl rfl rfl (by rfl) (by rfl) ?_)) | refine RK.nilT rfl ?_ rfl))
      refine W.cond_dec rfl (fun h6 => ?_) (fun h6 => ?_)
      · omega
      have hg : (can q).getD i zT = (zcan (q.getD i tz).1, (q.getD i tz).2) := getD_can hi
      have hZ := Zsame_spec (kq.z _ (getD_mem (z := zT) (by omega))) (z := ((can q).getD i zT).1) (w := zcan (q.getD i tz).1) (by rw [← show ((can q).getD i zT).1 = zcan (q.getD i tz).1 by rw [hg]]; exact kq.z _ (getD_mem (z := zT) (by omega)))
      rw [decide_eq_true (show zv ((can q).getD i zT).1 = zv (zcan (q.getD i tz).1) by rw [hg])] at hZ
      repeat (first | (with_reducible refine W.id_ ?_); (first | refine W.sdraw mixed (by kernel_rfl) (by kernel_rfl) ?_ | refine W.seq ?_ | refine W.skipT rfl ?_) | (with_reducible refine RK.id_ ?_); (refine RK.cons_ ?_; (first | refine RK.k_ 0 rfl ?_; refine .p rfl rfl rfl (by exact trivial) ?_ | refine RK.k_ 5 rfl ?_; (refine .ldl rfl rfl rfl rfl rfl rfl rfl (by rfl) (by rfl) ?_))))
      refine .dsplit (fun h7 => ?_) (fun h7 => ?_)
      · omega
      repeat ((with_reducible refine RK.id_ ?_); (refine RK.cons_ ?_; (first | refine RK.k_ 0 rfl ?_; refine .p rfl rfl rfl (by exact trivial) ?_ | refine RK.k_ 4 rfl ?_; (refine .ix _ (s := 6) rfl rfl rfl rfl rfl rfl rfl (by rfl) (by omega) ?_) | refine RK.k_ 5 rfl ?_; (first | refine .ldl rfl rfl rfl rfl rfl rfl rfl (by rfl) (by rfl) ?_ | refine .ldla rfl rfl rfl rfl rfl rfl rfl (by rfl) rfl ?_ | refine .lda _ rfl rfl rfl rfl rfl rfl rfl (by exact take_part (z := zT) tc_len (by omega) (Nat.le_of_ble_eq_true rfl) (Nat.le_of_ble_eq_true rfl) rfl rfl) ?_))))
      refine .split (fun h8 => ?_) (fun h8 => ?_)
      · exfalso
        revert h8
        rw [hg, eqM_dec]
        simp
      repeat ((with_reducible refine RK.id_ ?_); (refine RK.cons_ ?_; (first | refine RK.k_ 0 rfl ?_; refine .p rfl rfl rfl (by exact trivial) ?_ | refine RK.k_ 4 rfl ?_; (refine .ix _ (s := 6) rfl rfl rfl rfl rfl rfl rfl (by rfl) (by omega) ?_) | refine RK.k_ 5 rfl ?_; (first | refine .ldl rfl rfl rfl rfl rfl rfl rfl (by rfl) (by rfl) ?_ | refine .ldla rfl rfl rfl rfl rfl rfl rfl (by rfl) rfl ?_ | refine .lda _ rfl rfl rfl rfl rfl rfl rfl (by exact take_part (z := zT) tc_len (by omega) (Nat.le_of_ble_eq_true rfl) (Nat.le_of_ble_eq_true rfl) rfl rfl) ?_))))
      refine .call (hZ) rfl rfl rfl rfl ?_
      repeat (first | (with_reducible refine W.id_ ?_); (first | refine W.reg ?_ | refine W.skipT rfl ?_ | refine W.condF rfl ?_) | (with_reducible refine RK.id_ ?_); (first | refine RK.cons_ ?_; (first | refine RK.k_ 0 rfl ?_; refine .p rfl rfl rfl (by exact trivial) ?_ | refine RK.k_ 1 rfl ?_; (refine .pa rfl rfl rfl rfl rfl rfl (by omega) (by omega) ?_) | refine RK.k_ 5 rfl ?_; (refine .ldl rfl rfl rfl rfl rfl rfl rfl (by rfl) (by rfl) ?_) | refine RK.k_ 6 rfl ?_; (refine .store rfl rfl rfl rfl rfl rfl rfl (by rfl) (by rfl) (by rfl) ?_)) | refine RK.nilT rfl ?_ rfl))
      refine .nil ?_ rfl
      exact ⟨.dropTail (Y := [some (.cells [.bool false]), some (.cells [eP (can q)]), some (.cells [I (i + 1)]), some (.cells [I s]), some (.loop (busy r) [(17, .ptr 2 0), (18, .ptr 3 0), (7, .ptr 1 0), (6, .ptr 0 0), (0, eP p), (1, I l), (86, itP q)])]) (T := [some (.cells (mc (q.getD i tz).2)), some (.cells (zc (zcan (q.getD i tz).1)))]) (Nat.le_refl 5) ⟨⟨.pure (.bool _), trivial⟩, ⟨.pure (eP_pure _), trivial⟩, ⟨.pure (.int _ _), trivial⟩, ⟨.pure (.int _ _), trivial⟩, ⟨⟨.ptr (by simp), .ptr (by simp), .ptr (by simp), .ptr (by simp), .pure (eP_pure _), .pure (.int _ _), .pure (itP_pure _), trivial⟩, by simp⟩, trivial⟩, rfl⟩
  · have hls := hle _ hk
    refine ⟨mn q.length, ?_, .ren [0, 1, 2, 3] [] (Nat.zero_le _) (fun b hb => absurd hb (Nat.not_lt_zero b)) (by simp) ?_ (.cell (by simp) rfl (.refl _) (PureL.mem ⟨.bool _, trivial⟩) (.cell (by simp) rfl (.refl _) (PureL.mem ⟨eP_pure _, trivial⟩) (.cell (by simp) rfl (.refl _) (PureL.mem ⟨.int _ _, trivial⟩) (.cell (by simp) rfl (.refl _) (PureL.mem ⟨.int _ _, trivial⟩) trivial))))⟩
    · rw [hmn, if_pos hls, hcl]; split <;> omega
    · repeat (first | exact trivial | refine ⟨⟨_, rfl, .ptr rfl⟩, ?_⟩ | refine ⟨⟨_, rfl, .wk (by repeat (exact .int _ _)) (by exact .refl _)⟩, ?_⟩)
  · have hse : (i : Int) = s := by
      rw [hco] at hci
      simpa using hci
    refine ⟨mn (i + 1), ?_, .ren [0, 1, 2, 3] [] (Nat.zero_le _) (fun b hb => absurd hb (Nat.not_lt_zero b)) (by simp) ?_ (.cell (by simp) rfl (.refl _) (PureL.mem ⟨.bool _, trivial⟩) (.cell (by simp) rfl (.refl _) (PureL.mem ⟨eP_pure _, trivial⟩) (.cell (by simp) rfl (.refl _) (PureL.mem ⟨.int _ _, trivial⟩) (.cell (by simp) rfl (.refl _) (PureL.mem ⟨.int _ _, trivial⟩) trivial))))⟩
    · show mn (i + 1) = if (((can q).length : Nat) : Int) < s then (((can q).length : Nat) : Int) else s
      rw [hcl, hmn]
      split <;> split <;> omega
    · repeat (first | exact trivial | refine ⟨⟨_, rfl, .ptr rfl⟩, ?_⟩ | refine ⟨⟨_, rfl, .wk (by repeat (exact .int _ _)) (by exact .refl _)⟩, ?_⟩)
  intro v hv
  have R := Rp.var l
  have w1 := Var_spec l h0.1 h0.2
  have w2 := Total_spec (R.pok (by omega) (by omega)) R.eqn (R.eb.mono (by omega))
  have w3 := Level_spec (R.pok (by omega) (by omega)) R.eqn
  have w4 := inner_spec l
  by_cases hl : 1 ≤ l ∧ l ≤ 4
  · rw [decide_eq_true hl] at w4
    have x1 : tot (var' l) = 1 := by
      obtain rfl | rfl | rfl | rfl : l = 1 ∨ l = 2 ∨ l = 3 ∨ l = 4 := by omega
      all_goals decide
    have x2 : lvl (var' l) = l := by
      obtain rfl | rfl | rfl | rfl : l = 1 ∨ l = 2 ∨ l = 3 ∨ l = 4 := by omega
      all_goals decide
    rw [x1] at w2
    rw [x2] at w3
    show W _ _ _ _ _ _ _
    repeat (first | (with_reducible refine W.id_ ?_); (refine W.sreg ?_) | (with_reducible refine RK.id_ ?_); (refine RK.cons_ ?_; (refine RK.k_ 0 rfl ?_; refine .p rfl rfl rfl (by exact trivial) ?_)))
    refine .call (w1) rfl rfl rfl rfl ?_
    repeat (first | (with_reducible refine W.id_ ?_); (refine W.sreg ?_) | (with_reducible refine RK.id_ ?_); (first | refine RK.cons_ ?_; (first | refine RK.k_ 0 rfl ?_; refine .p rfl rfl rfl (by exact trivial) ?_ | refine RK.k_ 5 rfl ?_; (refine .ldl rfl rfl rfl rfl rfl rfl rfl (by rfl) (by rfl) ?_)) | refine RK.nilT rfl ?_ rfl))
    refine .dsplit (fun h6 => ?_) (fun h6 => ?_)
    rotate_left
    · exact absurd hv h6
    repeat ((with_reducible refine RK.id_ ?_); (refine RK.cons_ ?_; (refine RK.k_ 0 rfl ?_; refine .p rfl rfl rfl (by exact trivial) ?_)))
    refine .call (w2) rfl rfl rfl rfl ?_
    repeat ((with_reducible refine RK.id_ ?_); (refine RK.cons_ ?_; (refine RK.k_ 0 rfl ?_; refine .p rfl rfl rfl (by exact trivial) ?_)))
    refine .call (w4) rfl rfl rfl rfl ?_
    repeat ((with_reducible refine RK.id_ ?_); (refine RK.cons_ ?_; (refine RK.k_ 0 rfl ?_; refine .p rfl rfl rfl (by exact trivial) ?_)))
    refine .call (w4) rfl rfl rfl rfl ?_
    repeat ((with_reducible refine RK.id_ ?_); (refine RK.cons_ ?_; (first | refine .skip rfl rfl ?_ | refine RK.k_ 0 rfl ?_; refine .p rfl rfl rfl (by exact trivial) ?_)))
    refine .call (w4) rfl rfl rfl rfl ?_
    repeat ((with_reducible refine RK.id_ ?_); (refine RK.cons_ ?_; (refine RK.k_ 0 rfl ?_; refine .p rfl rfl rfl (by exact trivial) ?_)))
    refine .call (w3) rfl rfl rfl rfl ?_
    repeat ((with_reducible refine RK.id_ ?_); (first | refine RK.cons_ ?_; (first | refine RK.k_ 0 rfl ?_; refine .p rfl rfl rfl (by exact trivial) ?_ | refine RK.k_ 6 rfl ?_; (refine .store rfl rfl rfl rfl rfl rfl rfl (by rfl) (by rfl) (by rfl) ?_)) | refine RK.nilT rfl ?_ rfl))
    refine W.ret ⟨_, rfl, .eq (by repeat (exact .bool _)) ?_, rfl⟩
    simp
  · rw [decide_eq_false hl] at w4
    have x0 : var' l = [] := if_neg hl
    have x1 : tot (var' l) = -1 := by rw [x0]; rfl
    have x3 : (can (var' l)).length = 0 := by rw [x0]; rfl
    rw [x1] at w2
    show W _ _ _ _ _ _ _
    repeat (first | (with_reducible refine W.id_ ?_); (refine W.sreg ?_) | (with_reducible refine RK.id_ ?_); (refine RK.cons_ ?_; (refine RK.k_ 0 rfl ?_; refine .p rfl rfl rfl (by exact trivial) ?_)))
    refine .call (w1) rfl rfl rfl rfl ?_
    repeat (first | (with_reducible refine W.id_ ?_); (refine W.sreg ?_) | (with_reducible refine RK.id_ ?_); (first | refine RK.cons_ ?_; (first | refine RK.k_ 0 rfl ?_; refine .p rfl rfl rfl (by exact trivial) ?_ | refine RK.k_ 5 rfl ?_; (refine .ldl rfl rfl rfl rfl rfl rfl rfl (by rfl) (by rfl) ?_)) | refine RK.nilT rfl ?_ rfl))
    refine .dsplit (fun h6 => ?_) (fun h6 => ?_)
    rotate_left
    · exact absurd hv h6
    repeat ((with_reducible refine RK.id_ ?_); (refine RK.cons_ ?_; (refine RK.k_ 0 rfl ?_; refine .p rfl rfl rfl (by exact trivial) ?_)))
    refine .call (w2) rfl rfl rfl rfl ?_
    repeat ((with_reducible refine RK.id_ ?_); (refine RK.cons_ ?_; (refine RK.k_ 0 rfl ?_; refine .p rfl rfl rfl (by exact trivial) ?_)))
    refine .call (w4) rfl rfl rfl rfl ?_
    repeat ((with_reducible refine RK.id_ ?_); (refine RK.cons_ ?_; (refine RK.k_ 0 rfl ?_; refine .p rfl rfl rfl (by exact trivial) ?_)))
    refine .call (w4) rfl rfl rfl rfl ?_
    repeat ((with_reducible refine RK.id_ ?_); (refine RK.cons_ ?_; (refine RK.k_ 0 rfl ?_; refine .p rfl rfl rfl (by exact trivial) ?_)))
    refine .dsplit (fun h7 => ?_) (fun h7 => ?_)
    rotate_left
    · exact absurd (by omega) h7
    repeat ((with_reducible refine RK.id_ ?_); (first | refine RK.cons_ ?_; (first | refine .skip rfl rfl ?_ | refine RK.k_ 0 rfl ?_; refine .p rfl rfl rfl (by exact trivial) ?_ | refine RK.k_ 6 rfl ?_; (refine .store rfl rfl rfl rfl rfl rfl rfl (by rfl) (by rfl) (by rfl) ?_)) | refine RK.nilT rfl ?_ rfl))
    refine W.ret ⟨_, rfl, .eq (by repeat (exact .bool _)) ?_, rfl⟩
    simp
end Go.Proofs.Ytbdefjbekbbldaa
