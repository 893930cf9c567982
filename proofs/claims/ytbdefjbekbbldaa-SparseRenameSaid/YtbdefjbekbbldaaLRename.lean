import Derived.Test.YtbdefjbekbbldaaB5
import Derived.Test.YtbdefjbekbbldaaA5
set_option linter.unusedVariables false
set_option linter.unusedSimpArgs false
set_option linter.unnecessarySimpa false
namespace Go.Proofs.Ytbdefjbekbbldaa
open Go.V Go.N
set_option maxHeartbeats 8000000
set_option maxRecDepth 20000

/- cylinderlaw20.SparseRename -/
theorem LRename_spec {p : List RT} {to : M} {a : List Q} (hp : p.length ≤ 9223372036854775807) (zp : ∀ t ∈ p, okN t.1.2 ∧ t.1.2.length ≤ 9223372036854775807)
    (ha : a.length ≤ 9223372036854775807) (za : ∀ r ∈ a, inQ r) : PureFn Try.prog 11 [eP p, eM to, eV a] (.bool true) := by
  have hO := QOf_spec (n := 0) (by decide) (by decide)
  rw [Rat.intCast_zero] at hO
  refine .of_W (fn := Try.f11) (by repeat (first | exact trivial | refine ⟨(by repeat (first | exact eP_pure _ | exact eM_pure _ | exact eV_pure _)), ?_⟩)) Try.call11 Try.func11 rfl rfl ?_
  repeat (first | (with_reducible refine W.id_ ?_); (first | refine W.sreg ?_ | refine W.seq ?_) | (with_reducible refine RK.id_ ?_); (first | refine RK.cons_ ?_; (first | refine RK.k_ 0 rfl ?_; refine .p rfl rfl rfl (by exact trivial) ?_ | refine RK.k_ 6 rfl ?_; (refine .box _ rfl rfl rfl rfl rfl rfl rfl ?_)) | refine RK.nilT rfl ?_ rfl))
  refine .call (fit_spec) rfl rfl rfl rfl ?_
  repeat (first | (with_reducible refine W.id_ ?_); (first | refine W.sreg ?_ | refine W.seq ?_ | refine W.skipT rfl ?_ | refine W.condF rfl ?_) | (with_reducible refine RK.id_ ?_); (first | refine RK.cons_ ?_; (refine RK.k_ 0 rfl ?_; refine .p rfl rfl rfl (by exact trivial) ?_) | refine RK.nilT rfl ?_ rfl))
  refine .call (few_spec hp (fun t ht => (zp t ht).2)) rfl rfl rfl rfl ?_
  repeat ((with_reducible refine RK.id_ ?_); (refine RK.cons_ ?_; (refine RK.k_ 0 rfl ?_; refine .p rfl rfl rfl (by exact trivial) ?_)))
  refine .split (fun h1 => ?_) (fun h1 => ?_)
  · repeat (first | (with_reducible refine W.id_ ?_); (first | refine W.sreg ?_ | refine W.condT rfl ?_) | (with_reducible refine RK.id_ ?_); (first | refine RK.cons_ ?_; (first | refine .skip rfl rfl ?_ | refine RK.k_ 0 rfl ?_; refine .p rfl rfl rfl (by exact trivial) ?_) | refine RK.nilT rfl ?_ rfl))
    refine W.ret ⟨_, rfl, .eq (by repeat (exact .bool _)) ?_, rfl⟩
    rfl
  repeat ((with_reducible refine RK.id_ ?_); (refine RK.cons_ ?_; (refine RK.k_ 0 rfl ?_; refine .p rfl rfl rfl (by exact trivial) ?_)))
  refine .call (values_in ha za) rfl rfl rfl rfl ?_
  repeat ((with_reducible refine RK.id_ ?_); (first | refine RK.cons_ ?_; (refine RK.k_ 0 rfl ?_; refine .p rfl rfl rfl (by exact trivial) ?_) | refine RK.nilT rfl ?_ rfl))
  refine W.cond_ndec rfl (fun h3 => ?_) (fun h3 => ?_)
  · repeat (first | (with_reducible refine W.id_ ?_); (refine W.sreg ?_) | (with_reducible refine RK.id_ ?_); (first | refine RK.cons_ ?_; (refine RK.k_ 0 rfl ?_; refine .p rfl rfl rfl (by exact trivial) ?_) | refine RK.nilT rfl ?_ rfl))
    refine W.ret ⟨_, rfl, .eq (by repeat (exact .bool _)) ?_, rfl⟩
    rfl
  have h1 : few p 8 6 9 := by simpa using h1
  have h3 : fewV a 6 2 := by simpa using h3
  have hv := few_Vk h3 za
  have hP := few_Rp h1 (fun t ht => (zp t ht).1)
  obtain ⟨A, hA⟩ : ∃ A, A = nrm (vals p) := ⟨_, rfl⟩
  rw [← hA] at hP
  obtain ⟨r1, R1⟩ := Rename_spec (to := to) hP (by omega) (by omega) (by omega) (by omega)
  have c1 := R1.canonical (nrm_canon _) (by omega) (by omega)
  obtain ⟨e1, E1⟩ := R1.eval hv (by omega) (by omega) (by omega) (by omega) (by omega) (by decide)
  obtain ⟨r2, R2⟩ := Rename_spec (to := M0) hP (by omega) (by omega) (by omega) (by omega)
  have s2 := R2.same hP (by omega) (by omega) (by omega) (by omega)
  rw [decide_eq_true (show nrm (ren M0 A) = A by rw [ren_id, nrm_self hP.canon])] at s2
  have han := hv.n
  repeat (first | (with_reducible refine W.id_ ?_); (first | refine W.sreg ?_ | refine W.skipT rfl ?_) | (with_reducible refine RK.id_ ?_); (refine RK.cons_ ?_; (first | refine RK.k_ 0 rfl ?_; refine .p rfl rfl rfl (by exact trivial) ?_ | refine RK.k_ 5 rfl ?_; (refine .ldla rfl rfl rfl rfl rfl rfl rfl (by rfl) rfl ?_))))
  refine .call (r1) rfl rfl rfl rfl ?_
  repeat (first | (with_reducible refine W.id_ ?_); (refine W.sreg ?_) | (with_reducible refine RK.id_ ?_); (first | refine RK.cons_ ?_; (refine RK.k_ 0 rfl ?_; refine .p rfl rfl rfl (by exact trivial) ?_) | refine RK.nilT rfl ?_ rfl))
  refine .make 1 4 3 56 (repR 4 zeroQ) rfl rfl rfl rfl rfl rfl rfl rfl rfl rfl (by omega) (by rfl) (by omega) (by omega) ?_ (pushR_eq _ _) ?_
  · rfl
  repeat (first | (with_reducible refine W.id_ ?_); (first | refine W.sreg ?_ | refine W.seq ?_) | (with_reducible refine RK.id_ ?_); (first | refine RK.cons_ ?_; (refine RK.k_ 0 rfl ?_; refine .p rfl rfl rfl (by exact trivial) ?_) | refine RK.nilT rfl ?_ rfl))
  refine .rangeS (4) (fun i s => [(8, .live 1 0 4 4 3), (0, eP p), (2, eV a), (4, .ptr 0 0), (7, eP (can (nrm (ren to A))))]) (fun i s => [some (.cells (mc to)), some (.cells (s.flatMap qc))]) (fun i s => PtS 2 (fun j => xs a (tgt (gM to j) j)) s i) (List.replicate 4 zQ) rfl rfl rfl rfl rfl rfl rfl rfl rfl rfl (by omega) ?_ ?_ (fun _ _ => rfl) (fun i s hi Ci => ?_) (fun s Ci => ?_)
  · exact .zero
  · refine .ren [0, 1] [] (Nat.zero_le _) (fun b hb => absurd hb (Nat.not_lt_zero b)) (by simp) ?_ (.cell (by simp) rfl (WkL.refl _) (PureL.mem (ds := mc to) ⟨.int _ _, .int _ _, .int _ _, .int _ _, trivial⟩) (.cell (by simp) rfl (wk_zeros 4) (zeros_pure 4) trivial))
    repeat (first | exact trivial | refine ⟨⟨_, rfl, .ptr rfl⟩, ?_⟩ | refine ⟨⟨_, rfl, .live rfl⟩, ?_⟩ | refine ⟨⟨_, rfl, .wk (by repeat (first | exact .int _ _ | exact eP_pure _ | exact eV_pure _)) (by exact .refl _)⟩, ?_⟩)
  · have hsl := Ci.len
    have hti : gM to (i : Int).toNat = gM to i := by rw [Int.toNat_natCast]
    repeat (first | (with_reducible refine W.id_ ?_); (first | refine W.sreg ?_ | refine W.seq ?_) | (with_reducible refine RK.id_ ?_); (first | refine RK.cons_ ?_; (first | refine RK.k_ 0 rfl ?_; refine .p rfl rfl rfl (by exact trivial) ?_ | refine RK.k_ 4 rfl ?_; (refine .p rfl rfl rfl (by omega) ?_) | refine RK.k_ 5 rfl ?_; (refine .ldl rfl rfl rfl rfl rfl rfl rfl (by rfl) (by exact mc_get (by omega)) ?_)) | refine RK.nilT rfl ?_ rfl))
    refine .call (inner_spec (gM to i)) rfl rfl rfl rfl ?_
    repeat ((with_reducible refine RK.id_ ?_); (refine RK.nilT rfl ?_ rfl))
    refine .joinS (fun (_ : Unit) => True) (fun _ => [(10, I (tgt (gM to i) i : Nat)), (9, I (i : Int)), (8, .live 1 0 4 4 3), (0, eP p), (2, eV a), (4, .ptr 0 0), (7, eP (can (nrm (ren to A)))), (27, I (i : Int)), (26, I (4 : Nat))]) (fun _ => [some (.cells (mc to)), some (.cells (s.flatMap qc))]) ?_ ?_
    · refine W.cond_dec rfl (fun h4 => ?_) (fun h4 => ?_)
      · have e4 : tgt (gM to i) i = (gM to i - 1).toNat := if_pos h4
        rw [e4]
        repeat (first | (with_reducible refine W.id_ ?_); (refine W.reg ?_) | (with_reducible refine RK.id_ ?_); (refine RK.cons_ ?_; (first | refine RK.k_ 0 rfl ?_; refine .p rfl rfl rfl (by exact trivial) ?_ | refine RK.k_ 1 rfl ?_; (refine .pa rfl rfl rfl rfl rfl rfl (by omega) (by omega) ?_) | refine RK.k_ 4 rfl ?_; (refine .p rfl rfl rfl (by omega) ?_) | refine RK.k_ 5 rfl ?_; (refine .ldl rfl rfl rfl rfl rfl rfl rfl (by rfl) (by exact mc_get (by omega)) ?_))))
        refine .nil ?_ rfl
        refine ⟨(), trivial, .heap ?_ rfl⟩
        repeat (first | exact trivial | refine ⟨⟨_, rfl, .refl _⟩, ?_⟩ | refine ⟨⟨_, rfl, .of_eq (congrArg (D.int _) (by omega))⟩, ?_⟩)
      · have e4 : tgt (gM to i) i = i := if_neg h4
        rw [e4]
        refine .skip ⟨(), trivial, .heap ?_ rfl⟩
        repeat (first | exact trivial | refine ⟨⟨_, rfl, .refl _⟩, ?_⟩)
    rintro _ _
    have ht : tgt (gM to i) i < 4 := tgt_lt _ hi
    generalize hj : tgt (gM to i) i = j at *
    repeat (first | (with_reducible refine W.id_ ?_); (refine W.sreg ?_) | (with_reducible refine RK.id_ ?_); (refine RK.cons_ ?_; (refine RK.k_ 0 rfl ?_; refine .p rfl rfl rfl (by exact trivial) ?_)))
    refine .call (hO) rfl rfl rfl rfl ?_
    repeat (first | (with_reducible refine W.id_ ?_); (refine W.sreg ?_) | (with_reducible refine RK.id_ ?_); (first | refine RK.cons_ ?_; (first | refine RK.k_ 0 rfl ?_; refine .p rfl rfl rfl (by exact trivial) ?_ | refine RK.k_ 4 rfl ?_; (refine .ixl _ _ (s := 3) rfl rfl rfl rfl rfl rfl rfl (by rfl) (by omega) rfl ?_) | refine RK.k_ 6 rfl ?_; (refine .store rfl rfl rfl rfl rfl rfl rfl (by rfl) (by exact overR_flat0 qc_len rfl (by omega)) (by rfl) ?_)) | refine RK.nilT rfl ?_ rfl))
    refine W.cond_dec rfl (fun h5 => ?_) (fun h5 => ?_)
    · have h6 : j < a.length := by omega
      repeat (first | (with_reducible refine W.id_ ?_); (refine W.reg ?_) | (with_reducible refine RK.id_ ?_); (refine RK.cons_ ?_; (first | refine RK.k_ 0 rfl ?_; refine .p rfl rfl rfl (by exact trivial) ?_ | refine RK.k_ 4 rfl ?_; (first | refine .ix _ (s := 3) rfl rfl rfl rfl rfl rfl rfl (by rfl) (by omega) ?_ | refine .ixl _ _ (s := 3) rfl rfl rfl rfl rfl rfl rfl (by rfl) (by omega) rfl ?_) | refine RK.k_ 5 rfl ?_; (refine .lda _ rfl rfl rfl rfl rfl rfl rfl (by exact take_flat (z := zQ) qc_len (by omega) (by omega) rfl) ?_) | refine RK.k_ 6 rfl ?_; (refine .store rfl rfl rfl rfl rfl rfl rfl (by rfl) (by exact overR_flat0 qc_len rfl (by (rw [List.length_set]; omega))) (by rfl) ?_))))
      refine .nil ?_ rfl
      refine ⟨s.set i (a.getD j zQ), Ci.next hi (hv.at h6) (by rw [hj]; rfl), .heap ?_ ?_⟩
      · repeat (first | exact trivial | refine ⟨⟨_, rfl, .refl _⟩, ?_⟩)
      · dsimp only
        rw [List.set_set]
    · refine .skip ⟨s.set i (qcan 0), Ci.next hi (.zero (by omega)) (by rw [hj, qv_can, xs_out (by omega)]), .heap ?_ rfl⟩
      repeat (first | exact trivial | refine ⟨⟨_, rfl, .refl _⟩, ?_⟩)
  have hsl := Ci.len
  have hvs := Ci.vk
  obtain ⟨e2, E2⟩ := hP.eval hvs (by omega) (by omega) (by omega) (by omega) (by omega) (by decide)
  have s1 := qsame_can E1 E2 (by decide) (by rw [ev_renc (xs a) to (e := 9) (by omega) hP.eb]; exact (ev_congr Ci.xs A).symm)
  refine W.to (F' := [(0, eP p), (2, eV a), (7, eP (can (nrm (ren to A)))), (8, eV s)]) (H' := []) (.frz ⟨⟨_, rfl, .pure (eP_pure _) (.refl _)⟩, ⟨_, rfl, .pure (eV_pure _) (.refl _)⟩, ⟨_, rfl, .pure (eP_pure _) (.refl _)⟩, ⟨_, rfl, frz_rows rfl hsl.symm⟩, trivial⟩) ?_
  repeat (first | (with_reducible refine W.id_ ?_); (refine W.sreg ?_) | (with_reducible refine RK.id_ ?_); (refine RK.cons_ ?_; (refine RK.k_ 0 rfl ?_; refine .p rfl rfl rfl (by exact trivial) ?_)))
  refine .call (c1) rfl rfl rfl rfl ?_
  repeat ((with_reducible refine RK.id_ ?_); (refine RK.cons_ ?_; (refine RK.k_ 0 rfl ?_; refine .p rfl rfl rfl (by exact trivial) ?_)))
  refine .call (e1) rfl rfl rfl rfl ?_
  repeat ((with_reducible refine RK.id_ ?_); (refine RK.cons_ ?_; (refine RK.k_ 0 rfl ?_; refine .p rfl rfl rfl (by exact trivial) ?_)))
  refine .call (e2) rfl rfl rfl rfl ?_
  skip
  refine .call (s1) rfl rfl rfl rfl ?_
  repeat ((with_reducible refine RK.id_ ?_); (refine RK.cons_ ?_; (refine RK.k_ 0 rfl ?_; refine .p rfl rfl rfl (by exact trivial) ?_)))
  refine .call (r2) rfl rfl rfl rfl ?_
  repeat ((with_reducible refine RK.id_ ?_); (refine RK.cons_ ?_; (refine RK.k_ 0 rfl ?_; refine .p rfl rfl rfl (by exact trivial) ?_)))
  refine .call (s2) rfl rfl rfl rfl ?_
  repeat ((with_reducible refine RK.id_ ?_); (first | refine RK.cons_ ?_; (refine RK.k_ 0 rfl ?_; refine .p rfl rfl rfl (by exact trivial) ?_) | refine RK.nilT rfl ?_ rfl))
  refine W.ret ⟨_, rfl, .eq (by repeat (exact .bool _)) ?_, rfl⟩
  rfl
end Go.Proofs.Ytbdefjbekbbldaa
