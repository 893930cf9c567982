import Derived.Test.YtbdefjbekbbldaaB5
import Derived.Test.YtbdefjbekbbldaaA5
set_option linter.unusedVariables false
set_option linter.unusedSimpArgs false
set_option linter.unnecessarySimpa false
namespace Go.Proofs.Ytbdefjbekbbldaa
open Go.V Go.N
set_option maxHeartbeats 8000000
set_option maxRecDepth 20000

/-- A level and a point. -/
def plc (x : Int × List Q) : List D := [I x.1, eV x.2]
/-- The replaced polynomial, for any level. -/
def subG (l : Int) (b a : P) : P := if 1 ≤ l ∧ l ≤ 4 then subP l.toNat b a else a
theorem Substitute_in {p q : List RT} {a b : P} {l : Int} (h : 1 ≤ l ∧ l ≤ 4) (hP : Rp 4 6 4 p a) (hQ : Rp 4 5 4 q b) : PureFn Try.prog 56 [eP p, I l, eP q] (eP (can (subP l.toNat b a))) ∧ Rp 27 3750 20 (can (subP l.toNat b a)) (subP l.toNat b a) := by
  obtain rfl | rfl | rfl | rfl : l = 1 ∨ l = 2 ∨ l = 3 ∨ l = 4 := by omega
  · exact Substitute_1 hP hQ
  · exact Substitute_2 hP hQ
  · exact Substitute_3 hP hQ
  · exact Substitute_4 hP hQ

/- cylinderlaw20.SparseSubstitute -/
theorem LSubst_spec {p q : List RT} {l : Int} {a : List Q} (hp : p.length ≤ 9223372036854775807) (hq : q.length ≤ 9223372036854775807) (zp : ∀ t ∈ p, okN t.1.2 ∧ t.1.2.length ≤ 9223372036854775807) (zq : ∀ t ∈ q, okN t.1.2 ∧ t.1.2.length ≤ 9223372036854775807)
    (ha : a.length ≤ 9223372036854775807) (za : ∀ r ∈ a, inQ r) : PureFn Try.prog 10 [eP p, eP q, .agg (plc (l, a))] (.bool true) := by
  have hO := QOf_spec (n := 0) (by decide) (by decide)
  rw [Rat.intCast_zero] at hO
  refine .of_W (fn := Try.f10) (by repeat (first | exact trivial | refine ⟨(by repeat (first | exact trivial | exact .int _ _ | exact eP_pure _ | exact eV_pure _ | refine .agg (PureL.mem ?_) | refine ⟨?_, ?_⟩)), ?_⟩)) Try.call10 Try.func10 rfl rfl ?_
  repeat (first | (with_reducible refine W.id_ ?_); (first | refine W.sreg ?_ | refine W.seq ?_) | (with_reducible refine RK.id_ ?_); (first | refine RK.cons_ ?_; (first | refine RK.k_ 0 rfl ?_; refine .p rfl rfl rfl (by exact trivial) ?_ | refine RK.k_ 6 rfl ?_; (refine .box _ rfl rfl rfl rfl rfl rfl rfl ?_)) | refine RK.nilT rfl ?_ rfl))
  refine .call (fit_spec) rfl rfl rfl rfl ?_
  repeat (first | (with_reducible refine W.id_ ?_); (first | refine W.sreg ?_ | refine W.seq ?_ | refine W.skipT rfl ?_ | refine W.condF rfl ?_) | (with_reducible refine RK.id_ ?_); (first | refine RK.cons_ ?_; (refine RK.k_ 0 rfl ?_; refine .p rfl rfl rfl (by exact trivial) ?_) | refine RK.nilT rfl ?_ rfl))
  refine .call (Few_spec (n := 6) (d := 3) (e := 4) (by decide) (by decide) (by decide) hp (fun t ht => (zp t ht).2)) rfl rfl rfl rfl ?_
  repeat ((with_reducible refine RK.id_ ?_); (refine RK.cons_ ?_; (refine RK.k_ 0 rfl ?_; refine .p rfl rfl rfl (by exact trivial) ?_)))
  refine .split (fun h1 => ?_) (fun h1 => ?_)
  · repeat (first | (with_reducible refine W.id_ ?_); (first | refine W.sreg ?_ | refine W.condT rfl ?_) | (with_reducible refine RK.id_ ?_); (first | refine RK.cons_ ?_; (first | refine .skip rfl rfl ?_ | refine RK.k_ 0 rfl ?_; refine .p rfl rfl rfl (by exact trivial) ?_) | refine RK.nilT rfl ?_ rfl))
    refine W.ret ⟨_, rfl, .eq (by repeat (exact .bool _)) ?_, rfl⟩
    rfl
  repeat ((with_reducible refine RK.id_ ?_); (refine RK.cons_ ?_; (refine RK.k_ 0 rfl ?_; refine .p rfl rfl rfl (by exact trivial) ?_)))
  refine .call (Few_spec (n := 5) (d := 3) (e := 4) (by decide) (by decide) (by decide) hq (fun t ht => (zq t ht).2)) rfl rfl rfl rfl ?_
  repeat ((with_reducible refine RK.id_ ?_); (refine RK.cons_ ?_; (refine RK.k_ 0 rfl ?_; refine .p rfl rfl rfl (by exact trivial) ?_)))
  refine .split (fun h2 => ?_) (fun h2 => ?_)
  · repeat (first | (with_reducible refine W.id_ ?_); (first | refine W.sreg ?_ | refine W.condT rfl ?_) | (with_reducible refine RK.id_ ?_); (first | refine RK.cons_ ?_; (first | refine .skip rfl rfl ?_ | refine RK.k_ 0 rfl ?_; refine .p rfl rfl rfl (by exact trivial) ?_) | refine RK.nilT rfl ?_ rfl))
    refine W.ret ⟨_, rfl, .eq (by repeat (exact .bool _)) ?_, rfl⟩
    rfl
  repeat ((with_reducible refine RK.id_ ?_); (refine RK.cons_ ?_; (first | refine RK.k_ 0 rfl ?_; refine .p rfl rfl rfl (by exact trivial) ?_ | refine RK.k_ 5 rfl ?_; (refine .ldl rfl rfl rfl rfl rfl rfl rfl (by rfl) (by rfl) ?_))))
  refine .call (values_in ha za) rfl rfl rfl rfl ?_
  repeat ((with_reducible refine RK.id_ ?_); (first | refine RK.cons_ ?_; (refine RK.k_ 0 rfl ?_; refine .p rfl rfl rfl (by exact trivial) ?_) | refine RK.nilT rfl ?_ rfl))
  refine W.cond_ndec rfl (fun h3 => ?_) (fun h3 => ?_)
  · repeat (first | (with_reducible refine W.id_ ?_); (refine W.sreg ?_) | (with_reducible refine RK.id_ ?_); (first | refine RK.cons_ ?_; (refine RK.k_ 0 rfl ?_; refine .p rfl rfl rfl (by exact trivial) ?_) | refine RK.nilT rfl ?_ rfl))
    refine W.ret ⟨_, rfl, .eq (by repeat (exact .bool _)) ?_, rfl⟩
    rfl
  have h1 : few p 6 3 4 := by simpa using h1
  have h2 : few q 5 3 4 := by simpa using h2
  have h3 : fewV a 6 2 := by simpa using h3
  have hv := few_Vk h3 za
  have hP := few_RpG h1 (fun t ht => (zp t ht).1) (by omega) (by omega) (by omega)
  have hQ := few_RpG h2 (fun t ht => (zq t ht).1) (by omega) (by omega) (by omega)
  obtain ⟨A, hA⟩ : ∃ A, A = nrm (vals p) := ⟨_, rfl⟩
  obtain ⟨B, hB⟩ : ∃ B, B = nrm (vals q) := ⟨_, rfl⟩
  rw [← hA] at hP
  rw [← hB] at hQ
  have han := hv.n
  by_cases hin : 1 ≤ l ∧ l ≤ 4
  · have hl : Lv l.toNat := lv_of hin
    obtain ⟨s1, S1⟩ := Substitute_in hin hP hQ
    have c1 := S1.canonical (subP_canon _ _ _) (by omega) (by omega)
    obtain ⟨e1, E1⟩ := hQ.eval hv (by omega) (by omega) (by omega) (by omega) (by omega) (by decide)
    obtain ⟨e2, E2⟩ := S1.eval hv (by omega) (by omega) (by omega) (by omega) (by omega) (by decide)
    have hvar := Var_spec l (by omega) (by omega)
    obtain ⟨s2, S2⟩ := Substitute_in hin hP ((Rp.var l).mono (k' := 4) (n' := 5) (e' := 4) (by omega) (by omega) (by omega))
    have m2 := S2.same hP (by omega) (by omega) (by omega) (by omega)
    rw [decide_eq_true (show subP l.toNat (var' l) A = A by
      have := subP_var hl hP.canon
      rw [Int.toNat_of_nonneg (by omega)] at this
      exact this)] at m2
    repeat (first | (with_reducible refine W.id_ ?_); (first | refine W.sreg ?_ | refine W.skipT rfl ?_) | (with_reducible refine RK.id_ ?_); (refine RK.cons_ ?_; (first | refine RK.k_ 0 rfl ?_; refine .p rfl rfl rfl (by exact trivial) ?_ | refine RK.k_ 5 rfl ?_; (refine .ldl rfl rfl rfl rfl rfl rfl rfl (by rfl) (by rfl) ?_))))
    refine .call (s1) rfl rfl rfl rfl ?_
    repeat (first | (with_reducible refine W.id_ ?_); (first | refine W.sreg ?_ | refine W.seq ?_) | (with_reducible refine RK.id_ ?_); (first | refine RK.cons_ ?_; (refine RK.k_ 0 rfl ?_; refine .p rfl rfl rfl (by exact trivial) ?_) | refine RK.nilT rfl ?_ rfl))
    refine .call (c1) rfl rfl rfl rfl ?_
    repeat (first | (with_reducible refine W.id_ ?_); (first | refine W.sreg ?_ | refine W.seq ?_ | refine W.skipT rfl ?_ | refine W.condF rfl ?_) | (with_reducible refine RK.id_ ?_); (first | refine RK.cons_ ?_; (first | refine RK.k_ 0 rfl ?_; refine .p rfl rfl rfl (by exact trivial) ?_ | refine RK.k_ 5 rfl ?_; (refine .ldl rfl rfl rfl rfl rfl rfl rfl (by rfl) (by rfl) ?_)) | refine RK.nilT rfl ?_ rfl))
    refine .call (inner_spec l) rfl rfl rfl rfl ?_
    repeat ((with_reducible refine RK.id_ ?_); (first | refine RK.cons_ ?_; (refine RK.k_ 0 rfl ?_; refine .p rfl rfl rfl (by exact trivial) ?_) | refine RK.nilT rfl ?_ rfl))
    refine W.cond_ndec rfl (fun h4 => ?_) (fun h4 => ?_)
    · exact absurd hin h4
    repeat ((with_reducible refine W.id_ ?_); (first | refine W.sreg ?_ | refine W.skipT rfl ?_))
    refine .make 1 4 3 56 (repR 4 zeroQ) rfl rfl rfl rfl rfl rfl rfl rfl rfl rfl (by omega) (by rfl) (by omega) (by omega) ?_ (pushR_eq _ _) ?_
    · rfl
    repeat (first | (with_reducible refine W.id_ ?_); (first | refine W.sreg ?_ | refine W.seq ?_) | (with_reducible refine RK.id_ ?_); (first | refine RK.cons_ ?_; (refine RK.k_ 0 rfl ?_; refine .p rfl rfl rfl (by exact trivial) ?_) | refine RK.nilT rfl ?_ rfl))
    refine .rangeS (4) (fun i s => [(8, .live 1 0 4 4 3), (0, eP p), (1, eP q), (5, .ptr 0 0), (7, eP (can (subP l.toNat B A)))]) (fun i s => [some (.cells (plc (l, a))), some (.cells (s.flatMap qc))]) (fun i s => PtS 2 (xs a) s i) (List.replicate 4 zQ) rfl rfl rfl rfl rfl rfl rfl rfl rfl rfl (by omega) ?_ ?_ (fun _ _ => rfl) (fun i s hi Ci => ?_) (fun s Ci => ?_)
    · exact .zero
    · refine .ren [0, 1] [] (Nat.zero_le _) (fun b hb => absurd hb (Nat.not_lt_zero b)) (by simp) ?_ (.cell (by simp) rfl (WkL.refl _) (PureL.mem (ds := plc (l, a)) ⟨.int _ _, eV_pure _, trivial⟩) (.cell (by simp) rfl (wk_zeros 4) (zeros_pure 4) trivial))
      repeat (first | exact trivial | refine ⟨⟨_, rfl, .ptr rfl⟩, ?_⟩ | refine ⟨⟨_, rfl, .live rfl⟩, ?_⟩ | refine ⟨⟨_, rfl, .wk (by repeat (first | exact .int _ _ | exact eP_pure _)) (by exact .refl _)⟩, ?_⟩)
    · have hsl := Ci.len
      repeat (first | (with_reducible refine W.id_ ?_); (refine W.sreg ?_) | (with_reducible refine RK.id_ ?_); (first | refine RK.cons_ ?_; (refine RK.k_ 0 rfl ?_; refine .p rfl rfl rfl (by exact trivial) ?_) | refine RK.nilT rfl ?_ rfl))
      refine .call (hO) rfl rfl rfl rfl ?_
      repeat (first | (with_reducible refine W.id_ ?_); (refine W.sreg ?_) | (with_reducible refine RK.id_ ?_); (first | refine RK.cons_ ?_; (first | refine RK.k_ 0 rfl ?_; refine .p rfl rfl rfl (by exact trivial) ?_ | refine RK.k_ 4 rfl ?_; (refine .ixl _ _ (s := 3) rfl rfl rfl rfl rfl rfl rfl (by rfl) (by omega) rfl ?_) | refine RK.k_ 5 rfl ?_; (refine .ldl rfl rfl rfl rfl rfl rfl rfl (by rfl) (by rfl) ?_) | refine RK.k_ 6 rfl ?_; (refine .store rfl rfl rfl rfl rfl rfl rfl (by rfl) (by exact overR_flat0 qc_len rfl (by omega)) (by rfl) ?_)) | refine RK.nilT rfl ?_ rfl))
      refine W.cond_dec rfl (fun h5 => ?_) (fun h5 => ?_)
      · have h6 : i < a.length := by
          have h5' : (i : Int) < (a.length : Int) := h5
          omega
        repeat (first | (with_reducible refine W.id_ ?_); (refine W.reg ?_) | (with_reducible refine RK.id_ ?_); (refine RK.cons_ ?_; (first | refine RK.k_ 0 rfl ?_; refine .p rfl rfl rfl (by exact trivial) ?_ | refine RK.k_ 4 rfl ?_; (first | refine .ix _ (s := 3) rfl rfl rfl rfl rfl rfl rfl (by rfl) (by omega) ?_ | refine .ixl _ _ (s := 3) rfl rfl rfl rfl rfl rfl rfl (by rfl) (by omega) rfl ?_) | refine RK.k_ 5 rfl ?_; (first | refine .ldl rfl rfl rfl rfl rfl rfl rfl (by rfl) (by rfl) ?_ | refine .lda _ rfl rfl rfl rfl rfl rfl rfl (by exact take_flat (z := zQ) qc_len (by omega) (by omega) rfl) ?_) | refine RK.k_ 6 rfl ?_; (refine .store rfl rfl rfl rfl rfl rfl rfl (by rfl) (by exact overR_flat0 qc_len rfl (by (rw [List.length_set]; omega))) (by rfl) ?_))))
        refine .nil ?_ rfl
        refine ⟨s.set i (a.getD i zQ), Ci.next hi (hv.at h6) rfl, .heap ?_ ?_⟩
        · repeat (first | exact trivial | refine ⟨⟨_, rfl, .refl _⟩, ?_⟩)
        · dsimp only
          rw [List.set_set]
      · have h6 : a.length ≤ i := by
          have h5' : ¬ (i : Int) < (a.length : Int) := h5
          omega
        refine .skip ⟨s.set i (qcan 0), Ci.next hi (.zero (by omega)) (by rw [qv_can, xs_out h6]), .heap ?_ rfl⟩
        repeat (first | exact trivial | refine ⟨⟨_, rfl, .refl _⟩, ?_⟩)
    have hsl := Ci.len
    have Cs := (Ci.mono (l := 5 * (4 + 4 * (2 * (4 : Int).toNat + 1) + 1) + 1) (by decide)).set (i := (l - 1).toNat) (by omega) (.can E1)
    obtain ⟨e3, E3⟩ := hP.eval Cs.vk (by decide) (by omega) (by omega) (by omega) (by omega) (by decide)
    have m1 := qsame_can E2 E3 (by decide) (by
      rw [ev_subP hl (xs a) hP.canon hQ.canon]
      refine (ev_congr (fun j hj => ?_) A).symm
      rw [Cs.xs j hj, qv_can, upd]
      by_cases hjl : j = (l - 1).toNat
      · rw [if_pos hjl, if_pos (by omega)]
      · rw [if_neg hjl, if_neg (by omega)])
    show W _ _ _ _ _ _ _
    repeat (first | (with_reducible refine W.id_ ?_); (refine W.sdraw mixed (by kernel_rfl) (by kernel_rfl) ?_) | (with_reducible refine RK.id_ ?_); (refine RK.cons_ ?_; (first | refine RK.k_ 0 rfl ?_; refine .p rfl rfl rfl (by exact trivial) ?_ | refine RK.k_ 1 rfl ?_; (refine .pa rfl rfl rfl rfl rfl rfl (by omega) (by omega) ?_) | refine RK.k_ 5 rfl ?_; (refine .ldl rfl rfl rfl rfl rfl rfl rfl (by rfl) (by rfl) ?_))))
    refine .call (e1) rfl rfl rfl rfl ?_
    iterate 2 ((with_reducible refine RK.id_ ?_); (refine RK.cons_ ?_; (first | refine RK.k_ 4 rfl ?_; (refine .ixl _ _ (s := 3) rfl rfl rfl rfl rfl rfl rfl (by exact (Int.toNat_of_nonneg (by omega)).symm) (by omega) rfl ?_) | refine RK.k_ 6 rfl ?_; (refine .store rfl rfl rfl rfl rfl rfl rfl (by rfl) (by exact overR_flat0 qc_len rfl (by omega)) (by rfl) ?_))))
    refine .nil ?_ rfl
    show W _ _ _ _ _ _ _
    have hsl2 : (s.set (l - 1).toNat (qcan (ev (xs a) B))).length = 4 := by rw [List.length_set]; exact hsl
    refine W.to (F' := [(0, eP p), (5, .sptr (plc (l, a)) 0), (7, eP (can (subP l.toNat B A))), (8, eV (s.set (l - 1).toNat (qcan (ev (xs a) B))))]) (H' := []) (.frz ⟨⟨_, rfl, .pure (eP_pure _) (.refl _)⟩, ⟨_, rfl, .ptr rfl (Nat.le_refl _) ?_⟩, ⟨_, rfl, .pure (eP_pure _) (.refl _)⟩, ⟨_, rfl, frz_rows rfl hsl2.symm⟩, trivial⟩) ?_
    · intro j u v hu hv'
      have hu' : (plc (l, a))[j]? = some u := hu
      rw [hu'] at hv'; cases hv'
      exact .pure (PureL.mem (ds := plc (l, a)) ⟨.int _ _, eV_pure _, trivial⟩ u (List.mem_of_getElem? hu')) (.refl _)
    repeat (first | (with_reducible refine W.id_ ?_); (refine W.sdraw mixed (by kernel_rfl) (by kernel_rfl) ?_) | (with_reducible refine RK.id_ ?_); (refine RK.cons_ ?_; (first | refine RK.k_ 0 rfl ?_; refine .p rfl rfl rfl (by exact trivial) ?_ | refine RK.k_ 5 rfl ?_; (refine .ld _ rfl rfl rfl rfl rfl rfl (by rfl) ?_))))
    refine .call (e2) rfl rfl rfl rfl ?_
    repeat ((with_reducible refine RK.id_ ?_); (refine RK.cons_ ?_; (refine RK.k_ 0 rfl ?_; refine .p rfl rfl rfl (by exact trivial) ?_)))
    refine .call (e3) rfl rfl rfl rfl ?_
    skip
    refine .call (m1) rfl rfl rfl rfl ?_
    repeat ((with_reducible refine RK.id_ ?_); (refine RK.cons_ ?_; (first | refine RK.k_ 0 rfl ?_; refine .p rfl rfl rfl (by exact trivial) ?_ | refine RK.k_ 5 rfl ?_; (refine .ld _ rfl rfl rfl rfl rfl rfl (by rfl) ?_))))
    refine .call (hvar) rfl rfl rfl rfl ?_
    skip
    refine .call (s2) rfl rfl rfl rfl ?_
    repeat ((with_reducible refine RK.id_ ?_); (refine RK.cons_ ?_; (refine RK.k_ 0 rfl ?_; refine .p rfl rfl rfl (by exact trivial) ?_)))
    refine .call (m2) rfl rfl rfl rfl ?_
    repeat ((with_reducible refine RK.id_ ?_); (first | refine RK.cons_ ?_; (refine RK.k_ 0 rfl ?_; refine .p rfl rfl rfl (by exact trivial) ?_) | refine RK.nilT rfl ?_ rfl))
    refine W.ret ⟨_, rfl, .eq (by repeat (exact .bool _)) ?_, rfl⟩
    rfl
  · have s1 := Substitute_out (q := q) (hP.pok (by omega) (by omega)) hP.eqn hin
    have RA : Rp 4 6 4 (can A) A := .cn hP.canon hP.l1 hP.len hP.eb (by omega)
    have c1 := RA.canonical hP.canon (by omega) (by omega)
    have m1 := RA.same hP (by omega) (by omega) (by omega) (by omega)
    rw [decide_eq_true rfl] at m1
    repeat (first | (with_reducible refine W.id_ ?_); (first | refine W.sreg ?_ | refine W.skipT rfl ?_) | (with_reducible refine RK.id_ ?_); (refine RK.cons_ ?_; (first | refine RK.k_ 0 rfl ?_; refine .p rfl rfl rfl (by exact trivial) ?_ | refine RK.k_ 5 rfl ?_; (refine .ldl rfl rfl rfl rfl rfl rfl rfl (by rfl) (by rfl) ?_))))
    refine .call (s1) rfl rfl rfl rfl ?_
    repeat (first | (with_reducible refine W.id_ ?_); (first | refine W.sreg ?_ | refine W.seq ?_) | (with_reducible refine RK.id_ ?_); (first | refine RK.cons_ ?_; (refine RK.k_ 0 rfl ?_; refine .p rfl rfl rfl (by exact trivial) ?_) | refine RK.nilT rfl ?_ rfl))
    refine .call (c1) rfl rfl rfl rfl ?_
    repeat (first | (with_reducible refine W.id_ ?_); (first | refine W.sreg ?_ | refine W.seq ?_ | refine W.skipT rfl ?_ | refine W.condF rfl ?_) | (with_reducible refine RK.id_ ?_); (first | refine RK.cons_ ?_; (first | refine RK.k_ 0 rfl ?_; refine .p rfl rfl rfl (by exact trivial) ?_ | refine RK.k_ 5 rfl ?_; (refine .ldl rfl rfl rfl rfl rfl rfl rfl (by rfl) (by rfl) ?_)) | refine RK.nilT rfl ?_ rfl))
    refine .call (inner_spec l) rfl rfl rfl rfl ?_
    repeat ((with_reducible refine RK.id_ ?_); (first | refine RK.cons_ ?_; (refine RK.k_ 0 rfl ?_; refine .p rfl rfl rfl (by exact trivial) ?_) | refine RK.nilT rfl ?_ rfl))
    refine W.cond_ndec rfl (fun h4 => ?_) (fun h4 => ?_)
    · repeat (first | (with_reducible refine W.id_ ?_); (refine W.sreg ?_) | (with_reducible refine RK.id_ ?_); (refine RK.cons_ ?_; (refine RK.k_ 0 rfl ?_; refine .p rfl rfl rfl (by exact trivial) ?_)))
      refine .call (m1) rfl rfl rfl rfl ?_
      repeat ((with_reducible refine RK.id_ ?_); (first | refine RK.cons_ ?_; (refine RK.k_ 0 rfl ?_; refine .p rfl rfl rfl (by exact trivial) ?_) | refine RK.nilT rfl ?_ rfl))
      refine W.ret ⟨_, rfl, .eq (by repeat (exact .bool _)) ?_, rfl⟩
      rfl
    · exact absurd h4 hin
end Go.Proofs.Ytbdefjbekbbldaa
