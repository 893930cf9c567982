/- The logic V, part 8: vop is sound, operation by operation. -/
import Derived.Test.YtcnblloiaambaaaV7
namespace Go.V
section
variable {P : Program} {w w' : World} {g g' : Gh} {H : Hp} {F : Fr} {tm : Array Value} {o : Oper} {pre : Prop} {d : D}

theorem gives_move {x : Operand} (ho : execOp (evalT tm) o = pure (.value (evalT tm x))) (hF : FRel w g F tm) (h : F.eval x = some d) : Gives P tm o w g d :=
  .same (by rw [ho]; rfl) (evalT_of hF h)

theorem gives_pick {c a b : Operand} {t : Bool} (ho : o.op = .pick c a b) (hF : FRel w g F tm) (hc : F.eval c = some (.bool t)) (h : F.eval (if t then a else b) = some d) : Gives P tm o w g d := by
  have he := rep_bool (evalT_of hF hc)
  refine .same (v := evalT tm (if t then a else b)) ?_ (evalT_of hF h)
  cases t <;> simp [execOp, ho, he, asBool]

theorem agg_nil_cases {a b : Value} (h : ¬ (a = .nilIface ∧ b = .nilIface) ∧ ¬ (∃ c d, a = .agg c ∧ b = .agg d)) (op : BinOp) (t : TypeId) (x y : Operand) {v : Value} (hr : (binOp op t a b).run P w = .ok v w) :
    (do eqGuard op t x y a b; binOp op t a b : Sem Value).run P w = .ok v w := by
  simp only [Sem.run_bind, eqGuard_plain op t x y h, Result.andThen_ok, hr]

theorem eqGuardIn_ints {t e : TypeId} {len : Nat} {k0 : IntKind} (ht : P.underlying t = some (.array len e)) (he : P.underlying e = some (.int k0)) : ∀ n, P.eqGuardType (n + 2) t = false
  | n => by simp [Program.eqGuardType, ht, he]

theorem gives_bin {op : BinOp} {t yt : TypeId} {x y : Operand} (ho : o.op = .binOp op t x y yt) (hF : FRel w g F tm) (h : vop P F o.op = some (pre, d)) (hp : pre) : Gives P tm o w g d := by
  rw [ho] at h
  simp only [vop] at h
  split at h
  · rename_i cs cs' ha hb
    have ra := evalT_of hF ha
    have rb := evalT_of hF hb
    split at h
    · rename_i n e ht
      split at h
      · rename_i k0 he hs
        cases hl : (Nat.beq cs.length n && Nat.beq cs'.length n) with
        | false => rw [hl] at h; cases h
        | true =>
          rw [hl] at h
          simp only [cond_true] at h
          simp only [Bool.and_eq_true] at hl
          have hl1 := Nat.eq_of_beq_eq_true hl.1
          have hl2 := Nat.eq_of_beq_eq_true hl.2
          split at h
          · rename_i b hbe
            generalize hva : evalT tm x = va at ra
            generalize hvb : evalT tm y = vb at rb
            cases ra with
            | @agg _ vs hn h1 hr =>
              cases rb with
              | @agg _ vs' hn' h1' hr' =>
                have := eqInts_rep (w := w) (g := g) cs cs' vs.toList vs'.toList b hbe ⟨by simpa using hn, fun i d v hd hv => hr i d v hd (by simpa using hv)⟩ ⟨by simpa using hn', fun i d v hd hv => hr' i d v hd (by simpa using hv)⟩
                have eqq : ∀ d, (Op.equalIn (d + 2) t (.agg vs) (.agg vs')).run P w = .ok b w := fun d => by
                  have := equalIn_ints (P := P) (w := w) ht he hs d vs.toList vs'.toList (by simp [hn, hl1]) this.2.1 b this.2.2
                  simpa using this
                have hg : (eqGuard op t x y (.agg vs) (.agg vs')).run P w = .ok () w := by
                  have hgt : P.eqGuardType P.depth t = false := by
                    have : P.depth = 2 * (P.types.size + Made.depth) + 2 := rfl
                    rw [this]
                    exact eqGuardIn_ints ht he _
                  unfold eqGuard
                  cases op <;> first
                    | rfl
                    | simp [hgt]
                split at h
                · cases h
                  refine .same (v := .bool b) ?_ (.bool _)
                  rw [execOp]
                  simp only [ho, hva, hvb, Sem.run_bind, hg, Result.andThen_ok, eql_run rfl eqq, Sem.run_pure]
                · cases h
                  refine .same (v := .bool (!b)) ?_ (.bool _)
                  rw [execOp]
                  simp only [ho, hva, hvb, Sem.run_bind, hg, Result.andThen_ok, neq_run rfl eqq, Sem.run_pure]
                · cases h
          · cases h
      · cases h
    · cases h
  · rename_i ha hb
    have ra := evalT_of hF ha
    have rb := evalT_of hF hb
    generalize hva : evalT tm x = va at ra
    generalize hvb : evalT tm y = vb at rb
    cases ra
    cases rb
    cases hcc : (isC x || isC y) with
    | false => rw [hcc] at h; cases h
    | true =>
      rw [hcc] at h
      simp only [cond_true] at h
      have hg : (eqGuard op t x y .nilIface .nilIface).run P w = .ok () w := by
        unfold eqGuard
        cases x <;> cases y <;> first
          | (simp [isC] at hcc; done)
          | (cases op <;> rfl)
      split at h
      · rename_i hu
        cases h
        refine .same (v := .bool true) ?_ (.bool _)
        rw [execOp]
        simp only [ho, hva, hvb, Sem.run_bind, hg, Result.andThen_ok, Sem.run_pure]
        rw [eql_run (b := true) rfl (fun d => by rw [Op.equalIn]; simp [underlying_run hu])]
        rfl
      · rename_i hu
        cases h
        refine .same (v := .bool false) ?_ (.bool _)
        rw [execOp]
        simp only [ho, hva, hvb, Sem.run_bind, hg, Result.andThen_ok, Sem.run_pure]
        rw [neq_run (b := true) rfl (fun d => by rw [Op.equalIn]; simp [underlying_run hu])]
        rfl
      · cases h
  · rename_i a b _ _ ha hb
    have ra := evalT_of hF ha
    have rb := evalT_of hF hb
    obtain ⟨hn, v, hr, hrep⟩ := binD_run h hp ra rb
    refine .same (v := v) ?_ hrep
    rw [execOp]
    simp only [ho]
    have := agg_nil_cases hn op t x y hr
    simp only [Sem.run_bind] at this ⊢
    rw [this]
    rfl
  · cases h

theorem gives_un {op : UnOp} {t : TypeId} {x : Operand} (ho : o.op = .unOp op t x) (hF : FRel w g F tm) (h : vop P F o.op = some (pre, d)) : Gives P tm o w g d := by
  rw [ho] at h
  simp only [vop] at h
  split at h
  · rename_i b hx
    cases h
    have := rep_bool (evalT_of hF hx)
    exact .same (v := .bool (!b)) (by simp [execOp, ho, this, Op.unary]) (.bool _)
  · rename_i k n hx
    cases h
    have := rep_int (evalT_of hF hx)
    exact .same (v := .int k (k.wrap (0 - n))) (by simp [execOp, ho, this, Op.unary, Op.intArith]) (.int _ _)
  · cases h

theorem gives_convert {s t : TypeId} {x : Operand} (ho : o.op = .convert s t x) (hF : FRel w g F tm) (h : vop P F o.op = some (pre, d)) : Gives P tm o w g d := by
  rw [ho] at h
  simp only [vop] at h
  split at h
  · rename_i u k k' n hu ht hx
    cases h
    have := rep_int (evalT_of hF hx)
    refine .same (v := .int k (k.wrap n)) ?_ (.int _ _)
    simp only [execOp, ho, this, convert, Sem.run_bind, underlying_run hu, underlying_run ht, Result.andThen_ok]
    cases u <;> simp [Conv.intToInt]
  · rename_i u s' hu ht hx
    cases h
    have := rep_str (evalT_of hF hx)
    refine .same (v := .string s') ?_ (.str _)
    simp only [execOp, ho, this, convert, Sem.run_bind, underlying_run hu, underlying_run ht, Result.andThen_ok]
    cases u <;> simp
  · cases h
end
end Go.V
