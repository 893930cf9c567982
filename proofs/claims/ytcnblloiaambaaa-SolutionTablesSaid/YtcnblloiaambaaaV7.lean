/- The logic V, part 7: vop is sound. -/
import Derived.Test.YtcnblloiaambaaaV6
namespace Go.V
section
variable {P : Program} {w w' : World} {g g' : Gh} {H : Hp} {F : Fr} {tm : Array Value}

theorem exec_v {o : Oper} {s : Sem Value} (h : execOp (evalT tm) o = (do pure (.value (← s)) : Sem Next)) {v : Value} {w' : World} (hs : s.run P w = .ok v w') :
    (execOp (evalT tm) o).run P w = .ok (.value v) w' := by
  rw [h]; simp [hs]

theorem eqGuard_plain (op : BinOp) (t : TypeId) (x y : Operand) {a b : Value} (h : ¬ (a = .nilIface ∧ b = .nilIface) ∧ ¬ (∃ c d, a = .agg c ∧ b = .agg d)) :
    (eqGuard op t x y a b).run P w = .ok () w := by
  unfold eqGuard
  cases op <;> first
    | rfl
    | (simp only [Bool.not_true, Bool.false_eq_true, if_false]
       split
       · exact absurd ⟨rfl, rfl⟩ h.1
       · exact absurd ⟨_, _, rfl, rfl⟩ h.2
       · rfl)

theorem underlying_run {t : TypeId} {u : TypeDesc} (h : P.underlying t = some u) : (underlying t).run P w = .ok u w := by simp [underlying, h]

theorem eq_run {t : TypeId} {x y : Value} {b : Bool} (h : ∀ d, (Op.equalIn (d + 2) t x y).run P w = .ok b w) : (Op.equal t x y).run P w = .ok b w := h 9998

theorem eql_run {t : TypeId} {x y : Value} {b : Bool} (hb : binOp .eql t x y = (do pure (.bool (← Op.equal t x y)))) (h : ∀ d, (Op.equalIn (d + 2) t x y).run P w = .ok b w) : (binOp .eql t x y).run P w = .ok (.bool b) w := by
  rw [hb]; simp only [Sem.run_bind, eq_run h, Result.andThen_ok, Sem.run_pure]

theorem neq_run {t : TypeId} {x y : Value} {b : Bool} (hb : binOp .neq t x y = (do pure (.bool (!(← Op.equal t x y))))) (h : ∀ d, (Op.equalIn (d + 2) t x y).run P w = .ok b w) : (binOp .neq t x y).run P w = .ok (.bool (!b)) w := by
  rw [hb]; simp only [Sem.run_bind, eq_run h, Result.andThen_ok, Sem.run_pure]

theorem binD_run {op : BinOp} {t : TypeId} {x y : D} {pre : Prop} {d : D} (h : binD P op t x y = some (pre, d)) (hp : pre) {a b : Value} (ha : Rep w g x a) (hb : Rep w g y b) :
    (¬ (a = .nilIface ∧ b = .nilIface) ∧ ¬ (∃ c d, a = .agg c ∧ b = .agg d)) ∧ ∃ v, (binOp op t a b).run P w = .ok v w ∧ Rep w g d v := by
  unfold binD at h
  split at h
  · rename_i k a' k' b'
    obtain rfl := rep_int ha
    obtain rfl := rep_int hb
    refine ⟨⟨by simp, by simp⟩, ?_⟩
    cases hk : (decide (k = k') || isSh op) with
    | false => rw [hk] at h; cases h
    | true =>
      rw [hk] at h
      exact intBinD_run h hp t (by simpa using hk)
  · rename_i a' b'
    obtain rfl := rep_bool ha
    obtain rfl := rep_bool hb
    refine ⟨⟨by simp, by simp⟩, ?_⟩
    split at h
    · rename_i hu; cases h
      exact ⟨_, eql_run rfl (fun d => run_equalIn_bool w (d + 1) t a' b' hu), .bool _⟩
    · rename_i hu; cases h
      exact ⟨_, neq_run rfl (fun d => run_equalIn_bool w (d + 1) t a' b' hu), .bool _⟩
    · cases h
  · rename_i a' b'
    obtain rfl := rep_str ha
    obtain rfl := rep_str hb
    refine ⟨⟨by simp, by simp⟩, ?_⟩
    split at h
    · cases h; exact ⟨_, by simp [binOp, Op.stringOp, bytes_eq], .bool _⟩
    · cases h; exact ⟨_, by simp [binOp, Op.stringOp, bytes_eq], .bool _⟩
    · cases h
      have hp' : ¬ (((a'.size + b'.size : Nat) : Int) > IntKind.i64.max) := by
        have : IntKind.i64.max = 9223372036854775807 := by decide
        rw [this]; omega
      exact ⟨_, by simp only [binOp, Op.stringOp, hp', if_false]; rfl, .str _⟩
    · cases h
  · cases ha; cases hb
    refine ⟨⟨by simp, by simp⟩, ?_⟩
    split at h
    · rename_i hu; cases h; exact ⟨_, eql_run (b := true) rfl (fun d => by rw [Op.equalIn]; simp [underlying_run hu]), .bool _⟩
    · rename_i hu; cases h; exact ⟨_, neq_run (b := true) rfl (fun d => by rw [Op.equalIn]; simp [underlying_run hu]), .bool _⟩
    · cases h
  · cases ha; cases hb
    refine ⟨⟨by simp, by simp⟩, ?_⟩
    split at h
    · rename_i hu; cases h; exact ⟨_, eql_run (b := true) rfl (fun d => by rw [Op.equalIn]; simp [underlying_run hu]), .bool _⟩
    · rename_i hu; cases h; exact ⟨_, neq_run (b := true) rfl (fun d => by rw [Op.equalIn]; simp [underlying_run hu]), .bool _⟩
    · cases h
  · cases ha with
    | snapNil a t =>
      split at h
      · cases h; exact absurd hp (Nat.lt_irrefl 0)
      · cases h; exact absurd hp (Nat.lt_irrefl 0)
      · cases h
    | snap f hS h1 hl ht hc hr =>
      cases hb
      refine ⟨⟨by simp, by simp⟩, ?_⟩
      split at h
      · rename_i hu; cases h; exact ⟨_, eql_run (b := false) rfl (fun d => by rw [Op.equalIn]; simp [underlying_run hu]), .bool _⟩
      · rename_i hu; cases h; exact ⟨_, neq_run (b := false) rfl (fun d => by rw [Op.equalIn]; simp [underlying_run hu]), .bool _⟩
      · cases h
  · cases ha; cases hb
    refine ⟨⟨by simp, by simp⟩, ?_⟩
    split at h
    · rename_i hu; cases h; exact ⟨_, eql_run (b := false) rfl (fun d => by rw [Op.equalIn]; simp [underlying_run hu]), .bool _⟩
    · rename_i hu; cases h; exact ⟨_, neq_run (b := false) rfl (fun d => by rw [Op.equalIn]; simp [underlying_run hu]), .bool _⟩
    · cases h
  · cases ha; cases hb
    refine ⟨⟨by simp, by simp⟩, ?_⟩
    split at h
    · rename_i hu; cases h; exact ⟨_, eql_run (b := false) rfl (fun d => by rw [Op.equalIn]; simp [underlying_run hu]), .bool _⟩
    · rename_i hu; cases h; exact ⟨_, neq_run (b := false) rfl (fun d => by rw [Op.equalIn]; simp [underlying_run hu]), .bool _⟩
    · cases h
  · cases ha; cases hb
    refine ⟨⟨by simp, by simp⟩, ?_⟩
    split at h
    · rename_i hu; cases h; exact ⟨_, eql_run (b := false) rfl (fun d => by rw [Op.equalIn]; simp [underlying_run hu]), .bool _⟩
    · rename_i hu; cases h; exact ⟨_, neq_run (b := false) rfl (fun d => by rw [Op.equalIn]; simp [underlying_run hu]), .bool _⟩
    · cases h
  · cases ha; cases hb
    refine ⟨⟨by simp, by simp⟩, ?_⟩
    split at h
    · rename_i hu; cases h; exact ⟨_, eql_run (b := false) rfl (fun d => by rw [Op.equalIn]; simp [underlying_run hu]), .bool _⟩
    · rename_i hu; cases h; exact ⟨_, neq_run (b := false) rfl (fun d => by rw [Op.equalIn]; simp [underlying_run hu]), .bool _⟩
    · cases h
  · cases h

end
end Go.V
