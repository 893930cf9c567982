import Derived.Test.YtbdefjbekbbldaaA3
import Derived.Test.YtbdefjbekbbldaaB3
set_option linter.unusedVariables false
set_option linter.unusedSimpArgs false
set_option linter.unnecessarySimpa false
namespace Go.Proofs.Ytbdefjbekbbldaa
open Go.V Go.N
open Go.ChangeShapes Go.WideShapes Go.ChangeAt Go.RowKit

theorem opens_rat (W : World) : Opens Try.prog W 68 (fun q : Q => qc q) (fun q => (True ∧ q.1.2.length ≤ maxLen ∧ ∀ x ∈ q.1.2, (Lit.int .u32 x).wf = true) ∧ (q.2.length ≤ maxLen ∧ ∀ x ∈ q.2, (Lit.int .u32 x).wf = true)) :=
  Opens.pair (P := Try.prog) (w := W) (t := 68) (ea := fun z : Z => zc z) (eb := fun xs : List Int => [eN xs]) Try.underlying68 rfl (by kernel_rfl) (by kernel_rfl) (opens_int W) (opens_nat W)
theorem qc_one (q : Q) : ∀ d ∈ qc q, d.one = true := fun d hd => by
  simp only [qc, List.mem_cons, List.mem_nil_iff, or_false] at hd
  rcases hd with rfl | rfl | rfl <;> rfl
/-- What is known of values that were given. -/
structure InV (a : List Q) : Prop where
  len : a.length ≤ 9223372036854775807
  z : ∀ q ∈ a, inQ q
theorem opens_vals (W : World) : Opens Try.prog W 65 (fun a : List Q => [eV a]) InV := by
  intro H en held fuel cs x hx
  obtain ⟨a, ⟨h1, h2⟩, hr⟩ := Opens.slice (P := Try.prog) (w := W) (t := 65) (e := 68) (s := 3) (enc := qc) Try.underlying65 (by kernel_rfl) (by omega) qc_len qc_one (opens_rat W) H en held fuel cs x hx
  exact ⟨a, ⟨h1, fun q hq => ⟨fun d hd => by
    have := bounds_u32 ((h2 q hq).1.2.2 d hd)
    omega, (h2 q hq).1.2.1, fun d hd => by
    have := bounds_u32 ((h2 q hq).2.2 d hd)
    omega, (h2 q hq).2.1⟩⟩, hr⟩
theorem okWide_arr3 {P : Program} {w : World} {r : Reach} {base : Nat} {t e : TypeId} {n : Nat} {v : Value} (ht : P.underlying t = some (.array n e)) (h : Value.okWide P w r base t v) : ∃ cs, v = .agg cs ∧ cs.size = P.cellsOf t := by
  simp only [Value.okWide, ht] at h
  obtain ⟨cs, h1, h2, _⟩ := h
  exact ⟨cs, h1, h2⟩
theorem mc_one (m : M) : ∀ d ∈ mc m, d.one = true := fun d hd => by
  simp only [mc, List.mem_cons, List.mem_nil_iff, or_false] at hd
  rcases hd with rfl | rfl | rfl | rfl <;> rfl
end Go.Proofs.Ytbdefjbekbbldaa
