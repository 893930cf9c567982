import Derived.Test.YtbdefjbekbbldaaB4
import Derived.Test.YtbdefjbekbbldaaLSubst
set_option linter.unusedVariables false
set_option linter.unusedSimpArgs false
set_option linter.unnecessarySimpa false
namespace Go.Proofs.Ytbdefjbekbbldaa
open Go.V Go.N
open Go.ChangeShapes Go.WideShapes Go.ChangeAt Go.RowKit

theorem opens_place (W : World) : Opens Try.prog W 74 (fun x : Int × List Q => plc x) (fun x => (Lit.int .i64 x.1).wf = true ∧ InV x.2) :=
  Opens.pair (P := Try.prog) (w := W) (t := 74) (ea := fun n : Int => [.int .i64 n]) (eb := fun a : List Q => [eV a]) Try.underlying74 rfl (by kernel_rfl) (by kernel_rfl) (Opens.int (P := Try.prog) (w := W) (t := 3) Try.underlying3) (opens_vals W)
theorem plc_one (x : Int × List Q) : ∀ d ∈ plc x, d.one = true := fun d hd => by
  simp only [plc, List.mem_cons, List.mem_nil_iff, or_false] at hd
  rcases hd with rfl | rfl <;> rfl
end Go.Proofs.Ytbdefjbekbbldaa
