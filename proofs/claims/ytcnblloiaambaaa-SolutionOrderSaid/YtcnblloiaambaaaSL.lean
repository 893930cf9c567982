import Derived.Test.YtcnblloiaambaaaSN
import Derived.Test.YtcnblloiaambaaaV27
import Derived.Test.YtcnblloiaambaaaRows
import Derived.WalkKit
import Derived.ProofKit
import Derived.OpenShut
import Derived.ChangeOld
import Derived.Below
import Derived.SizedLaws
namespace Go.Proofs.Ytcnblloiaambaaa
open Go.V
open Go.ChangeShapes Go.WideShapes Go.ChangeAt Go.RowKit
theorem own : ownKnob Try.prog.godebug = none := by kernel_rfl
theorem laidOut : laidOutB Try.prog = true := by kernel_rfl

theorem opens_ints (W : World) : Opens Try.prog W 34 (fun xs : List Int => [eI xs]) (fun xs => xs.length ≤ maxLen ∧ ∀ x ∈ xs, (Lit.int .i64 x).wf = true) := by
  have h := Opens.slice (P := Try.prog) (w := W) (t := 34) (e := 3) (s := 1) Try.underlying34 (by kernel_rfl) (by omega) (fun _ => rfl) (fun a d hd => by simp at hd; subst hd; rfl) (Opens.int (P := Try.prog) (w := W) (t := 3) (k := .i64) Try.underlying3)
  have e : ∀ xs : List Int, encS (fun n : Int => [D.int .i64 n]) xs = eI xs := fun xs => by
    simp only [encS, eI, encI]
    congr 1
    induction xs with
    | nil => rfl
    | cons x xs ih => rw [List.flatMap_cons, ih]; rfl
  intro H en held fuel cs x hx
  obtain ⟨xs, hp, hr⟩ := h H en held fuel cs x hx
  have hr : RepL W (g0 W) [encS (fun n : Int => [D.int .i64 n]) xs] cs := hr
  rw [e] at hr
  exact ⟨xs, hp, hr⟩

theorem opens_rows (W : World) : Opens Try.prog W 22 (fun rows : List Row => [eR rows]) (fun rows => rows.length ≤ maxLen ∧ ∀ r ∈ rows, (r.1.length ≤ maxLen ∧ ∀ x ∈ r.1, (Lit.int .i64 x).wf = true) ∧ True) :=
  Opens.slice (P := Try.prog) (w := W) (t := 22) (e := 36) (s := 2) (enc := rowCells) Try.underlying22 (by kernel_rfl) (by omega) (fun _ => rfl) (fun a d hd => by simp [rowCells] at hd; rcases hd with rfl | rfl <;> rfl)
    (Opens.pair (P := Try.prog) (w := W) (t := 36) Try.underlying36 rfl (by kernel_rfl) (by kernel_rfl) (opens_ints W) (Opens.bool (P := Try.prog) (w := W) (t := 4) Try.underlying4))

end Go.Proofs.Ytcnblloiaambaaa
