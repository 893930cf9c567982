import Derived.Test.YtbdefjbekbbldaaA2
import Derived.Test.YtbdefjbekbbldaaV3
import Derived.Test.YtbdefjbekbbldaaRows
import Derived.WalkKit
import Derived.ProofKit
import Derived.OpenShut
import Derived.ChangeOld
import Derived.Below
import Derived.SizedLaws
set_option linter.unusedVariables false
namespace Go.Proofs.Ytbdefjbekbbldaa
open Go.V Go.N
open Go.ChangeShapes Go.WideShapes Go.ChangeAt Go.RowKit
theorem own : ownKnob Try.prog.godebug = none := by kernel_rfl
theorem laidOut : laidOutB Try.prog = true := by kernel_rfl

/-- What is known of a row of terms that was given. -/
structure InP (p : List RT) : Prop where
  len : p.length ≤ 9223372036854775807
  z : ∀ t ∈ p, okN t.1.2 ∧ t.1.2.length ≤ 9223372036854775807

theorem opens_nat (W : World) : Opens Try.prog W 29 (fun xs : List Int => [eN xs]) (fun xs => xs.length ≤ maxLen ∧ ∀ x ∈ xs, (Lit.int .u32 x).wf = true) := by
  have h := Opens.slice (P := Try.prog) (w := W) (t := 29) (e := 81) (s := 1) Try.underlying29 (by kernel_rfl) (by omega) (fun _ => rfl) (fun a d hd => by simp at hd; subst hd; rfl) (Opens.int (P := Try.prog) (w := W) (t := 81) (k := .u32) Try.underlying81)
  have e : ∀ xs : List Int, encS (fun n : Int => [D.int .u32 n]) xs = eN xs := fun xs => by
    simp only [encS, encI]
    congr 1
    induction xs with
    | nil => rfl
    | cons x xs ih => rw [List.flatMap_cons, ih]; rfl
  intro H en held fuel cs x hx
  obtain ⟨xs, hp, hr⟩ := h H en held fuel cs x hx
  have hr : RepL W (g0 W) [encS (fun n : Int => [D.int .u32 n]) xs] cs := hr
  rw [e] at hr
  exact ⟨xs, hp, hr⟩

theorem opens_int (W : World) : Opens Try.prog W 31 (fun z : Z => zc z) (fun z => True ∧ z.2.length ≤ maxLen ∧ ∀ x ∈ z.2, (Lit.int .u32 x).wf = true) :=
  Opens.pair (P := Try.prog) (w := W) (t := 31) (ea := fun b : Bool => [.bool b]) (eb := fun xs : List Int => [eN xs]) Try.underlying31 rfl (by kernel_rfl) (by kernel_rfl) (Opens.bool (P := Try.prog) (w := W) (t := 4) Try.underlying4) (opens_nat W)

theorem opens_mono (W : World) : Opens Try.prog W 33 (fun m : M => mc m) (fun m => True) := by
  intro H en held fuel cs x hx
  obtain ⟨⟨a, b, c, d⟩, _, hr⟩ := Opens.arr4 (P := Try.prog) (w := W) (t := 33) (e := 3) (k := .i64) Try.underlying33 Try.underlying3 (by kernel_rfl) (by kernel_rfl) H en held fuel cs x hx
  exact ⟨⟨a, b, c, d⟩, trivial, hr⟩

theorem opens_poly (W : World) : Opens Try.prog W 23 (fun p : List RT => [eP p]) InP := by
  intro H en held fuel cs x hx
  obtain ⟨p, ⟨h1, h2⟩, hr⟩ := Opens.slice (P := Try.prog) (w := W) (t := 23) (e := 35) (s := 6) (enc := tc) Try.underlying23 (by kernel_rfl) (by omega) tc_len (fun a d hd => by
      simp only [tc, List.mem_cons, List.mem_nil_iff, or_false] at hd
      rcases hd with rfl | rfl | rfl | rfl | rfl | rfl <;> rfl)
    (Opens.pair (P := Try.prog) (w := W) (t := 35) (ea := fun z : Z => zc z) (eb := fun m : M => mc m) Try.underlying35 rfl (by kernel_rfl) (by kernel_rfl) (opens_int W) (opens_mono W)) H en held fuel cs x hx
  exact ⟨p, ⟨h1, fun t ht => ⟨fun d hd => by
    have := bounds_u32 ((h2 t ht).1.2.2 d hd)
    omega, (h2 t ht).1.2.1⟩⟩, hr⟩

theorem rep_agg {W : World} {g : Gh} {ds : List D} {cs : Array Value} (h : RepL W g ds cs.toList) (h1 : ∀ d ∈ ds, d.one = true) : Rep W g (.agg ds) (.agg cs) :=
  .agg (by have := h.1; simpa using this) h1 fun i d v hd hv => h.2 i d v hd (by simpa using hv)
theorem zc_one (z : Z) : ∀ d ∈ zc z, d.one = true := fun d hd => by
  simp only [zc, List.mem_cons, List.mem_nil_iff, or_false] at hd
  rcases hd with rfl | rfl <;> rfl
theorem okN_in {z : Z} (h : True ∧ z.2.length ≤ maxLen ∧ ∀ x ∈ z.2, (Lit.int .u32 x).wf = true) : okN z.2 := fun d hd => by
  have := bounds_u32 (h.2.2 d hd)
  omega
end Go.Proofs.Ytbdefjbekbbldaa
