/-
  No cell of these rows narrows 'for every input' (looked for: loops, veiled, ifaces, maps, wideKeys, modest, calm, conditions, laid).
  DERIVED. THE GIVEN ROWS OF THIS SEAT. 5 by the template 'for every input the law returns true; each argument reads behind the call as it read before'; 0 by the template 'total and deterministic' (their statements: YtcnblloiaambaaaTotals.lean).
  GIVEN WITH THE SEED: the statements are not yours to turn. If you find one false, say at which input.
  Laid BY PROGRAM, IN A SANDBOX (cutbox-rows.mjs): the forced cells as the released guide's own fill.sh prints them over the translation d2b911fb42e7258c… (all of the seat's roots in one cut). By AI agents, Wed Nov 11 2026. No macro, syntax, notation, axiom, sorry.
-/
import Derived.Test.YtcnblloiaambaaaChecked
import GoSem.Claim
import GoSem.ClaimJoined
import GoSem.ClaimMapViews
import Derived.JoinedTies
import Derived.KernelRfl
namespace Go.Proofs.Ytcnblloiaambaaa
/- THE CELL 'sum', in the pinned program and in every row, IS THE sha256 OF THE DUMP (.gsa) THAT YtcnblloiaambaaaProg.lean LOADS. Nothing in Lean hashes anything: it is a label: what it is worth is what the hold of that sum in a sandbox is worth. -/
noncomputable def Try.pinned : Pinned := { name := "ytcnblloiaambaaa", sum := "d2b911fb42e7258c414b73cd128dfc226743bd3a49a651406981a2cc0728a880", checked := Try.checked }
namespace Rows
def none {H : Type} : Left H := { results := [], args := [] }

/-- 'cylinderlaw50.SolutionCovers': WHATEVER THE INPUT: true; the input reads as it did. -/
def solutionCoversSpec : ChangeSpec := { name := "solutionCovers", fn := fun _ => fun
  | [d1, d2] => { results := [.lit (.bool true)], args := [d1, d2] }
  | _ => none }
def solutionCoversRow : OpenClaim := { program := "ytcnblloiaambaaa", sum := "d2b911fb42e7258c414b73cd128dfc226743bd3a49a651406981a2cc0728a880", func := "cylinder/cylinderlaw50.SolutionCovers", spec := "solutionCovers", unfollowed := true, recurses := true, apart := false }
def SolutionCoversSaid : Prop := solutionCoversRow.holds Try.pinned (OpenSpec.ofChange solutionCoversSpec)

/-- ITS FALSE NEIGHBOUR: 'it returns false'. Refute it at one input. -/
def solutionCoversWrong : ChangeSpec := { name := "solutionCovers", fn := fun _ => fun
  | [d1, d2] => { results := [.lit (.bool false)], args := [d1, d2] }
  | _ => none }
def SolutionCoversWrongFalsely : Prop := solutionCoversRow.holds Try.pinned (OpenSpec.ofChange solutionCoversWrong)

/-- 'cylinderlaw50.SolutionPrime': WHATEVER THE INPUT: true; the input reads as it did. -/
def solutionPrimeSpec : ChangeSpec := { name := "solutionPrime", fn := fun _ => fun
  | [d1, d2] => { results := [.lit (.bool true)], args := [d1, d2] }
  | _ => none }
def solutionPrimeRow : OpenClaim := { program := "ytcnblloiaambaaa", sum := "d2b911fb42e7258c414b73cd128dfc226743bd3a49a651406981a2cc0728a880", func := "cylinder/cylinderlaw50.SolutionPrime", spec := "solutionPrime", unfollowed := true, recurses := true, apart := false }
def SolutionPrimeSaid : Prop := solutionPrimeRow.holds Try.pinned (OpenSpec.ofChange solutionPrimeSpec)

/-- ITS FALSE NEIGHBOUR: 'it returns false'. Refute it at one input. -/
def solutionPrimeWrong : ChangeSpec := { name := "solutionPrime", fn := fun _ => fun
  | [d1, d2] => { results := [.lit (.bool false)], args := [d1, d2] }
  | _ => none }
def SolutionPrimeWrongFalsely : Prop := solutionPrimeRow.holds Try.pinned (OpenSpec.ofChange solutionPrimeWrong)

/-- 'cylinderlaw50.SolutionSeparated': WHATEVER THE INPUT: true; the input reads as it did. -/
def solutionSeparatedSpec : ChangeSpec := { name := "solutionSeparated", fn := fun _ => fun
  | [d] => { results := [.lit (.bool true)], args := [d] }
  | _ => none }
def solutionSeparatedRow : OpenClaim := { program := "ytcnblloiaambaaa", sum := "d2b911fb42e7258c414b73cd128dfc226743bd3a49a651406981a2cc0728a880", func := "cylinder/cylinderlaw50.SolutionSeparated", spec := "solutionSeparated", unfollowed := true, recurses := true, apart := false }
def SolutionSeparatedSaid : Prop := solutionSeparatedRow.holds Try.pinned (OpenSpec.ofChange solutionSeparatedSpec)

/-- ITS FALSE NEIGHBOUR: 'it returns false'. Refute it at one input. -/
def solutionSeparatedWrong : ChangeSpec := { name := "solutionSeparated", fn := fun _ => fun
  | [d] => { results := [.lit (.bool false)], args := [d] }
  | _ => none }
def SolutionSeparatedWrongFalsely : Prop := solutionSeparatedRow.holds Try.pinned (OpenSpec.ofChange solutionSeparatedWrong)

/-- 'cylinderlaw50.SolutionTables': WHATEVER THE INPUT: true; the input reads as it did. -/
def solutionTablesSpec : ChangeSpec := { name := "solutionTables", fn := fun _ => fun
  | [d] => { results := [.lit (.bool true)], args := [d] }
  | _ => none }
def solutionTablesRow : OpenClaim := { program := "ytcnblloiaambaaa", sum := "d2b911fb42e7258c414b73cd128dfc226743bd3a49a651406981a2cc0728a880", func := "cylinder/cylinderlaw50.SolutionTables", spec := "solutionTables", unfollowed := true, recurses := true, apart := false }
def SolutionTablesSaid : Prop := solutionTablesRow.holds Try.pinned (OpenSpec.ofChange solutionTablesSpec)

/-- ITS FALSE NEIGHBOUR: 'it returns false'. Refute it at one input. -/
def solutionTablesWrong : ChangeSpec := { name := "solutionTables", fn := fun _ => fun
  | [d] => { results := [.lit (.bool false)], args := [d] }
  | _ => none }
def SolutionTablesWrongFalsely : Prop := solutionTablesRow.holds Try.pinned (OpenSpec.ofChange solutionTablesWrong)

/-- 'cylinderlaw50.SolutionOrder': WHATEVER THE INPUT: true; the input reads as it did. -/
def solutionOrderSpec : ChangeSpec := { name := "solutionOrder", fn := fun _ => fun
  | [d1, d2, d3] => { results := [.lit (.bool true)], args := [d1, d2, d3] }
  | _ => none }
def solutionOrderRow : OpenClaim := { program := "ytcnblloiaambaaa", sum := "d2b911fb42e7258c414b73cd128dfc226743bd3a49a651406981a2cc0728a880", func := "cylinder/cylinderlaw50.SolutionOrder", spec := "solutionOrder", unfollowed := true, recurses := true, apart := false }
def SolutionOrderSaid : Prop := solutionOrderRow.holds Try.pinned (OpenSpec.ofChange solutionOrderSpec)

/-- ITS FALSE NEIGHBOUR: 'it returns false'. Refute it at one input. -/
def solutionOrderWrong : ChangeSpec := { name := "solutionOrder", fn := fun _ => fun
  | [d1, d2, d3] => { results := [.lit (.bool false)], args := [d1, d2, d3] }
  | _ => none }
def SolutionOrderWrongFalsely : Prop := solutionOrderRow.holds Try.pinned (OpenSpec.ofChange solutionOrderWrong)

/- THE SECOND FORM. 'bulk': how many values and letters a reading holds, each counted each time it is reached (what is shared counts as often as it is met; a slice's spare places count too). A statement '..UptoSaid' is the law's where the arguments, and the package variables that the reading takes, are together of bulk at most 1048576: NARROWER than '..Said'. Prove '..Said' where nothing that the law and all that it calls make is longer than what came in: it says more and counts as full. Else prove '..UptoSaid'. A law counts once. -/
mutual
def uptoBulk {H : Type} : DataW H → Nat
  | .lit (.string bytes) => bytes.length + 1
  | .lit _ => 1
  | .nil => 1
  | .ptr d => uptoBulk d + 1
  | .slice elems spare => uptoBulkAll elems + uptoBulkAll spare + 1
  | .agg parts => uptoBulkAll parts + 1
  | .iface _ d => uptoBulk d + 1
  | .map entries => uptoBulkEntries entries + 1
  | .held _ => 1
def uptoBulkAll {H : Type} : List (DataW H) → Nat
  | [] => 0
  | d :: r => uptoBulk d + uptoBulkAll r
def uptoBulkEntries {H : Type} : List (Lit × DataW H) → Nat
  | [] => 0
  | x :: r => uptoBulkEntry x + uptoBulkEntries r
def uptoBulkEntry {H : Type} : Lit × DataW H → Nat
  | (.string bytes, d) => bytes.length + uptoBulk d + 1
  | (_, d) => uptoBulk d + 1
 end
def uptoSmall : (H : Type) → List (DataW H) → Bool := fun _ ds => decide (uptoBulkAll ds ≤ 1048576)
def OpenSpec.upto (s : _root_.Go.ChangeSpec) : _root_.Go.OpenSpec := { _root_.Go.OpenSpec.ofChange s with cond := some uptoSmall }

/-- 'cylinderlaw50.SolutionCovers', WHERE WHAT IT READS IS OF BULK AT MOST 1048576: true; the input reads as it did. -/
def solutionCoversUptoRow : OpenClaim := { program := "ytcnblloiaambaaa", sum := "d2b911fb42e7258c414b73cd128dfc226743bd3a49a651406981a2cc0728a880", func := "cylinder/cylinderlaw50.SolutionCovers", spec := "solutionCovers", unfollowed := true, recurses := true, apart := false, narrowed := true }
def SolutionCoversUptoSaid : Prop := solutionCoversUptoRow.holds Try.pinned (OpenSpec.upto solutionCoversSpec)

/-- 'cylinderlaw50.SolutionPrime', WHERE WHAT IT READS IS OF BULK AT MOST 1048576: true; the input reads as it did. -/
def solutionPrimeUptoRow : OpenClaim := { program := "ytcnblloiaambaaa", sum := "d2b911fb42e7258c414b73cd128dfc226743bd3a49a651406981a2cc0728a880", func := "cylinder/cylinderlaw50.SolutionPrime", spec := "solutionPrime", unfollowed := true, recurses := true, apart := false, narrowed := true }
def SolutionPrimeUptoSaid : Prop := solutionPrimeUptoRow.holds Try.pinned (OpenSpec.upto solutionPrimeSpec)

/-- 'cylinderlaw50.SolutionSeparated', WHERE WHAT IT READS IS OF BULK AT MOST 1048576: true; the input reads as it did. -/
def solutionSeparatedUptoRow : OpenClaim := { program := "ytcnblloiaambaaa", sum := "d2b911fb42e7258c414b73cd128dfc226743bd3a49a651406981a2cc0728a880", func := "cylinder/cylinderlaw50.SolutionSeparated", spec := "solutionSeparated", unfollowed := true, recurses := true, apart := false, narrowed := true }
def SolutionSeparatedUptoSaid : Prop := solutionSeparatedUptoRow.holds Try.pinned (OpenSpec.upto solutionSeparatedSpec)

/-- 'cylinderlaw50.SolutionTables', WHERE WHAT IT READS IS OF BULK AT MOST 1048576: true; the input reads as it did. -/
def solutionTablesUptoRow : OpenClaim := { program := "ytcnblloiaambaaa", sum := "d2b911fb42e7258c414b73cd128dfc226743bd3a49a651406981a2cc0728a880", func := "cylinder/cylinderlaw50.SolutionTables", spec := "solutionTables", unfollowed := true, recurses := true, apart := false, narrowed := true }
def SolutionTablesUptoSaid : Prop := solutionTablesUptoRow.holds Try.pinned (OpenSpec.upto solutionTablesSpec)

/-- 'cylinderlaw50.SolutionOrder', WHERE WHAT IT READS IS OF BULK AT MOST 1048576: true; the input reads as it did. -/
def solutionOrderUptoRow : OpenClaim := { program := "ytcnblloiaambaaa", sum := "d2b911fb42e7258c414b73cd128dfc226743bd3a49a651406981a2cc0728a880", func := "cylinder/cylinderlaw50.SolutionOrder", spec := "solutionOrder", unfollowed := true, recurses := true, apart := false, narrowed := true }
def SolutionOrderUptoSaid : Prop := solutionOrderUptoRow.holds Try.pinned (OpenSpec.upto solutionOrderSpec)

end Rows
end Go.Proofs.Ytcnblloiaambaaa
