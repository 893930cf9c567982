/-
  No cell of these rows narrows 'for every input' (looked for: loops, veiled, ifaces, maps, wideKeys, modest, calm, conditions, laid).
  DERIVED. THE GIVEN ROWS OF THIS SEAT. 9 by the template 'for every input the law returns true; each argument reads behind the call as it read before'; 0 by the template 'total and deterministic' (their statements: YtbdefjbekbbldaaTotals.lean).
  GIVEN WITH THE SEED: the statements are not yours to turn. If you find one false, say at which input.
  Laid BY PROGRAM, IN A SANDBOX (cutbox-rows.mjs): the forced cells as the released guide's own fill.sh prints them over the translation e00e118593207eb4… (all of the seat's roots in one cut). By AI agents, Wed Nov 11 2026. No macro, syntax, notation, axiom, sorry.
-/
import Derived.Test.YtbdefjbekbbldaaChecked
import GoSem.Claim
import GoSem.ClaimJoined
import GoSem.ClaimMapViews
import Derived.JoinedTies
import Derived.KernelRfl
namespace Go.Proofs.Ytbdefjbekbbldaa
/- THE CELL 'sum', in the pinned program and in every row, IS THE sha256 OF THE DUMP (.gsa) THAT YtbdefjbekbbldaaProg.lean LOADS. Nothing in Lean hashes anything: it is a label: what it is worth is what the hold of that sum in a sandbox is worth. -/
noncomputable def Try.pinned : Pinned := { name := "ytbdefjbekbbldaa", sum := "e00e118593207eb44f7a732022ed52b570aa116cdb3bcaff4b5e97e3c1fc0d76", checked := Try.checked }
namespace Rows
def none {H : Type} : Left H := { results := [], args := [] }

/-- 'cylinderlaw20.SparseProduct': WHATEVER THE INPUT: true; the input reads as it did. -/
def sparseProductSpec : ChangeSpec := { name := "sparseProduct", fn := fun _ => fun
  | [d1, d2, d3] => { results := [.lit (.bool true)], args := [d1, d2, d3] }
  | _ => none }
def sparseProductRow : OpenClaim := { program := "ytbdefjbekbbldaa", sum := "e00e118593207eb44f7a732022ed52b570aa116cdb3bcaff4b5e97e3c1fc0d76", func := "cylinder/cylinderlaw20.SparseProduct", spec := "sparseProduct", unfollowed := true, recurses := true, apart := false }
def SparseProductSaid : Prop := sparseProductRow.holds Try.pinned (OpenSpec.ofChange sparseProductSpec)

/-- ITS FALSE NEIGHBOUR: 'it returns false'. Refute it at one input. -/
def sparseProductWrong : ChangeSpec := { name := "sparseProduct", fn := fun _ => fun
  | [d1, d2, d3] => { results := [.lit (.bool false)], args := [d1, d2, d3] }
  | _ => none }
def SparseProductWrongFalsely : Prop := sparseProductRow.holds Try.pinned (OpenSpec.ofChange sparseProductWrong)

/-- 'cylinderlaw20.SparseDegrees': WHATEVER THE INPUT: true; the input reads as it did. -/
def sparseDegreesSpec : ChangeSpec := { name := "sparseDegrees", fn := fun _ => fun
  | [d1, d2, d3] => { results := [.lit (.bool true)], args := [d1, d2, d3] }
  | _ => none }
def sparseDegreesRow : OpenClaim := { program := "ytbdefjbekbbldaa", sum := "e00e118593207eb44f7a732022ed52b570aa116cdb3bcaff4b5e97e3c1fc0d76", func := "cylinder/cylinderlaw20.SparseDegrees", spec := "sparseDegrees", unfollowed := true, recurses := true, apart := false }
def SparseDegreesSaid : Prop := sparseDegreesRow.holds Try.pinned (OpenSpec.ofChange sparseDegreesSpec)

/-- ITS FALSE NEIGHBOUR: 'it returns false'. Refute it at one input. -/
def sparseDegreesWrong : ChangeSpec := { name := "sparseDegrees", fn := fun _ => fun
  | [d1, d2, d3] => { results := [.lit (.bool false)], args := [d1, d2, d3] }
  | _ => none }
def SparseDegreesWrongFalsely : Prop := sparseDegreesRow.holds Try.pinned (OpenSpec.ofChange sparseDegreesWrong)

/-- 'cylinderlaw20.SparseSum': WHATEVER THE INPUT: true; the input reads as it did. -/
def sparseSumSpec : ChangeSpec := { name := "sparseSum", fn := fun _ => fun
  | [d1, d2, d3] => { results := [.lit (.bool true)], args := [d1, d2, d3] }
  | _ => none }
def sparseSumRow : OpenClaim := { program := "ytbdefjbekbbldaa", sum := "e00e118593207eb44f7a732022ed52b570aa116cdb3bcaff4b5e97e3c1fc0d76", func := "cylinder/cylinderlaw20.SparseSum", spec := "sparseSum", unfollowed := true, recurses := true, apart := false }
def SparseSumSaid : Prop := sparseSumRow.holds Try.pinned (OpenSpec.ofChange sparseSumSpec)

/-- ITS FALSE NEIGHBOUR: 'it returns false'. Refute it at one input. -/
def sparseSumWrong : ChangeSpec := { name := "sparseSum", fn := fun _ => fun
  | [d1, d2, d3] => { results := [.lit (.bool false)], args := [d1, d2, d3] }
  | _ => none }
def SparseSumWrongFalsely : Prop := sparseSumRow.holds Try.pinned (OpenSpec.ofChange sparseSumWrong)

/-- 'cylinderlaw20.SparseDerivative': WHATEVER THE INPUT: true; the input reads as it did. -/
def sparseDerivativeSpec : ChangeSpec := { name := "sparseDerivative", fn := fun _ => fun
  | [d1, d2, d3] => { results := [.lit (.bool true)], args := [d1, d2, d3] }
  | _ => none }
def sparseDerivativeRow : OpenClaim := { program := "ytbdefjbekbbldaa", sum := "e00e118593207eb44f7a732022ed52b570aa116cdb3bcaff4b5e97e3c1fc0d76", func := "cylinder/cylinderlaw20.SparseDerivative", spec := "sparseDerivative", unfollowed := true, recurses := true, apart := false }
def SparseDerivativeSaid : Prop := sparseDerivativeRow.holds Try.pinned (OpenSpec.ofChange sparseDerivativeSpec)

/-- ITS FALSE NEIGHBOUR: 'it returns false'. Refute it at one input. -/
def sparseDerivativeWrong : ChangeSpec := { name := "sparseDerivative", fn := fun _ => fun
  | [d1, d2, d3] => { results := [.lit (.bool false)], args := [d1, d2, d3] }
  | _ => none }
def SparseDerivativeWrongFalsely : Prop := sparseDerivativeRow.holds Try.pinned (OpenSpec.ofChange sparseDerivativeWrong)

/-- 'cylinderlaw20.SparseCompare': WHATEVER THE INPUT: true; the input reads as it did. -/
def sparseCompareSpec : ChangeSpec := { name := "sparseCompare", fn := fun _ => fun
  | [d1, d2, d3] => { results := [.lit (.bool true)], args := [d1, d2, d3] }
  | _ => none }
def sparseCompareRow : OpenClaim := { program := "ytbdefjbekbbldaa", sum := "e00e118593207eb44f7a732022ed52b570aa116cdb3bcaff4b5e97e3c1fc0d76", func := "cylinder/cylinderlaw20.SparseCompare", spec := "sparseCompare", unfollowed := true, recurses := true, apart := false }
def SparseCompareSaid : Prop := sparseCompareRow.holds Try.pinned (OpenSpec.ofChange sparseCompareSpec)

/-- ITS FALSE NEIGHBOUR: 'it returns false'. Refute it at one input. -/
def sparseCompareWrong : ChangeSpec := { name := "sparseCompare", fn := fun _ => fun
  | [d1, d2, d3] => { results := [.lit (.bool false)], args := [d1, d2, d3] }
  | _ => none }
def SparseCompareWrongFalsely : Prop := sparseCompareRow.holds Try.pinned (OpenSpec.ofChange sparseCompareWrong)

/-- 'cylinderlaw20.SparseContent': WHATEVER THE INPUT: true; the input reads as it did. -/
def sparseContentSpec : ChangeSpec := { name := "sparseContent", fn := fun _ => fun
  | [d1, d2] => { results := [.lit (.bool true)], args := [d1, d2] }
  | _ => none }
def sparseContentRow : OpenClaim := { program := "ytbdefjbekbbldaa", sum := "e00e118593207eb44f7a732022ed52b570aa116cdb3bcaff4b5e97e3c1fc0d76", func := "cylinder/cylinderlaw20.SparseContent", spec := "sparseContent", unfollowed := true, recurses := true, named := ["math/bits.overflowError", "math/bits.divideError"], apart := false }
def SparseContentSaid : Prop := sparseContentRow.holds Try.pinned (OpenSpec.ofChange sparseContentSpec)

/-- ITS FALSE NEIGHBOUR: 'it returns false'. Refute it at one input. -/
def sparseContentWrong : ChangeSpec := { name := "sparseContent", fn := fun _ => fun
  | [d1, d2] => { results := [.lit (.bool false)], args := [d1, d2] }
  | _ => none }
def SparseContentWrongFalsely : Prop := sparseContentRow.holds Try.pinned (OpenSpec.ofChange sparseContentWrong)

/-- 'cylinderlaw20.SparseEval': WHATEVER THE INPUT: true; the input reads as it did. -/
def sparseEvalSpec : ChangeSpec := { name := "sparseEval", fn := fun _ => fun
  | [d1, d2, d3] => { results := [.lit (.bool true)], args := [d1, d2, d3] }
  | _ => none }
def sparseEvalRow : OpenClaim := { program := "ytbdefjbekbbldaa", sum := "e00e118593207eb44f7a732022ed52b570aa116cdb3bcaff4b5e97e3c1fc0d76", func := "cylinder/cylinderlaw20.SparseEval", spec := "sparseEval", unfollowed := true, recurses := true, named := ["math/bits.overflowError", "math/bits.divideError"], apart := false }
def SparseEvalSaid : Prop := sparseEvalRow.holds Try.pinned (OpenSpec.ofChange sparseEvalSpec)

/-- ITS FALSE NEIGHBOUR: 'it returns false'. Refute it at one input. -/
def sparseEvalWrong : ChangeSpec := { name := "sparseEval", fn := fun _ => fun
  | [d1, d2, d3] => { results := [.lit (.bool false)], args := [d1, d2, d3] }
  | _ => none }
def SparseEvalWrongFalsely : Prop := sparseEvalRow.holds Try.pinned (OpenSpec.ofChange sparseEvalWrong)

/-- 'cylinderlaw20.SparseSubstitute': WHATEVER THE INPUT: true; the input reads as it did. -/
def sparseSubstituteSpec : ChangeSpec := { name := "sparseSubstitute", fn := fun _ => fun
  | [d1, d2, d3] => { results := [.lit (.bool true)], args := [d1, d2, d3] }
  | _ => none }
def sparseSubstituteRow : OpenClaim := { program := "ytbdefjbekbbldaa", sum := "e00e118593207eb44f7a732022ed52b570aa116cdb3bcaff4b5e97e3c1fc0d76", func := "cylinder/cylinderlaw20.SparseSubstitute", spec := "sparseSubstitute", unfollowed := true, recurses := true, named := ["math/bits.overflowError", "math/bits.divideError"], apart := false }
def SparseSubstituteSaid : Prop := sparseSubstituteRow.holds Try.pinned (OpenSpec.ofChange sparseSubstituteSpec)

/-- ITS FALSE NEIGHBOUR: 'it returns false'. Refute it at one input. -/
def sparseSubstituteWrong : ChangeSpec := { name := "sparseSubstitute", fn := fun _ => fun
  | [d1, d2, d3] => { results := [.lit (.bool false)], args := [d1, d2, d3] }
  | _ => none }
def SparseSubstituteWrongFalsely : Prop := sparseSubstituteRow.holds Try.pinned (OpenSpec.ofChange sparseSubstituteWrong)

/-- 'cylinderlaw20.SparseRename': WHATEVER THE INPUT: true; the input reads as it did. -/
def sparseRenameSpec : ChangeSpec := { name := "sparseRename", fn := fun _ => fun
  | [d1, d2, d3] => { results := [.lit (.bool true)], args := [d1, d2, d3] }
  | _ => none }
def sparseRenameRow : OpenClaim := { program := "ytbdefjbekbbldaa", sum := "e00e118593207eb44f7a732022ed52b570aa116cdb3bcaff4b5e97e3c1fc0d76", func := "cylinder/cylinderlaw20.SparseRename", spec := "sparseRename", unfollowed := true, recurses := true, named := ["math/bits.overflowError", "math/bits.divideError"], apart := false }
def SparseRenameSaid : Prop := sparseRenameRow.holds Try.pinned (OpenSpec.ofChange sparseRenameSpec)

/-- ITS FALSE NEIGHBOUR: 'it returns false'. Refute it at one input. -/
def sparseRenameWrong : ChangeSpec := { name := "sparseRename", fn := fun _ => fun
  | [d1, d2, d3] => { results := [.lit (.bool false)], args := [d1, d2, d3] }
  | _ => none }
def SparseRenameWrongFalsely : Prop := sparseRenameRow.holds Try.pinned (OpenSpec.ofChange sparseRenameWrong)

/- THE SECOND FORM. 'bulk': how many values and letters a reading holds, each counted each time it is reached (what is shared counts as often as it is met; a slice's spare places count too). A statement '..UptoSaid' is the law's where the arguments, and the package variables that the reading takes, are together of bulk at most 1048576: NARROWER than '..Said'. Prove '..Said' where nothing that the law and all that it calls make is longer than what came in: it says more and counts as full. Else prove '..UptoSaid'. A law counts once. -/
mutual
def uptoBulk {H : Type} : DataW H → Nat
  | .lit (.string bytes) => bytes.length + 1
  | .lit _ => 1
  | .nil => 1
  | .ptr d => uptoBulk d + 1
  | .slice elems spare => uptoBulkAll elems + uptoBulkAll spare + 1
  | .agg parts => uptoBulkAll parts + 1
  | .iface _ d => uptoBulk d + 1
  | .map entries => uptoBulkEntries entries + 1
  | .held _ => 1
def uptoBulkAll {H : Type} : List (DataW H) → Nat
  | [] => 0
  | d :: r => uptoBulk d + uptoBulkAll r
def uptoBulkEntries {H : Type} : List (Lit × DataW H) → Nat
  | [] => 0
  | x :: r => uptoBulkEntry x + uptoBulkEntries r
def uptoBulkEntry {H : Type} : Lit × DataW H → Nat
  | (.string bytes, d) => bytes.length + uptoBulk d + 1
  | (_, d) => uptoBulk d + 1
 end
def uptoSmall : (H : Type) → List (DataW H) → Bool := fun _ ds => decide (uptoBulkAll ds ≤ 1048576)
def OpenSpec.upto (s : _root_.Go.ChangeSpec) : _root_.Go.OpenSpec := { _root_.Go.OpenSpec.ofChange s with cond := some uptoSmall }

/-- 'cylinderlaw20.SparseProduct', WHERE WHAT IT READS IS OF BULK AT MOST 1048576: true; the input reads as it did. -/
def sparseProductUptoRow : OpenClaim := { program := "ytbdefjbekbbldaa", sum := "e00e118593207eb44f7a732022ed52b570aa116cdb3bcaff4b5e97e3c1fc0d76", func := "cylinder/cylinderlaw20.SparseProduct", spec := "sparseProduct", unfollowed := true, recurses := true, apart := false, narrowed := true }
def SparseProductUptoSaid : Prop := sparseProductUptoRow.holds Try.pinned (OpenSpec.upto sparseProductSpec)

/-- 'cylinderlaw20.SparseDegrees', WHERE WHAT IT READS IS OF BULK AT MOST 1048576: true; the input reads as it did. -/
def sparseDegreesUptoRow : OpenClaim := { program := "ytbdefjbekbbldaa", sum := "e00e118593207eb44f7a732022ed52b570aa116cdb3bcaff4b5e97e3c1fc0d76", func := "cylinder/cylinderlaw20.SparseDegrees", spec := "sparseDegrees", unfollowed := true, recurses := true, apart := false, narrowed := true }
def SparseDegreesUptoSaid : Prop := sparseDegreesUptoRow.holds Try.pinned (OpenSpec.upto sparseDegreesSpec)

/-- 'cylinderlaw20.SparseSum', WHERE WHAT IT READS IS OF BULK AT MOST 1048576: true; the input reads as it did. -/
def sparseSumUptoRow : OpenClaim := { program := "ytbdefjbekbbldaa", sum := "e00e118593207eb44f7a732022ed52b570aa116cdb3bcaff4b5e97e3c1fc0d76", func := "cylinder/cylinderlaw20.SparseSum", spec := "sparseSum", unfollowed := true, recurses := true, apart := false, narrowed := true }
def SparseSumUptoSaid : Prop := sparseSumUptoRow.holds Try.pinned (OpenSpec.upto sparseSumSpec)

/-- 'cylinderlaw20.SparseDerivative', WHERE WHAT IT READS IS OF BULK AT MOST 1048576: true; the input reads as it did. -/
def sparseDerivativeUptoRow : OpenClaim := { program := "ytbdefjbekbbldaa", sum := "e00e118593207eb44f7a732022ed52b570aa116cdb3bcaff4b5e97e3c1fc0d76", func := "cylinder/cylinderlaw20.SparseDerivative", spec := "sparseDerivative", unfollowed := true, recurses := true, apart := false, narrowed := true }
def SparseDerivativeUptoSaid : Prop := sparseDerivativeUptoRow.holds Try.pinned (OpenSpec.upto sparseDerivativeSpec)

/-- 'cylinderlaw20.SparseCompare', WHERE WHAT IT READS IS OF BULK AT MOST 1048576: true; the input reads as it did. -/
def sparseCompareUptoRow : OpenClaim := { program := "ytbdefjbekbbldaa", sum := "e00e118593207eb44f7a732022ed52b570aa116cdb3bcaff4b5e97e3c1fc0d76", func := "cylinder/cylinderlaw20.SparseCompare", spec := "sparseCompare", unfollowed := true, recurses := true, apart := false, narrowed := true }
def SparseCompareUptoSaid : Prop := sparseCompareUptoRow.holds Try.pinned (OpenSpec.upto sparseCompareSpec)

/-- 'cylinderlaw20.SparseContent', WHERE WHAT IT READS IS OF BULK AT MOST 1048576: true; the input reads as it did. -/
def sparseContentUptoRow : OpenClaim := { program := "ytbdefjbekbbldaa", sum := "e00e118593207eb44f7a732022ed52b570aa116cdb3bcaff4b5e97e3c1fc0d76", func := "cylinder/cylinderlaw20.SparseContent", spec := "sparseContent", unfollowed := true, recurses := true, named := ["math/bits.overflowError", "math/bits.divideError"], apart := false, narrowed := true }
def SparseContentUptoSaid : Prop := sparseContentUptoRow.holds Try.pinned (OpenSpec.upto sparseContentSpec)

/-- 'cylinderlaw20.SparseEval', WHERE WHAT IT READS IS OF BULK AT MOST 1048576: true; the input reads as it did. -/
def sparseEvalUptoRow : OpenClaim := { program := "ytbdefjbekbbldaa", sum := "e00e118593207eb44f7a732022ed52b570aa116cdb3bcaff4b5e97e3c1fc0d76", func := "cylinder/cylinderlaw20.SparseEval", spec := "sparseEval", unfollowed := true, recurses := true, named := ["math/bits.overflowError", "math/bits.divideError"], apart := false, narrowed := true }
def SparseEvalUptoSaid : Prop := sparseEvalUptoRow.holds Try.pinned (OpenSpec.upto sparseEvalSpec)

/-- 'cylinderlaw20.SparseSubstitute', WHERE WHAT IT READS IS OF BULK AT MOST 1048576: true; the input reads as it did. -/
def sparseSubstituteUptoRow : OpenClaim := { program := "ytbdefjbekbbldaa", sum := "e00e118593207eb44f7a732022ed52b570aa116cdb3bcaff4b5e97e3c1fc0d76", func := "cylinder/cylinderlaw20.SparseSubstitute", spec := "sparseSubstitute", unfollowed := true, recurses := true, named := ["math/bits.overflowError", "math/bits.divideError"], apart := false, narrowed := true }
def SparseSubstituteUptoSaid : Prop := sparseSubstituteUptoRow.holds Try.pinned (OpenSpec.upto sparseSubstituteSpec)

/-- 'cylinderlaw20.SparseRename', WHERE WHAT IT READS IS OF BULK AT MOST 1048576: true; the input reads as it did. -/
def sparseRenameUptoRow : OpenClaim := { program := "ytbdefjbekbbldaa", sum := "e00e118593207eb44f7a732022ed52b570aa116cdb3bcaff4b5e97e3c1fc0d76", func := "cylinder/cylinderlaw20.SparseRename", spec := "sparseRename", unfollowed := true, recurses := true, named := ["math/bits.overflowError", "math/bits.divideError"], apart := false, narrowed := true }
def SparseRenameUptoSaid : Prop := sparseRenameUptoRow.holds Try.pinned (OpenSpec.upto sparseRenameSpec)

end Rows
end Go.Proofs.Ytbdefjbekbbldaa
