/-
  No cell of these rows narrows 'for every input' (looked for: loops, veiled, ifaces, maps, wideKeys, modest, calm, conditions, laid).
  DERIVED. THE GIVEN ROWS OF THIS SEAT. 12 by the template 'for every input the law returns true; each argument reads behind the call as it read before'; 0 by the template 'total and deterministic' (their statements: YtdjnogcljmaapaaTotals.lean).
  GIVEN WITH THE SEED: the statements are not yours to turn. If you find one false, say at which input.
  Laid BY PROGRAM, IN A SANDBOX (cutbox-rows.mjs): the forced cells as the released guide's own fill.sh prints them over the translation d4306a44c3c4e958… (all of the seat's roots in one cut). By AI agents, Wed Nov 11 2026. No macro, syntax, notation, axiom, sorry.
-/
import Derived.Test.YtdjnogcljmaapaaChecked
import GoSem.Claim
import GoSem.ClaimJoined
import GoSem.ClaimMapViews
import Derived.JoinedTies
import Derived.KernelRfl
namespace Go.Proofs.Ytdjnogcljmaapaa
/- THE CELL 'sum', in the pinned program and in every row, IS THE sha256 OF THE DUMP (.gsa) THAT YtdjnogcljmaapaaProg.lean LOADS. Nothing in Lean hashes anything: it is a label: what it is worth is what the hold of that sum in a sandbox is worth. -/
noncomputable def Try.pinned : Pinned := { name := "ytdjnogcljmaapaa", sum := "d4306a44c3c4e958544a6b667b59a668f4daee8beaff6d61a993f64a18ffd947", checked := Try.checked }
namespace Rows
def none {H : Type} : Left H := { results := [], args := [] }

/-- 'laws.FnExactTypePermutation': WHATEVER THE INPUT: true; the input reads as it did. -/
def fnExactTypePermutationSpec : ChangeSpec := { name := "fnExactTypePermutation", fn := fun _ => fun
  | [d1, d2] => { results := [.lit (.bool true)], args := [d1, d2] }
  | _ => none }
def fnExactTypePermutationRow : OpenClaim := { program := "ytdjnogcljmaapaa", sum := "d4306a44c3c4e958544a6b667b59a668f4daee8beaff6d61a993f64a18ffd947", func := "loop.example/g03221/laws.FnExactTypePermutation", spec := "fnExactTypePermutation", apart := false }
def FnExactTypePermutationSaid : Prop := fnExactTypePermutationRow.holds Try.pinned (OpenSpec.ofChange fnExactTypePermutationSpec)

/-- ITS FALSE NEIGHBOUR: 'it returns false'. Refute it at one input. -/
def fnExactTypePermutationWrong : ChangeSpec := { name := "fnExactTypePermutation", fn := fun _ => fun
  | [d1, d2] => { results := [.lit (.bool false)], args := [d1, d2] }
  | _ => none }
def FnExactTypePermutationWrongFalsely : Prop := fnExactTypePermutationRow.holds Try.pinned (OpenSpec.ofChange fnExactTypePermutationWrong)

/-- 'laws.FnExactAllowsType': WHATEVER THE INPUT: true; the input reads as it did. -/
def fnExactAllowsTypeSpec : ChangeSpec := { name := "fnExactAllowsType", fn := fun _ => fun
  | [d1, d2] => { results := [.lit (.bool true)], args := [d1, d2] }
  | _ => none }
def fnExactAllowsTypeRow : OpenClaim := { program := "ytdjnogcljmaapaa", sum := "d4306a44c3c4e958544a6b667b59a668f4daee8beaff6d61a993f64a18ffd947", func := "loop.example/g03221/laws.FnExactAllowsType", spec := "fnExactAllowsType", apart := false }
def FnExactAllowsTypeSaid : Prop := fnExactAllowsTypeRow.holds Try.pinned (OpenSpec.ofChange fnExactAllowsTypeSpec)

/-- ITS FALSE NEIGHBOUR: 'it returns false'. Refute it at one input. -/
def fnExactAllowsTypeWrong : ChangeSpec := { name := "fnExactAllowsType", fn := fun _ => fun
  | [d1, d2] => { results := [.lit (.bool false)], args := [d1, d2] }
  | _ => none }
def FnExactAllowsTypeWrongFalsely : Prop := fnExactAllowsTypeRow.holds Try.pinned (OpenSpec.ofChange fnExactAllowsTypeWrong)

/-- 'laws.FnExactAllowedTypes': WHATEVER THE INPUT: true; the input reads as it did. -/
def fnExactAllowedTypesSpec : ChangeSpec := { name := "fnExactAllowedTypes", fn := fun _ => fun
  | [d1, d2] => { results := [.lit (.bool true)], args := [d1, d2] }
  | _ => none }
def fnExactAllowedTypesRow : OpenClaim := { program := "ytdjnogcljmaapaa", sum := "d4306a44c3c4e958544a6b667b59a668f4daee8beaff6d61a993f64a18ffd947", func := "loop.example/g03221/laws.FnExactAllowedTypes", spec := "fnExactAllowedTypes", apart := false }
def FnExactAllowedTypesSaid : Prop := fnExactAllowedTypesRow.holds Try.pinned (OpenSpec.ofChange fnExactAllowedTypesSpec)

/-- ITS FALSE NEIGHBOUR: 'it returns false'. Refute it at one input. -/
def fnExactAllowedTypesWrong : ChangeSpec := { name := "fnExactAllowedTypes", fn := fun _ => fun
  | [d1, d2] => { results := [.lit (.bool false)], args := [d1, d2] }
  | _ => none }
def FnExactAllowedTypesWrongFalsely : Prop := fnExactAllowedTypesRow.holds Try.pinned (OpenSpec.ofChange fnExactAllowedTypesWrong)

/-- 'laws.FnExactReductsOf': WHATEVER THE INPUT: true; the input reads as it did. -/
def fnExactReductsOfSpec : ChangeSpec := { name := "fnExactReductsOf", fn := fun _ => fun
  | [d1, d2] => { results := [.lit (.bool true)], args := [d1, d2] }
  | _ => none }
def fnExactReductsOfRow : OpenClaim := { program := "ytdjnogcljmaapaa", sum := "d4306a44c3c4e958544a6b667b59a668f4daee8beaff6d61a993f64a18ffd947", func := "loop.example/g03221/laws.FnExactReductsOf", spec := "fnExactReductsOf", apart := false }
def FnExactReductsOfSaid : Prop := fnExactReductsOfRow.holds Try.pinned (OpenSpec.ofChange fnExactReductsOfSpec)

/-- ITS FALSE NEIGHBOUR: 'it returns false'. Refute it at one input. -/
def fnExactReductsOfWrong : ChangeSpec := { name := "fnExactReductsOf", fn := fun _ => fun
  | [d1, d2] => { results := [.lit (.bool false)], args := [d1, d2] }
  | _ => none }
def FnExactReductsOfWrongFalsely : Prop := fnExactReductsOfRow.holds Try.pinned (OpenSpec.ofChange fnExactReductsOfWrong)

/-- 'laws.FnExactTraceReduction': WHATEVER THE INPUT: true; the input reads as it did. -/
def fnExactTraceReductionSpec : ChangeSpec := { name := "fnExactTraceReduction", fn := fun _ => fun
  | [d1, d2] => { results := [.lit (.bool true)], args := [d1, d2] }
  | _ => none }
def fnExactTraceReductionRow : OpenClaim := { program := "ytdjnogcljmaapaa", sum := "d4306a44c3c4e958544a6b667b59a668f4daee8beaff6d61a993f64a18ffd947", func := "loop.example/g03221/laws.FnExactTraceReduction", spec := "fnExactTraceReduction", apart := false }
def FnExactTraceReductionSaid : Prop := fnExactTraceReductionRow.holds Try.pinned (OpenSpec.ofChange fnExactTraceReductionSpec)

/-- ITS FALSE NEIGHBOUR: 'it returns false'. Refute it at one input. -/
def fnExactTraceReductionWrong : ChangeSpec := { name := "fnExactTraceReduction", fn := fun _ => fun
  | [d1, d2] => { results := [.lit (.bool false)], args := [d1, d2] }
  | _ => none }
def FnExactTraceReductionWrongFalsely : Prop := fnExactTraceReductionRow.holds Try.pinned (OpenSpec.ofChange fnExactTraceReductionWrong)

/-- 'laws.FnExactIsTerminology': WHATEVER THE INPUT: true; the input reads as it did. -/
def fnExactIsTerminologySpec : ChangeSpec := { name := "fnExactIsTerminology", fn := fun _ => fun
  | [d] => { results := [.lit (.bool true)], args := [d] }
  | _ => none }
def fnExactIsTerminologyRow : OpenClaim := { program := "ytdjnogcljmaapaa", sum := "d4306a44c3c4e958544a6b667b59a668f4daee8beaff6d61a993f64a18ffd947", func := "loop.example/g03221/laws.FnExactIsTerminology", spec := "fnExactIsTerminology", apart := false }
def FnExactIsTerminologySaid : Prop := fnExactIsTerminologyRow.holds Try.pinned (OpenSpec.ofChange fnExactIsTerminologySpec)

/-- ITS FALSE NEIGHBOUR: 'it returns false'. Refute it at one input. -/
def fnExactIsTerminologyWrong : ChangeSpec := { name := "fnExactIsTerminology", fn := fun _ => fun
  | [d] => { results := [.lit (.bool false)], args := [d] }
  | _ => none }
def FnExactIsTerminologyWrongFalsely : Prop := fnExactIsTerminologyRow.holds Try.pinned (OpenSpec.ofChange fnExactIsTerminologyWrong)

/-- 'laws.FnExactTermFor': WHATEVER THE INPUT: true; the input reads as it did. -/
def fnExactTermForSpec : ChangeSpec := { name := "fnExactTermFor", fn := fun _ => fun
  | [d1, d2] => { results := [.lit (.bool true)], args := [d1, d2] }
  | _ => none }
def fnExactTermForRow : OpenClaim := { program := "ytdjnogcljmaapaa", sum := "d4306a44c3c4e958544a6b667b59a668f4daee8beaff6d61a993f64a18ffd947", func := "loop.example/g03221/laws.FnExactTermFor", spec := "fnExactTermFor", apart := false }
def FnExactTermForSaid : Prop := fnExactTermForRow.holds Try.pinned (OpenSpec.ofChange fnExactTermForSpec)

/-- ITS FALSE NEIGHBOUR: 'it returns false'. Refute it at one input. -/
def fnExactTermForWrong : ChangeSpec := { name := "fnExactTermFor", fn := fun _ => fun
  | [d1, d2] => { results := [.lit (.bool false)], args := [d1, d2] }
  | _ => none }
def FnExactTermForWrongFalsely : Prop := fnExactTermForRow.holds Try.pinned (OpenSpec.ofChange fnExactTermForWrong)

/-- 'laws.FnExactNormalFormsOf': WHATEVER THE INPUT: true; the input reads as it did. -/
def fnExactNormalFormsOfSpec : ChangeSpec := { name := "fnExactNormalFormsOf", fn := fun _ => fun
  | [d1, d2] => { results := [.lit (.bool true)], args := [d1, d2] }
  | _ => none }
def fnExactNormalFormsOfRow : OpenClaim := { program := "ytdjnogcljmaapaa", sum := "d4306a44c3c4e958544a6b667b59a668f4daee8beaff6d61a993f64a18ffd947", func := "loop.example/g03221/laws.FnExactNormalFormsOf", spec := "fnExactNormalFormsOf", inPlace := ["internal/reflectlite.ValueOf", "internal/reflectlite.Swapper", "(internal/reflectlite.Value).Len"], unfollowed := true, recurses := true, apart := false }
def FnExactNormalFormsOfSaid : Prop := fnExactNormalFormsOfRow.holds Try.pinned (OpenSpec.ofChange fnExactNormalFormsOfSpec)

/-- ITS FALSE NEIGHBOUR: 'it returns false'. Refute it at one input. -/
def fnExactNormalFormsOfWrong : ChangeSpec := { name := "fnExactNormalFormsOf", fn := fun _ => fun
  | [d1, d2] => { results := [.lit (.bool false)], args := [d1, d2] }
  | _ => none }
def FnExactNormalFormsOfWrongFalsely : Prop := fnExactNormalFormsOfRow.holds Try.pinned (OpenSpec.ofChange fnExactNormalFormsOfWrong)

/-- 'laws.FnExactIsConfluent': WHATEVER THE INPUT: true; the input reads as it did. -/
def fnExactIsConfluentSpec : ChangeSpec := { name := "fnExactIsConfluent", fn := fun _ => fun
  | [d1, d2] => { results := [.lit (.bool true)], args := [d1, d2] }
  | _ => none }
def fnExactIsConfluentRow : OpenClaim := { program := "ytdjnogcljmaapaa", sum := "d4306a44c3c4e958544a6b667b59a668f4daee8beaff6d61a993f64a18ffd947", func := "loop.example/g03221/laws.FnExactIsConfluent", spec := "fnExactIsConfluent", inPlace := ["internal/reflectlite.ValueOf", "internal/reflectlite.Swapper", "(internal/reflectlite.Value).Len"], unfollowed := true, recurses := true, apart := false }
def FnExactIsConfluentSaid : Prop := fnExactIsConfluentRow.holds Try.pinned (OpenSpec.ofChange fnExactIsConfluentSpec)

/-- ITS FALSE NEIGHBOUR: 'it returns false'. Refute it at one input. -/
def fnExactIsConfluentWrong : ChangeSpec := { name := "fnExactIsConfluent", fn := fun _ => fun
  | [d1, d2] => { results := [.lit (.bool false)], args := [d1, d2] }
  | _ => none }
def FnExactIsConfluentWrongFalsely : Prop := fnExactIsConfluentRow.holds Try.pinned (OpenSpec.ofChange fnExactIsConfluentWrong)

/-- 'laws.FnExactSameDivision': WHATEVER THE INPUT: true; the input reads as it did. -/
def fnExactSameDivisionSpec : ChangeSpec := { name := "fnExactSameDivision", fn := fun _ => fun
  | [d1, d2, d3] => { results := [.lit (.bool true)], args := [d1, d2, d3] }
  | _ => none }
def fnExactSameDivisionRow : OpenClaim := { program := "ytdjnogcljmaapaa", sum := "d4306a44c3c4e958544a6b667b59a668f4daee8beaff6d61a993f64a18ffd947", func := "loop.example/g03221/laws.FnExactSameDivision", spec := "fnExactSameDivision", apart := false }
def FnExactSameDivisionSaid : Prop := fnExactSameDivisionRow.holds Try.pinned (OpenSpec.ofChange fnExactSameDivisionSpec)

/-- ITS FALSE NEIGHBOUR: 'it returns false'. Refute it at one input. -/
def fnExactSameDivisionWrong : ChangeSpec := { name := "fnExactSameDivision", fn := fun _ => fun
  | [d1, d2, d3] => { results := [.lit (.bool false)], args := [d1, d2, d3] }
  | _ => none }
def FnExactSameDivisionWrongFalsely : Prop := fnExactSameDivisionRow.holds Try.pinned (OpenSpec.ofChange fnExactSameDivisionWrong)

/-- 'laws.FnExactTermTable': WHATEVER THE INPUT: true; the input reads as it did. -/
def fnExactTermTableSpec : ChangeSpec := { name := "fnExactTermTable", fn := fun _ => fun
  | [d1, d2, d3] => { results := [.lit (.bool true)], args := [d1, d2, d3] }
  | _ => none }
def fnExactTermTableRow : OpenClaim := { program := "ytdjnogcljmaapaa", sum := "d4306a44c3c4e958544a6b667b59a668f4daee8beaff6d61a993f64a18ffd947", func := "loop.example/g03221/laws.FnExactTermTable", spec := "fnExactTermTable", apart := false }
def FnExactTermTableSaid : Prop := fnExactTermTableRow.holds Try.pinned (OpenSpec.ofChange fnExactTermTableSpec)

/-- ITS FALSE NEIGHBOUR: 'it returns false'. Refute it at one input. -/
def fnExactTermTableWrong : ChangeSpec := { name := "fnExactTermTable", fn := fun _ => fun
  | [d1, d2, d3] => { results := [.lit (.bool false)], args := [d1, d2, d3] }
  | _ => none }
def FnExactTermTableWrongFalsely : Prop := fnExactTermTableRow.holds Try.pinned (OpenSpec.ofChange fnExactTermTableWrong)

/-- 'laws.FnExactIsReciprocal': WHATEVER THE INPUT: true; the input reads as it did. -/
def fnExactIsReciprocalSpec : ChangeSpec := { name := "fnExactIsReciprocal", fn := fun _ => fun
  | [d1, d2] => { results := [.lit (.bool true)], args := [d1, d2] }
  | _ => none }
def fnExactIsReciprocalRow : OpenClaim := { program := "ytdjnogcljmaapaa", sum := "d4306a44c3c4e958544a6b667b59a668f4daee8beaff6d61a993f64a18ffd947", func := "loop.example/g03221/laws.FnExactIsReciprocal", spec := "fnExactIsReciprocal", unfollowed := true, recurses := true, apart := false }
def FnExactIsReciprocalSaid : Prop := fnExactIsReciprocalRow.holds Try.pinned (OpenSpec.ofChange fnExactIsReciprocalSpec)

/-- ITS FALSE NEIGHBOUR: 'it returns false'. Refute it at one input. -/
def fnExactIsReciprocalWrong : ChangeSpec := { name := "fnExactIsReciprocal", fn := fun _ => fun
  | [d1, d2] => { results := [.lit (.bool false)], args := [d1, d2] }
  | _ => none }
def FnExactIsReciprocalWrongFalsely : Prop := fnExactIsReciprocalRow.holds Try.pinned (OpenSpec.ofChange fnExactIsReciprocalWrong)

/- THE SECOND FORM. 'bulk': how many values and letters a reading holds, each counted each time it is reached (what is shared counts as often as it is met; a slice's spare places count too). A statement '..UptoSaid' is the law's where the arguments, and the package variables that the reading takes, are together of bulk at most 1048576: NARROWER than '..Said'. Prove '..Said' where nothing that the law and all that it calls make is longer than what came in: it says more and counts as full. Else prove '..UptoSaid'. A law counts once. -/
mutual
def uptoBulk {H : Type} : DataW H → Nat
  | .lit (.string bytes) => bytes.length + 1
  | .lit _ => 1
  | .nil => 1
  | .ptr d => uptoBulk d + 1
  | .slice elems spare => uptoBulkAll elems + uptoBulkAll spare + 1
  | .agg parts => uptoBulkAll parts + 1
  | .iface _ d => uptoBulk d + 1
  | .map entries => uptoBulkEntries entries + 1
  | .held _ => 1
def uptoBulkAll {H : Type} : List (DataW H) → Nat
  | [] => 0
  | d :: r => uptoBulk d + uptoBulkAll r
def uptoBulkEntries {H : Type} : List (Lit × DataW H) → Nat
  | [] => 0
  | x :: r => uptoBulkEntry x + uptoBulkEntries r
def uptoBulkEntry {H : Type} : Lit × DataW H → Nat
  | (.string bytes, d) => bytes.length + uptoBulk d + 1
  | (_, d) => uptoBulk d + 1
 end
def uptoSmall : (H : Type) → List (DataW H) → Bool := fun _ ds => decide (uptoBulkAll ds ≤ 1048576)
def OpenSpec.upto (s : _root_.Go.ChangeSpec) : _root_.Go.OpenSpec := { _root_.Go.OpenSpec.ofChange s with cond := some uptoSmall }

/-- 'laws.FnExactTypePermutation', WHERE WHAT IT READS IS OF BULK AT MOST 1048576: true; the input reads as it did. -/
def fnExactTypePermutationUptoRow : OpenClaim := { program := "ytdjnogcljmaapaa", sum := "d4306a44c3c4e958544a6b667b59a668f4daee8beaff6d61a993f64a18ffd947", func := "loop.example/g03221/laws.FnExactTypePermutation", spec := "fnExactTypePermutation", apart := false, narrowed := true }
def FnExactTypePermutationUptoSaid : Prop := fnExactTypePermutationUptoRow.holds Try.pinned (OpenSpec.upto fnExactTypePermutationSpec)

/-- 'laws.FnExactAllowsType', WHERE WHAT IT READS IS OF BULK AT MOST 1048576: true; the input reads as it did. -/
def fnExactAllowsTypeUptoRow : OpenClaim := { program := "ytdjnogcljmaapaa", sum := "d4306a44c3c4e958544a6b667b59a668f4daee8beaff6d61a993f64a18ffd947", func := "loop.example/g03221/laws.FnExactAllowsType", spec := "fnExactAllowsType", apart := false, narrowed := true }
def FnExactAllowsTypeUptoSaid : Prop := fnExactAllowsTypeUptoRow.holds Try.pinned (OpenSpec.upto fnExactAllowsTypeSpec)

/-- 'laws.FnExactAllowedTypes', WHERE WHAT IT READS IS OF BULK AT MOST 1048576: true; the input reads as it did. -/
def fnExactAllowedTypesUptoRow : OpenClaim := { program := "ytdjnogcljmaapaa", sum := "d4306a44c3c4e958544a6b667b59a668f4daee8beaff6d61a993f64a18ffd947", func := "loop.example/g03221/laws.FnExactAllowedTypes", spec := "fnExactAllowedTypes", apart := false, narrowed := true }
def FnExactAllowedTypesUptoSaid : Prop := fnExactAllowedTypesUptoRow.holds Try.pinned (OpenSpec.upto fnExactAllowedTypesSpec)

/-- 'laws.FnExactReductsOf', WHERE WHAT IT READS IS OF BULK AT MOST 1048576: true; the input reads as it did. -/
def fnExactReductsOfUptoRow : OpenClaim := { program := "ytdjnogcljmaapaa", sum := "d4306a44c3c4e958544a6b667b59a668f4daee8beaff6d61a993f64a18ffd947", func := "loop.example/g03221/laws.FnExactReductsOf", spec := "fnExactReductsOf", apart := false, narrowed := true }
def FnExactReductsOfUptoSaid : Prop := fnExactReductsOfUptoRow.holds Try.pinned (OpenSpec.upto fnExactReductsOfSpec)

/-- 'laws.FnExactTraceReduction', WHERE WHAT IT READS IS OF BULK AT MOST 1048576: true; the input reads as it did. -/
def fnExactTraceReductionUptoRow : OpenClaim := { program := "ytdjnogcljmaapaa", sum := "d4306a44c3c4e958544a6b667b59a668f4daee8beaff6d61a993f64a18ffd947", func := "loop.example/g03221/laws.FnExactTraceReduction", spec := "fnExactTraceReduction", apart := false, narrowed := true }
def FnExactTraceReductionUptoSaid : Prop := fnExactTraceReductionUptoRow.holds Try.pinned (OpenSpec.upto fnExactTraceReductionSpec)

/-- 'laws.FnExactIsTerminology', WHERE WHAT IT READS IS OF BULK AT MOST 1048576: true; the input reads as it did. -/
def fnExactIsTerminologyUptoRow : OpenClaim := { program := "ytdjnogcljmaapaa", sum := "d4306a44c3c4e958544a6b667b59a668f4daee8beaff6d61a993f64a18ffd947", func := "loop.example/g03221/laws.FnExactIsTerminology", spec := "fnExactIsTerminology", apart := false, narrowed := true }
def FnExactIsTerminologyUptoSaid : Prop := fnExactIsTerminologyUptoRow.holds Try.pinned (OpenSpec.upto fnExactIsTerminologySpec)

/-- 'laws.FnExactTermFor', WHERE WHAT IT READS IS OF BULK AT MOST 1048576: true; the input reads as it did. -/
def fnExactTermForUptoRow : OpenClaim := { program := "ytdjnogcljmaapaa", sum := "d4306a44c3c4e958544a6b667b59a668f4daee8beaff6d61a993f64a18ffd947", func := "loop.example/g03221/laws.FnExactTermFor", spec := "fnExactTermFor", apart := false, narrowed := true }
def FnExactTermForUptoSaid : Prop := fnExactTermForUptoRow.holds Try.pinned (OpenSpec.upto fnExactTermForSpec)

/-- 'laws.FnExactNormalFormsOf', WHERE WHAT IT READS IS OF BULK AT MOST 1048576: true; the input reads as it did. -/
def fnExactNormalFormsOfUptoRow : OpenClaim := { program := "ytdjnogcljmaapaa", sum := "d4306a44c3c4e958544a6b667b59a668f4daee8beaff6d61a993f64a18ffd947", func := "loop.example/g03221/laws.FnExactNormalFormsOf", spec := "fnExactNormalFormsOf", inPlace := ["internal/reflectlite.ValueOf", "internal/reflectlite.Swapper", "(internal/reflectlite.Value).Len"], unfollowed := true, recurses := true, apart := false, narrowed := true }
def FnExactNormalFormsOfUptoSaid : Prop := fnExactNormalFormsOfUptoRow.holds Try.pinned (OpenSpec.upto fnExactNormalFormsOfSpec)

/-- 'laws.FnExactIsConfluent', WHERE WHAT IT READS IS OF BULK AT MOST 1048576: true; the input reads as it did. -/
def fnExactIsConfluentUptoRow : OpenClaim := { program := "ytdjnogcljmaapaa", sum := "d4306a44c3c4e958544a6b667b59a668f4daee8beaff6d61a993f64a18ffd947", func := "loop.example/g03221/laws.FnExactIsConfluent", spec := "fnExactIsConfluent", inPlace := ["internal/reflectlite.ValueOf", "internal/reflectlite.Swapper", "(internal/reflectlite.Value).Len"], unfollowed := true, recurses := true, apart := false, narrowed := true }
def FnExactIsConfluentUptoSaid : Prop := fnExactIsConfluentUptoRow.holds Try.pinned (OpenSpec.upto fnExactIsConfluentSpec)

/-- 'laws.FnExactSameDivision', WHERE WHAT IT READS IS OF BULK AT MOST 1048576: true; the input reads as it did. -/
def fnExactSameDivisionUptoRow : OpenClaim := { program := "ytdjnogcljmaapaa", sum := "d4306a44c3c4e958544a6b667b59a668f4daee8beaff6d61a993f64a18ffd947", func := "loop.example/g03221/laws.FnExactSameDivision", spec := "fnExactSameDivision", apart := false, narrowed := true }
def FnExactSameDivisionUptoSaid : Prop := fnExactSameDivisionUptoRow.holds Try.pinned (OpenSpec.upto fnExactSameDivisionSpec)

/-- 'laws.FnExactTermTable', WHERE WHAT IT READS IS OF BULK AT MOST 1048576: true; the input reads as it did. -/
def fnExactTermTableUptoRow : OpenClaim := { program := "ytdjnogcljmaapaa", sum := "d4306a44c3c4e958544a6b667b59a668f4daee8beaff6d61a993f64a18ffd947", func := "loop.example/g03221/laws.FnExactTermTable", spec := "fnExactTermTable", apart := false, narrowed := true }
def FnExactTermTableUptoSaid : Prop := fnExactTermTableUptoRow.holds Try.pinned (OpenSpec.upto fnExactTermTableSpec)

/-- 'laws.FnExactIsReciprocal', WHERE WHAT IT READS IS OF BULK AT MOST 1048576: true; the input reads as it did. -/
def fnExactIsReciprocalUptoRow : OpenClaim := { program := "ytdjnogcljmaapaa", sum := "d4306a44c3c4e958544a6b667b59a668f4daee8beaff6d61a993f64a18ffd947", func := "loop.example/g03221/laws.FnExactIsReciprocal", spec := "fnExactIsReciprocal", unfollowed := true, recurses := true, apart := false, narrowed := true }
def FnExactIsReciprocalUptoSaid : Prop := fnExactIsReciprocalUptoRow.holds Try.pinned (OpenSpec.upto fnExactIsReciprocalSpec)

end Rows
end Go.Proofs.Ytdjnogcljmaapaa
