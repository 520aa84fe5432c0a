/-
  No cell of these rows narrows 'for every input' (looked for: loops, veiled, ifaces, maps, wideKeys, modest, calm, conditions, laid).
  DERIVED. THE GIVEN ROWS OF THIS SEAT. 5 by the template 'for every input the law returns true; each argument reads behind the call as it read before'; 0 by the template 'total and deterministic' (their statements: YtnfgdkbapffjcaaTotals.lean).
  GIVEN WITH THE SEED: the statements are not yours to turn. If you find one false, say at which input.
  Laid BY PROGRAM, IN A SANDBOX (cutbox-rows.mjs): the forced cells as the released guide's own fill.sh prints them over the translation e6d715d88b006d21… (all of the seat's roots in one cut). By AI agents, Wed Nov 11 2026. No macro, syntax, notation, axiom, sorry.
-/
import Derived.Test.YtnfgdkbapffjcaaChecked
import GoSem.Claim
import GoSem.ClaimJoined
import GoSem.ClaimMapViews
import Derived.JoinedTies
import Derived.KernelRfl
namespace Go.Proofs.Ytnfgdkbapffjcaa
/- THE CELL 'sum', in the pinned program and in every row, IS THE sha256 OF THE DUMP (.gsa) THAT YtnfgdkbapffjcaaProg.lean LOADS. Nothing in Lean hashes anything: it is a label: what it is worth is what the hold of that sum in a sandbox is worth. -/
noncomputable def Try.pinned : Pinned := { name := "ytnfgdkbapffjcaa", sum := "e6d715d88b006d21653fd0127d9a1154db8b906b35ae3f1dedb41cc2896da508", checked := Try.checked }
namespace Rows
def none {H : Type} : Left H := { results := [], args := [] }

/-- 'laws.FnExactSameDivision': WHATEVER THE INPUT: true; the input reads as it did. -/
def fnExactSameDivisionSpec : ChangeSpec := { name := "fnExactSameDivision", fn := fun _ => fun
  | [d1, d2, d3] => { results := [.lit (.bool true)], args := [d1, d2, d3] }
  | _ => none }
def fnExactSameDivisionRow : OpenClaim := { program := "ytnfgdkbapffjcaa", sum := "e6d715d88b006d21653fd0127d9a1154db8b906b35ae3f1dedb41cc2896da508", func := "loop.example/g03221/laws.FnExactSameDivision", spec := "fnExactSameDivision", apart := false }
def FnExactSameDivisionSaid : Prop := fnExactSameDivisionRow.holds Try.pinned (OpenSpec.ofChange fnExactSameDivisionSpec)

/-- ITS FALSE NEIGHBOUR: 'it returns false'. Refute it at one input. -/
def fnExactSameDivisionWrong : ChangeSpec := { name := "fnExactSameDivision", fn := fun _ => fun
  | [d1, d2, d3] => { results := [.lit (.bool false)], args := [d1, d2, d3] }
  | _ => none }
def FnExactSameDivisionWrongFalsely : Prop := fnExactSameDivisionRow.holds Try.pinned (OpenSpec.ofChange fnExactSameDivisionWrong)

/-- 'laws.FnExactIsReciprocal': WHATEVER THE INPUT: true; the input reads as it did. -/
def fnExactIsReciprocalSpec : ChangeSpec := { name := "fnExactIsReciprocal", fn := fun _ => fun
  | [d1, d2] => { results := [.lit (.bool true)], args := [d1, d2] }
  | _ => none }
def fnExactIsReciprocalRow : OpenClaim := { program := "ytnfgdkbapffjcaa", sum := "e6d715d88b006d21653fd0127d9a1154db8b906b35ae3f1dedb41cc2896da508", func := "loop.example/g03221/laws.FnExactIsReciprocal", spec := "fnExactIsReciprocal", unfollowed := true, recurses := true, apart := false }
def FnExactIsReciprocalSaid : Prop := fnExactIsReciprocalRow.holds Try.pinned (OpenSpec.ofChange fnExactIsReciprocalSpec)

/-- ITS FALSE NEIGHBOUR: 'it returns false'. Refute it at one input. -/
def fnExactIsReciprocalWrong : ChangeSpec := { name := "fnExactIsReciprocal", fn := fun _ => fun
  | [d1, d2] => { results := [.lit (.bool false)], args := [d1, d2] }
  | _ => none }
def FnExactIsReciprocalWrongFalsely : Prop := fnExactIsReciprocalRow.holds Try.pinned (OpenSpec.ofChange fnExactIsReciprocalWrong)

/-- 'laws.FnExactTypesCalled': WHATEVER THE INPUT: true; the input reads as it did. -/
def fnExactTypesCalledSpec : ChangeSpec := { name := "fnExactTypesCalled", fn := fun _ => fun
  | [d1, d2, d3, d4] => { results := [.lit (.bool true)], args := [d1, d2, d3, d4] }
  | _ => none }
def fnExactTypesCalledRow : OpenClaim := { program := "ytnfgdkbapffjcaa", sum := "e6d715d88b006d21653fd0127d9a1154db8b906b35ae3f1dedb41cc2896da508", func := "loop.example/g03221/laws.FnExactTypesCalled", spec := "fnExactTypesCalled", apart := false }
def FnExactTypesCalledSaid : Prop := fnExactTypesCalledRow.holds Try.pinned (OpenSpec.ofChange fnExactTypesCalledSpec)

/-- ITS FALSE NEIGHBOUR: 'it returns false'. Refute it at one input. -/
def fnExactTypesCalledWrong : ChangeSpec := { name := "fnExactTypesCalled", fn := fun _ => fun
  | [d1, d2, d3, d4] => { results := [.lit (.bool false)], args := [d1, d2, d3, d4] }
  | _ => none }
def FnExactTypesCalledWrongFalsely : Prop := fnExactTypesCalledRow.holds Try.pinned (OpenSpec.ofChange fnExactTypesCalledWrong)

/-- 'laws.FnExactTraceReduction': WHATEVER THE INPUT: true; the input reads as it did. -/
def fnExactTraceReductionSpec : ChangeSpec := { name := "fnExactTraceReduction", fn := fun _ => fun
  | [d1, d2] => { results := [.lit (.bool true)], args := [d1, d2] }
  | _ => none }
def fnExactTraceReductionRow : OpenClaim := { program := "ytnfgdkbapffjcaa", sum := "e6d715d88b006d21653fd0127d9a1154db8b906b35ae3f1dedb41cc2896da508", func := "loop.example/g03221/laws.FnExactTraceReduction", spec := "fnExactTraceReduction", apart := false }
def FnExactTraceReductionSaid : Prop := fnExactTraceReductionRow.holds Try.pinned (OpenSpec.ofChange fnExactTraceReductionSpec)

/-- ITS FALSE NEIGHBOUR: 'it returns false'. Refute it at one input. -/
def fnExactTraceReductionWrong : ChangeSpec := { name := "fnExactTraceReduction", fn := fun _ => fun
  | [d1, d2] => { results := [.lit (.bool false)], args := [d1, d2] }
  | _ => none }
def FnExactTraceReductionWrongFalsely : Prop := fnExactTraceReductionRow.holds Try.pinned (OpenSpec.ofChange fnExactTraceReductionWrong)

/-- 'laws.FnExactFormatTerminology': WHATEVER THE INPUT: true; the input reads as it did. -/
def fnExactFormatTerminologySpec : ChangeSpec := { name := "fnExactFormatTerminology", fn := fun _ => fun
  | [d] => { results := [.lit (.bool true)], args := [d] }
  | _ => none }
def fnExactFormatTerminologyRow : OpenClaim := { program := "ytnfgdkbapffjcaa", sum := "e6d715d88b006d21653fd0127d9a1154db8b906b35ae3f1dedb41cc2896da508", func := "loop.example/g03221/laws.FnExactFormatTerminology", spec := "fnExactFormatTerminology", apart := false }
def FnExactFormatTerminologySaid : Prop := fnExactFormatTerminologyRow.holds Try.pinned (OpenSpec.ofChange fnExactFormatTerminologySpec)

/-- ITS FALSE NEIGHBOUR: 'it returns false'. Refute it at one input. -/
def fnExactFormatTerminologyWrong : ChangeSpec := { name := "fnExactFormatTerminology", fn := fun _ => fun
  | [d] => { results := [.lit (.bool false)], args := [d] }
  | _ => none }
def FnExactFormatTerminologyWrongFalsely : Prop := fnExactFormatTerminologyRow.holds Try.pinned (OpenSpec.ofChange fnExactFormatTerminologyWrong)

/- THE SECOND FORM. 'bulk': how many values and letters a reading holds, each counted each time it is reached (what is shared counts as often as it is met; a slice's spare places count too). A statement '..UptoSaid' is the law's where the arguments, and the package variables that the reading takes, are together of bulk at most 1048576: NARROWER than '..Said'. Prove '..Said' where nothing that the law and all that it calls make is longer than what came in: it says more and counts as full. Else prove '..UptoSaid'. A law counts once. -/
mutual
def uptoBulk {H : Type} : DataW H → Nat
  | .lit (.string bytes) => bytes.length + 1
  | .lit _ => 1
  | .nil => 1
  | .ptr d => uptoBulk d + 1
  | .slice elems spare => uptoBulkAll elems + uptoBulkAll spare + 1
  | .agg parts => uptoBulkAll parts + 1
  | .iface _ d => uptoBulk d + 1
  | .map entries => uptoBulkEntries entries + 1
  | .held _ => 1
def uptoBulkAll {H : Type} : List (DataW H) → Nat
  | [] => 0
  | d :: r => uptoBulk d + uptoBulkAll r
def uptoBulkEntries {H : Type} : List (Lit × DataW H) → Nat
  | [] => 0
  | x :: r => uptoBulkEntry x + uptoBulkEntries r
def uptoBulkEntry {H : Type} : Lit × DataW H → Nat
  | (.string bytes, d) => bytes.length + uptoBulk d + 1
  | (_, d) => uptoBulk d + 1
 end
def uptoSmall : (H : Type) → List (DataW H) → Bool := fun _ ds => decide (uptoBulkAll ds ≤ 1048576)
def OpenSpec.upto (s : _root_.Go.ChangeSpec) : _root_.Go.OpenSpec := { _root_.Go.OpenSpec.ofChange s with cond := some uptoSmall }

/-- 'laws.FnExactSameDivision', WHERE WHAT IT READS IS OF BULK AT MOST 1048576: true; the input reads as it did. -/
def fnExactSameDivisionUptoRow : OpenClaim := { program := "ytnfgdkbapffjcaa", sum := "e6d715d88b006d21653fd0127d9a1154db8b906b35ae3f1dedb41cc2896da508", func := "loop.example/g03221/laws.FnExactSameDivision", spec := "fnExactSameDivision", apart := false, narrowed := true }
def FnExactSameDivisionUptoSaid : Prop := fnExactSameDivisionUptoRow.holds Try.pinned (OpenSpec.upto fnExactSameDivisionSpec)

/-- 'laws.FnExactIsReciprocal', WHERE WHAT IT READS IS OF BULK AT MOST 1048576: true; the input reads as it did. -/
def fnExactIsReciprocalUptoRow : OpenClaim := { program := "ytnfgdkbapffjcaa", sum := "e6d715d88b006d21653fd0127d9a1154db8b906b35ae3f1dedb41cc2896da508", func := "loop.example/g03221/laws.FnExactIsReciprocal", spec := "fnExactIsReciprocal", unfollowed := true, recurses := true, apart := false, narrowed := true }
def FnExactIsReciprocalUptoSaid : Prop := fnExactIsReciprocalUptoRow.holds Try.pinned (OpenSpec.upto fnExactIsReciprocalSpec)

/-- 'laws.FnExactTypesCalled', WHERE WHAT IT READS IS OF BULK AT MOST 1048576: true; the input reads as it did. -/
def fnExactTypesCalledUptoRow : OpenClaim := { program := "ytnfgdkbapffjcaa", sum := "e6d715d88b006d21653fd0127d9a1154db8b906b35ae3f1dedb41cc2896da508", func := "loop.example/g03221/laws.FnExactTypesCalled", spec := "fnExactTypesCalled", apart := false, narrowed := true }
def FnExactTypesCalledUptoSaid : Prop := fnExactTypesCalledUptoRow.holds Try.pinned (OpenSpec.upto fnExactTypesCalledSpec)

/-- 'laws.FnExactTraceReduction', WHERE WHAT IT READS IS OF BULK AT MOST 1048576: true; the input reads as it did. -/
def fnExactTraceReductionUptoRow : OpenClaim := { program := "ytnfgdkbapffjcaa", sum := "e6d715d88b006d21653fd0127d9a1154db8b906b35ae3f1dedb41cc2896da508", func := "loop.example/g03221/laws.FnExactTraceReduction", spec := "fnExactTraceReduction", apart := false, narrowed := true }
def FnExactTraceReductionUptoSaid : Prop := fnExactTraceReductionUptoRow.holds Try.pinned (OpenSpec.upto fnExactTraceReductionSpec)

/-- 'laws.FnExactFormatTerminology', WHERE WHAT IT READS IS OF BULK AT MOST 1048576: true; the input reads as it did. -/
def fnExactFormatTerminologyUptoRow : OpenClaim := { program := "ytnfgdkbapffjcaa", sum := "e6d715d88b006d21653fd0127d9a1154db8b906b35ae3f1dedb41cc2896da508", func := "loop.example/g03221/laws.FnExactFormatTerminology", spec := "fnExactFormatTerminology", apart := false, narrowed := true }
def FnExactFormatTerminologyUptoSaid : Prop := fnExactFormatTerminologyUptoRow.holds Try.pinned (OpenSpec.upto fnExactFormatTerminologySpec)

end Rows
end Go.Proofs.Ytnfgdkbapffjcaa
