/-
  No cell of these rows narrows 'for every input' (looked for: loops, veiled, ifaces, maps, wideKeys, modest, calm, conditions, laid).
  DERIVED. THE GIVEN ROWS OF THIS SEAT. 4 by the template 'for every input the law returns true; each argument reads behind the call as it read before'; 0 by the template 'total and deterministic' (their statements: YtlfpnncjdoaelaaTotals.lean).
  GIVEN WITH THE SEED: the statements are not yours to turn. If you find one false, say at which input.
  Laid BY PROGRAM, IN A SANDBOX (cutbox-rows.mjs): the forced cells as the released guide's own fill.sh prints them over the translation 46450effaf55a4fa… (all of the seat's roots in one cut). By AI agents, Wed Nov 11 2026. No macro, syntax, notation, axiom, sorry.
-/
import Derived.Test.YtlfpnncjdoaelaaChecked
import GoSem.Claim
import GoSem.ClaimJoined
import GoSem.ClaimMapViews
import Derived.JoinedTies
import Derived.KernelRfl
namespace Go.Proofs.Ytlfpnncjdoaelaa
/- THE CELL 'sum', in the pinned program and in every row, IS THE sha256 OF THE DUMP (.gsa) THAT YtlfpnncjdoaelaaProg.lean LOADS. Nothing in Lean hashes anything: it is a label: what it is worth is what the hold of that sum in a sandbox is worth. -/
noncomputable def Try.pinned : Pinned := { name := "ytlfpnncjdoaelaa", sum := "46450effaf55a4fa972ec5dac0460f9e2c565eaa45d65a4401e257bb5c927ca7", checked := Try.checked }
namespace Rows
def none {H : Type} : Left H := { results := [], args := [] }

/-- 'laws.FnExactSampleRules': WHATEVER THE INPUT: true; the input reads as it did. -/
def fnExactSampleRulesSpec : ChangeSpec := { name := "fnExactSampleRules", fn := fun _ => fun
  | [d] => { results := [.lit (.bool true)], args := [d] }
  | _ => none }
def fnExactSampleRulesRow : OpenClaim := { program := "ytlfpnncjdoaelaa", sum := "46450effaf55a4fa972ec5dac0460f9e2c565eaa45d65a4401e257bb5c927ca7", func := "loop.example/g03221/laws.FnExactSampleRules", spec := "fnExactSampleRules", inPlace := ["internal/bytealg.IndexByteString", "internal/bytealg.IndexString"], named := ["internal/bytealg.MaxLen"], apart := false }
def FnExactSampleRulesSaid : Prop := fnExactSampleRulesRow.holds Try.pinned (OpenSpec.ofChange fnExactSampleRulesSpec)

/-- ITS FALSE NEIGHBOUR: 'it returns false'. Refute it at one input. -/
def fnExactSampleRulesWrong : ChangeSpec := { name := "fnExactSampleRules", fn := fun _ => fun
  | [d] => { results := [.lit (.bool false)], args := [d] }
  | _ => none }
def FnExactSampleRulesWrongFalsely : Prop := fnExactSampleRulesRow.holds Try.pinned (OpenSpec.ofChange fnExactSampleRulesWrong)

/-- 'laws.FnExactSampleTerminology': WHATEVER THE INPUT: true; the input reads as it did. -/
def fnExactSampleTerminologySpec : ChangeSpec := { name := "fnExactSampleTerminology", fn := fun _ => fun
  | [d] => { results := [.lit (.bool true)], args := [d] }
  | _ => none }
def fnExactSampleTerminologyRow : OpenClaim := { program := "ytlfpnncjdoaelaa", sum := "46450effaf55a4fa972ec5dac0460f9e2c565eaa45d65a4401e257bb5c927ca7", func := "loop.example/g03221/laws.FnExactSampleTerminology", spec := "fnExactSampleTerminology", inPlace := ["internal/bytealg.IndexByteString", "internal/bytealg.IndexString"], named := ["internal/bytealg.MaxLen"], apart := false }
def FnExactSampleTerminologySaid : Prop := fnExactSampleTerminologyRow.holds Try.pinned (OpenSpec.ofChange fnExactSampleTerminologySpec)

/-- ITS FALSE NEIGHBOUR: 'it returns false'. Refute it at one input. -/
def fnExactSampleTerminologyWrong : ChangeSpec := { name := "fnExactSampleTerminology", fn := fun _ => fun
  | [d] => { results := [.lit (.bool false)], args := [d] }
  | _ => none }
def FnExactSampleTerminologyWrongFalsely : Prop := fnExactSampleTerminologyRow.holds Try.pinned (OpenSpec.ofChange fnExactSampleTerminologyWrong)

/-- 'laws.FnRules': WHATEVER THE INPUT: true; the input reads as it did. -/
def fnRulesSpec : ChangeSpec := { name := "fnRules", fn := fun _ => fun
  | [d] => { results := [.lit (.bool true)], args := [d] }
  | _ => none }
def fnRulesRow : OpenClaim := { program := "ytlfpnncjdoaelaa", sum := "46450effaf55a4fa972ec5dac0460f9e2c565eaa45d65a4401e257bb5c927ca7", func := "loop.example/g03221/laws.FnRules", spec := "fnRules", inPlace := ["internal/bytealg.IndexByteString", "internal/bytealg.IndexString"], named := ["internal/bytealg.MaxLen"], apart := false }
def FnRulesSaid : Prop := fnRulesRow.holds Try.pinned (OpenSpec.ofChange fnRulesSpec)

/-- ITS FALSE NEIGHBOUR: 'it returns false'. Refute it at one input. -/
def fnRulesWrong : ChangeSpec := { name := "fnRules", fn := fun _ => fun
  | [d] => { results := [.lit (.bool false)], args := [d] }
  | _ => none }
def FnRulesWrongFalsely : Prop := fnRulesRow.holds Try.pinned (OpenSpec.ofChange fnRulesWrong)

/-- 'laws.FnFound': WHATEVER THE INPUT: true; the input reads as it did. -/
def fnFoundSpec : ChangeSpec := { name := "fnFound", fn := fun _ => fun
  | [d] => { results := [.lit (.bool true)], args := [d] }
  | _ => none }
def fnFoundRow : OpenClaim := { program := "ytlfpnncjdoaelaa", sum := "46450effaf55a4fa972ec5dac0460f9e2c565eaa45d65a4401e257bb5c927ca7", func := "loop.example/g03221/laws.FnFound", spec := "fnFound", recurses := true, apart := false }
def FnFoundSaid : Prop := fnFoundRow.holds Try.pinned (OpenSpec.ofChange fnFoundSpec)

/-- ITS FALSE NEIGHBOUR: 'it returns false'. Refute it at one input. -/
def fnFoundWrong : ChangeSpec := { name := "fnFound", fn := fun _ => fun
  | [d] => { results := [.lit (.bool false)], args := [d] }
  | _ => none }
def FnFoundWrongFalsely : Prop := fnFoundRow.holds Try.pinned (OpenSpec.ofChange fnFoundWrong)

/- THE SECOND FORM. 'bulk': how many values and letters a reading holds, each counted each time it is reached (what is shared counts as often as it is met; a slice's spare places count too). A statement '..UptoSaid' is the law's where the arguments, and the package variables that the reading takes, are together of bulk at most 1048576: NARROWER than '..Said'. Prove '..Said' where nothing that the law and all that it calls make is longer than what came in: it says more and counts as full. Else prove '..UptoSaid'. A law counts once. -/
mutual
def uptoBulk {H : Type} : DataW H → Nat
  | .lit (.string bytes) => bytes.length + 1
  | .lit _ => 1
  | .nil => 1
  | .ptr d => uptoBulk d + 1
  | .slice elems spare => uptoBulkAll elems + uptoBulkAll spare + 1
  | .agg parts => uptoBulkAll parts + 1
  | .iface _ d => uptoBulk d + 1
  | .map entries => uptoBulkEntries entries + 1
  | .held _ => 1
def uptoBulkAll {H : Type} : List (DataW H) → Nat
  | [] => 0
  | d :: r => uptoBulk d + uptoBulkAll r
def uptoBulkEntries {H : Type} : List (Lit × DataW H) → Nat
  | [] => 0
  | x :: r => uptoBulkEntry x + uptoBulkEntries r
def uptoBulkEntry {H : Type} : Lit × DataW H → Nat
  | (.string bytes, d) => bytes.length + uptoBulk d + 1
  | (_, d) => uptoBulk d + 1
 end
def uptoSmall : (H : Type) → List (DataW H) → Bool := fun _ ds => decide (uptoBulkAll ds ≤ 1048576)
def OpenSpec.upto (s : _root_.Go.ChangeSpec) : _root_.Go.OpenSpec := { _root_.Go.OpenSpec.ofChange s with cond := some uptoSmall }

/-- 'laws.FnExactSampleRules', WHERE WHAT IT READS IS OF BULK AT MOST 1048576: true; the input reads as it did. -/
def fnExactSampleRulesUptoRow : OpenClaim := { program := "ytlfpnncjdoaelaa", sum := "46450effaf55a4fa972ec5dac0460f9e2c565eaa45d65a4401e257bb5c927ca7", func := "loop.example/g03221/laws.FnExactSampleRules", spec := "fnExactSampleRules", inPlace := ["internal/bytealg.IndexByteString", "internal/bytealg.IndexString"], named := ["internal/bytealg.MaxLen"], apart := false, narrowed := true }
def FnExactSampleRulesUptoSaid : Prop := fnExactSampleRulesUptoRow.holds Try.pinned (OpenSpec.upto fnExactSampleRulesSpec)

/-- 'laws.FnExactSampleTerminology', WHERE WHAT IT READS IS OF BULK AT MOST 1048576: true; the input reads as it did. -/
def fnExactSampleTerminologyUptoRow : OpenClaim := { program := "ytlfpnncjdoaelaa", sum := "46450effaf55a4fa972ec5dac0460f9e2c565eaa45d65a4401e257bb5c927ca7", func := "loop.example/g03221/laws.FnExactSampleTerminology", spec := "fnExactSampleTerminology", inPlace := ["internal/bytealg.IndexByteString", "internal/bytealg.IndexString"], named := ["internal/bytealg.MaxLen"], apart := false, narrowed := true }
def FnExactSampleTerminologyUptoSaid : Prop := fnExactSampleTerminologyUptoRow.holds Try.pinned (OpenSpec.upto fnExactSampleTerminologySpec)

/-- 'laws.FnRules', WHERE WHAT IT READS IS OF BULK AT MOST 1048576: true; the input reads as it did. -/
def fnRulesUptoRow : OpenClaim := { program := "ytlfpnncjdoaelaa", sum := "46450effaf55a4fa972ec5dac0460f9e2c565eaa45d65a4401e257bb5c927ca7", func := "loop.example/g03221/laws.FnRules", spec := "fnRules", inPlace := ["internal/bytealg.IndexByteString", "internal/bytealg.IndexString"], named := ["internal/bytealg.MaxLen"], apart := false, narrowed := true }
def FnRulesUptoSaid : Prop := fnRulesUptoRow.holds Try.pinned (OpenSpec.upto fnRulesSpec)

/-- 'laws.FnFound', WHERE WHAT IT READS IS OF BULK AT MOST 1048576: true; the input reads as it did. -/
def fnFoundUptoRow : OpenClaim := { program := "ytlfpnncjdoaelaa", sum := "46450effaf55a4fa972ec5dac0460f9e2c565eaa45d65a4401e257bb5c927ca7", func := "loop.example/g03221/laws.FnFound", spec := "fnFound", recurses := true, apart := false, narrowed := true }
def FnFoundUptoSaid : Prop := fnFoundUptoRow.holds Try.pinned (OpenSpec.upto fnFoundSpec)

end Rows
end Go.Proofs.Ytlfpnncjdoaelaa
