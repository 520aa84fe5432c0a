/-
  No cell of these rows narrows 'for every input' (looked for: loops, veiled, ifaces, maps, wideKeys, modest, calm, conditions, laid).
  DERIVED. THE GIVEN ROWS OF THIS SEAT. 4 by the template 'for every input the law returns true; each argument reads behind the call as it read before'; 0 by the template 'total and deterministic' (their statements: YtoipdgoejichbaaTotals.lean).
  GIVEN WITH THE SEED: the statements are not yours to turn. If you find one false, say at which input.
  Laid BY PROGRAM, IN A SANDBOX (cutbox-rows.mjs): the forced cells as the released guide's own fill.sh prints them over the translation ad0a07b5de9116f3… (all of the seat's roots in one cut). By AI agents, Wed Nov 11 2026. No macro, syntax, notation, axiom, sorry.
-/
import Derived.Test.YtoipdgoejichbaaChecked
import GoSem.Claim
import GoSem.ClaimJoined
import GoSem.ClaimMapViews
import Derived.JoinedTies
import Derived.KernelRfl
namespace Go.Proofs.Ytoipdgoejichbaa
/- THE CELL 'sum', in the pinned program and in every row, IS THE sha256 OF THE DUMP (.gsa) THAT YtoipdgoejichbaaProg.lean LOADS. Nothing in Lean hashes anything: it is a label: what it is worth is what the hold of that sum in a sandbox is worth. -/
noncomputable def Try.pinned : Pinned := { name := "ytoipdgoejichbaa", sum := "ad0a07b5de9116f3d2d34599d4f43a9c4edf4af1a3ea442d3340b9f318af78d0", checked := Try.checked }
namespace Rows
def none {H : Type} : Left H := { results := [], args := [] }

/-- 'laws.FnExactIsConfluent': WHATEVER THE INPUT: true; the input reads as it did. -/
def fnExactIsConfluentSpec : ChangeSpec := { name := "fnExactIsConfluent", fn := fun _ => fun
  | [d1, d2] => { results := [.lit (.bool true)], args := [d1, d2] }
  | _ => none }
def fnExactIsConfluentRow : OpenClaim := { program := "ytoipdgoejichbaa", sum := "ad0a07b5de9116f3d2d34599d4f43a9c4edf4af1a3ea442d3340b9f318af78d0", func := "loop.example/g03221/laws.FnExactIsConfluent", spec := "fnExactIsConfluent", inPlace := ["internal/reflectlite.ValueOf", "internal/reflectlite.Swapper", "(internal/reflectlite.Value).Len"], unfollowed := true, recurses := true, apart := false }
def FnExactIsConfluentSaid : Prop := fnExactIsConfluentRow.holds Try.pinned (OpenSpec.ofChange fnExactIsConfluentSpec)

/-- ITS FALSE NEIGHBOUR: 'it returns false'. Refute it at one input. -/
def fnExactIsConfluentWrong : ChangeSpec := { name := "fnExactIsConfluent", fn := fun _ => fun
  | [d1, d2] => { results := [.lit (.bool false)], args := [d1, d2] }
  | _ => none }
def FnExactIsConfluentWrongFalsely : Prop := fnExactIsConfluentRow.holds Try.pinned (OpenSpec.ofChange fnExactIsConfluentWrong)

/-- 'laws.FnConfluent': WHATEVER THE INPUT: true; the input reads as it did. -/
def fnConfluentSpec : ChangeSpec := { name := "fnConfluent", fn := fun _ => fun
  | [d] => { results := [.lit (.bool true)], args := [d] }
  | _ => none }
def fnConfluentRow : OpenClaim := { program := "ytoipdgoejichbaa", sum := "ad0a07b5de9116f3d2d34599d4f43a9c4edf4af1a3ea442d3340b9f318af78d0", func := "loop.example/g03221/laws.FnConfluent", spec := "fnConfluent", inPlace := ["internal/reflectlite.ValueOf", "internal/reflectlite.Swapper", "(internal/reflectlite.Value).Len"], unfollowed := true, recurses := true, apart := false }
def FnConfluentSaid : Prop := fnConfluentRow.holds Try.pinned (OpenSpec.ofChange fnConfluentSpec)

/-- ITS FALSE NEIGHBOUR: 'it returns false'. Refute it at one input. -/
def fnConfluentWrong : ChangeSpec := { name := "fnConfluent", fn := fun _ => fun
  | [d] => { results := [.lit (.bool false)], args := [d] }
  | _ => none }
def FnConfluentWrongFalsely : Prop := fnConfluentRow.holds Try.pinned (OpenSpec.ofChange fnConfluentWrong)

/-- 'laws.FnExactNormalFormsOf': WHATEVER THE INPUT: true; the input reads as it did. -/
def fnExactNormalFormsOfSpec : ChangeSpec := { name := "fnExactNormalFormsOf", fn := fun _ => fun
  | [d1, d2] => { results := [.lit (.bool true)], args := [d1, d2] }
  | _ => none }
def fnExactNormalFormsOfRow : OpenClaim := { program := "ytoipdgoejichbaa", sum := "ad0a07b5de9116f3d2d34599d4f43a9c4edf4af1a3ea442d3340b9f318af78d0", func := "loop.example/g03221/laws.FnExactNormalFormsOf", spec := "fnExactNormalFormsOf", inPlace := ["internal/reflectlite.ValueOf", "internal/reflectlite.Swapper", "(internal/reflectlite.Value).Len"], unfollowed := true, recurses := true, apart := false }
def FnExactNormalFormsOfSaid : Prop := fnExactNormalFormsOfRow.holds Try.pinned (OpenSpec.ofChange fnExactNormalFormsOfSpec)

/-- ITS FALSE NEIGHBOUR: 'it returns false'. Refute it at one input. -/
def fnExactNormalFormsOfWrong : ChangeSpec := { name := "fnExactNormalFormsOf", fn := fun _ => fun
  | [d1, d2] => { results := [.lit (.bool false)], args := [d1, d2] }
  | _ => none }
def FnExactNormalFormsOfWrongFalsely : Prop := fnExactNormalFormsOfRow.holds Try.pinned (OpenSpec.ofChange fnExactNormalFormsOfWrong)

/-- 'laws.FnReduced': WHATEVER THE INPUT: true; the input reads as it did. -/
def fnReducedSpec : ChangeSpec := { name := "fnReduced", fn := fun _ => fun
  | [d] => { results := [.lit (.bool true)], args := [d] }
  | _ => none }
def fnReducedRow : OpenClaim := { program := "ytoipdgoejichbaa", sum := "ad0a07b5de9116f3d2d34599d4f43a9c4edf4af1a3ea442d3340b9f318af78d0", func := "loop.example/g03221/laws.FnReduced", spec := "fnReduced", inPlace := ["internal/reflectlite.ValueOf", "internal/reflectlite.Swapper", "(internal/reflectlite.Value).Len"], unfollowed := true, recurses := true, apart := false }
def FnReducedSaid : Prop := fnReducedRow.holds Try.pinned (OpenSpec.ofChange fnReducedSpec)

/-- ITS FALSE NEIGHBOUR: 'it returns false'. Refute it at one input. -/
def fnReducedWrong : ChangeSpec := { name := "fnReduced", fn := fun _ => fun
  | [d] => { results := [.lit (.bool false)], args := [d] }
  | _ => none }
def FnReducedWrongFalsely : Prop := fnReducedRow.holds Try.pinned (OpenSpec.ofChange fnReducedWrong)

/- THE SECOND FORM. 'bulk': how many values and letters a reading holds, each counted each time it is reached (what is shared counts as often as it is met; a slice's spare places count too). A statement '..UptoSaid' is the law's where the arguments, and the package variables that the reading takes, are together of bulk at most 1048576: NARROWER than '..Said'. Prove '..Said' where nothing that the law and all that it calls make is longer than what came in: it says more and counts as full. Else prove '..UptoSaid'. A law counts once. -/
mutual
def uptoBulk {H : Type} : DataW H → Nat
  | .lit (.string bytes) => bytes.length + 1
  | .lit _ => 1
  | .nil => 1
  | .ptr d => uptoBulk d + 1
  | .slice elems spare => uptoBulkAll elems + uptoBulkAll spare + 1
  | .agg parts => uptoBulkAll parts + 1
  | .iface _ d => uptoBulk d + 1
  | .map entries => uptoBulkEntries entries + 1
  | .held _ => 1
def uptoBulkAll {H : Type} : List (DataW H) → Nat
  | [] => 0
  | d :: r => uptoBulk d + uptoBulkAll r
def uptoBulkEntries {H : Type} : List (Lit × DataW H) → Nat
  | [] => 0
  | x :: r => uptoBulkEntry x + uptoBulkEntries r
def uptoBulkEntry {H : Type} : Lit × DataW H → Nat
  | (.string bytes, d) => bytes.length + uptoBulk d + 1
  | (_, d) => uptoBulk d + 1
 end
def uptoSmall : (H : Type) → List (DataW H) → Bool := fun _ ds => decide (uptoBulkAll ds ≤ 1048576)
def OpenSpec.upto (s : _root_.Go.ChangeSpec) : _root_.Go.OpenSpec := { _root_.Go.OpenSpec.ofChange s with cond := some uptoSmall }

/-- 'laws.FnExactIsConfluent', WHERE WHAT IT READS IS OF BULK AT MOST 1048576: true; the input reads as it did. -/
def fnExactIsConfluentUptoRow : OpenClaim := { program := "ytoipdgoejichbaa", sum := "ad0a07b5de9116f3d2d34599d4f43a9c4edf4af1a3ea442d3340b9f318af78d0", func := "loop.example/g03221/laws.FnExactIsConfluent", spec := "fnExactIsConfluent", inPlace := ["internal/reflectlite.ValueOf", "internal/reflectlite.Swapper", "(internal/reflectlite.Value).Len"], unfollowed := true, recurses := true, apart := false, narrowed := true }
def FnExactIsConfluentUptoSaid : Prop := fnExactIsConfluentUptoRow.holds Try.pinned (OpenSpec.upto fnExactIsConfluentSpec)

/-- 'laws.FnConfluent', WHERE WHAT IT READS IS OF BULK AT MOST 1048576: true; the input reads as it did. -/
def fnConfluentUptoRow : OpenClaim := { program := "ytoipdgoejichbaa", sum := "ad0a07b5de9116f3d2d34599d4f43a9c4edf4af1a3ea442d3340b9f318af78d0", func := "loop.example/g03221/laws.FnConfluent", spec := "fnConfluent", inPlace := ["internal/reflectlite.ValueOf", "internal/reflectlite.Swapper", "(internal/reflectlite.Value).Len"], unfollowed := true, recurses := true, apart := false, narrowed := true }
def FnConfluentUptoSaid : Prop := fnConfluentUptoRow.holds Try.pinned (OpenSpec.upto fnConfluentSpec)

/-- 'laws.FnExactNormalFormsOf', WHERE WHAT IT READS IS OF BULK AT MOST 1048576: true; the input reads as it did. -/
def fnExactNormalFormsOfUptoRow : OpenClaim := { program := "ytoipdgoejichbaa", sum := "ad0a07b5de9116f3d2d34599d4f43a9c4edf4af1a3ea442d3340b9f318af78d0", func := "loop.example/g03221/laws.FnExactNormalFormsOf", spec := "fnExactNormalFormsOf", inPlace := ["internal/reflectlite.ValueOf", "internal/reflectlite.Swapper", "(internal/reflectlite.Value).Len"], unfollowed := true, recurses := true, apart := false, narrowed := true }
def FnExactNormalFormsOfUptoSaid : Prop := fnExactNormalFormsOfUptoRow.holds Try.pinned (OpenSpec.upto fnExactNormalFormsOfSpec)

/-- 'laws.FnReduced', WHERE WHAT IT READS IS OF BULK AT MOST 1048576: true; the input reads as it did. -/
def fnReducedUptoRow : OpenClaim := { program := "ytoipdgoejichbaa", sum := "ad0a07b5de9116f3d2d34599d4f43a9c4edf4af1a3ea442d3340b9f318af78d0", func := "loop.example/g03221/laws.FnReduced", spec := "fnReduced", inPlace := ["internal/reflectlite.ValueOf", "internal/reflectlite.Swapper", "(internal/reflectlite.Value).Len"], unfollowed := true, recurses := true, apart := false, narrowed := true }
def FnReducedUptoSaid : Prop := fnReducedUptoRow.holds Try.pinned (OpenSpec.upto fnReducedSpec)

end Rows
end Go.Proofs.Ytoipdgoejichbaa
