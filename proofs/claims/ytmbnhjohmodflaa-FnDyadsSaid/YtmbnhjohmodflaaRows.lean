/-
  No cell of these rows narrows 'for every input' (looked for: loops, veiled, ifaces, maps, wideKeys, modest, calm, conditions, laid).
  DERIVED. THE GIVEN ROWS OF THIS SEAT. 6 by the template 'for every input the law returns true; each argument reads behind the call as it read before'; 0 by the template 'total and deterministic' (their statements: YtmbnhjohmodflaaTotals.lean).
  GIVEN WITH THE SEED: the statements are not yours to turn. If you find one false, say at which input.
  Laid BY PROGRAM, IN A SANDBOX (cutbox-rows.mjs): the forced cells as the released guide's own fill.sh prints them over the translation 28f957ff46ddff1c… (all of the seat's roots in one cut). By AI agents, Wed Nov 11 2026. No macro, syntax, notation, axiom, sorry.
-/
import Derived.Test.YtmbnhjohmodflaaChecked
import GoSem.Claim
import GoSem.ClaimJoined
import GoSem.ClaimMapViews
import Derived.JoinedTies
import Derived.KernelRfl
namespace Go.Proofs.Ytmbnhjohmodflaa
/- THE CELL 'sum', in the pinned program and in every row, IS THE sha256 OF THE DUMP (.gsa) THAT YtmbnhjohmodflaaProg.lean LOADS. Nothing in Lean hashes anything: it is a label: what it is worth is what the hold of that sum in a sandbox is worth. -/
noncomputable def Try.pinned : Pinned := { name := "ytmbnhjohmodflaa", sum := "28f957ff46ddff1cf131b5d54490d8ea17382019a58b98cce505dacf9e811c6a", checked := Try.checked }
namespace Rows
def none {H : Type} : Left H := { results := [], args := [] }

/-- 'laws.FnDyads': WHATEVER THE INPUT: true; the input reads as it did. -/
def fnDyadsSpec : ChangeSpec := { name := "fnDyads", fn := fun _ => fun
  | [d] => { results := [.lit (.bool true)], args := [d] }
  | _ => none }
def fnDyadsRow : OpenClaim := { program := "ytmbnhjohmodflaa", sum := "28f957ff46ddff1cf131b5d54490d8ea17382019a58b98cce505dacf9e811c6a", func := "loop.example/g03221/laws.FnDyads", spec := "fnDyads", apart := false }
def FnDyadsSaid : Prop := fnDyadsRow.holds Try.pinned (OpenSpec.ofChange fnDyadsSpec)

/-- ITS FALSE NEIGHBOUR: 'it returns false'. Refute it at one input. -/
def fnDyadsWrong : ChangeSpec := { name := "fnDyads", fn := fun _ => fun
  | [d] => { results := [.lit (.bool false)], args := [d] }
  | _ => none }
def FnDyadsWrongFalsely : Prop := fnDyadsRow.holds Try.pinned (OpenSpec.ofChange fnDyadsWrong)

/-- 'laws.FnExactDyadOf': WHATEVER THE INPUT: true; the input reads as it did. -/
def fnExactDyadOfSpec : ChangeSpec := { name := "fnExactDyadOf", fn := fun _ => fun
  | [d1, d2] => { results := [.lit (.bool true)], args := [d1, d2] }
  | _ => none }
def fnExactDyadOfRow : OpenClaim := { program := "ytmbnhjohmodflaa", sum := "28f957ff46ddff1cf131b5d54490d8ea17382019a58b98cce505dacf9e811c6a", func := "loop.example/g03221/laws.FnExactDyadOf", spec := "fnExactDyadOf", apart := false }
def FnExactDyadOfSaid : Prop := fnExactDyadOfRow.holds Try.pinned (OpenSpec.ofChange fnExactDyadOfSpec)

/-- ITS FALSE NEIGHBOUR: 'it returns false'. Refute it at one input. -/
def fnExactDyadOfWrong : ChangeSpec := { name := "fnExactDyadOf", fn := fun _ => fun
  | [d1, d2] => { results := [.lit (.bool false)], args := [d1, d2] }
  | _ => none }
def FnExactDyadOfWrongFalsely : Prop := fnExactDyadOfRow.holds Try.pinned (OpenSpec.ofChange fnExactDyadOfWrong)

/-- 'laws.FnExactIsPermutation': WHATEVER THE INPUT: true; the input reads as it did. -/
def fnExactIsPermutationSpec : ChangeSpec := { name := "fnExactIsPermutation", fn := fun _ => fun
  | [d] => { results := [.lit (.bool true)], args := [d] }
  | _ => none }
def fnExactIsPermutationRow : OpenClaim := { program := "ytmbnhjohmodflaa", sum := "28f957ff46ddff1cf131b5d54490d8ea17382019a58b98cce505dacf9e811c6a", func := "loop.example/g03221/laws.FnExactIsPermutation", spec := "fnExactIsPermutation", apart := false }
def FnExactIsPermutationSaid : Prop := fnExactIsPermutationRow.holds Try.pinned (OpenSpec.ofChange fnExactIsPermutationSpec)

/-- ITS FALSE NEIGHBOUR: 'it returns false'. Refute it at one input. -/
def fnExactIsPermutationWrong : ChangeSpec := { name := "fnExactIsPermutation", fn := fun _ => fun
  | [d] => { results := [.lit (.bool false)], args := [d] }
  | _ => none }
def FnExactIsPermutationWrongFalsely : Prop := fnExactIsPermutationRow.holds Try.pinned (OpenSpec.ofChange fnExactIsPermutationWrong)

/-- 'laws.FnExactAddDyads': WHATEVER THE INPUT: true; the input reads as it did. -/
def fnExactAddDyadsSpec : ChangeSpec := { name := "fnExactAddDyads", fn := fun _ => fun
  | [d1, d2] => { results := [.lit (.bool true)], args := [d1, d2] }
  | _ => none }
def fnExactAddDyadsRow : OpenClaim := { program := "ytmbnhjohmodflaa", sum := "28f957ff46ddff1cf131b5d54490d8ea17382019a58b98cce505dacf9e811c6a", func := "loop.example/g03221/laws.FnExactAddDyads", spec := "fnExactAddDyads", apart := false }
def FnExactAddDyadsSaid : Prop := fnExactAddDyadsRow.holds Try.pinned (OpenSpec.ofChange fnExactAddDyadsSpec)

/-- ITS FALSE NEIGHBOUR: 'it returns false'. Refute it at one input. -/
def fnExactAddDyadsWrong : ChangeSpec := { name := "fnExactAddDyads", fn := fun _ => fun
  | [d1, d2] => { results := [.lit (.bool false)], args := [d1, d2] }
  | _ => none }
def FnExactAddDyadsWrongFalsely : Prop := fnExactAddDyadsRow.holds Try.pinned (OpenSpec.ofChange fnExactAddDyadsWrong)

/-- 'laws.FnExactSampleClasses': WHATEVER THE INPUT: true; the input reads as it did. -/
def fnExactSampleClassesSpec : ChangeSpec := { name := "fnExactSampleClasses", fn := fun _ => fun
  | [d] => { results := [.lit (.bool true)], args := [d] }
  | _ => none }
def fnExactSampleClassesRow : OpenClaim := { program := "ytmbnhjohmodflaa", sum := "28f957ff46ddff1cf131b5d54490d8ea17382019a58b98cce505dacf9e811c6a", func := "loop.example/g03221/laws.FnExactSampleClasses", spec := "fnExactSampleClasses", apart := false }
def FnExactSampleClassesSaid : Prop := fnExactSampleClassesRow.holds Try.pinned (OpenSpec.ofChange fnExactSampleClassesSpec)

/-- ITS FALSE NEIGHBOUR: 'it returns false'. Refute it at one input. -/
def fnExactSampleClassesWrong : ChangeSpec := { name := "fnExactSampleClasses", fn := fun _ => fun
  | [d] => { results := [.lit (.bool false)], args := [d] }
  | _ => none }
def FnExactSampleClassesWrongFalsely : Prop := fnExactSampleClassesRow.holds Try.pinned (OpenSpec.ofChange fnExactSampleClassesWrong)

/-- 'laws.FnExactInversePermutation': WHATEVER THE INPUT: true; the input reads as it did. -/
def fnExactInversePermutationSpec : ChangeSpec := { name := "fnExactInversePermutation", fn := fun _ => fun
  | [d] => { results := [.lit (.bool true)], args := [d] }
  | _ => none }
def fnExactInversePermutationRow : OpenClaim := { program := "ytmbnhjohmodflaa", sum := "28f957ff46ddff1cf131b5d54490d8ea17382019a58b98cce505dacf9e811c6a", func := "loop.example/g03221/laws.FnExactInversePermutation", spec := "fnExactInversePermutation", apart := false }
def FnExactInversePermutationSaid : Prop := fnExactInversePermutationRow.holds Try.pinned (OpenSpec.ofChange fnExactInversePermutationSpec)

/-- ITS FALSE NEIGHBOUR: 'it returns false'. Refute it at one input. -/
def fnExactInversePermutationWrong : ChangeSpec := { name := "fnExactInversePermutation", fn := fun _ => fun
  | [d] => { results := [.lit (.bool false)], args := [d] }
  | _ => none }
def FnExactInversePermutationWrongFalsely : Prop := fnExactInversePermutationRow.holds Try.pinned (OpenSpec.ofChange fnExactInversePermutationWrong)

/- THE SECOND FORM. 'bulk': how many values and letters a reading holds, each counted each time it is reached (what is shared counts as often as it is met; a slice's spare places count too). A statement '..UptoSaid' is the law's where the arguments, and the package variables that the reading takes, are together of bulk at most 1048576: NARROWER than '..Said'. Prove '..Said' where nothing that the law and all that it calls make is longer than what came in: it says more and counts as full. Else prove '..UptoSaid'. A law counts once. -/
mutual
def uptoBulk {H : Type} : DataW H → Nat
  | .lit (.string bytes) => bytes.length + 1
  | .lit _ => 1
  | .nil => 1
  | .ptr d => uptoBulk d + 1
  | .slice elems spare => uptoBulkAll elems + uptoBulkAll spare + 1
  | .agg parts => uptoBulkAll parts + 1
  | .iface _ d => uptoBulk d + 1
  | .map entries => uptoBulkEntries entries + 1
  | .held _ => 1
def uptoBulkAll {H : Type} : List (DataW H) → Nat
  | [] => 0
  | d :: r => uptoBulk d + uptoBulkAll r
def uptoBulkEntries {H : Type} : List (Lit × DataW H) → Nat
  | [] => 0
  | x :: r => uptoBulkEntry x + uptoBulkEntries r
def uptoBulkEntry {H : Type} : Lit × DataW H → Nat
  | (.string bytes, d) => bytes.length + uptoBulk d + 1
  | (_, d) => uptoBulk d + 1
 end
def uptoSmall : (H : Type) → List (DataW H) → Bool := fun _ ds => decide (uptoBulkAll ds ≤ 1048576)
def OpenSpec.upto (s : _root_.Go.ChangeSpec) : _root_.Go.OpenSpec := { _root_.Go.OpenSpec.ofChange s with cond := some uptoSmall }

/-- 'laws.FnDyads', WHERE WHAT IT READS IS OF BULK AT MOST 1048576: true; the input reads as it did. -/
def fnDyadsUptoRow : OpenClaim := { program := "ytmbnhjohmodflaa", sum := "28f957ff46ddff1cf131b5d54490d8ea17382019a58b98cce505dacf9e811c6a", func := "loop.example/g03221/laws.FnDyads", spec := "fnDyads", apart := false, narrowed := true }
def FnDyadsUptoSaid : Prop := fnDyadsUptoRow.holds Try.pinned (OpenSpec.upto fnDyadsSpec)

/-- 'laws.FnExactDyadOf', WHERE WHAT IT READS IS OF BULK AT MOST 1048576: true; the input reads as it did. -/
def fnExactDyadOfUptoRow : OpenClaim := { program := "ytmbnhjohmodflaa", sum := "28f957ff46ddff1cf131b5d54490d8ea17382019a58b98cce505dacf9e811c6a", func := "loop.example/g03221/laws.FnExactDyadOf", spec := "fnExactDyadOf", apart := false, narrowed := true }
def FnExactDyadOfUptoSaid : Prop := fnExactDyadOfUptoRow.holds Try.pinned (OpenSpec.upto fnExactDyadOfSpec)

/-- 'laws.FnExactIsPermutation', WHERE WHAT IT READS IS OF BULK AT MOST 1048576: true; the input reads as it did. -/
def fnExactIsPermutationUptoRow : OpenClaim := { program := "ytmbnhjohmodflaa", sum := "28f957ff46ddff1cf131b5d54490d8ea17382019a58b98cce505dacf9e811c6a", func := "loop.example/g03221/laws.FnExactIsPermutation", spec := "fnExactIsPermutation", apart := false, narrowed := true }
def FnExactIsPermutationUptoSaid : Prop := fnExactIsPermutationUptoRow.holds Try.pinned (OpenSpec.upto fnExactIsPermutationSpec)

/-- 'laws.FnExactAddDyads', WHERE WHAT IT READS IS OF BULK AT MOST 1048576: true; the input reads as it did. -/
def fnExactAddDyadsUptoRow : OpenClaim := { program := "ytmbnhjohmodflaa", sum := "28f957ff46ddff1cf131b5d54490d8ea17382019a58b98cce505dacf9e811c6a", func := "loop.example/g03221/laws.FnExactAddDyads", spec := "fnExactAddDyads", apart := false, narrowed := true }
def FnExactAddDyadsUptoSaid : Prop := fnExactAddDyadsUptoRow.holds Try.pinned (OpenSpec.upto fnExactAddDyadsSpec)

/-- 'laws.FnExactSampleClasses', WHERE WHAT IT READS IS OF BULK AT MOST 1048576: true; the input reads as it did. -/
def fnExactSampleClassesUptoRow : OpenClaim := { program := "ytmbnhjohmodflaa", sum := "28f957ff46ddff1cf131b5d54490d8ea17382019a58b98cce505dacf9e811c6a", func := "loop.example/g03221/laws.FnExactSampleClasses", spec := "fnExactSampleClasses", apart := false, narrowed := true }
def FnExactSampleClassesUptoSaid : Prop := fnExactSampleClassesUptoRow.holds Try.pinned (OpenSpec.upto fnExactSampleClassesSpec)

/-- 'laws.FnExactInversePermutation', WHERE WHAT IT READS IS OF BULK AT MOST 1048576: true; the input reads as it did. -/
def fnExactInversePermutationUptoRow : OpenClaim := { program := "ytmbnhjohmodflaa", sum := "28f957ff46ddff1cf131b5d54490d8ea17382019a58b98cce505dacf9e811c6a", func := "loop.example/g03221/laws.FnExactInversePermutation", spec := "fnExactInversePermutation", apart := false, narrowed := true }
def FnExactInversePermutationUptoSaid : Prop := fnExactInversePermutationUptoRow.holds Try.pinned (OpenSpec.upto fnExactInversePermutationSpec)

end Rows
end Go.Proofs.Ytmbnhjohmodflaa
