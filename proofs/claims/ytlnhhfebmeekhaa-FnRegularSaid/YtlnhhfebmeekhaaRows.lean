/-
  No cell of these rows narrows 'for every input' (looked for: loops, veiled, ifaces, maps, wideKeys, modest, calm, conditions, laid).
  DERIVED. THE GIVEN ROWS OF THIS SEAT. 4 by the template 'for every input the law returns true; each argument reads behind the call as it read before'; 0 by the template 'total and deterministic' (their statements: YtlnhhfebmeekhaaTotals.lean).
  GIVEN WITH THE SEED: the statements are not yours to turn. If you find one false, say at which input.
  Laid BY PROGRAM, IN A SANDBOX (cutbox-rows.mjs): the forced cells as the released guide's own fill.sh prints them over the translation 015b445377fd6d77… (all of the seat's roots in one cut). By AI agents, Wed Nov 11 2026. No macro, syntax, notation, axiom, sorry.
-/
import Derived.Test.YtlnhhfebmeekhaaChecked
import GoSem.Claim
import GoSem.ClaimJoined
import GoSem.ClaimMapViews
import Derived.JoinedTies
import Derived.KernelRfl
namespace Go.Proofs.Ytlnhhfebmeekhaa
/- THE CELL 'sum', in the pinned program and in every row, IS THE sha256 OF THE DUMP (.gsa) THAT YtlnhhfebmeekhaaProg.lean LOADS. Nothing in Lean hashes anything: it is a label: what it is worth is what the hold of that sum in a sandbox is worth. -/
noncomputable def Try.pinned : Pinned := { name := "ytlnhhfebmeekhaa", sum := "015b445377fd6d77ac0ed23d118618a6dc1918555635cd35b0bf9d940553f635", checked := Try.checked }
namespace Rows
def none {H : Type} : Left H := { results := [], args := [] }

/-- 'laws.FnExactAllRegular': WHATEVER THE INPUT: true; the input reads as it did. -/
def fnExactAllRegularSpec : ChangeSpec := { name := "fnExactAllRegular", fn := fun _ => fun
  | [d] => { results := [.lit (.bool true)], args := [d] }
  | _ => none }
def fnExactAllRegularRow : OpenClaim := { program := "ytlnhhfebmeekhaa", sum := "015b445377fd6d77ac0ed23d118618a6dc1918555635cd35b0bf9d940553f635", func := "loop.example/g03221/laws.FnExactAllRegular", spec := "fnExactAllRegular", inPlace := ["internal/reflectlite.ValueOf", "internal/reflectlite.Swapper", "(internal/reflectlite.Value).Len"], unfollowed := true, recurses := true, apart := false }
def FnExactAllRegularSaid : Prop := fnExactAllRegularRow.holds Try.pinned (OpenSpec.ofChange fnExactAllRegularSpec)

/-- ITS FALSE NEIGHBOUR: 'it returns false'. Refute it at one input. -/
def fnExactAllRegularWrong : ChangeSpec := { name := "fnExactAllRegular", fn := fun _ => fun
  | [d] => { results := [.lit (.bool false)], args := [d] }
  | _ => none }
def FnExactAllRegularWrongFalsely : Prop := fnExactAllRegularRow.holds Try.pinned (OpenSpec.ofChange fnExactAllRegularWrong)

/-- 'laws.FnRegular': WHATEVER THE INPUT: true; the input reads as it did. -/
def fnRegularSpec : ChangeSpec := { name := "fnRegular", fn := fun _ => fun
  | [d] => { results := [.lit (.bool true)], args := [d] }
  | _ => none }
def fnRegularRow : OpenClaim := { program := "ytlnhhfebmeekhaa", sum := "015b445377fd6d77ac0ed23d118618a6dc1918555635cd35b0bf9d940553f635", func := "loop.example/g03221/laws.FnRegular", spec := "fnRegular", inPlace := ["internal/reflectlite.ValueOf", "internal/reflectlite.Swapper", "(internal/reflectlite.Value).Len"], unfollowed := true, recurses := true, apart := false }
def FnRegularSaid : Prop := fnRegularRow.holds Try.pinned (OpenSpec.ofChange fnRegularSpec)

/-- ITS FALSE NEIGHBOUR: 'it returns false'. Refute it at one input. -/
def fnRegularWrong : ChangeSpec := { name := "fnRegular", fn := fun _ => fun
  | [d] => { results := [.lit (.bool false)], args := [d] }
  | _ => none }
def FnRegularWrongFalsely : Prop := fnRegularRow.holds Try.pinned (OpenSpec.ofChange fnRegularWrong)

/-- 'laws.FnGroup': WHATEVER THE INPUT: true; the input reads as it did. -/
def fnGroupSpec : ChangeSpec := { name := "fnGroup", fn := fun _ => fun
  | [d] => { results := [.lit (.bool true)], args := [d] }
  | _ => none }
def fnGroupRow : OpenClaim := { program := "ytlnhhfebmeekhaa", sum := "015b445377fd6d77ac0ed23d118618a6dc1918555635cd35b0bf9d940553f635", func := "loop.example/g03221/laws.FnGroup", spec := "fnGroup", inPlace := ["internal/reflectlite.ValueOf", "internal/reflectlite.Swapper", "(internal/reflectlite.Value).Len"], unfollowed := true, recurses := true, apart := false }
def FnGroupSaid : Prop := fnGroupRow.holds Try.pinned (OpenSpec.ofChange fnGroupSpec)

/-- ITS FALSE NEIGHBOUR: 'it returns false'. Refute it at one input. -/
def fnGroupWrong : ChangeSpec := { name := "fnGroup", fn := fun _ => fun
  | [d] => { results := [.lit (.bool false)], args := [d] }
  | _ => none }
def FnGroupWrongFalsely : Prop := fnGroupRow.holds Try.pinned (OpenSpec.ofChange fnGroupWrong)

/-- 'laws.FnClassTypes': WHATEVER THE INPUT: true; the input reads as it did. -/
def fnClassTypesSpec : ChangeSpec := { name := "fnClassTypes", fn := fun _ => fun
  | [d] => { results := [.lit (.bool true)], args := [d] }
  | _ => none }
def fnClassTypesRow : OpenClaim := { program := "ytlnhhfebmeekhaa", sum := "015b445377fd6d77ac0ed23d118618a6dc1918555635cd35b0bf9d940553f635", func := "loop.example/g03221/laws.FnClassTypes", spec := "fnClassTypes", inPlace := ["internal/reflectlite.ValueOf", "internal/reflectlite.Swapper", "(internal/reflectlite.Value).Len"], unfollowed := true, recurses := true, apart := false }
def FnClassTypesSaid : Prop := fnClassTypesRow.holds Try.pinned (OpenSpec.ofChange fnClassTypesSpec)

/-- ITS FALSE NEIGHBOUR: 'it returns false'. Refute it at one input. -/
def fnClassTypesWrong : ChangeSpec := { name := "fnClassTypes", fn := fun _ => fun
  | [d] => { results := [.lit (.bool false)], args := [d] }
  | _ => none }
def FnClassTypesWrongFalsely : Prop := fnClassTypesRow.holds Try.pinned (OpenSpec.ofChange fnClassTypesWrong)

/- THE SECOND FORM. 'bulk': how many values and letters a reading holds, each counted each time it is reached (what is shared counts as often as it is met; a slice's spare places count too). A statement '..UptoSaid' is the law's where the arguments, and the package variables that the reading takes, are together of bulk at most 1048576: NARROWER than '..Said'. Prove '..Said' where nothing that the law and all that it calls make is longer than what came in: it says more and counts as full. Else prove '..UptoSaid'. A law counts once. -/
mutual
def uptoBulk {H : Type} : DataW H → Nat
  | .lit (.string bytes) => bytes.length + 1
  | .lit _ => 1
  | .nil => 1
  | .ptr d => uptoBulk d + 1
  | .slice elems spare => uptoBulkAll elems + uptoBulkAll spare + 1
  | .agg parts => uptoBulkAll parts + 1
  | .iface _ d => uptoBulk d + 1
  | .map entries => uptoBulkEntries entries + 1
  | .held _ => 1
def uptoBulkAll {H : Type} : List (DataW H) → Nat
  | [] => 0
  | d :: r => uptoBulk d + uptoBulkAll r
def uptoBulkEntries {H : Type} : List (Lit × DataW H) → Nat
  | [] => 0
  | x :: r => uptoBulkEntry x + uptoBulkEntries r
def uptoBulkEntry {H : Type} : Lit × DataW H → Nat
  | (.string bytes, d) => bytes.length + uptoBulk d + 1
  | (_, d) => uptoBulk d + 1
 end
def uptoSmall : (H : Type) → List (DataW H) → Bool := fun _ ds => decide (uptoBulkAll ds ≤ 1048576)
def OpenSpec.upto (s : _root_.Go.ChangeSpec) : _root_.Go.OpenSpec := { _root_.Go.OpenSpec.ofChange s with cond := some uptoSmall }

/-- 'laws.FnExactAllRegular', WHERE WHAT IT READS IS OF BULK AT MOST 1048576: true; the input reads as it did. -/
def fnExactAllRegularUptoRow : OpenClaim := { program := "ytlnhhfebmeekhaa", sum := "015b445377fd6d77ac0ed23d118618a6dc1918555635cd35b0bf9d940553f635", func := "loop.example/g03221/laws.FnExactAllRegular", spec := "fnExactAllRegular", inPlace := ["internal/reflectlite.ValueOf", "internal/reflectlite.Swapper", "(internal/reflectlite.Value).Len"], unfollowed := true, recurses := true, apart := false, narrowed := true }
def FnExactAllRegularUptoSaid : Prop := fnExactAllRegularUptoRow.holds Try.pinned (OpenSpec.upto fnExactAllRegularSpec)

/-- 'laws.FnRegular', WHERE WHAT IT READS IS OF BULK AT MOST 1048576: true; the input reads as it did. -/
def fnRegularUptoRow : OpenClaim := { program := "ytlnhhfebmeekhaa", sum := "015b445377fd6d77ac0ed23d118618a6dc1918555635cd35b0bf9d940553f635", func := "loop.example/g03221/laws.FnRegular", spec := "fnRegular", inPlace := ["internal/reflectlite.ValueOf", "internal/reflectlite.Swapper", "(internal/reflectlite.Value).Len"], unfollowed := true, recurses := true, apart := false, narrowed := true }
def FnRegularUptoSaid : Prop := fnRegularUptoRow.holds Try.pinned (OpenSpec.upto fnRegularSpec)

/-- 'laws.FnGroup', WHERE WHAT IT READS IS OF BULK AT MOST 1048576: true; the input reads as it did. -/
def fnGroupUptoRow : OpenClaim := { program := "ytlnhhfebmeekhaa", sum := "015b445377fd6d77ac0ed23d118618a6dc1918555635cd35b0bf9d940553f635", func := "loop.example/g03221/laws.FnGroup", spec := "fnGroup", inPlace := ["internal/reflectlite.ValueOf", "internal/reflectlite.Swapper", "(internal/reflectlite.Value).Len"], unfollowed := true, recurses := true, apart := false, narrowed := true }
def FnGroupUptoSaid : Prop := fnGroupUptoRow.holds Try.pinned (OpenSpec.upto fnGroupSpec)

/-- 'laws.FnClassTypes', WHERE WHAT IT READS IS OF BULK AT MOST 1048576: true; the input reads as it did. -/
def fnClassTypesUptoRow : OpenClaim := { program := "ytlnhhfebmeekhaa", sum := "015b445377fd6d77ac0ed23d118618a6dc1918555635cd35b0bf9d940553f635", func := "loop.example/g03221/laws.FnClassTypes", spec := "fnClassTypes", inPlace := ["internal/reflectlite.ValueOf", "internal/reflectlite.Swapper", "(internal/reflectlite.Value).Len"], unfollowed := true, recurses := true, apart := false, narrowed := true }
def FnClassTypesUptoSaid : Prop := fnClassTypesUptoRow.holds Try.pinned (OpenSpec.upto fnClassTypesSpec)

end Rows
end Go.Proofs.Ytlnhhfebmeekhaa
