/-
  No cell of these rows narrows 'for every input' (looked for: loops, veiled, ifaces, maps, wideKeys, modest, calm, conditions, laid).
  DERIVED. THE GIVEN ROWS OF THIS SEAT. 11 by the template 'for every input the law returns true; each argument reads behind the call as it read before'; 0 by the template 'total and deterministic' (their statements: YtomigopkejlmcaaTotals.lean).
  GIVEN WITH THE SEED: the statements are not yours to turn. If you find one false, say at which input.
  Laid BY PROGRAM, IN A SANDBOX (cutbox-rows.mjs): the forced cells as the released guide's own fill.sh prints them over the translation b6336ebc5b03c22e… (all of the seat's roots in one cut). By AI agents, Wed Nov 11 2026. No macro, syntax, notation, axiom, sorry.
-/
import Derived.Test.YtomigopkejlmcaaChecked
import GoSem.Claim
import GoSem.ClaimJoined
import GoSem.ClaimMapViews
import Derived.JoinedTies
import Derived.KernelRfl
namespace Go.Proofs.Ytomigopkejlmcaa
/- THE CELL 'sum', in the pinned program and in every row, IS THE sha256 OF THE DUMP (.gsa) THAT YtomigopkejlmcaaProg.lean LOADS. Nothing in Lean hashes anything: it is a label: what it is worth is what the hold of that sum in a sandbox is worth. -/
noncomputable def Try.pinned : Pinned := { name := "ytomigopkejlmcaa", sum := "b6336ebc5b03c22e4cfa321f6ceae186d9bfaff5315760d3f2ae3e127e887fdf", checked := Try.checked }
namespace Rows
def none {H : Type} : Left H := { results := [], args := [] }

/-- 'laws.FnExactIsExogamous': WHATEVER THE INPUT: true; the input reads as it did. -/
def fnExactIsExogamousSpec : ChangeSpec := { name := "fnExactIsExogamous", fn := fun _ => fun
  | [d1, d2] => { results := [.lit (.bool true)], args := [d1, d2] }
  | _ => none }
def fnExactIsExogamousRow : OpenClaim := { program := "ytomigopkejlmcaa", sum := "b6336ebc5b03c22e4cfa321f6ceae186d9bfaff5315760d3f2ae3e127e887fdf", func := "loop.example/g03221/laws.FnExactIsExogamous", spec := "fnExactIsExogamous", plainKeys := false, apart := false }
def FnExactIsExogamousSaid : Prop := fnExactIsExogamousRow.holds Try.pinned (OpenSpec.ofChange fnExactIsExogamousSpec)

/-- ITS FALSE NEIGHBOUR: 'it returns false'. Refute it at one input. -/
def fnExactIsExogamousWrong : ChangeSpec := { name := "fnExactIsExogamous", fn := fun _ => fun
  | [d1, d2] => { results := [.lit (.bool false)], args := [d1, d2] }
  | _ => none }
def FnExactIsExogamousWrongFalsely : Prop := fnExactIsExogamousRow.holds Try.pinned (OpenSpec.ofChange fnExactIsExogamousWrong)

/-- 'laws.FnExactSameLine': WHATEVER THE INPUT: true; the input reads as it did. -/
def fnExactSameLineSpec : ChangeSpec := { name := "fnExactSameLine", fn := fun _ => fun
  | [d1, d2, d3, d4] => { results := [.lit (.bool true)], args := [d1, d2, d3, d4] }
  | _ => none }
def fnExactSameLineRow : OpenClaim := { program := "ytomigopkejlmcaa", sum := "b6336ebc5b03c22e4cfa321f6ceae186d9bfaff5315760d3f2ae3e127e887fdf", func := "loop.example/g03221/laws.FnExactSameLine", spec := "fnExactSameLine", plainKeys := false, apart := false }
def FnExactSameLineSaid : Prop := fnExactSameLineRow.holds Try.pinned (OpenSpec.ofChange fnExactSameLineSpec)

/-- ITS FALSE NEIGHBOUR: 'it returns false'. Refute it at one input. -/
def fnExactSameLineWrong : ChangeSpec := { name := "fnExactSameLine", fn := fun _ => fun
  | [d1, d2, d3, d4] => { results := [.lit (.bool false)], args := [d1, d2, d3, d4] }
  | _ => none }
def FnExactSameLineWrongFalsely : Prop := fnExactSameLineRow.holds Try.pinned (OpenSpec.ofChange fnExactSameLineWrong)

/-- 'laws.FnExactFounderOf': WHATEVER THE INPUT: true; the input reads as it did. -/
def fnExactFounderOfSpec : ChangeSpec := { name := "fnExactFounderOf", fn := fun _ => fun
  | [d1, d2, d3] => { results := [.lit (.bool true)], args := [d1, d2, d3] }
  | _ => none }
def fnExactFounderOfRow : OpenClaim := { program := "ytomigopkejlmcaa", sum := "b6336ebc5b03c22e4cfa321f6ceae186d9bfaff5315760d3f2ae3e127e887fdf", func := "loop.example/g03221/laws.FnExactFounderOf", spec := "fnExactFounderOf", plainKeys := false, apart := false }
def FnExactFounderOfSaid : Prop := fnExactFounderOfRow.holds Try.pinned (OpenSpec.ofChange fnExactFounderOfSpec)

/-- ITS FALSE NEIGHBOUR: 'it returns false'. Refute it at one input. -/
def fnExactFounderOfWrong : ChangeSpec := { name := "fnExactFounderOf", fn := fun _ => fun
  | [d1, d2, d3] => { results := [.lit (.bool false)], args := [d1, d2, d3] }
  | _ => none }
def FnExactFounderOfWrongFalsely : Prop := fnExactFounderOfRow.holds Try.pinned (OpenSpec.ofChange fnExactFounderOfWrong)

/-- 'laws.FnExactDoubleLines': WHATEVER THE INPUT: true; the input reads as it did. -/
def fnExactDoubleLinesSpec : ChangeSpec := { name := "fnExactDoubleLines", fn := fun _ => fun
  | [d] => { results := [.lit (.bool true)], args := [d] }
  | _ => none }
def fnExactDoubleLinesRow : OpenClaim := { program := "ytomigopkejlmcaa", sum := "b6336ebc5b03c22e4cfa321f6ceae186d9bfaff5315760d3f2ae3e127e887fdf", func := "loop.example/g03221/laws.FnExactDoubleLines", spec := "fnExactDoubleLines", plainKeys := false, apart := false }
def FnExactDoubleLinesSaid : Prop := fnExactDoubleLinesRow.holds Try.pinned (OpenSpec.ofChange fnExactDoubleLinesSpec)

/-- ITS FALSE NEIGHBOUR: 'it returns false'. Refute it at one input. -/
def fnExactDoubleLinesWrong : ChangeSpec := { name := "fnExactDoubleLines", fn := fun _ => fun
  | [d] => { results := [.lit (.bool false)], args := [d] }
  | _ => none }
def FnExactDoubleLinesWrongFalsely : Prop := fnExactDoubleLinesRow.holds Try.pinned (OpenSpec.ofChange fnExactDoubleLinesWrong)

/-- 'laws.FnExactLinesOf': WHATEVER THE INPUT: true; the input reads as it did. -/
def fnExactLinesOfSpec : ChangeSpec := { name := "fnExactLinesOf", fn := fun _ => fun
  | [d1, d2] => { results := [.lit (.bool true)], args := [d1, d2] }
  | _ => none }
def fnExactLinesOfRow : OpenClaim := { program := "ytomigopkejlmcaa", sum := "b6336ebc5b03c22e4cfa321f6ceae186d9bfaff5315760d3f2ae3e127e887fdf", func := "loop.example/g03221/laws.FnExactLinesOf", spec := "fnExactLinesOf", plainKeys := false, apart := false }
def FnExactLinesOfSaid : Prop := fnExactLinesOfRow.holds Try.pinned (OpenSpec.ofChange fnExactLinesOfSpec)

/-- ITS FALSE NEIGHBOUR: 'it returns false'. Refute it at one input. -/
def fnExactLinesOfWrong : ChangeSpec := { name := "fnExactLinesOf", fn := fun _ => fun
  | [d1, d2] => { results := [.lit (.bool false)], args := [d1, d2] }
  | _ => none }
def FnExactLinesOfWrongFalsely : Prop := fnExactLinesOfRow.holds Try.pinned (OpenSpec.ofChange fnExactLinesOfWrong)

/-- 'laws.FnLines': WHATEVER THE INPUT: true; the input reads as it did. -/
def fnLinesSpec : ChangeSpec := { name := "fnLines", fn := fun _ => fun
  | [d] => { results := [.lit (.bool true)], args := [d] }
  | _ => none }
def fnLinesRow : OpenClaim := { program := "ytomigopkejlmcaa", sum := "b6336ebc5b03c22e4cfa321f6ceae186d9bfaff5315760d3f2ae3e127e887fdf", func := "loop.example/g03221/laws.FnLines", spec := "fnLines", plainKeys := false, apart := false }
def FnLinesSaid : Prop := fnLinesRow.holds Try.pinned (OpenSpec.ofChange fnLinesSpec)

/-- ITS FALSE NEIGHBOUR: 'it returns false'. Refute it at one input. -/
def fnLinesWrong : ChangeSpec := { name := "fnLines", fn := fun _ => fun
  | [d] => { results := [.lit (.bool false)], args := [d] }
  | _ => none }
def FnLinesWrongFalsely : Prop := fnLinesRow.holds Try.pinned (OpenSpec.ofChange fnLinesWrong)

/-- 'laws.FnMoieties': WHATEVER THE INPUT: true; the input reads as it did. -/
def fnMoietiesSpec : ChangeSpec := { name := "fnMoieties", fn := fun _ => fun
  | [d] => { results := [.lit (.bool true)], args := [d] }
  | _ => none }
def fnMoietiesRow : OpenClaim := { program := "ytomigopkejlmcaa", sum := "b6336ebc5b03c22e4cfa321f6ceae186d9bfaff5315760d3f2ae3e127e887fdf", func := "loop.example/g03221/laws.FnMoieties", spec := "fnMoieties", plainKeys := false, apart := false }
def FnMoietiesSaid : Prop := fnMoietiesRow.holds Try.pinned (OpenSpec.ofChange fnMoietiesSpec)

/-- ITS FALSE NEIGHBOUR: 'it returns false'. Refute it at one input. -/
def fnMoietiesWrong : ChangeSpec := { name := "fnMoieties", fn := fun _ => fun
  | [d] => { results := [.lit (.bool false)], args := [d] }
  | _ => none }
def FnMoietiesWrongFalsely : Prop := fnMoietiesRow.holds Try.pinned (OpenSpec.ofChange fnMoietiesWrong)

/-- 'laws.FnExactMoietiesOf': WHATEVER THE INPUT: true; the input reads as it did. -/
def fnExactMoietiesOfSpec : ChangeSpec := { name := "fnExactMoietiesOf", fn := fun _ => fun
  | [d1, d2] => { results := [.lit (.bool true)], args := [d1, d2] }
  | _ => none }
def fnExactMoietiesOfRow : OpenClaim := { program := "ytomigopkejlmcaa", sum := "b6336ebc5b03c22e4cfa321f6ceae186d9bfaff5315760d3f2ae3e127e887fdf", func := "loop.example/g03221/laws.FnExactMoietiesOf", spec := "fnExactMoietiesOf", plainKeys := false, apart := false }
def FnExactMoietiesOfSaid : Prop := fnExactMoietiesOfRow.holds Try.pinned (OpenSpec.ofChange fnExactMoietiesOfSpec)

/-- ITS FALSE NEIGHBOUR: 'it returns false'. Refute it at one input. -/
def fnExactMoietiesOfWrong : ChangeSpec := { name := "fnExactMoietiesOf", fn := fun _ => fun
  | [d1, d2] => { results := [.lit (.bool false)], args := [d1, d2] }
  | _ => none }
def FnExactMoietiesOfWrongFalsely : Prop := fnExactMoietiesOfRow.holds Try.pinned (OpenSpec.ofChange fnExactMoietiesOfWrong)

/-- 'laws.FnExactPermutePeople': WHATEVER THE INPUT: true; the input reads as it did. -/
def fnExactPermutePeopleSpec : ChangeSpec := { name := "fnExactPermutePeople", fn := fun _ => fun
  | [d1, d2] => { results := [.lit (.bool true)], args := [d1, d2] }
  | _ => none }
def fnExactPermutePeopleRow : OpenClaim := { program := "ytomigopkejlmcaa", sum := "b6336ebc5b03c22e4cfa321f6ceae186d9bfaff5315760d3f2ae3e127e887fdf", func := "loop.example/g03221/laws.FnExactPermutePeople", spec := "fnExactPermutePeople", plainKeys := false, apart := false }
def FnExactPermutePeopleSaid : Prop := fnExactPermutePeopleRow.holds Try.pinned (OpenSpec.ofChange fnExactPermutePeopleSpec)

/-- ITS FALSE NEIGHBOUR: 'it returns false'. Refute it at one input. -/
def fnExactPermutePeopleWrong : ChangeSpec := { name := "fnExactPermutePeople", fn := fun _ => fun
  | [d1, d2] => { results := [.lit (.bool false)], args := [d1, d2] }
  | _ => none }
def FnExactPermutePeopleWrongFalsely : Prop := fnExactPermutePeopleRow.holds Try.pinned (OpenSpec.ofChange fnExactPermutePeopleWrong)

/-- 'laws.FnExactClassErrors': WHATEVER THE INPUT: true; the input reads as it did. -/
def fnExactClassErrorsSpec : ChangeSpec := { name := "fnExactClassErrors", fn := fun _ => fun
  | [d1, d2, d3] => { results := [.lit (.bool true)], args := [d1, d2, d3] }
  | _ => none }
def fnExactClassErrorsRow : OpenClaim := { program := "ytomigopkejlmcaa", sum := "b6336ebc5b03c22e4cfa321f6ceae186d9bfaff5315760d3f2ae3e127e887fdf", func := "loop.example/g03221/laws.FnExactClassErrors", spec := "fnExactClassErrors", plainKeys := false, apart := false }
def FnExactClassErrorsSaid : Prop := fnExactClassErrorsRow.holds Try.pinned (OpenSpec.ofChange fnExactClassErrorsSpec)

/-- ITS FALSE NEIGHBOUR: 'it returns false'. Refute it at one input. -/
def fnExactClassErrorsWrong : ChangeSpec := { name := "fnExactClassErrors", fn := fun _ => fun
  | [d1, d2, d3] => { results := [.lit (.bool false)], args := [d1, d2, d3] }
  | _ => none }
def FnExactClassErrorsWrongFalsely : Prop := fnExactClassErrorsRow.holds Try.pinned (OpenSpec.ofChange fnExactClassErrorsWrong)

/-- 'laws.FnExactAssignClasses': WHATEVER THE INPUT: true; the input reads as it did. -/
def fnExactAssignClassesSpec : ChangeSpec := { name := "fnExactAssignClasses", fn := fun _ => fun
  | [d1, d2, d3] => { results := [.lit (.bool true)], args := [d1, d2, d3] }
  | _ => none }
def fnExactAssignClassesRow : OpenClaim := { program := "ytomigopkejlmcaa", sum := "b6336ebc5b03c22e4cfa321f6ceae186d9bfaff5315760d3f2ae3e127e887fdf", func := "loop.example/g03221/laws.FnExactAssignClasses", spec := "fnExactAssignClasses", unfollowed := true, recurses := true, plainKeys := false, apart := false }
def FnExactAssignClassesSaid : Prop := fnExactAssignClassesRow.holds Try.pinned (OpenSpec.ofChange fnExactAssignClassesSpec)

/-- ITS FALSE NEIGHBOUR: 'it returns false'. Refute it at one input. -/
def fnExactAssignClassesWrong : ChangeSpec := { name := "fnExactAssignClasses", fn := fun _ => fun
  | [d1, d2, d3] => { results := [.lit (.bool false)], args := [d1, d2, d3] }
  | _ => none }
def FnExactAssignClassesWrongFalsely : Prop := fnExactAssignClassesRow.holds Try.pinned (OpenSpec.ofChange fnExactAssignClassesWrong)

/- THE SECOND FORM. 'bulk': how many values and letters a reading holds, each counted each time it is reached (what is shared counts as often as it is met; a slice's spare places count too). A statement '..UptoSaid' is the law's where the arguments, and the package variables that the reading takes, are together of bulk at most 1048576: NARROWER than '..Said'. Prove '..Said' where nothing that the law and all that it calls make is longer than what came in: it says more and counts as full. Else prove '..UptoSaid'. A law counts once. -/
mutual
def uptoBulk {H : Type} : DataW H → Nat
  | .lit (.string bytes) => bytes.length + 1
  | .lit _ => 1
  | .nil => 1
  | .ptr d => uptoBulk d + 1
  | .slice elems spare => uptoBulkAll elems + uptoBulkAll spare + 1
  | .agg parts => uptoBulkAll parts + 1
  | .iface _ d => uptoBulk d + 1
  | .map entries => uptoBulkEntries entries + 1
  | .held _ => 1
def uptoBulkAll {H : Type} : List (DataW H) → Nat
  | [] => 0
  | d :: r => uptoBulk d + uptoBulkAll r
def uptoBulkEntries {H : Type} : List (Lit × DataW H) → Nat
  | [] => 0
  | x :: r => uptoBulkEntry x + uptoBulkEntries r
def uptoBulkEntry {H : Type} : Lit × DataW H → Nat
  | (.string bytes, d) => bytes.length + uptoBulk d + 1
  | (_, d) => uptoBulk d + 1
 end
def uptoSmall : (H : Type) → List (DataW H) → Bool := fun _ ds => decide (uptoBulkAll ds ≤ 1048576)
def OpenSpec.upto (s : _root_.Go.ChangeSpec) : _root_.Go.OpenSpec := { _root_.Go.OpenSpec.ofChange s with cond := some uptoSmall }

/-- 'laws.FnExactIsExogamous', WHERE WHAT IT READS IS OF BULK AT MOST 1048576: true; the input reads as it did. -/
def fnExactIsExogamousUptoRow : OpenClaim := { program := "ytomigopkejlmcaa", sum := "b6336ebc5b03c22e4cfa321f6ceae186d9bfaff5315760d3f2ae3e127e887fdf", func := "loop.example/g03221/laws.FnExactIsExogamous", spec := "fnExactIsExogamous", plainKeys := false, apart := false, narrowed := true }
def FnExactIsExogamousUptoSaid : Prop := fnExactIsExogamousUptoRow.holds Try.pinned (OpenSpec.upto fnExactIsExogamousSpec)

/-- 'laws.FnExactSameLine', WHERE WHAT IT READS IS OF BULK AT MOST 1048576: true; the input reads as it did. -/
def fnExactSameLineUptoRow : OpenClaim := { program := "ytomigopkejlmcaa", sum := "b6336ebc5b03c22e4cfa321f6ceae186d9bfaff5315760d3f2ae3e127e887fdf", func := "loop.example/g03221/laws.FnExactSameLine", spec := "fnExactSameLine", plainKeys := false, apart := false, narrowed := true }
def FnExactSameLineUptoSaid : Prop := fnExactSameLineUptoRow.holds Try.pinned (OpenSpec.upto fnExactSameLineSpec)

/-- 'laws.FnExactFounderOf', WHERE WHAT IT READS IS OF BULK AT MOST 1048576: true; the input reads as it did. -/
def fnExactFounderOfUptoRow : OpenClaim := { program := "ytomigopkejlmcaa", sum := "b6336ebc5b03c22e4cfa321f6ceae186d9bfaff5315760d3f2ae3e127e887fdf", func := "loop.example/g03221/laws.FnExactFounderOf", spec := "fnExactFounderOf", plainKeys := false, apart := false, narrowed := true }
def FnExactFounderOfUptoSaid : Prop := fnExactFounderOfUptoRow.holds Try.pinned (OpenSpec.upto fnExactFounderOfSpec)

/-- 'laws.FnExactDoubleLines', WHERE WHAT IT READS IS OF BULK AT MOST 1048576: true; the input reads as it did. -/
def fnExactDoubleLinesUptoRow : OpenClaim := { program := "ytomigopkejlmcaa", sum := "b6336ebc5b03c22e4cfa321f6ceae186d9bfaff5315760d3f2ae3e127e887fdf", func := "loop.example/g03221/laws.FnExactDoubleLines", spec := "fnExactDoubleLines", plainKeys := false, apart := false, narrowed := true }
def FnExactDoubleLinesUptoSaid : Prop := fnExactDoubleLinesUptoRow.holds Try.pinned (OpenSpec.upto fnExactDoubleLinesSpec)

/-- 'laws.FnExactLinesOf', WHERE WHAT IT READS IS OF BULK AT MOST 1048576: true; the input reads as it did. -/
def fnExactLinesOfUptoRow : OpenClaim := { program := "ytomigopkejlmcaa", sum := "b6336ebc5b03c22e4cfa321f6ceae186d9bfaff5315760d3f2ae3e127e887fdf", func := "loop.example/g03221/laws.FnExactLinesOf", spec := "fnExactLinesOf", plainKeys := false, apart := false, narrowed := true }
def FnExactLinesOfUptoSaid : Prop := fnExactLinesOfUptoRow.holds Try.pinned (OpenSpec.upto fnExactLinesOfSpec)

/-- 'laws.FnLines', WHERE WHAT IT READS IS OF BULK AT MOST 1048576: true; the input reads as it did. -/
def fnLinesUptoRow : OpenClaim := { program := "ytomigopkejlmcaa", sum := "b6336ebc5b03c22e4cfa321f6ceae186d9bfaff5315760d3f2ae3e127e887fdf", func := "loop.example/g03221/laws.FnLines", spec := "fnLines", plainKeys := false, apart := false, narrowed := true }
def FnLinesUptoSaid : Prop := fnLinesUptoRow.holds Try.pinned (OpenSpec.upto fnLinesSpec)

/-- 'laws.FnMoieties', WHERE WHAT IT READS IS OF BULK AT MOST 1048576: true; the input reads as it did. -/
def fnMoietiesUptoRow : OpenClaim := { program := "ytomigopkejlmcaa", sum := "b6336ebc5b03c22e4cfa321f6ceae186d9bfaff5315760d3f2ae3e127e887fdf", func := "loop.example/g03221/laws.FnMoieties", spec := "fnMoieties", plainKeys := false, apart := false, narrowed := true }
def FnMoietiesUptoSaid : Prop := fnMoietiesUptoRow.holds Try.pinned (OpenSpec.upto fnMoietiesSpec)

/-- 'laws.FnExactMoietiesOf', WHERE WHAT IT READS IS OF BULK AT MOST 1048576: true; the input reads as it did. -/
def fnExactMoietiesOfUptoRow : OpenClaim := { program := "ytomigopkejlmcaa", sum := "b6336ebc5b03c22e4cfa321f6ceae186d9bfaff5315760d3f2ae3e127e887fdf", func := "loop.example/g03221/laws.FnExactMoietiesOf", spec := "fnExactMoietiesOf", plainKeys := false, apart := false, narrowed := true }
def FnExactMoietiesOfUptoSaid : Prop := fnExactMoietiesOfUptoRow.holds Try.pinned (OpenSpec.upto fnExactMoietiesOfSpec)

/-- 'laws.FnExactPermutePeople', WHERE WHAT IT READS IS OF BULK AT MOST 1048576: true; the input reads as it did. -/
def fnExactPermutePeopleUptoRow : OpenClaim := { program := "ytomigopkejlmcaa", sum := "b6336ebc5b03c22e4cfa321f6ceae186d9bfaff5315760d3f2ae3e127e887fdf", func := "loop.example/g03221/laws.FnExactPermutePeople", spec := "fnExactPermutePeople", plainKeys := false, apart := false, narrowed := true }
def FnExactPermutePeopleUptoSaid : Prop := fnExactPermutePeopleUptoRow.holds Try.pinned (OpenSpec.upto fnExactPermutePeopleSpec)

/-- 'laws.FnExactClassErrors', WHERE WHAT IT READS IS OF BULK AT MOST 1048576: true; the input reads as it did. -/
def fnExactClassErrorsUptoRow : OpenClaim := { program := "ytomigopkejlmcaa", sum := "b6336ebc5b03c22e4cfa321f6ceae186d9bfaff5315760d3f2ae3e127e887fdf", func := "loop.example/g03221/laws.FnExactClassErrors", spec := "fnExactClassErrors", plainKeys := false, apart := false, narrowed := true }
def FnExactClassErrorsUptoSaid : Prop := fnExactClassErrorsUptoRow.holds Try.pinned (OpenSpec.upto fnExactClassErrorsSpec)

/-- 'laws.FnExactAssignClasses', WHERE WHAT IT READS IS OF BULK AT MOST 1048576: true; the input reads as it did. -/
def fnExactAssignClassesUptoRow : OpenClaim := { program := "ytomigopkejlmcaa", sum := "b6336ebc5b03c22e4cfa321f6ceae186d9bfaff5315760d3f2ae3e127e887fdf", func := "loop.example/g03221/laws.FnExactAssignClasses", spec := "fnExactAssignClasses", unfollowed := true, recurses := true, plainKeys := false, apart := false, narrowed := true }
def FnExactAssignClassesUptoSaid : Prop := fnExactAssignClassesUptoRow.holds Try.pinned (OpenSpec.upto fnExactAssignClassesSpec)

end Rows
end Go.Proofs.Ytomigopkejlmcaa
