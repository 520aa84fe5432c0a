/-
  No cell of these rows narrows 'for every input' (looked for: loops, veiled, ifaces, maps, wideKeys, modest, calm, conditions, laid).
  DERIVED. THE GIVEN ROWS OF THIS SEAT. 4 by the template 'for every input the law returns true; each argument reads behind the call as it read before'; 0 by the template 'total and deterministic' (their statements: YtcbhdmmohdnjbaaGreatTotals.lean).
  GIVEN WITH THE SEED: the statements are not yours to turn. If you find one false, say at which input.
  Laid BY PROGRAM, IN A SANDBOX (cutbox-rows.mjs): the forced cells as the released guide's own fill.sh prints them over the translation 59ae64b6e402a264… (all of the seat's roots in one cut). By AI agents, Wed Nov 11 2026. No macro, syntax, notation, axiom, sorry.
-/
import Derived.Test.YtcbhdmmohdnjbaaGreatChecked
import GoSem.Claim
import GoSem.ClaimJoined
import GoSem.ClaimMapViews
import Derived.JoinedTies
import Derived.KernelRfl
namespace Go.Proofs.YtcbhdmmohdnjbaaGreat
/- THE CELL 'sum', in the pinned program and in every row, IS THE sha256 OF THE DUMP (.gsa) THAT YtcbhdmmohdnjbaaGreatProg.lean LOADS. Nothing in Lean hashes anything: it is a label: what it is worth is what the hold of that sum in a sandbox is worth. -/
noncomputable def Tryz.pinned : Pinned := { name := "ytcbhdmmohdnjbaagreat", sum := "59ae64b6e402a2640266e11efe82ba9d46c6039ee77c318ba5e5eee2d1239efe", checked := Tryz.checked }
namespace Rows
def none {H : Type} : Left H := { results := [], args := [] }

/-- 'laws.FnExactAddressTerm': WHATEVER THE INPUT: true; the input reads as it did. -/
def fnExactAddressTermSpec : ChangeSpec := { name := "fnExactAddressTerm", fn := fun _ => fun
  | [d1, d2, d3, d4] => { results := [.lit (.bool true)], args := [d1, d2, d3, d4] }
  | _ => none }
def fnExactAddressTermRow : OpenClaim := { program := "ytcbhdmmohdnjbaagreat", sum := "59ae64b6e402a2640266e11efe82ba9d46c6039ee77c318ba5e5eee2d1239efe", func := "loop.example/g03221/laws.FnExactAddressTerm", spec := "fnExactAddressTerm", unfollowed := true, recurses := true, plainKeys := false, apart := false }
def FnExactAddressTermSaid : Prop := fnExactAddressTermRow.holds Tryz.pinned (OpenSpec.ofChange fnExactAddressTermSpec)

/-- ITS FALSE NEIGHBOUR: 'it returns false'. Refute it at one input. -/
def fnExactAddressTermWrong : ChangeSpec := { name := "fnExactAddressTerm", fn := fun _ => fun
  | [d1, d2, d3, d4] => { results := [.lit (.bool false)], args := [d1, d2, d3, d4] }
  | _ => none }
def FnExactAddressTermWrongFalsely : Prop := fnExactAddressTermRow.holds Tryz.pinned (OpenSpec.ofChange fnExactAddressTermWrong)

/-- 'laws.FnExactTermsBetween': WHATEVER THE INPUT: true; the input reads as it did. -/
def fnExactTermsBetweenSpec : ChangeSpec := { name := "fnExactTermsBetween", fn := fun _ => fun
  | [d1, d2, d3, d4, d5] => { results := [.lit (.bool true)], args := [d1, d2, d3, d4, d5] }
  | _ => none }
def fnExactTermsBetweenRow : OpenClaim := { program := "ytcbhdmmohdnjbaagreat", sum := "59ae64b6e402a2640266e11efe82ba9d46c6039ee77c318ba5e5eee2d1239efe", func := "loop.example/g03221/laws.FnExactTermsBetween", spec := "fnExactTermsBetween", unfollowed := true, recurses := true, plainKeys := false, apart := false }
def FnExactTermsBetweenSaid : Prop := fnExactTermsBetweenRow.holds Tryz.pinned (OpenSpec.ofChange fnExactTermsBetweenSpec)

/-- ITS FALSE NEIGHBOUR: 'it returns false'. Refute it at one input. -/
def fnExactTermsBetweenWrong : ChangeSpec := { name := "fnExactTermsBetween", fn := fun _ => fun
  | [d1, d2, d3, d4, d5] => { results := [.lit (.bool false)], args := [d1, d2, d3, d4, d5] }
  | _ => none }
def FnExactTermsBetweenWrongFalsely : Prop := fnExactTermsBetweenRow.holds Tryz.pinned (OpenSpec.ofChange fnExactTermsBetweenWrong)

/-- 'laws.FnExactPeopleCalled': WHATEVER THE INPUT: true; the input reads as it did. -/
def fnExactPeopleCalledSpec : ChangeSpec := { name := "fnExactPeopleCalled", fn := fun _ => fun
  | [d1, d2, d3, d4, d5] => { results := [.lit (.bool true)], args := [d1, d2, d3, d4, d5] }
  | _ => none }
def fnExactPeopleCalledRow : OpenClaim := { program := "ytcbhdmmohdnjbaagreat", sum := "59ae64b6e402a2640266e11efe82ba9d46c6039ee77c318ba5e5eee2d1239efe", func := "loop.example/g03221/laws.FnExactPeopleCalled", spec := "fnExactPeopleCalled", unfollowed := true, recurses := true, plainKeys := false, apart := false }
def FnExactPeopleCalledSaid : Prop := fnExactPeopleCalledRow.holds Tryz.pinned (OpenSpec.ofChange fnExactPeopleCalledSpec)

/-- ITS FALSE NEIGHBOUR: 'it returns false'. Refute it at one input. -/
def fnExactPeopleCalledWrong : ChangeSpec := { name := "fnExactPeopleCalled", fn := fun _ => fun
  | [d1, d2, d3, d4, d5] => { results := [.lit (.bool false)], args := [d1, d2, d3, d4, d5] }
  | _ => none }
def FnExactPeopleCalledWrongFalsely : Prop := fnExactPeopleCalledRow.holds Tryz.pinned (OpenSpec.ofChange fnExactPeopleCalledWrong)

/-- 'laws.FnCalled': WHATEVER THE INPUT: true; the input reads as it did. -/
def fnCalledSpec : ChangeSpec := { name := "fnCalled", fn := fun _ => fun
  | [d] => { results := [.lit (.bool true)], args := [d] }
  | _ => none }
def fnCalledRow : OpenClaim := { program := "ytcbhdmmohdnjbaagreat", sum := "59ae64b6e402a2640266e11efe82ba9d46c6039ee77c318ba5e5eee2d1239efe", func := "loop.example/g03221/laws.FnCalled", spec := "fnCalled", unfollowed := true, recurses := true, plainKeys := false, apart := false }
def FnCalledSaid : Prop := fnCalledRow.holds Tryz.pinned (OpenSpec.ofChange fnCalledSpec)

/-- ITS FALSE NEIGHBOUR: 'it returns false'. Refute it at one input. -/
def fnCalledWrong : ChangeSpec := { name := "fnCalled", fn := fun _ => fun
  | [d] => { results := [.lit (.bool false)], args := [d] }
  | _ => none }
def FnCalledWrongFalsely : Prop := fnCalledRow.holds Tryz.pinned (OpenSpec.ofChange fnCalledWrong)

/- THE SECOND FORM. 'bulk': how many values and letters a reading holds, each counted each time it is reached (what is shared counts as often as it is met; a slice's spare places count too). A statement '..UptoSaid' is the law's where the arguments, and the package variables that the reading takes, are together of bulk at most 1048576: NARROWER than '..Said'. Prove '..Said' where nothing that the law and all that it calls make is longer than what came in: it says more and counts as full. Else prove '..UptoSaid'. A law counts once. -/
mutual
def uptoBulk {H : Type} : DataW H → Nat
  | .lit (.string bytes) => bytes.length + 1
  | .lit _ => 1
  | .nil => 1
  | .ptr d => uptoBulk d + 1
  | .slice elems spare => uptoBulkAll elems + uptoBulkAll spare + 1
  | .agg parts => uptoBulkAll parts + 1
  | .iface _ d => uptoBulk d + 1
  | .map entries => uptoBulkEntries entries + 1
  | .held _ => 1
def uptoBulkAll {H : Type} : List (DataW H) → Nat
  | [] => 0
  | d :: r => uptoBulk d + uptoBulkAll r
def uptoBulkEntries {H : Type} : List (Lit × DataW H) → Nat
  | [] => 0
  | x :: r => uptoBulkEntry x + uptoBulkEntries r
def uptoBulkEntry {H : Type} : Lit × DataW H → Nat
  | (.string bytes, d) => bytes.length + uptoBulk d + 1
  | (_, d) => uptoBulk d + 1
 end
def uptoSmall : (H : Type) → List (DataW H) → Bool := fun _ ds => decide (uptoBulkAll ds ≤ 1048576)
def OpenSpec.upto (s : _root_.Go.ChangeSpec) : _root_.Go.OpenSpec := { _root_.Go.OpenSpec.ofChange s with cond := some uptoSmall }

/-- 'laws.FnExactAddressTerm', WHERE WHAT IT READS IS OF BULK AT MOST 1048576: true; the input reads as it did. -/
def fnExactAddressTermUptoRow : OpenClaim := { program := "ytcbhdmmohdnjbaagreat", sum := "59ae64b6e402a2640266e11efe82ba9d46c6039ee77c318ba5e5eee2d1239efe", func := "loop.example/g03221/laws.FnExactAddressTerm", spec := "fnExactAddressTerm", unfollowed := true, recurses := true, plainKeys := false, apart := false, narrowed := true }
def FnExactAddressTermUptoSaid : Prop := fnExactAddressTermUptoRow.holds Tryz.pinned (OpenSpec.upto fnExactAddressTermSpec)

/-- 'laws.FnExactTermsBetween', WHERE WHAT IT READS IS OF BULK AT MOST 1048576: true; the input reads as it did. -/
def fnExactTermsBetweenUptoRow : OpenClaim := { program := "ytcbhdmmohdnjbaagreat", sum := "59ae64b6e402a2640266e11efe82ba9d46c6039ee77c318ba5e5eee2d1239efe", func := "loop.example/g03221/laws.FnExactTermsBetween", spec := "fnExactTermsBetween", unfollowed := true, recurses := true, plainKeys := false, apart := false, narrowed := true }
def FnExactTermsBetweenUptoSaid : Prop := fnExactTermsBetweenUptoRow.holds Tryz.pinned (OpenSpec.upto fnExactTermsBetweenSpec)

/-- 'laws.FnExactPeopleCalled', WHERE WHAT IT READS IS OF BULK AT MOST 1048576: true; the input reads as it did. -/
def fnExactPeopleCalledUptoRow : OpenClaim := { program := "ytcbhdmmohdnjbaagreat", sum := "59ae64b6e402a2640266e11efe82ba9d46c6039ee77c318ba5e5eee2d1239efe", func := "loop.example/g03221/laws.FnExactPeopleCalled", spec := "fnExactPeopleCalled", unfollowed := true, recurses := true, plainKeys := false, apart := false, narrowed := true }
def FnExactPeopleCalledUptoSaid : Prop := fnExactPeopleCalledUptoRow.holds Tryz.pinned (OpenSpec.upto fnExactPeopleCalledSpec)

/-- 'laws.FnCalled', WHERE WHAT IT READS IS OF BULK AT MOST 1048576: true; the input reads as it did. -/
def fnCalledUptoRow : OpenClaim := { program := "ytcbhdmmohdnjbaagreat", sum := "59ae64b6e402a2640266e11efe82ba9d46c6039ee77c318ba5e5eee2d1239efe", func := "loop.example/g03221/laws.FnCalled", spec := "fnCalled", unfollowed := true, recurses := true, plainKeys := false, apart := false, narrowed := true }
def FnCalledUptoSaid : Prop := fnCalledUptoRow.holds Tryz.pinned (OpenSpec.upto fnCalledSpec)

end Rows
end Go.Proofs.YtcbhdmmohdnjbaaGreat
