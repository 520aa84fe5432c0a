/-
  No cell of these rows narrows 'for every input' (looked for: loops, veiled, ifaces, maps, wideKeys, modest, calm, conditions, laid).
  DERIVED. THE GIVEN ROWS OF THIS SEAT. 12 by the template 'for every input the law returns true; each argument reads behind the call as it read before'; 0 by the template 'total and deterministic' (their statements: YtjpdfofhnnifpaaTotals.lean).
  GIVEN WITH THE SEED: the statements are not yours to turn. If you find one false, say at which input.
  Laid BY PROGRAM, IN A SANDBOX (cutbox-rows.mjs): the forced cells as the released guide's own fill.sh prints them over the translation 9c4de96dd6a074d9… (all of the seat's roots in one cut). By AI agents, Wed Nov 11 2026. No macro, syntax, notation, axiom, sorry.
-/
import Derived.Test.YtjpdfofhnnifpaaChecked
import GoSem.Claim
import GoSem.ClaimJoined
import GoSem.ClaimMapViews
import Derived.JoinedTies
import Derived.KernelRfl
namespace Go.Proofs.Ytjpdfofhnnifpaa
/- THE CELL 'sum', in the pinned program and in every row, IS THE sha256 OF THE DUMP (.gsa) THAT YtjpdfofhnnifpaaProg.lean LOADS. Nothing in Lean hashes anything: it is a label: what it is worth is what the hold of that sum in a sandbox is worth. -/
noncomputable def Try.pinned : Pinned := { name := "ytjpdfofhnnifpaa", sum := "9c4de96dd6a074d969d10470519092bc17d7d2b3a749bc0f70d436a2eb099f86", checked := Try.checked }
namespace Rows
def none {H : Type} : Left H := { results := [], args := [] }

/-- 'laws.FnExactIsClasses': WHATEVER THE INPUT: true; the input reads as it did. -/
def fnExactIsClassesSpec : ChangeSpec := { name := "fnExactIsClasses", fn := fun _ => fun
  | [d] => { results := [.lit (.bool true)], args := [d] }
  | _ => none }
def fnExactIsClassesRow : OpenClaim := { program := "ytjpdfofhnnifpaa", sum := "9c4de96dd6a074d969d10470519092bc17d7d2b3a749bc0f70d436a2eb099f86", func := "loop.example/g03221/laws.FnExactIsClasses", spec := "fnExactIsClasses", apart := false }
def FnExactIsClassesSaid : Prop := fnExactIsClassesRow.holds Try.pinned (OpenSpec.ofChange fnExactIsClassesSpec)

/-- ITS FALSE NEIGHBOUR: 'it returns false'. Refute it at one input. -/
def fnExactIsClassesWrong : ChangeSpec := { name := "fnExactIsClasses", fn := fun _ => fun
  | [d] => { results := [.lit (.bool false)], args := [d] }
  | _ => none }
def FnExactIsClassesWrongFalsely : Prop := fnExactIsClassesRow.holds Try.pinned (OpenSpec.ofChange fnExactIsClassesWrong)

/-- 'laws.FnExactComposePermutations': WHATEVER THE INPUT: true; the input reads as it did. -/
def fnExactComposePermutationsSpec : ChangeSpec := { name := "fnExactComposePermutations", fn := fun _ => fun
  | [d1, d2] => { results := [.lit (.bool true)], args := [d1, d2] }
  | _ => none }
def fnExactComposePermutationsRow : OpenClaim := { program := "ytjpdfofhnnifpaa", sum := "9c4de96dd6a074d969d10470519092bc17d7d2b3a749bc0f70d436a2eb099f86", func := "loop.example/g03221/laws.FnExactComposePermutations", spec := "fnExactComposePermutations", apart := false }
def FnExactComposePermutationsSaid : Prop := fnExactComposePermutationsRow.holds Try.pinned (OpenSpec.ofChange fnExactComposePermutationsSpec)

/-- ITS FALSE NEIGHBOUR: 'it returns false'. Refute it at one input. -/
def fnExactComposePermutationsWrong : ChangeSpec := { name := "fnExactComposePermutations", fn := fun _ => fun
  | [d1, d2] => { results := [.lit (.bool false)], args := [d1, d2] }
  | _ => none }
def FnExactComposePermutationsWrongFalsely : Prop := fnExactComposePermutationsRow.holds Try.pinned (OpenSpec.ofChange fnExactComposePermutationsWrong)

/-- 'laws.FnPermutations': WHATEVER THE INPUT: true; the input reads as it did. -/
def fnPermutationsSpec : ChangeSpec := { name := "fnPermutations", fn := fun _ => fun
  | [d] => { results := [.lit (.bool true)], args := [d] }
  | _ => none }
def fnPermutationsRow : OpenClaim := { program := "ytjpdfofhnnifpaa", sum := "9c4de96dd6a074d969d10470519092bc17d7d2b3a749bc0f70d436a2eb099f86", func := "loop.example/g03221/laws.FnPermutations", spec := "fnPermutations", apart := false }
def FnPermutationsSaid : Prop := fnPermutationsRow.holds Try.pinned (OpenSpec.ofChange fnPermutationsSpec)

/-- ITS FALSE NEIGHBOUR: 'it returns false'. Refute it at one input. -/
def fnPermutationsWrong : ChangeSpec := { name := "fnPermutations", fn := fun _ => fun
  | [d] => { results := [.lit (.bool false)], args := [d] }
  | _ => none }
def FnPermutationsWrongFalsely : Prop := fnPermutationsRow.holds Try.pinned (OpenSpec.ofChange fnPermutationsWrong)

/-- 'laws.FnExactForbidsSiblings': WHATEVER THE INPUT: true; the input reads as it did. -/
def fnExactForbidsSiblingsSpec : ChangeSpec := { name := "fnExactForbidsSiblings", fn := fun _ => fun
  | [d] => { results := [.lit (.bool true)], args := [d] }
  | _ => none }
def fnExactForbidsSiblingsRow : OpenClaim := { program := "ytjpdfofhnnifpaa", sum := "9c4de96dd6a074d969d10470519092bc17d7d2b3a749bc0f70d436a2eb099f86", func := "loop.example/g03221/laws.FnExactForbidsSiblings", spec := "fnExactForbidsSiblings", apart := false }
def FnExactForbidsSiblingsSaid : Prop := fnExactForbidsSiblingsRow.holds Try.pinned (OpenSpec.ofChange fnExactForbidsSiblingsSpec)

/-- ITS FALSE NEIGHBOUR: 'it returns false'. Refute it at one input. -/
def fnExactForbidsSiblingsWrong : ChangeSpec := { name := "fnExactForbidsSiblings", fn := fun _ => fun
  | [d] => { results := [.lit (.bool false)], args := [d] }
  | _ => none }
def FnExactForbidsSiblingsWrongFalsely : Prop := fnExactForbidsSiblingsRow.holds Try.pinned (OpenSpec.ofChange fnExactForbidsSiblingsWrong)

/-- 'laws.FnExactProductClasses': WHATEVER THE INPUT: true; the input reads as it did. -/
def fnExactProductClassesSpec : ChangeSpec := { name := "fnExactProductClasses", fn := fun _ => fun
  | [d1, d2] => { results := [.lit (.bool true)], args := [d1, d2] }
  | _ => none }
def fnExactProductClassesRow : OpenClaim := { program := "ytjpdfofhnnifpaa", sum := "9c4de96dd6a074d969d10470519092bc17d7d2b3a749bc0f70d436a2eb099f86", func := "loop.example/g03221/laws.FnExactProductClasses", spec := "fnExactProductClasses", apart := false }
def FnExactProductClassesSaid : Prop := fnExactProductClassesRow.holds Try.pinned (OpenSpec.ofChange fnExactProductClassesSpec)

/-- ITS FALSE NEIGHBOUR: 'it returns false'. Refute it at one input. -/
def fnExactProductClassesWrong : ChangeSpec := { name := "fnExactProductClasses", fn := fun _ => fun
  | [d1, d2] => { results := [.lit (.bool false)], args := [d1, d2] }
  | _ => none }
def FnExactProductClassesWrongFalsely : Prop := fnExactProductClassesRow.holds Try.pinned (OpenSpec.ofChange fnExactProductClassesWrong)

/-- 'laws.FnExactRelabelClasses': WHATEVER THE INPUT: true; the input reads as it did. -/
def fnExactRelabelClassesSpec : ChangeSpec := { name := "fnExactRelabelClasses", fn := fun _ => fun
  | [d1, d2] => { results := [.lit (.bool true)], args := [d1, d2] }
  | _ => none }
def fnExactRelabelClassesRow : OpenClaim := { program := "ytjpdfofhnnifpaa", sum := "9c4de96dd6a074d969d10470519092bc17d7d2b3a749bc0f70d436a2eb099f86", func := "loop.example/g03221/laws.FnExactRelabelClasses", spec := "fnExactRelabelClasses", apart := false }
def FnExactRelabelClassesSaid : Prop := fnExactRelabelClassesRow.holds Try.pinned (OpenSpec.ofChange fnExactRelabelClassesSpec)

/-- ITS FALSE NEIGHBOUR: 'it returns false'. Refute it at one input. -/
def fnExactRelabelClassesWrong : ChangeSpec := { name := "fnExactRelabelClasses", fn := fun _ => fun
  | [d1, d2] => { results := [.lit (.bool false)], args := [d1, d2] }
  | _ => none }
def FnExactRelabelClassesWrongFalsely : Prop := fnExactRelabelClassesRow.holds Try.pinned (OpenSpec.ofChange fnExactRelabelClassesWrong)

/-- 'laws.FnExactSameClasses': WHATEVER THE INPUT: true; the input reads as it did. -/
def fnExactSameClassesSpec : ChangeSpec := { name := "fnExactSameClasses", fn := fun _ => fun
  | [d1, d2] => { results := [.lit (.bool true)], args := [d1, d2] }
  | _ => none }
def fnExactSameClassesRow : OpenClaim := { program := "ytjpdfofhnnifpaa", sum := "9c4de96dd6a074d969d10470519092bc17d7d2b3a749bc0f70d436a2eb099f86", func := "loop.example/g03221/laws.FnExactSameClasses", spec := "fnExactSameClasses", apart := false }
def FnExactSameClassesSaid : Prop := fnExactSameClassesRow.holds Try.pinned (OpenSpec.ofChange fnExactSameClassesSpec)

/-- ITS FALSE NEIGHBOUR: 'it returns false'. Refute it at one input. -/
def fnExactSameClassesWrong : ChangeSpec := { name := "fnExactSameClasses", fn := fun _ => fun
  | [d1, d2] => { results := [.lit (.bool false)], args := [d1, d2] }
  | _ => none }
def FnExactSameClassesWrongFalsely : Prop := fnExactSameClassesRow.holds Try.pinned (OpenSpec.ofChange fnExactSameClassesWrong)

/-- 'laws.FnExactCanonicalClasses': WHATEVER THE INPUT: true; the input reads as it did. -/
def fnExactCanonicalClassesSpec : ChangeSpec := { name := "fnExactCanonicalClasses", fn := fun _ => fun
  | [d] => { results := [.lit (.bool true)], args := [d] }
  | _ => none }
def fnExactCanonicalClassesRow : OpenClaim := { program := "ytjpdfofhnnifpaa", sum := "9c4de96dd6a074d969d10470519092bc17d7d2b3a749bc0f70d436a2eb099f86", func := "loop.example/g03221/laws.FnExactCanonicalClasses", spec := "fnExactCanonicalClasses", apart := false }
def FnExactCanonicalClassesSaid : Prop := fnExactCanonicalClassesRow.holds Try.pinned (OpenSpec.ofChange fnExactCanonicalClassesSpec)

/-- ITS FALSE NEIGHBOUR: 'it returns false'. Refute it at one input. -/
def fnExactCanonicalClassesWrong : ChangeSpec := { name := "fnExactCanonicalClasses", fn := fun _ => fun
  | [d] => { results := [.lit (.bool false)], args := [d] }
  | _ => none }
def FnExactCanonicalClassesWrongFalsely : Prop := fnExactCanonicalClassesRow.holds Try.pinned (OpenSpec.ofChange fnExactCanonicalClassesWrong)

/-- 'laws.FnExactIsRegular': WHATEVER THE INPUT: true; the input reads as it did. -/
def fnExactIsRegularSpec : ChangeSpec := { name := "fnExactIsRegular", fn := fun _ => fun
  | [d] => { results := [.lit (.bool true)], args := [d] }
  | _ => none }
def fnExactIsRegularRow : OpenClaim := { program := "ytjpdfofhnnifpaa", sum := "9c4de96dd6a074d969d10470519092bc17d7d2b3a749bc0f70d436a2eb099f86", func := "loop.example/g03221/laws.FnExactIsRegular", spec := "fnExactIsRegular", inPlace := ["internal/reflectlite.ValueOf", "internal/reflectlite.Swapper", "(internal/reflectlite.Value).Len"], unfollowed := true, recurses := true, apart := false }
def FnExactIsRegularSaid : Prop := fnExactIsRegularRow.holds Try.pinned (OpenSpec.ofChange fnExactIsRegularSpec)

/-- ITS FALSE NEIGHBOUR: 'it returns false'. Refute it at one input. -/
def fnExactIsRegularWrong : ChangeSpec := { name := "fnExactIsRegular", fn := fun _ => fun
  | [d] => { results := [.lit (.bool false)], args := [d] }
  | _ => none }
def FnExactIsRegularWrongFalsely : Prop := fnExactIsRegularRow.holds Try.pinned (OpenSpec.ofChange fnExactIsRegularWrong)

/-- 'laws.FnExactGroupOf': WHATEVER THE INPUT: true; the input reads as it did. -/
def fnExactGroupOfSpec : ChangeSpec := { name := "fnExactGroupOf", fn := fun _ => fun
  | [d] => { results := [.lit (.bool true)], args := [d] }
  | _ => none }
def fnExactGroupOfRow : OpenClaim := { program := "ytjpdfofhnnifpaa", sum := "9c4de96dd6a074d969d10470519092bc17d7d2b3a749bc0f70d436a2eb099f86", func := "loop.example/g03221/laws.FnExactGroupOf", spec := "fnExactGroupOf", inPlace := ["internal/reflectlite.ValueOf", "internal/reflectlite.Swapper", "(internal/reflectlite.Value).Len"], unfollowed := true, recurses := true, apart := false }
def FnExactGroupOfSaid : Prop := fnExactGroupOfRow.holds Try.pinned (OpenSpec.ofChange fnExactGroupOfSpec)

/-- ITS FALSE NEIGHBOUR: 'it returns false'. Refute it at one input. -/
def fnExactGroupOfWrong : ChangeSpec := { name := "fnExactGroupOf", fn := fun _ => fun
  | [d] => { results := [.lit (.bool false)], args := [d] }
  | _ => none }
def FnExactGroupOfWrongFalsely : Prop := fnExactGroupOfRow.holds Try.pinned (OpenSpec.ofChange fnExactGroupOfWrong)

/-- 'laws.FnRegular': WHATEVER THE INPUT: true; the input reads as it did. -/
def fnRegularSpec : ChangeSpec := { name := "fnRegular", fn := fun _ => fun
  | [d] => { results := [.lit (.bool true)], args := [d] }
  | _ => none }
def fnRegularRow : OpenClaim := { program := "ytjpdfofhnnifpaa", sum := "9c4de96dd6a074d969d10470519092bc17d7d2b3a749bc0f70d436a2eb099f86", func := "loop.example/g03221/laws.FnRegular", spec := "fnRegular", inPlace := ["internal/reflectlite.ValueOf", "internal/reflectlite.Swapper", "(internal/reflectlite.Value).Len"], unfollowed := true, recurses := true, apart := false }
def FnRegularSaid : Prop := fnRegularRow.holds Try.pinned (OpenSpec.ofChange fnRegularSpec)

/-- ITS FALSE NEIGHBOUR: 'it returns false'. Refute it at one input. -/
def fnRegularWrong : ChangeSpec := { name := "fnRegular", fn := fun _ => fun
  | [d] => { results := [.lit (.bool false)], args := [d] }
  | _ => none }
def FnRegularWrongFalsely : Prop := fnRegularRow.holds Try.pinned (OpenSpec.ofChange fnRegularWrong)

/-- 'laws.FnExactAllRegular': WHATEVER THE INPUT: true; the input reads as it did. -/
def fnExactAllRegularSpec : ChangeSpec := { name := "fnExactAllRegular", fn := fun _ => fun
  | [d] => { results := [.lit (.bool true)], args := [d] }
  | _ => none }
def fnExactAllRegularRow : OpenClaim := { program := "ytjpdfofhnnifpaa", sum := "9c4de96dd6a074d969d10470519092bc17d7d2b3a749bc0f70d436a2eb099f86", func := "loop.example/g03221/laws.FnExactAllRegular", spec := "fnExactAllRegular", inPlace := ["internal/reflectlite.ValueOf", "internal/reflectlite.Swapper", "(internal/reflectlite.Value).Len"], unfollowed := true, recurses := true, apart := false }
def FnExactAllRegularSaid : Prop := fnExactAllRegularRow.holds Try.pinned (OpenSpec.ofChange fnExactAllRegularSpec)

/-- ITS FALSE NEIGHBOUR: 'it returns false'. Refute it at one input. -/
def fnExactAllRegularWrong : ChangeSpec := { name := "fnExactAllRegular", fn := fun _ => fun
  | [d] => { results := [.lit (.bool false)], args := [d] }
  | _ => none }
def FnExactAllRegularWrongFalsely : Prop := fnExactAllRegularRow.holds Try.pinned (OpenSpec.ofChange fnExactAllRegularWrong)

/- THE SECOND FORM. 'bulk': how many values and letters a reading holds, each counted each time it is reached (what is shared counts as often as it is met; a slice's spare places count too). A statement '..UptoSaid' is the law's where the arguments, and the package variables that the reading takes, are together of bulk at most 1048576: NARROWER than '..Said'. Prove '..Said' where nothing that the law and all that it calls make is longer than what came in: it says more and counts as full. Else prove '..UptoSaid'. A law counts once. -/
mutual
def uptoBulk {H : Type} : DataW H → Nat
  | .lit (.string bytes) => bytes.length + 1
  | .lit _ => 1
  | .nil => 1
  | .ptr d => uptoBulk d + 1
  | .slice elems spare => uptoBulkAll elems + uptoBulkAll spare + 1
  | .agg parts => uptoBulkAll parts + 1
  | .iface _ d => uptoBulk d + 1
  | .map entries => uptoBulkEntries entries + 1
  | .held _ => 1
def uptoBulkAll {H : Type} : List (DataW H) → Nat
  | [] => 0
  | d :: r => uptoBulk d + uptoBulkAll r
def uptoBulkEntries {H : Type} : List (Lit × DataW H) → Nat
  | [] => 0
  | x :: r => uptoBulkEntry x + uptoBulkEntries r
def uptoBulkEntry {H : Type} : Lit × DataW H → Nat
  | (.string bytes, d) => bytes.length + uptoBulk d + 1
  | (_, d) => uptoBulk d + 1
 end
def uptoSmall : (H : Type) → List (DataW H) → Bool := fun _ ds => decide (uptoBulkAll ds ≤ 1048576)
def OpenSpec.upto (s : _root_.Go.ChangeSpec) : _root_.Go.OpenSpec := { _root_.Go.OpenSpec.ofChange s with cond := some uptoSmall }

/-- 'laws.FnExactIsClasses', WHERE WHAT IT READS IS OF BULK AT MOST 1048576: true; the input reads as it did. -/
def fnExactIsClassesUptoRow : OpenClaim := { program := "ytjpdfofhnnifpaa", sum := "9c4de96dd6a074d969d10470519092bc17d7d2b3a749bc0f70d436a2eb099f86", func := "loop.example/g03221/laws.FnExactIsClasses", spec := "fnExactIsClasses", apart := false, narrowed := true }
def FnExactIsClassesUptoSaid : Prop := fnExactIsClassesUptoRow.holds Try.pinned (OpenSpec.upto fnExactIsClassesSpec)

/-- 'laws.FnExactComposePermutations', WHERE WHAT IT READS IS OF BULK AT MOST 1048576: true; the input reads as it did. -/
def fnExactComposePermutationsUptoRow : OpenClaim := { program := "ytjpdfofhnnifpaa", sum := "9c4de96dd6a074d969d10470519092bc17d7d2b3a749bc0f70d436a2eb099f86", func := "loop.example/g03221/laws.FnExactComposePermutations", spec := "fnExactComposePermutations", apart := false, narrowed := true }
def FnExactComposePermutationsUptoSaid : Prop := fnExactComposePermutationsUptoRow.holds Try.pinned (OpenSpec.upto fnExactComposePermutationsSpec)

/-- 'laws.FnPermutations', WHERE WHAT IT READS IS OF BULK AT MOST 1048576: true; the input reads as it did. -/
def fnPermutationsUptoRow : OpenClaim := { program := "ytjpdfofhnnifpaa", sum := "9c4de96dd6a074d969d10470519092bc17d7d2b3a749bc0f70d436a2eb099f86", func := "loop.example/g03221/laws.FnPermutations", spec := "fnPermutations", apart := false, narrowed := true }
def FnPermutationsUptoSaid : Prop := fnPermutationsUptoRow.holds Try.pinned (OpenSpec.upto fnPermutationsSpec)

/-- 'laws.FnExactForbidsSiblings', WHERE WHAT IT READS IS OF BULK AT MOST 1048576: true; the input reads as it did. -/
def fnExactForbidsSiblingsUptoRow : OpenClaim := { program := "ytjpdfofhnnifpaa", sum := "9c4de96dd6a074d969d10470519092bc17d7d2b3a749bc0f70d436a2eb099f86", func := "loop.example/g03221/laws.FnExactForbidsSiblings", spec := "fnExactForbidsSiblings", apart := false, narrowed := true }
def FnExactForbidsSiblingsUptoSaid : Prop := fnExactForbidsSiblingsUptoRow.holds Try.pinned (OpenSpec.upto fnExactForbidsSiblingsSpec)

/-- 'laws.FnExactProductClasses', WHERE WHAT IT READS IS OF BULK AT MOST 1048576: true; the input reads as it did. -/
def fnExactProductClassesUptoRow : OpenClaim := { program := "ytjpdfofhnnifpaa", sum := "9c4de96dd6a074d969d10470519092bc17d7d2b3a749bc0f70d436a2eb099f86", func := "loop.example/g03221/laws.FnExactProductClasses", spec := "fnExactProductClasses", apart := false, narrowed := true }
def FnExactProductClassesUptoSaid : Prop := fnExactProductClassesUptoRow.holds Try.pinned (OpenSpec.upto fnExactProductClassesSpec)

/-- 'laws.FnExactRelabelClasses', WHERE WHAT IT READS IS OF BULK AT MOST 1048576: true; the input reads as it did. -/
def fnExactRelabelClassesUptoRow : OpenClaim := { program := "ytjpdfofhnnifpaa", sum := "9c4de96dd6a074d969d10470519092bc17d7d2b3a749bc0f70d436a2eb099f86", func := "loop.example/g03221/laws.FnExactRelabelClasses", spec := "fnExactRelabelClasses", apart := false, narrowed := true }
def FnExactRelabelClassesUptoSaid : Prop := fnExactRelabelClassesUptoRow.holds Try.pinned (OpenSpec.upto fnExactRelabelClassesSpec)

/-- 'laws.FnExactSameClasses', WHERE WHAT IT READS IS OF BULK AT MOST 1048576: true; the input reads as it did. -/
def fnExactSameClassesUptoRow : OpenClaim := { program := "ytjpdfofhnnifpaa", sum := "9c4de96dd6a074d969d10470519092bc17d7d2b3a749bc0f70d436a2eb099f86", func := "loop.example/g03221/laws.FnExactSameClasses", spec := "fnExactSameClasses", apart := false, narrowed := true }
def FnExactSameClassesUptoSaid : Prop := fnExactSameClassesUptoRow.holds Try.pinned (OpenSpec.upto fnExactSameClassesSpec)

/-- 'laws.FnExactCanonicalClasses', WHERE WHAT IT READS IS OF BULK AT MOST 1048576: true; the input reads as it did. -/
def fnExactCanonicalClassesUptoRow : OpenClaim := { program := "ytjpdfofhnnifpaa", sum := "9c4de96dd6a074d969d10470519092bc17d7d2b3a749bc0f70d436a2eb099f86", func := "loop.example/g03221/laws.FnExactCanonicalClasses", spec := "fnExactCanonicalClasses", apart := false, narrowed := true }
def FnExactCanonicalClassesUptoSaid : Prop := fnExactCanonicalClassesUptoRow.holds Try.pinned (OpenSpec.upto fnExactCanonicalClassesSpec)

/-- 'laws.FnExactIsRegular', WHERE WHAT IT READS IS OF BULK AT MOST 1048576: true; the input reads as it did. -/
def fnExactIsRegularUptoRow : OpenClaim := { program := "ytjpdfofhnnifpaa", sum := "9c4de96dd6a074d969d10470519092bc17d7d2b3a749bc0f70d436a2eb099f86", func := "loop.example/g03221/laws.FnExactIsRegular", spec := "fnExactIsRegular", inPlace := ["internal/reflectlite.ValueOf", "internal/reflectlite.Swapper", "(internal/reflectlite.Value).Len"], unfollowed := true, recurses := true, apart := false, narrowed := true }
def FnExactIsRegularUptoSaid : Prop := fnExactIsRegularUptoRow.holds Try.pinned (OpenSpec.upto fnExactIsRegularSpec)

/-- 'laws.FnExactGroupOf', WHERE WHAT IT READS IS OF BULK AT MOST 1048576: true; the input reads as it did. -/
def fnExactGroupOfUptoRow : OpenClaim := { program := "ytjpdfofhnnifpaa", sum := "9c4de96dd6a074d969d10470519092bc17d7d2b3a749bc0f70d436a2eb099f86", func := "loop.example/g03221/laws.FnExactGroupOf", spec := "fnExactGroupOf", inPlace := ["internal/reflectlite.ValueOf", "internal/reflectlite.Swapper", "(internal/reflectlite.Value).Len"], unfollowed := true, recurses := true, apart := false, narrowed := true }
def FnExactGroupOfUptoSaid : Prop := fnExactGroupOfUptoRow.holds Try.pinned (OpenSpec.upto fnExactGroupOfSpec)

/-- 'laws.FnRegular', WHERE WHAT IT READS IS OF BULK AT MOST 1048576: true; the input reads as it did. -/
def fnRegularUptoRow : OpenClaim := { program := "ytjpdfofhnnifpaa", sum := "9c4de96dd6a074d969d10470519092bc17d7d2b3a749bc0f70d436a2eb099f86", func := "loop.example/g03221/laws.FnRegular", spec := "fnRegular", inPlace := ["internal/reflectlite.ValueOf", "internal/reflectlite.Swapper", "(internal/reflectlite.Value).Len"], unfollowed := true, recurses := true, apart := false, narrowed := true }
def FnRegularUptoSaid : Prop := fnRegularUptoRow.holds Try.pinned (OpenSpec.upto fnRegularSpec)

/-- 'laws.FnExactAllRegular', WHERE WHAT IT READS IS OF BULK AT MOST 1048576: true; the input reads as it did. -/
def fnExactAllRegularUptoRow : OpenClaim := { program := "ytjpdfofhnnifpaa", sum := "9c4de96dd6a074d969d10470519092bc17d7d2b3a749bc0f70d436a2eb099f86", func := "loop.example/g03221/laws.FnExactAllRegular", spec := "fnExactAllRegular", inPlace := ["internal/reflectlite.ValueOf", "internal/reflectlite.Swapper", "(internal/reflectlite.Value).Len"], unfollowed := true, recurses := true, apart := false, narrowed := true }
def FnExactAllRegularUptoSaid : Prop := fnExactAllRegularUptoRow.holds Try.pinned (OpenSpec.upto fnExactAllRegularSpec)

end Rows
end Go.Proofs.Ytjpdfofhnnifpaa
