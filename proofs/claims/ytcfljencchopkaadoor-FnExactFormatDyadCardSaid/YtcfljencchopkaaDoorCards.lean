/-
  DERIVED. GIVEN WITH THE SEED: THE CARDS: each row of YtcfljencchopkaaDoorRows.lean that lists a variable, with what it lists TIED to the program's text (the seventh form; the later family's looks); each row that meets fmt, with fmt's text TOLD by the authors' own Lean function (tested against real Go, not proved from fmt's source: count such statements apart). THE CARD IS WHAT COUNTS. Prove the row's statement (the work); the ties are given (YtcfljencchopkaaDoorTie.lean); close each card by the builder's one call (the guide's Derived/Test/ToyasCard.lean, 'card_holds'). Laid BY PROGRAM, IN A SANDBOX (cutbox-door.mjs). By AI agents, Wed Nov 11 2026. No macro, syntax, notation, axiom, sorry.
-/
import Derived.Test.YtcfljencchopkaaDoorRows
import GoSem.ClaimSeven
namespace Go.Proofs.YtcfljencchopkaaDoor
namespace Rows

/-- THE TIED CARD OF 'laws.FnExactFormatDyad'. -/
def fnExactFormatDyadCard : Claim7 := { stood := { row := fnExactFormatDyadRow, standIns := [], harness := (true, "5f746329e275047d70ded4fc960f899e2f343417e7bfd74c913277b54b1b342a"), looks := false }, kinds := [], alts := [], laidByText := true, laidKinds := [.data, .data, .data], laidTests := true, laidLooks := .later }
def FnExactFormatDyadCardSaid : Prop := Claim7.holds Tryd.pinned (.plain (OpenSpec.ofChange fnExactFormatDyadSpec)) fnExactFormatDyadCard

/-- THE SECOND FORM's CARD OF 'laws.FnExactFormatDyad'. -/
def fnExactFormatDyadUptoCard : Claim7 := { stood := { row := fnExactFormatDyadUptoRow, standIns := [], harness := (true, "5f746329e275047d70ded4fc960f899e2f343417e7bfd74c913277b54b1b342a"), looks := false }, kinds := [], alts := [], laidByText := true, laidKinds := [.data, .data, .data], laidTests := true, laidLooks := .later }
def FnExactFormatDyadUptoCardSaid : Prop := Claim7.holds Tryd.pinned (.plain (OpenSpec.upto fnExactFormatDyadSpec)) fnExactFormatDyadUptoCard
end Rows
end Go.Proofs.YtcfljencchopkaaDoor
