/-
  DERIVED. GIVEN WITH THE SEED: THE CARDS: each row of YtdpkldapobbnpaaGreatDoorRows.lean that lists a variable, with what it lists TIED to the program's text (the seventh form; the later family's looks); each row that meets fmt, with fmt's text TOLD by the authors' own Lean function (tested against real Go, not proved from fmt's source: count such statements apart). THE CARD IS WHAT COUNTS. Prove the row's statement (the work); the ties are given (YtdpkldapobbnpaaGreatDoorTie.lean); close each card by the builder's one call (the guide's Derived/Test/ToyasCard.lean, 'card_holds'). Laid BY PROGRAM, IN A SANDBOX (cutbox-door.mjs). By AI agents, Wed Nov 11 2026. No macro, syntax, notation, axiom, sorry.
-/
import Derived.Test.YtdpkldapobbnpaaGreatDoorRows
import GoSem.ClaimSeven
namespace Go.Proofs.YtdpkldapobbnpaaGreatDoor
namespace Rows

/-- THE TIED CARD OF 'laws.FnExactParseTerminology'. -/
def fnExactParseTerminologyCard : Claim7 := { stood := { row := fnExactParseTerminologyRow, standIns := [], harness := (true, "733229dc40f73fbe9faaaf7e1f4342e2d8421e16bf0218cd6e6a46865154f6fb"), looks := false }, kinds := [], alts := [], laidByText := true, laidKinds := [.data, .pinned], laidTests := true, laidLooks := .later }
def FnExactParseTerminologyCardSaid : Prop := Claim7.holds Tryz.pinned (.plain (OpenSpec.ofChange fnExactParseTerminologySpec)) fnExactParseTerminologyCard

/-- THE TIED CARD OF 'laws.FnTerms'. -/
def fnTermsCard : Claim7 := { stood := { row := fnTermsRow, standIns := [], harness := (true, "733229dc40f73fbe9faaaf7e1f4342e2d8421e16bf0218cd6e6a46865154f6fb"), looks := false }, kinds := [], alts := [], laidByText := true, laidKinds := [.data, .pinned], laidTests := true, laidLooks := .later }
def FnTermsCardSaid : Prop := Claim7.holds Tryz.pinned (.plain (OpenSpec.ofChange fnTermsSpec)) fnTermsCard

/-- THE SECOND FORM's CARD OF 'laws.FnExactParseTerminology'. -/
def fnExactParseTerminologyUptoCard : Claim7 := { stood := { row := fnExactParseTerminologyUptoRow, standIns := [], harness := (true, "733229dc40f73fbe9faaaf7e1f4342e2d8421e16bf0218cd6e6a46865154f6fb"), looks := false }, kinds := [], alts := [], laidByText := true, laidKinds := [.data, .pinned], laidTests := true, laidLooks := .later }
def FnExactParseTerminologyUptoCardSaid : Prop := Claim7.holds Tryz.pinned (.plain (OpenSpec.upto fnExactParseTerminologySpec)) fnExactParseTerminologyUptoCard

/-- THE SECOND FORM's CARD OF 'laws.FnTerms'. -/
def fnTermsUptoCard : Claim7 := { stood := { row := fnTermsUptoRow, standIns := [], harness := (true, "733229dc40f73fbe9faaaf7e1f4342e2d8421e16bf0218cd6e6a46865154f6fb"), looks := false }, kinds := [], alts := [], laidByText := true, laidKinds := [.data, .pinned], laidTests := true, laidLooks := .later }
def FnTermsUptoCardSaid : Prop := Claim7.holds Tryz.pinned (.plain (OpenSpec.upto fnTermsSpec)) fnTermsUptoCard
end Rows
end Go.Proofs.YtdpkldapobbnpaaGreatDoor
