/-
  DERIVED. GIVEN WITH THE SEED: THE CARDS: each row of YtbfggncmjdhapaaGreatDoorRows.lean that lists a variable, with what it lists TIED to the program's text (the seventh form; the later family's looks); each row that meets fmt, with fmt's text TOLD by the authors' own Lean function (tested against real Go, not proved from fmt's source: count such statements apart). THE CARD IS WHAT COUNTS. Prove the row's statement (the work); the ties are given (YtbfggncmjdhapaaGreatDoorTie.lean); close each card by the builder's one call (the guide's Derived/Test/ToyasCard.lean, 'card_holds'). Laid BY PROGRAM, IN A SANDBOX (cutbox-door.mjs). By AI agents, Wed Nov 11 2026. No macro, syntax, notation, axiom, sorry.
-/
import Derived.Test.YtbfggncmjdhapaaGreatDoorRows
import GoSem.ClaimSeven
namespace Go.Proofs.YtbfggncmjdhapaaGreatDoor
namespace Rows

/-- THE TIED CARD OF 'unravellaw13.BivariateRing'. -/
def bivariateRingCard : Claim7 := { stood := { row := bivariateRingRow, standIns := [], harness := (true, "ef023d8e3ba7ec3593905bfcc8b2ad2804c88108acb81b136eef0b245cac4801"), looks := false }, kinds := [], alts := [], laidByText := true, laidKinds := [.data, .data, .data], laidTests := true, laidLooks := .later }
def BivariateRingCardSaid : Prop := Claim7.holds Tryz.pinned (.plain (OpenSpec.ofChange bivariateRingSpec)) bivariateRingCard

/-- THE TIED CARD OF 'unravellaw13.BivariateDivides'. -/
def bivariateDividesCard : Claim7 := { stood := { row := bivariateDividesRow, standIns := [], harness := (true, "ef023d8e3ba7ec3593905bfcc8b2ad2804c88108acb81b136eef0b245cac4801"), looks := false }, kinds := [], alts := [], laidByText := true, laidKinds := [.data, .data, .data], laidTests := true, laidLooks := .later }
def BivariateDividesCardSaid : Prop := Claim7.holds Tryz.pinned (.plain (OpenSpec.ofChange bivariateDividesSpec)) bivariateDividesCard

/-- THE TIED CARD OF 'unravellaw13.BivariateTerms'. -/
def bivariateTermsCard : Claim7 := { stood := { row := bivariateTermsRow, standIns := [], harness := (true, "ef023d8e3ba7ec3593905bfcc8b2ad2804c88108acb81b136eef0b245cac4801"), looks := false }, kinds := [], alts := [], laidByText := true, laidKinds := [.data, .data, .data], laidTests := true, laidLooks := .later }
def BivariateTermsCardSaid : Prop := Claim7.holds Tryz.pinned (.plain (OpenSpec.ofChange bivariateTermsSpec)) bivariateTermsCard

/-- THE TIED CARD OF 'unravellaw13.BivariateMaps'. -/
def bivariateMapsCard : Claim7 := { stood := { row := bivariateMapsRow, standIns := [], harness := (true, "ef023d8e3ba7ec3593905bfcc8b2ad2804c88108acb81b136eef0b245cac4801"), looks := false }, kinds := [], alts := [], laidByText := true, laidKinds := [.data, .data, .data], laidTests := true, laidLooks := .later }
def BivariateMapsCardSaid : Prop := Claim7.holds Tryz.pinned (.plain (OpenSpec.ofChange bivariateMapsSpec)) bivariateMapsCard

/-- THE TIED CARD OF 'unravellaw13.BivariateErrors'. -/
def bivariateErrorsCard : Claim7 := { stood := { row := bivariateErrorsRow, standIns := [], harness := (true, "ef023d8e3ba7ec3593905bfcc8b2ad2804c88108acb81b136eef0b245cac4801"), looks := false }, kinds := [], alts := [], laidByText := true, laidKinds := [.data, .data, .data], laidTests := true, laidLooks := .later }
def BivariateErrorsCardSaid : Prop := Claim7.holds Tryz.pinned (.plain (OpenSpec.ofChange bivariateErrorsSpec)) bivariateErrorsCard

/-- THE SECOND FORM's CARD OF 'unravellaw13.BivariateRing'. -/
def bivariateRingUptoCard : Claim7 := { stood := { row := bivariateRingUptoRow, standIns := [], harness := (true, "ef023d8e3ba7ec3593905bfcc8b2ad2804c88108acb81b136eef0b245cac4801"), looks := false }, kinds := [], alts := [], laidByText := true, laidKinds := [.data, .data, .data], laidTests := true, laidLooks := .later }
def BivariateRingUptoCardSaid : Prop := Claim7.holds Tryz.pinned (.plain (OpenSpec.upto bivariateRingSpec)) bivariateRingUptoCard

/-- THE SECOND FORM's CARD OF 'unravellaw13.BivariateDivides'. -/
def bivariateDividesUptoCard : Claim7 := { stood := { row := bivariateDividesUptoRow, standIns := [], harness := (true, "ef023d8e3ba7ec3593905bfcc8b2ad2804c88108acb81b136eef0b245cac4801"), looks := false }, kinds := [], alts := [], laidByText := true, laidKinds := [.data, .data, .data], laidTests := true, laidLooks := .later }
def BivariateDividesUptoCardSaid : Prop := Claim7.holds Tryz.pinned (.plain (OpenSpec.upto bivariateDividesSpec)) bivariateDividesUptoCard

/-- THE SECOND FORM's CARD OF 'unravellaw13.BivariateTerms'. -/
def bivariateTermsUptoCard : Claim7 := { stood := { row := bivariateTermsUptoRow, standIns := [], harness := (true, "ef023d8e3ba7ec3593905bfcc8b2ad2804c88108acb81b136eef0b245cac4801"), looks := false }, kinds := [], alts := [], laidByText := true, laidKinds := [.data, .data, .data], laidTests := true, laidLooks := .later }
def BivariateTermsUptoCardSaid : Prop := Claim7.holds Tryz.pinned (.plain (OpenSpec.upto bivariateTermsSpec)) bivariateTermsUptoCard

/-- THE SECOND FORM's CARD OF 'unravellaw13.BivariateMaps'. -/
def bivariateMapsUptoCard : Claim7 := { stood := { row := bivariateMapsUptoRow, standIns := [], harness := (true, "ef023d8e3ba7ec3593905bfcc8b2ad2804c88108acb81b136eef0b245cac4801"), looks := false }, kinds := [], alts := [], laidByText := true, laidKinds := [.data, .data, .data], laidTests := true, laidLooks := .later }
def BivariateMapsUptoCardSaid : Prop := Claim7.holds Tryz.pinned (.plain (OpenSpec.upto bivariateMapsSpec)) bivariateMapsUptoCard

/-- THE SECOND FORM's CARD OF 'unravellaw13.BivariateErrors'. -/
def bivariateErrorsUptoCard : Claim7 := { stood := { row := bivariateErrorsUptoRow, standIns := [], harness := (true, "ef023d8e3ba7ec3593905bfcc8b2ad2804c88108acb81b136eef0b245cac4801"), looks := false }, kinds := [], alts := [], laidByText := true, laidKinds := [.data, .data, .data], laidTests := true, laidLooks := .later }
def BivariateErrorsUptoCardSaid : Prop := Claim7.holds Tryz.pinned (.plain (OpenSpec.upto bivariateErrorsSpec)) bivariateErrorsUptoCard
end Rows
end Go.Proofs.YtbfggncmjdhapaaGreatDoor
