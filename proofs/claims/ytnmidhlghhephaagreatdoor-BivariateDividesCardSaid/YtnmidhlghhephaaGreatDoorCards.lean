/-
  DERIVED. GIVEN WITH THE SEED: THE CARDS: each row of YtnmidhlghhephaaGreatDoorRows.lean that lists a variable, with what it lists TIED to the program's text (the seventh form; the later family's looks); each row that meets fmt, with fmt's text TOLD by the authors' own Lean function (tested against real Go, not proved from fmt's source: count such statements apart). THE CARD IS WHAT COUNTS. Prove the row's statement (the work); the ties are given (YtnmidhlghhephaaGreatDoorTie.lean); close each card by the builder's one call (the guide's Derived/Test/ToyasCard.lean, 'card_holds'). Laid BY PROGRAM, IN A SANDBOX (cutbox-door.mjs). By AI agents, Wed Nov 11 2026. No macro, syntax, notation, axiom, sorry.
-/
import Derived.Test.YtnmidhlghhephaaGreatDoorRows
import GoSem.ClaimSeven
namespace Go.Proofs.YtnmidhlghhephaaGreatDoor
namespace Rows

/-- THE TIED CARD OF 'unravellaw13.BivariateDivides'. -/
def bivariateDividesCard : Claim7 := { stood := { row := bivariateDividesRow, standIns := [], harness := (true, "b0c3fd9b600a53c50f76b63ea88b63a6c02099aba420dd077457cb419c3a41ec"), looks := false }, kinds := [], alts := [], laidByText := true, laidKinds := [.data, .data, .data], laidTests := true, laidLooks := .later }
def BivariateDividesCardSaid : Prop := Claim7.holds Tryz.pinned (.plain (OpenSpec.ofChange bivariateDividesSpec)) bivariateDividesCard

/-- THE SECOND FORM's CARD OF 'unravellaw13.BivariateDivides'. -/
def bivariateDividesUptoCard : Claim7 := { stood := { row := bivariateDividesUptoRow, standIns := [], harness := (true, "b0c3fd9b600a53c50f76b63ea88b63a6c02099aba420dd077457cb419c3a41ec"), looks := false }, kinds := [], alts := [], laidByText := true, laidKinds := [.data, .data, .data], laidTests := true, laidLooks := .later }
def BivariateDividesUptoCardSaid : Prop := Claim7.holds Tryz.pinned (.plain (OpenSpec.upto bivariateDividesSpec)) bivariateDividesUptoCard
end Rows
end Go.Proofs.YtnmidhlghhephaaGreatDoor
