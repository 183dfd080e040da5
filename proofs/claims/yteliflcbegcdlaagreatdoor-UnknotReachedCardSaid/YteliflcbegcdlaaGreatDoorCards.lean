/-
  DERIVED. GIVEN WITH THE SEED: THE CARDS: each row of YteliflcbegcdlaaGreatDoorRows.lean that lists a variable, with what it lists TIED to the program's text (the seventh form; the later family's looks); each row that meets fmt, with fmt's text TOLD by the authors' own Lean function (tested against real Go, not proved from fmt's source: count such statements apart). THE CARD IS WHAT COUNTS. Prove the row's statement (the work); the ties are given (YteliflcbegcdlaaGreatDoorTie.lean); close each card by the builder's one call (the guide's Derived/Test/ToyasCard.lean, 'card_holds'). Laid BY PROGRAM, IN A SANDBOX (cutbox-door.mjs). By AI agents, Wed Nov 11 2026. No macro, syntax, notation, axiom, sorry.
-/
import Derived.Test.YteliflcbegcdlaaGreatDoorRows
import GoSem.ClaimSeven
namespace Go.Proofs.YteliflcbegcdlaaGreatDoor
namespace Rows

/-- THE TIED CARD OF 'unravellaw45.UnknotReached'. -/
def unknotReachedCard : Claim7 := { stood := { row := unknotReachedRow, standIns := [], harness := (true, "380f4d9cae395c272d1478299500c9b3b3748a88513c9a35952105041208b8bb"), looks := false }, kinds := [], alts := [], laidByText := true, laidKinds := [.data, .data, .data], laidTests := true, laidLooks := .later }
def UnknotReachedCardSaid : Prop := Claim7.holds Tryz.pinned (.plain (OpenSpec.ofChange unknotReachedSpec)) unknotReachedCard

/-- THE TIED CARD OF 'unravellaw45.UnknotClosed'. -/
def unknotClosedCard : Claim7 := { stood := { row := unknotClosedRow, standIns := [], harness := (true, "380f4d9cae395c272d1478299500c9b3b3748a88513c9a35952105041208b8bb"), looks := false }, kinds := [], alts := [], laidByText := true, laidKinds := [.data, .data, .data], laidTests := true, laidLooks := .later }
def UnknotClosedCardSaid : Prop := Claim7.holds Tryz.pinned (.plain (OpenSpec.ofChange unknotClosedSpec)) unknotClosedCard

/-- THE SECOND FORM's CARD OF 'unravellaw45.UnknotReached'. -/
def unknotReachedUptoCard : Claim7 := { stood := { row := unknotReachedUptoRow, standIns := [], harness := (true, "380f4d9cae395c272d1478299500c9b3b3748a88513c9a35952105041208b8bb"), looks := false }, kinds := [], alts := [], laidByText := true, laidKinds := [.data, .data, .data], laidTests := true, laidLooks := .later }
def UnknotReachedUptoCardSaid : Prop := Claim7.holds Tryz.pinned (.plain (OpenSpec.upto unknotReachedSpec)) unknotReachedUptoCard

/-- THE SECOND FORM's CARD OF 'unravellaw45.UnknotClosed'. -/
def unknotClosedUptoCard : Claim7 := { stood := { row := unknotClosedUptoRow, standIns := [], harness := (true, "380f4d9cae395c272d1478299500c9b3b3748a88513c9a35952105041208b8bb"), looks := false }, kinds := [], alts := [], laidByText := true, laidKinds := [.data, .data, .data], laidTests := true, laidLooks := .later }
def UnknotClosedUptoCardSaid : Prop := Claim7.holds Tryz.pinned (.plain (OpenSpec.upto unknotClosedSpec)) unknotClosedUptoCard
end Rows
end Go.Proofs.YteliflcbegcdlaaGreatDoor
