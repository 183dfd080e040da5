/-
  DERIVED. GIVEN WITH THE SEED: THE CARDS: each row of YtbkgpfalljgdcaaGreatDoorRows.lean that lists a variable, with what it lists TIED to the program's text (the seventh form; the later family's looks); each row that meets fmt, with fmt's text TOLD by the authors' own Lean function (tested against real Go, not proved from fmt's source: count such statements apart). THE CARD IS WHAT COUNTS. Prove the row's statement (the work); the ties are given (YtbkgpfalljgdcaaGreatDoorTie.lean); close each card by the builder's one call (the guide's Derived/Test/ToyasCard.lean, 'card_holds'). Laid BY PROGRAM, IN A SANDBOX (cutbox-door.mjs). By AI agents, Wed Nov 11 2026. No macro, syntax, notation, axiom, sorry.
-/
import Derived.Test.YtbkgpfalljgdcaaGreatDoorRows
import GoSem.ClaimSeven
namespace Go.Proofs.YtbkgpfalljgdcaaGreatDoor
namespace Rows

/-- THE TIED CARD OF 'unravellaw38.SurfaceMatrix'. -/
def surfaceMatrixCard : Claim7 := { stood := { row := surfaceMatrixRow, standIns := [], harness := (true, "b9981dfc51afe541c64e6f5d9577c27fd0afd72bbb828d87523df086bd962ef9"), looks := false }, kinds := [], alts := [], laidByText := true, laidKinds := [.data, .data, .data], laidTests := true, laidLooks := .later }
def SurfaceMatrixCardSaid : Prop := Claim7.holds Tryz.pinned (.plain (OpenSpec.ofChange surfaceMatrixSpec)) surfaceMatrixCard

/-- THE TIED CARD OF 'unravellaw38.SurfaceMoves'. -/
def surfaceMovesCard : Claim7 := { stood := { row := surfaceMovesRow, standIns := [], harness := (true, "b9981dfc51afe541c64e6f5d9577c27fd0afd72bbb828d87523df086bd962ef9"), looks := false }, kinds := [], alts := [], laidByText := true, laidKinds := [.data, .data, .data], laidTests := true, laidLooks := .later }
def SurfaceMovesCardSaid : Prop := Claim7.holds Tryz.pinned (.plain (OpenSpec.ofChange surfaceMovesSpec)) surfaceMovesCard

/-- THE SECOND FORM's CARD OF 'unravellaw38.SurfaceMatrix'. -/
def surfaceMatrixUptoCard : Claim7 := { stood := { row := surfaceMatrixUptoRow, standIns := [], harness := (true, "b9981dfc51afe541c64e6f5d9577c27fd0afd72bbb828d87523df086bd962ef9"), looks := false }, kinds := [], alts := [], laidByText := true, laidKinds := [.data, .data, .data], laidTests := true, laidLooks := .later }
def SurfaceMatrixUptoCardSaid : Prop := Claim7.holds Tryz.pinned (.plain (OpenSpec.upto surfaceMatrixSpec)) surfaceMatrixUptoCard

/-- THE SECOND FORM's CARD OF 'unravellaw38.SurfaceMoves'. -/
def surfaceMovesUptoCard : Claim7 := { stood := { row := surfaceMovesUptoRow, standIns := [], harness := (true, "b9981dfc51afe541c64e6f5d9577c27fd0afd72bbb828d87523df086bd962ef9"), looks := false }, kinds := [], alts := [], laidByText := true, laidKinds := [.data, .data, .data], laidTests := true, laidLooks := .later }
def SurfaceMovesUptoCardSaid : Prop := Claim7.holds Tryz.pinned (.plain (OpenSpec.upto surfaceMovesSpec)) surfaceMovesUptoCard
end Rows
end Go.Proofs.YtbkgpfalljgdcaaGreatDoor
