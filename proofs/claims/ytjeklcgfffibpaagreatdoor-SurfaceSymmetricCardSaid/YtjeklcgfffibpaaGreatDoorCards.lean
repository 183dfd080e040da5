/-
  DERIVED. GIVEN WITH THE SEED: THE CARDS: each row of YtjeklcgfffibpaaGreatDoorRows.lean that lists a variable, with what it lists TIED to the program's text (the seventh form; the later family's looks); each row that meets fmt, with fmt's text TOLD by the authors' own Lean function (tested against real Go, not proved from fmt's source: count such statements apart). THE CARD IS WHAT COUNTS. Prove the row's statement (the work); the ties are given (YtjeklcgfffibpaaGreatDoorTie.lean); close each card by the builder's one call (the guide's Derived/Test/ToyasCard.lean, 'card_holds'). Laid BY PROGRAM, IN A SANDBOX (cutbox-door.mjs). By AI agents, Wed Nov 11 2026. No macro, syntax, notation, axiom, sorry.
-/
import Derived.Test.YtjeklcgfffibpaaGreatDoorRows
import GoSem.ClaimSeven
namespace Go.Proofs.YtjeklcgfffibpaaGreatDoor
namespace Rows

/-- THE TIED CARD OF 'unravellaw38.SurfaceMatrix'. -/
def surfaceMatrixCard : Claim7 := { stood := { row := surfaceMatrixRow, standIns := [], harness := (true, "040c58806c79e88ef5d2ed157140ca12d2765362cd00c8d4152aee61bf825f81"), looks := false }, kinds := [], alts := [], laidByText := true, laidKinds := [.data, .data, .data], laidTests := true, laidLooks := .later }
def SurfaceMatrixCardSaid : Prop := Claim7.holds Tryz.pinned (.plain (OpenSpec.ofChange surfaceMatrixSpec)) surfaceMatrixCard

/-- THE TIED CARD OF 'unravellaw38.SurfacePolynomials'. -/
def surfacePolynomialsCard : Claim7 := { stood := { row := surfacePolynomialsRow, standIns := [], harness := (true, "040c58806c79e88ef5d2ed157140ca12d2765362cd00c8d4152aee61bf825f81"), looks := false }, kinds := [], alts := [], laidByText := true, laidKinds := [.data, .data, .data], laidTests := true, laidLooks := .later }
def SurfacePolynomialsCardSaid : Prop := Claim7.holds Tryz.pinned (.plain (OpenSpec.ofChange surfacePolynomialsSpec)) surfacePolynomialsCard

/-- THE TIED CARD OF 'unravellaw38.SurfaceSymmetric'. -/
def surfaceSymmetricCard : Claim7 := { stood := { row := surfaceSymmetricRow, standIns := [], harness := (true, "040c58806c79e88ef5d2ed157140ca12d2765362cd00c8d4152aee61bf825f81"), looks := false }, kinds := [], alts := [], laidByText := true, laidKinds := [.data, .data, .data], laidTests := true, laidLooks := .later }
def SurfaceSymmetricCardSaid : Prop := Claim7.holds Tryz.pinned (.plain (OpenSpec.ofChange surfaceSymmetricSpec)) surfaceSymmetricCard

/-- THE TIED CARD OF 'unravellaw38.SurfaceSums'. -/
def surfaceSumsCard : Claim7 := { stood := { row := surfaceSumsRow, standIns := [], harness := (true, "040c58806c79e88ef5d2ed157140ca12d2765362cd00c8d4152aee61bf825f81"), looks := false }, kinds := [], alts := [], laidByText := true, laidKinds := [.data, .data, .data], laidTests := true, laidLooks := .later }
def SurfaceSumsCardSaid : Prop := Claim7.holds Tryz.pinned (.plain (OpenSpec.ofChange surfaceSumsSpec)) surfaceSumsCard

/-- THE SECOND FORM's CARD OF 'unravellaw38.SurfaceMatrix'. -/
def surfaceMatrixUptoCard : Claim7 := { stood := { row := surfaceMatrixUptoRow, standIns := [], harness := (true, "040c58806c79e88ef5d2ed157140ca12d2765362cd00c8d4152aee61bf825f81"), looks := false }, kinds := [], alts := [], laidByText := true, laidKinds := [.data, .data, .data], laidTests := true, laidLooks := .later }
def SurfaceMatrixUptoCardSaid : Prop := Claim7.holds Tryz.pinned (.plain (OpenSpec.upto surfaceMatrixSpec)) surfaceMatrixUptoCard

/-- THE SECOND FORM's CARD OF 'unravellaw38.SurfacePolynomials'. -/
def surfacePolynomialsUptoCard : Claim7 := { stood := { row := surfacePolynomialsUptoRow, standIns := [], harness := (true, "040c58806c79e88ef5d2ed157140ca12d2765362cd00c8d4152aee61bf825f81"), looks := false }, kinds := [], alts := [], laidByText := true, laidKinds := [.data, .data, .data], laidTests := true, laidLooks := .later }
def SurfacePolynomialsUptoCardSaid : Prop := Claim7.holds Tryz.pinned (.plain (OpenSpec.upto surfacePolynomialsSpec)) surfacePolynomialsUptoCard

/-- THE SECOND FORM's CARD OF 'unravellaw38.SurfaceSymmetric'. -/
def surfaceSymmetricUptoCard : Claim7 := { stood := { row := surfaceSymmetricUptoRow, standIns := [], harness := (true, "040c58806c79e88ef5d2ed157140ca12d2765362cd00c8d4152aee61bf825f81"), looks := false }, kinds := [], alts := [], laidByText := true, laidKinds := [.data, .data, .data], laidTests := true, laidLooks := .later }
def SurfaceSymmetricUptoCardSaid : Prop := Claim7.holds Tryz.pinned (.plain (OpenSpec.upto surfaceSymmetricSpec)) surfaceSymmetricUptoCard

/-- THE SECOND FORM's CARD OF 'unravellaw38.SurfaceSums'. -/
def surfaceSumsUptoCard : Claim7 := { stood := { row := surfaceSumsUptoRow, standIns := [], harness := (true, "040c58806c79e88ef5d2ed157140ca12d2765362cd00c8d4152aee61bf825f81"), looks := false }, kinds := [], alts := [], laidByText := true, laidKinds := [.data, .data, .data], laidTests := true, laidLooks := .later }
def SurfaceSumsUptoCardSaid : Prop := Claim7.holds Tryz.pinned (.plain (OpenSpec.upto surfaceSumsSpec)) surfaceSumsUptoCard
end Rows
end Go.Proofs.YtjeklcgfffibpaaGreatDoor
