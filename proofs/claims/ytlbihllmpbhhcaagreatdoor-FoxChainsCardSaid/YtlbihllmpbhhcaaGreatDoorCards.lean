/-
  DERIVED. GIVEN WITH THE SEED: THE CARDS: each row of YtlbihllmpbhhcaaGreatDoorRows.lean that lists a variable, with what it lists TIED to the program's text (the seventh form; the later family's looks); each row that meets fmt, with fmt's text TOLD by the authors' own Lean function (tested against real Go, not proved from fmt's source: count such statements apart). THE CARD IS WHAT COUNTS. Prove the row's statement (the work); the ties are given (YtlbihllmpbhhcaaGreatDoorTie.lean); close each card by the builder's one call (the guide's Derived/Test/ToyasCard.lean, 'card_holds'). Laid BY PROGRAM, IN A SANDBOX (cutbox-door.mjs). By AI agents, Wed Nov 11 2026. No macro, syntax, notation, axiom, sorry.
-/
import Derived.Test.YtlbihllmpbhhcaaGreatDoorRows
import GoSem.ClaimSeven
namespace Go.Proofs.YtlbihllmpbhhcaaGreatDoor
namespace Rows

/-- THE TIED CARD OF 'unravellaw23.FoxFundamental'. -/
def foxFundamentalCard : Claim7 := { stood := { row := foxFundamentalRow, standIns := [], harness := (true, "c5b07eb31b73d21dbb98fae9a75117290dd89a262eb743b9a2cfa996dffd65a2"), looks := false }, kinds := [], alts := [], laidByText := true, laidKinds := [.data, .data, .data], laidTests := true, laidLooks := .later }
def FoxFundamentalCardSaid : Prop := Claim7.holds Tryz.pinned (.plain (OpenSpec.ofChange foxFundamentalSpec)) foxFundamentalCard

/-- THE TIED CARD OF 'unravellaw23.FoxChains'. -/
def foxChainsCard : Claim7 := { stood := { row := foxChainsRow, standIns := [], harness := (true, "c5b07eb31b73d21dbb98fae9a75117290dd89a262eb743b9a2cfa996dffd65a2"), looks := false }, kinds := [], alts := [], laidByText := true, laidKinds := [.data, .data, .data], laidTests := true, laidLooks := .later }
def FoxChainsCardSaid : Prop := Claim7.holds Tryz.pinned (.plain (OpenSpec.ofChange foxChainsSpec)) foxChainsCard

/-- THE SECOND FORM's CARD OF 'unravellaw23.FoxFundamental'. -/
def foxFundamentalUptoCard : Claim7 := { stood := { row := foxFundamentalUptoRow, standIns := [], harness := (true, "c5b07eb31b73d21dbb98fae9a75117290dd89a262eb743b9a2cfa996dffd65a2"), looks := false }, kinds := [], alts := [], laidByText := true, laidKinds := [.data, .data, .data], laidTests := true, laidLooks := .later }
def FoxFundamentalUptoCardSaid : Prop := Claim7.holds Tryz.pinned (.plain (OpenSpec.upto foxFundamentalSpec)) foxFundamentalUptoCard

/-- THE SECOND FORM's CARD OF 'unravellaw23.FoxChains'. -/
def foxChainsUptoCard : Claim7 := { stood := { row := foxChainsUptoRow, standIns := [], harness := (true, "c5b07eb31b73d21dbb98fae9a75117290dd89a262eb743b9a2cfa996dffd65a2"), looks := false }, kinds := [], alts := [], laidByText := true, laidKinds := [.data, .data, .data], laidTests := true, laidLooks := .later }
def FoxChainsUptoCardSaid : Prop := Claim7.holds Tryz.pinned (.plain (OpenSpec.upto foxChainsSpec)) foxChainsUptoCard
end Rows
end Go.Proofs.YtlbihllmpbhhcaaGreatDoor
