/-
  DERIVED. GIVEN WITH THE SEED: THE CARDS: each row of YtlbihllmpbhhcaaDoorRows.lean that lists a variable, with what it lists TIED to the program's text (the seventh form; the later family's looks); each row that meets fmt, with fmt's text TOLD by the authors' own Lean function (tested against real Go, not proved from fmt's source: count such statements apart). THE CARD IS WHAT COUNTS. Prove the row's statement (the work); the ties are given (YtlbihllmpbhhcaaDoorTie.lean); close each card by the builder's one call (the guide's Derived/Test/ToyasCard.lean, 'card_holds'). Laid BY PROGRAM, IN A SANDBOX (cutbox-door.mjs). By AI agents, Wed Nov 11 2026. No macro, syntax, notation, axiom, sorry.
-/
import Derived.Test.YtlbihllmpbhhcaaDoorRows
import GoSem.ClaimSeven
namespace Go.Proofs.YtlbihllmpbhhcaaDoor
namespace Rows

/-- THE TIED CARD OF 'unravellaw23.FoxDerives'. -/
def foxDerivesCard : Claim7 := { stood := { row := foxDerivesRow, standIns := [], harness := (true, "da3396efb13340fd73a3b96d72aa1a99991052e025188a7fe0d29355c442b459"), looks := false }, kinds := [], alts := [], laidByText := true, laidKinds := [.data, .data, .data], laidTests := true, laidLooks := .later }
def FoxDerivesCardSaid : Prop := Claim7.holds Tryd.pinned (.plain (OpenSpec.ofChange foxDerivesSpec)) foxDerivesCard

/-- THE TIED CARD OF 'unravellaw23.FoxMatrix'. -/
def foxMatrixCard : Claim7 := { stood := { row := foxMatrixRow, standIns := [], harness := (true, "da3396efb13340fd73a3b96d72aa1a99991052e025188a7fe0d29355c442b459"), looks := false }, kinds := [], alts := [], laidByText := true, laidKinds := [.data, .data, .data], laidTests := true, laidLooks := .later }
def FoxMatrixCardSaid : Prop := Claim7.holds Tryd.pinned (.plain (OpenSpec.ofChange foxMatrixSpec)) foxMatrixCard

/-- THE TIED CARD OF 'unravellaw23.FoxReduces'. -/
def foxReducesCard : Claim7 := { stood := { row := foxReducesRow, standIns := [], harness := (true, "da3396efb13340fd73a3b96d72aa1a99991052e025188a7fe0d29355c442b459"), looks := false }, kinds := [], alts := [], laidByText := true, laidKinds := [.data, .data, .data], laidTests := true, laidLooks := .later }
def FoxReducesCardSaid : Prop := Claim7.holds Tryd.pinned (.plain (OpenSpec.ofChange foxReducesSpec)) foxReducesCard

/-- THE TIED CARD OF 'unravellaw23.FoxProducts'. -/
def foxProductsCard : Claim7 := { stood := { row := foxProductsRow, standIns := [], harness := (true, "da3396efb13340fd73a3b96d72aa1a99991052e025188a7fe0d29355c442b459"), looks := false }, kinds := [], alts := [], laidByText := true, laidKinds := [.data, .data, .data], laidTests := true, laidLooks := .later }
def FoxProductsCardSaid : Prop := Claim7.holds Tryd.pinned (.plain (OpenSpec.ofChange foxProductsSpec)) foxProductsCard

/-- THE TIED CARD OF 'unravellaw23.FoxAugments'. -/
def foxAugmentsCard : Claim7 := { stood := { row := foxAugmentsRow, standIns := [], harness := (true, "da3396efb13340fd73a3b96d72aa1a99991052e025188a7fe0d29355c442b459"), looks := false }, kinds := [], alts := [], laidByText := true, laidKinds := [.data, .data, .data], laidTests := true, laidLooks := .later }
def FoxAugmentsCardSaid : Prop := Claim7.holds Tryd.pinned (.plain (OpenSpec.ofChange foxAugmentsSpec)) foxAugmentsCard

/-- THE TIED CARD OF 'unravellaw23.FoxRows'. -/
def foxRowsCard : Claim7 := { stood := { row := foxRowsRow, standIns := [], harness := (true, "da3396efb13340fd73a3b96d72aa1a99991052e025188a7fe0d29355c442b459"), looks := false }, kinds := [], alts := [], laidByText := true, laidKinds := [.data, .data, .data], laidTests := true, laidLooks := .later }
def FoxRowsCardSaid : Prop := Claim7.holds Tryd.pinned (.plain (OpenSpec.ofChange foxRowsSpec)) foxRowsCard

/-- THE SECOND FORM's CARD OF 'unravellaw23.FoxDerives'. -/
def foxDerivesUptoCard : Claim7 := { stood := { row := foxDerivesUptoRow, standIns := [], harness := (true, "da3396efb13340fd73a3b96d72aa1a99991052e025188a7fe0d29355c442b459"), looks := false }, kinds := [], alts := [], laidByText := true, laidKinds := [.data, .data, .data], laidTests := true, laidLooks := .later }
def FoxDerivesUptoCardSaid : Prop := Claim7.holds Tryd.pinned (.plain (OpenSpec.upto foxDerivesSpec)) foxDerivesUptoCard

/-- THE SECOND FORM's CARD OF 'unravellaw23.FoxMatrix'. -/
def foxMatrixUptoCard : Claim7 := { stood := { row := foxMatrixUptoRow, standIns := [], harness := (true, "da3396efb13340fd73a3b96d72aa1a99991052e025188a7fe0d29355c442b459"), looks := false }, kinds := [], alts := [], laidByText := true, laidKinds := [.data, .data, .data], laidTests := true, laidLooks := .later }
def FoxMatrixUptoCardSaid : Prop := Claim7.holds Tryd.pinned (.plain (OpenSpec.upto foxMatrixSpec)) foxMatrixUptoCard

/-- THE SECOND FORM's CARD OF 'unravellaw23.FoxReduces'. -/
def foxReducesUptoCard : Claim7 := { stood := { row := foxReducesUptoRow, standIns := [], harness := (true, "da3396efb13340fd73a3b96d72aa1a99991052e025188a7fe0d29355c442b459"), looks := false }, kinds := [], alts := [], laidByText := true, laidKinds := [.data, .data, .data], laidTests := true, laidLooks := .later }
def FoxReducesUptoCardSaid : Prop := Claim7.holds Tryd.pinned (.plain (OpenSpec.upto foxReducesSpec)) foxReducesUptoCard

/-- THE SECOND FORM's CARD OF 'unravellaw23.FoxProducts'. -/
def foxProductsUptoCard : Claim7 := { stood := { row := foxProductsUptoRow, standIns := [], harness := (true, "da3396efb13340fd73a3b96d72aa1a99991052e025188a7fe0d29355c442b459"), looks := false }, kinds := [], alts := [], laidByText := true, laidKinds := [.data, .data, .data], laidTests := true, laidLooks := .later }
def FoxProductsUptoCardSaid : Prop := Claim7.holds Tryd.pinned (.plain (OpenSpec.upto foxProductsSpec)) foxProductsUptoCard

/-- THE SECOND FORM's CARD OF 'unravellaw23.FoxAugments'. -/
def foxAugmentsUptoCard : Claim7 := { stood := { row := foxAugmentsUptoRow, standIns := [], harness := (true, "da3396efb13340fd73a3b96d72aa1a99991052e025188a7fe0d29355c442b459"), looks := false }, kinds := [], alts := [], laidByText := true, laidKinds := [.data, .data, .data], laidTests := true, laidLooks := .later }
def FoxAugmentsUptoCardSaid : Prop := Claim7.holds Tryd.pinned (.plain (OpenSpec.upto foxAugmentsSpec)) foxAugmentsUptoCard

/-- THE SECOND FORM's CARD OF 'unravellaw23.FoxRows'. -/
def foxRowsUptoCard : Claim7 := { stood := { row := foxRowsUptoRow, standIns := [], harness := (true, "da3396efb13340fd73a3b96d72aa1a99991052e025188a7fe0d29355c442b459"), looks := false }, kinds := [], alts := [], laidByText := true, laidKinds := [.data, .data, .data], laidTests := true, laidLooks := .later }
def FoxRowsUptoCardSaid : Prop := Claim7.holds Tryd.pinned (.plain (OpenSpec.upto foxRowsSpec)) foxRowsUptoCard
end Rows
end Go.Proofs.YtlbihllmpbhhcaaDoor
