/-
  DERIVED. GIVEN WITH THE SEED: THE CARDS: each row of YteigjfdgijaifaaDoorRows.lean that lists a variable, with what it lists TIED to the program's text (the seventh form; the later family's looks); each row that meets fmt, with fmt's text TOLD by the authors' own Lean function (tested against real Go, not proved from fmt's source: count such statements apart). THE CARD IS WHAT COUNTS. Prove the row's statement (the work); the ties are given (YteigjfdgijaifaaDoorTie.lean); close each card by the builder's one call (the guide's Derived/Test/ToyasCard.lean, 'card_holds'). Laid BY PROGRAM, IN A SANDBOX (cutbox-door.mjs). By AI agents, Wed Nov 11 2026. No macro, syntax, notation, axiom, sorry.
-/
import Derived.Test.YteigjfdgijaifaaDoorRows
import GoSem.ClaimSeven
namespace Go.Proofs.YteigjfdgijaifaaDoor
namespace Rows

/-- THE TIED CARD OF 'unravellaw45.UnknotFinds'. -/
def unknotFindsCard : Claim7 := { stood := { row := unknotFindsRow, standIns := [], harness := (true, "caaa3e35d8b00a094d1fe95f17fa24a3047427e746300e0d62afd68af6898c04"), looks := false }, kinds := [], alts := [], laidByText := true, laidKinds := [.data, .data, .data], laidTests := true, laidLooks := .later }
def UnknotFindsCardSaid : Prop := Claim7.holds Tryd.pinned (.plain (OpenSpec.ofChange unknotFindsSpec)) unknotFindsCard

/-- THE TIED CARD OF 'unravellaw45.UnknotKeeps'. -/
def unknotKeepsCard : Claim7 := { stood := { row := unknotKeepsRow, standIns := [], harness := (true, "caaa3e35d8b00a094d1fe95f17fa24a3047427e746300e0d62afd68af6898c04"), looks := false }, kinds := [], alts := [], laidByText := true, laidKinds := [.data, .data, .data], laidTests := true, laidLooks := .later }
def UnknotKeepsCardSaid : Prop := Claim7.holds Tryd.pinned (.plain (OpenSpec.ofChange unknotKeepsSpec)) unknotKeepsCard

/-- THE TIED CARD OF 'unravellaw45.UnknotBudget'. -/
def unknotBudgetCard : Claim7 := { stood := { row := unknotBudgetRow, standIns := [], harness := (true, "caaa3e35d8b00a094d1fe95f17fa24a3047427e746300e0d62afd68af6898c04"), looks := false }, kinds := [], alts := [], laidByText := true, laidKinds := [.data, .data, .data], laidTests := true, laidLooks := .later }
def UnknotBudgetCardSaid : Prop := Claim7.holds Tryd.pinned (.plain (OpenSpec.ofChange unknotBudgetSpec)) unknotBudgetCard

/-- THE TIED CARD OF 'unravellaw45.UnknotVerdicts'. -/
def unknotVerdictsCard : Claim7 := { stood := { row := unknotVerdictsRow, standIns := [], harness := (true, "caaa3e35d8b00a094d1fe95f17fa24a3047427e746300e0d62afd68af6898c04"), looks := false }, kinds := [], alts := [], laidByText := true, laidKinds := [.data, .data, .data], laidTests := true, laidLooks := .later }
def UnknotVerdictsCardSaid : Prop := Claim7.holds Tryd.pinned (.plain (OpenSpec.ofChange unknotVerdictsSpec)) unknotVerdictsCard

/-- THE SECOND FORM's CARD OF 'unravellaw45.UnknotFinds'. -/
def unknotFindsUptoCard : Claim7 := { stood := { row := unknotFindsUptoRow, standIns := [], harness := (true, "caaa3e35d8b00a094d1fe95f17fa24a3047427e746300e0d62afd68af6898c04"), looks := false }, kinds := [], alts := [], laidByText := true, laidKinds := [.data, .data, .data], laidTests := true, laidLooks := .later }
def UnknotFindsUptoCardSaid : Prop := Claim7.holds Tryd.pinned (.plain (OpenSpec.upto unknotFindsSpec)) unknotFindsUptoCard

/-- THE SECOND FORM's CARD OF 'unravellaw45.UnknotKeeps'. -/
def unknotKeepsUptoCard : Claim7 := { stood := { row := unknotKeepsUptoRow, standIns := [], harness := (true, "caaa3e35d8b00a094d1fe95f17fa24a3047427e746300e0d62afd68af6898c04"), looks := false }, kinds := [], alts := [], laidByText := true, laidKinds := [.data, .data, .data], laidTests := true, laidLooks := .later }
def UnknotKeepsUptoCardSaid : Prop := Claim7.holds Tryd.pinned (.plain (OpenSpec.upto unknotKeepsSpec)) unknotKeepsUptoCard

/-- THE SECOND FORM's CARD OF 'unravellaw45.UnknotBudget'. -/
def unknotBudgetUptoCard : Claim7 := { stood := { row := unknotBudgetUptoRow, standIns := [], harness := (true, "caaa3e35d8b00a094d1fe95f17fa24a3047427e746300e0d62afd68af6898c04"), looks := false }, kinds := [], alts := [], laidByText := true, laidKinds := [.data, .data, .data], laidTests := true, laidLooks := .later }
def UnknotBudgetUptoCardSaid : Prop := Claim7.holds Tryd.pinned (.plain (OpenSpec.upto unknotBudgetSpec)) unknotBudgetUptoCard

/-- THE SECOND FORM's CARD OF 'unravellaw45.UnknotVerdicts'. -/
def unknotVerdictsUptoCard : Claim7 := { stood := { row := unknotVerdictsUptoRow, standIns := [], harness := (true, "caaa3e35d8b00a094d1fe95f17fa24a3047427e746300e0d62afd68af6898c04"), looks := false }, kinds := [], alts := [], laidByText := true, laidKinds := [.data, .data, .data], laidTests := true, laidLooks := .later }
def UnknotVerdictsUptoCardSaid : Prop := Claim7.holds Tryd.pinned (.plain (OpenSpec.upto unknotVerdictsSpec)) unknotVerdictsUptoCard
end Rows
end Go.Proofs.YteigjfdgijaifaaDoor
