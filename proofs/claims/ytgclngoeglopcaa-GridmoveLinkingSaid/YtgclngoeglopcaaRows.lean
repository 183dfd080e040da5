/-
  No cell of these rows narrows 'for every input' (looked for: loops, veiled, ifaces, maps, wideKeys, modest, calm, conditions, laid).
  DERIVED. THE GIVEN ROWS OF THIS SEAT. 8 by the template 'for every input the law returns true; each argument reads behind the call as it read before'; 0 by the template 'total and deterministic' (their statements: YtgclngoeglopcaaTotals.lean).
  GIVEN WITH THE SEED: the statements are not yours to turn. If you find one false, say at which input.
  Laid BY PROGRAM, IN A SANDBOX (cutbox-rows.mjs): the forced cells as the released guide's own fill.sh prints them over the translation 390fabb5dc0ef6a5… (all of the seat's roots in one cut). By AI agents, Wed Nov 11 2026. No macro, syntax, notation, axiom, sorry.
-/
import Derived.Test.YtgclngoeglopcaaChecked
import GoSem.Claim
import GoSem.ClaimJoined
import GoSem.ClaimMapViews
import Derived.JoinedTies
import Derived.KernelRfl
namespace Go.Proofs.Ytgclngoeglopcaa
/- THE CELL 'sum', in the pinned program and in every row, IS THE sha256 OF THE DUMP (.gsa) THAT YtgclngoeglopcaaProg.lean LOADS. Nothing in Lean hashes anything: it is a label: what it is worth is what the hold of that sum in a sandbox is worth. -/
noncomputable def Try.pinned : Pinned := { name := "ytgclngoeglopcaa", sum := "390fabb5dc0ef6a583d9c50ce23fe6e95bb71c26c244cfd56ea4a7e775599f0e", checked := Try.checked }
namespace Rows
def none {H : Type} : Left H := { results := [], args := [] }

/-- 'unravellaw43.GridmoveApplies': WHATEVER THE INPUT: true; the input reads as it did. -/
def gridmoveAppliesSpec : ChangeSpec := { name := "gridmoveApplies", fn := fun _ => fun
  | [d1, d2] => { results := [.lit (.bool true)], args := [d1, d2] }
  | _ => none }
def gridmoveAppliesRow : OpenClaim := { program := "ytgclngoeglopcaa", sum := "390fabb5dc0ef6a583d9c50ce23fe6e95bb71c26c244cfd56ea4a7e775599f0e", func := "unravel/unravellaw43.GridmoveApplies", spec := "gridmoveApplies", unfollowed := true, recurses := true, apart := false }
def GridmoveAppliesSaid : Prop := gridmoveAppliesRow.holds Try.pinned (OpenSpec.ofChange gridmoveAppliesSpec)

/-- ITS FALSE NEIGHBOUR: 'it returns false'. Refute it at one input. -/
def gridmoveAppliesWrong : ChangeSpec := { name := "gridmoveApplies", fn := fun _ => fun
  | [d1, d2] => { results := [.lit (.bool false)], args := [d1, d2] }
  | _ => none }
def GridmoveAppliesWrongFalsely : Prop := gridmoveAppliesRow.holds Try.pinned (OpenSpec.ofChange gridmoveAppliesWrong)

/-- 'unravellaw43.GridmoveUndoes': WHATEVER THE INPUT: true; the input reads as it did. -/
def gridmoveUndoesSpec : ChangeSpec := { name := "gridmoveUndoes", fn := fun _ => fun
  | [d1, d2] => { results := [.lit (.bool true)], args := [d1, d2] }
  | _ => none }
def gridmoveUndoesRow : OpenClaim := { program := "ytgclngoeglopcaa", sum := "390fabb5dc0ef6a583d9c50ce23fe6e95bb71c26c244cfd56ea4a7e775599f0e", func := "unravel/unravellaw43.GridmoveUndoes", spec := "gridmoveUndoes", unfollowed := true, recurses := true, apart := false }
def GridmoveUndoesSaid : Prop := gridmoveUndoesRow.holds Try.pinned (OpenSpec.ofChange gridmoveUndoesSpec)

/-- ITS FALSE NEIGHBOUR: 'it returns false'. Refute it at one input. -/
def gridmoveUndoesWrong : ChangeSpec := { name := "gridmoveUndoes", fn := fun _ => fun
  | [d1, d2] => { results := [.lit (.bool false)], args := [d1, d2] }
  | _ => none }
def GridmoveUndoesWrongFalsely : Prop := gridmoveUndoesRow.holds Try.pinned (OpenSpec.ofChange gridmoveUndoesWrong)

/-- 'unravellaw43.GridmoveTransposes': WHATEVER THE INPUT: true; the input reads as it did. -/
def gridmoveTransposesSpec : ChangeSpec := { name := "gridmoveTransposes", fn := fun _ => fun
  | [d1, d2] => { results := [.lit (.bool true)], args := [d1, d2] }
  | _ => none }
def gridmoveTransposesRow : OpenClaim := { program := "ytgclngoeglopcaa", sum := "390fabb5dc0ef6a583d9c50ce23fe6e95bb71c26c244cfd56ea4a7e775599f0e", func := "unravel/unravellaw43.GridmoveTransposes", spec := "gridmoveTransposes", unfollowed := true, recurses := true, apart := false }
def GridmoveTransposesSaid : Prop := gridmoveTransposesRow.holds Try.pinned (OpenSpec.ofChange gridmoveTransposesSpec)

/-- ITS FALSE NEIGHBOUR: 'it returns false'. Refute it at one input. -/
def gridmoveTransposesWrong : ChangeSpec := { name := "gridmoveTransposes", fn := fun _ => fun
  | [d1, d2] => { results := [.lit (.bool false)], args := [d1, d2] }
  | _ => none }
def GridmoveTransposesWrongFalsely : Prop := gridmoveTransposesRow.holds Try.pinned (OpenSpec.ofChange gridmoveTransposesWrong)

/-- 'unravellaw43.GridmoveValid': WHATEVER THE INPUT: true; the input reads as it did. -/
def gridmoveValidSpec : ChangeSpec := { name := "gridmoveValid", fn := fun _ => fun
  | [d1, d2] => { results := [.lit (.bool true)], args := [d1, d2] }
  | _ => none }
def gridmoveValidRow : OpenClaim := { program := "ytgclngoeglopcaa", sum := "390fabb5dc0ef6a583d9c50ce23fe6e95bb71c26c244cfd56ea4a7e775599f0e", func := "unravel/unravellaw43.GridmoveValid", spec := "gridmoveValid", unfollowed := true, recurses := true, apart := false }
def GridmoveValidSaid : Prop := gridmoveValidRow.holds Try.pinned (OpenSpec.ofChange gridmoveValidSpec)

/-- ITS FALSE NEIGHBOUR: 'it returns false'. Refute it at one input. -/
def gridmoveValidWrong : ChangeSpec := { name := "gridmoveValid", fn := fun _ => fun
  | [d1, d2] => { results := [.lit (.bool false)], args := [d1, d2] }
  | _ => none }
def GridmoveValidWrongFalsely : Prop := gridmoveValidRow.holds Try.pinned (OpenSpec.ofChange gridmoveValidWrong)

/-- 'unravellaw43.GridmoveAll': WHATEVER THE INPUT: true; the input reads as it did. -/
def gridmoveAllSpec : ChangeSpec := { name := "gridmoveAll", fn := fun _ => fun
  | [d1, d2] => { results := [.lit (.bool true)], args := [d1, d2] }
  | _ => none }
def gridmoveAllRow : OpenClaim := { program := "ytgclngoeglopcaa", sum := "390fabb5dc0ef6a583d9c50ce23fe6e95bb71c26c244cfd56ea4a7e775599f0e", func := "unravel/unravellaw43.GridmoveAll", spec := "gridmoveAll", unfollowed := true, recurses := true, apart := false }
def GridmoveAllSaid : Prop := gridmoveAllRow.holds Try.pinned (OpenSpec.ofChange gridmoveAllSpec)

/-- ITS FALSE NEIGHBOUR: 'it returns false'. Refute it at one input. -/
def gridmoveAllWrong : ChangeSpec := { name := "gridmoveAll", fn := fun _ => fun
  | [d1, d2] => { results := [.lit (.bool false)], args := [d1, d2] }
  | _ => none }
def GridmoveAllWrongFalsely : Prop := gridmoveAllRow.holds Try.pinned (OpenSpec.ofChange gridmoveAllWrong)

/-- 'unravellaw43.GridmovePlays': WHATEVER THE INPUT: true; the input reads as it did. -/
def gridmovePlaysSpec : ChangeSpec := { name := "gridmovePlays", fn := fun _ => fun
  | [d1, d2, d3] => { results := [.lit (.bool true)], args := [d1, d2, d3] }
  | _ => none }
def gridmovePlaysRow : OpenClaim := { program := "ytgclngoeglopcaa", sum := "390fabb5dc0ef6a583d9c50ce23fe6e95bb71c26c244cfd56ea4a7e775599f0e", func := "unravel/unravellaw43.GridmovePlays", spec := "gridmovePlays", unfollowed := true, recurses := true, apart := false }
def GridmovePlaysSaid : Prop := gridmovePlaysRow.holds Try.pinned (OpenSpec.ofChange gridmovePlaysSpec)

/-- ITS FALSE NEIGHBOUR: 'it returns false'. Refute it at one input. -/
def gridmovePlaysWrong : ChangeSpec := { name := "gridmovePlays", fn := fun _ => fun
  | [d1, d2, d3] => { results := [.lit (.bool false)], args := [d1, d2, d3] }
  | _ => none }
def GridmovePlaysWrongFalsely : Prop := gridmovePlaysRow.holds Try.pinned (OpenSpec.ofChange gridmovePlaysWrong)

/-- 'unravellaw43.GridmoveLinking': WHATEVER THE INPUT: true; the input reads as it did. -/
def gridmoveLinkingSpec : ChangeSpec := { name := "gridmoveLinking", fn := fun _ => fun
  | [d1, d2] => { results := [.lit (.bool true)], args := [d1, d2] }
  | _ => none }
def gridmoveLinkingRow : OpenClaim := { program := "ytgclngoeglopcaa", sum := "390fabb5dc0ef6a583d9c50ce23fe6e95bb71c26c244cfd56ea4a7e775599f0e", func := "unravel/unravellaw43.GridmoveLinking", spec := "gridmoveLinking", unfollowed := true, recurses := true, apart := false }
def GridmoveLinkingSaid : Prop := gridmoveLinkingRow.holds Try.pinned (OpenSpec.ofChange gridmoveLinkingSpec)

/-- ITS FALSE NEIGHBOUR: 'it returns false'. Refute it at one input. -/
def gridmoveLinkingWrong : ChangeSpec := { name := "gridmoveLinking", fn := fun _ => fun
  | [d1, d2] => { results := [.lit (.bool false)], args := [d1, d2] }
  | _ => none }
def GridmoveLinkingWrongFalsely : Prop := gridmoveLinkingRow.holds Try.pinned (OpenSpec.ofChange gridmoveLinkingWrong)

/-- 'unravellaw43.GridmoveTranslates': WHATEVER THE INPUT: true; the input reads as it did. -/
def gridmoveTranslatesSpec : ChangeSpec := { name := "gridmoveTranslates", fn := fun _ => fun
  | [d1, d2, d3, d4] => { results := [.lit (.bool true)], args := [d1, d2, d3, d4] }
  | _ => none }
def gridmoveTranslatesRow : OpenClaim := { program := "ytgclngoeglopcaa", sum := "390fabb5dc0ef6a583d9c50ce23fe6e95bb71c26c244cfd56ea4a7e775599f0e", func := "unravel/unravellaw43.GridmoveTranslates", spec := "gridmoveTranslates", unfollowed := true, recurses := true, apart := false }
def GridmoveTranslatesSaid : Prop := gridmoveTranslatesRow.holds Try.pinned (OpenSpec.ofChange gridmoveTranslatesSpec)

/-- ITS FALSE NEIGHBOUR: 'it returns false'. Refute it at one input. -/
def gridmoveTranslatesWrong : ChangeSpec := { name := "gridmoveTranslates", fn := fun _ => fun
  | [d1, d2, d3, d4] => { results := [.lit (.bool false)], args := [d1, d2, d3, d4] }
  | _ => none }
def GridmoveTranslatesWrongFalsely : Prop := gridmoveTranslatesRow.holds Try.pinned (OpenSpec.ofChange gridmoveTranslatesWrong)

/- THE SECOND FORM. 'bulk': how many values and letters a reading holds, each counted each time it is reached (what is shared counts as often as it is met; a slice's spare places count too). A statement '..UptoSaid' is the law's where the arguments, and the package variables that the reading takes, are together of bulk at most 1048576: NARROWER than '..Said'. Prove '..Said' where nothing that the law and all that it calls make is longer than what came in: it says more and counts as full. Else prove '..UptoSaid'. A law counts once. -/
mutual
def uptoBulk {H : Type} : DataW H → Nat
  | .lit (.string bytes) => bytes.length + 1
  | .lit _ => 1
  | .nil => 1
  | .ptr d => uptoBulk d + 1
  | .slice elems spare => uptoBulkAll elems + uptoBulkAll spare + 1
  | .agg parts => uptoBulkAll parts + 1
  | .iface _ d => uptoBulk d + 1
  | .map entries => uptoBulkEntries entries + 1
  | .held _ => 1
def uptoBulkAll {H : Type} : List (DataW H) → Nat
  | [] => 0
  | d :: r => uptoBulk d + uptoBulkAll r
def uptoBulkEntries {H : Type} : List (Lit × DataW H) → Nat
  | [] => 0
  | x :: r => uptoBulkEntry x + uptoBulkEntries r
def uptoBulkEntry {H : Type} : Lit × DataW H → Nat
  | (.string bytes, d) => bytes.length + uptoBulk d + 1
  | (_, d) => uptoBulk d + 1
 end
def uptoSmall : (H : Type) → List (DataW H) → Bool := fun _ ds => decide (uptoBulkAll ds ≤ 1048576)
def OpenSpec.upto (s : _root_.Go.ChangeSpec) : _root_.Go.OpenSpec := { _root_.Go.OpenSpec.ofChange s with cond := some uptoSmall }

/-- 'unravellaw43.GridmoveApplies', WHERE WHAT IT READS IS OF BULK AT MOST 1048576: true; the input reads as it did. -/
def gridmoveAppliesUptoRow : OpenClaim := { program := "ytgclngoeglopcaa", sum := "390fabb5dc0ef6a583d9c50ce23fe6e95bb71c26c244cfd56ea4a7e775599f0e", func := "unravel/unravellaw43.GridmoveApplies", spec := "gridmoveApplies", unfollowed := true, recurses := true, apart := false, narrowed := true }
def GridmoveAppliesUptoSaid : Prop := gridmoveAppliesUptoRow.holds Try.pinned (OpenSpec.upto gridmoveAppliesSpec)

/-- 'unravellaw43.GridmoveUndoes', WHERE WHAT IT READS IS OF BULK AT MOST 1048576: true; the input reads as it did. -/
def gridmoveUndoesUptoRow : OpenClaim := { program := "ytgclngoeglopcaa", sum := "390fabb5dc0ef6a583d9c50ce23fe6e95bb71c26c244cfd56ea4a7e775599f0e", func := "unravel/unravellaw43.GridmoveUndoes", spec := "gridmoveUndoes", unfollowed := true, recurses := true, apart := false, narrowed := true }
def GridmoveUndoesUptoSaid : Prop := gridmoveUndoesUptoRow.holds Try.pinned (OpenSpec.upto gridmoveUndoesSpec)

/-- 'unravellaw43.GridmoveTransposes', WHERE WHAT IT READS IS OF BULK AT MOST 1048576: true; the input reads as it did. -/
def gridmoveTransposesUptoRow : OpenClaim := { program := "ytgclngoeglopcaa", sum := "390fabb5dc0ef6a583d9c50ce23fe6e95bb71c26c244cfd56ea4a7e775599f0e", func := "unravel/unravellaw43.GridmoveTransposes", spec := "gridmoveTransposes", unfollowed := true, recurses := true, apart := false, narrowed := true }
def GridmoveTransposesUptoSaid : Prop := gridmoveTransposesUptoRow.holds Try.pinned (OpenSpec.upto gridmoveTransposesSpec)

/-- 'unravellaw43.GridmoveValid', WHERE WHAT IT READS IS OF BULK AT MOST 1048576: true; the input reads as it did. -/
def gridmoveValidUptoRow : OpenClaim := { program := "ytgclngoeglopcaa", sum := "390fabb5dc0ef6a583d9c50ce23fe6e95bb71c26c244cfd56ea4a7e775599f0e", func := "unravel/unravellaw43.GridmoveValid", spec := "gridmoveValid", unfollowed := true, recurses := true, apart := false, narrowed := true }
def GridmoveValidUptoSaid : Prop := gridmoveValidUptoRow.holds Try.pinned (OpenSpec.upto gridmoveValidSpec)

/-- 'unravellaw43.GridmoveAll', WHERE WHAT IT READS IS OF BULK AT MOST 1048576: true; the input reads as it did. -/
def gridmoveAllUptoRow : OpenClaim := { program := "ytgclngoeglopcaa", sum := "390fabb5dc0ef6a583d9c50ce23fe6e95bb71c26c244cfd56ea4a7e775599f0e", func := "unravel/unravellaw43.GridmoveAll", spec := "gridmoveAll", unfollowed := true, recurses := true, apart := false, narrowed := true }
def GridmoveAllUptoSaid : Prop := gridmoveAllUptoRow.holds Try.pinned (OpenSpec.upto gridmoveAllSpec)

/-- 'unravellaw43.GridmovePlays', WHERE WHAT IT READS IS OF BULK AT MOST 1048576: true; the input reads as it did. -/
def gridmovePlaysUptoRow : OpenClaim := { program := "ytgclngoeglopcaa", sum := "390fabb5dc0ef6a583d9c50ce23fe6e95bb71c26c244cfd56ea4a7e775599f0e", func := "unravel/unravellaw43.GridmovePlays", spec := "gridmovePlays", unfollowed := true, recurses := true, apart := false, narrowed := true }
def GridmovePlaysUptoSaid : Prop := gridmovePlaysUptoRow.holds Try.pinned (OpenSpec.upto gridmovePlaysSpec)

/-- 'unravellaw43.GridmoveLinking', WHERE WHAT IT READS IS OF BULK AT MOST 1048576: true; the input reads as it did. -/
def gridmoveLinkingUptoRow : OpenClaim := { program := "ytgclngoeglopcaa", sum := "390fabb5dc0ef6a583d9c50ce23fe6e95bb71c26c244cfd56ea4a7e775599f0e", func := "unravel/unravellaw43.GridmoveLinking", spec := "gridmoveLinking", unfollowed := true, recurses := true, apart := false, narrowed := true }
def GridmoveLinkingUptoSaid : Prop := gridmoveLinkingUptoRow.holds Try.pinned (OpenSpec.upto gridmoveLinkingSpec)

/-- 'unravellaw43.GridmoveTranslates', WHERE WHAT IT READS IS OF BULK AT MOST 1048576: true; the input reads as it did. -/
def gridmoveTranslatesUptoRow : OpenClaim := { program := "ytgclngoeglopcaa", sum := "390fabb5dc0ef6a583d9c50ce23fe6e95bb71c26c244cfd56ea4a7e775599f0e", func := "unravel/unravellaw43.GridmoveTranslates", spec := "gridmoveTranslates", unfollowed := true, recurses := true, apart := false, narrowed := true }
def GridmoveTranslatesUptoSaid : Prop := gridmoveTranslatesUptoRow.holds Try.pinned (OpenSpec.upto gridmoveTranslatesSpec)

end Rows
end Go.Proofs.Ytgclngoeglopcaa
