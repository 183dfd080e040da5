/-
  NARROWER THAN 'FOR EVERY INPUT', by the rows' own cells (each row's printed sentence says how): BivariateRing: laid · BivariateDivides: laid · BivariateTerms: laid · BivariateMaps: laid · BivariateErrors: laid.
  DERIVED. THE GIVEN ROWS OF THIS SEAT. 5 by the template 'for every input the law returns true; each argument reads behind the call as it read before'; 0 by the template 'total and deterministic' (their statements: YtbfggncmjdhapaaGreatDoorTotals.lean).
  GIVEN WITH THE SEED: the statements are not yours to turn. If you find one false, say at which input.
  Laid BY PROGRAM, IN A SANDBOX (cutbox-rows.mjs): the forced cells as the released guide's own fill.sh prints them over the translation 6ad86a9b03c622e2… (all of the seat's roots in one cut). By AI agents, Wed Nov 11 2026. No macro, syntax, notation, axiom, sorry.
-/
import Derived.Test.YtbfggncmjdhapaaGreatDoorChecked
import GoSem.Claim
import GoSem.ClaimJoined
import GoSem.ClaimMapViews
import Derived.JoinedTies
import Derived.KernelRfl
namespace Go.Proofs.YtbfggncmjdhapaaGreatDoor
/- THE CELL 'sum', in the pinned program and in every row, IS THE sha256 OF THE DUMP (.gsa) THAT YtbfggncmjdhapaaGreatDoorProg.lean LOADS. Nothing in Lean hashes anything: it is a label: what it is worth is what the hold of that sum in a sandbox is worth. -/
noncomputable def Tryz.pinned : Pinned := { name := "ytbfggncmjdhapaagreatdoor", sum := "6ad86a9b03c622e21088c7dd28e5570b16bb8510301559d559b17c4b23f55cdc", checked := Tryz.checked }
namespace Rows
def none {H : Type} : Left H := { results := [], args := [] }

/- WHAT THE LISTED PACKAGE-LEVEL VARIABLES READ AS WHEN THE CALL BEGINS. Each datum BY PROGRAM (the guide's laid-datum.mjs) off the statement by which the dump's own 'gosem.cut.vars' lays the variable. In a bare row this is a premise. The card (YtbfggncmjdhapaaGreatDoorCards.lean) ties it to the program's text. -/
def laid_math_bits_deBruijn32tab {H : Type} : DataW H := .agg [.lit (.int .u8 0), .lit (.int .u8 1), .lit (.int .u8 28), .lit (.int .u8 2), .lit (.int .u8 29), .lit (.int .u8 14), .lit (.int .u8 24), .lit (.int .u8 3), .lit (.int .u8 30), .lit (.int .u8 22), .lit (.int .u8 20), .lit (.int .u8 15), .lit (.int .u8 25), .lit (.int .u8 17), .lit (.int .u8 4), .lit (.int .u8 8), .lit (.int .u8 31), .lit (.int .u8 27), .lit (.int .u8 13), .lit (.int .u8 23), .lit (.int .u8 21), .lit (.int .u8 19), .lit (.int .u8 16), .lit (.int .u8 7), .lit (.int .u8 26), .lit (.int .u8 12), .lit (.int .u8 18), .lit (.int .u8 6), .lit (.int .u8 11), .lit (.int .u8 5), .lit (.int .u8 10), .lit (.int .u8 9)]
def laid_math_bits_deBruijn64tab {H : Type} : DataW H := .agg [.lit (.int .u8 0), .lit (.int .u8 1), .lit (.int .u8 56), .lit (.int .u8 2), .lit (.int .u8 57), .lit (.int .u8 49), .lit (.int .u8 28), .lit (.int .u8 3), .lit (.int .u8 61), .lit (.int .u8 58), .lit (.int .u8 42), .lit (.int .u8 50), .lit (.int .u8 38), .lit (.int .u8 29), .lit (.int .u8 17), .lit (.int .u8 4), .lit (.int .u8 62), .lit (.int .u8 47), .lit (.int .u8 59), .lit (.int .u8 36), .lit (.int .u8 45), .lit (.int .u8 43), .lit (.int .u8 51), .lit (.int .u8 22), .lit (.int .u8 53), .lit (.int .u8 39), .lit (.int .u8 33), .lit (.int .u8 30), .lit (.int .u8 24), .lit (.int .u8 18), .lit (.int .u8 12), .lit (.int .u8 5), .lit (.int .u8 63), .lit (.int .u8 55), .lit (.int .u8 48), .lit (.int .u8 27), .lit (.int .u8 60), .lit (.int .u8 41), .lit (.int .u8 37), .lit (.int .u8 16), .lit (.int .u8 46), .lit (.int .u8 35), .lit (.int .u8 44), .lit (.int .u8 21), .lit (.int .u8 52), .lit (.int .u8 32), .lit (.int .u8 23), .lit (.int .u8 11), .lit (.int .u8 54), .lit (.int .u8 26), .lit (.int .u8 40), .lit (.int .u8 15), .lit (.int .u8 34), .lit (.int .u8 20), .lit (.int .u8 31), .lit (.int .u8 10), .lit (.int .u8 25), .lit (.int .u8 14), .lit (.int .u8 19), .lit (.int .u8 9), .lit (.int .u8 13), .lit (.int .u8 8), .lit (.int .u8 7), .lit (.int .u8 6)]
def laid_internal_strconv_uint64pow10 {H : Type} : DataW H := .agg [.lit (.int .u64 1), .lit (.int .u64 10), .lit (.int .u64 100), .lit (.int .u64 1000), .lit (.int .u64 10000), .lit (.int .u64 100000), .lit (.int .u64 1000000), .lit (.int .u64 10000000), .lit (.int .u64 100000000), .lit (.int .u64 1000000000), .lit (.int .u64 10000000000), .lit (.int .u64 100000000000), .lit (.int .u64 1000000000000), .lit (.int .u64 10000000000000), .lit (.int .u64 100000000000000), .lit (.int .u64 1000000000000000), .lit (.int .u64 10000000000000000), .lit (.int .u64 100000000000000000), .lit (.int .u64 1000000000000000000), .lit (.int .u64 10000000000000000000)]

/-- 'unravellaw13.BivariateRing': WHATEVER THE INPUT: true; the input reads as it did. -/
def bivariateRingSpec : ChangeSpec := { name := "bivariateRing", fn := fun _ => fun
  | [d1, d2, d3] => { results := [.lit (.bool true)], args := [d1, d2, d3] }
  | _ => none }
def bivariateRingRow : OpenClaim := { program := "ytbfggncmjdhapaagreatdoor", sum := "6ad86a9b03c622e21088c7dd28e5570b16bb8510301559d559b17c4b23f55cdc", func := "unravel/unravellaw13.BivariateRing", spec := "bivariateRing", inPlace := ["math/bits.Add64", "math/bits.Sub64", "internal/abi.NoEscape"], unfollowed := true, recurses := true, named := ["math/bits.divideError", "math/bits.overflowError", "internal/strconv.uint64pow10", "math/bits.deBruijn32tab", "math/bits.deBruijn64tab"], plainKeys := false, apart := false, laid := [("math/bits.deBruijn32tab", laid_math_bits_deBruijn32tab), ("math/bits.deBruijn64tab", laid_math_bits_deBruijn64tab), ("internal/strconv.uint64pow10", laid_internal_strconv_uint64pow10)] }
def BivariateRingSaid : Prop := bivariateRingRow.holds Tryz.pinned (OpenSpec.ofChange bivariateRingSpec)

/-- ITS FALSE NEIGHBOUR: 'it returns false'. Refute it at one input. -/
def bivariateRingWrong : ChangeSpec := { name := "bivariateRing", fn := fun _ => fun
  | [d1, d2, d3] => { results := [.lit (.bool false)], args := [d1, d2, d3] }
  | _ => none }
def BivariateRingWrongFalsely : Prop := bivariateRingRow.holds Tryz.pinned (OpenSpec.ofChange bivariateRingWrong)

/-- 'unravellaw13.BivariateDivides': WHATEVER THE INPUT: true; the input reads as it did. -/
def bivariateDividesSpec : ChangeSpec := { name := "bivariateDivides", fn := fun _ => fun
  | [d1, d2] => { results := [.lit (.bool true)], args := [d1, d2] }
  | _ => none }
def bivariateDividesRow : OpenClaim := { program := "ytbfggncmjdhapaagreatdoor", sum := "6ad86a9b03c622e21088c7dd28e5570b16bb8510301559d559b17c4b23f55cdc", func := "unravel/unravellaw13.BivariateDivides", spec := "bivariateDivides", inPlace := ["math/bits.Add64", "math/bits.Sub64", "internal/abi.NoEscape"], unfollowed := true, recurses := true, named := ["math/bits.divideError", "math/bits.overflowError", "internal/strconv.uint64pow10", "math/bits.deBruijn32tab", "math/bits.deBruijn64tab"], plainKeys := false, apart := false, laid := [("math/bits.deBruijn32tab", laid_math_bits_deBruijn32tab), ("math/bits.deBruijn64tab", laid_math_bits_deBruijn64tab), ("internal/strconv.uint64pow10", laid_internal_strconv_uint64pow10)] }
def BivariateDividesSaid : Prop := bivariateDividesRow.holds Tryz.pinned (OpenSpec.ofChange bivariateDividesSpec)

/-- ITS FALSE NEIGHBOUR: 'it returns false'. Refute it at one input. -/
def bivariateDividesWrong : ChangeSpec := { name := "bivariateDivides", fn := fun _ => fun
  | [d1, d2] => { results := [.lit (.bool false)], args := [d1, d2] }
  | _ => none }
def BivariateDividesWrongFalsely : Prop := bivariateDividesRow.holds Tryz.pinned (OpenSpec.ofChange bivariateDividesWrong)

/-- 'unravellaw13.BivariateTerms': WHATEVER THE INPUT: true; the input reads as it did. -/
def bivariateTermsSpec : ChangeSpec := { name := "bivariateTerms", fn := fun _ => fun
  | [d1, d2] => { results := [.lit (.bool true)], args := [d1, d2] }
  | _ => none }
def bivariateTermsRow : OpenClaim := { program := "ytbfggncmjdhapaagreatdoor", sum := "6ad86a9b03c622e21088c7dd28e5570b16bb8510301559d559b17c4b23f55cdc", func := "unravel/unravellaw13.BivariateTerms", spec := "bivariateTerms", inPlace := ["math/bits.Add64", "math/bits.Sub64", "internal/abi.NoEscape"], unfollowed := true, recurses := true, named := ["math/bits.divideError", "math/bits.overflowError", "internal/strconv.uint64pow10", "math/bits.deBruijn32tab", "math/bits.deBruijn64tab"], plainKeys := false, apart := false, laid := [("math/bits.deBruijn32tab", laid_math_bits_deBruijn32tab), ("math/bits.deBruijn64tab", laid_math_bits_deBruijn64tab), ("internal/strconv.uint64pow10", laid_internal_strconv_uint64pow10)] }
def BivariateTermsSaid : Prop := bivariateTermsRow.holds Tryz.pinned (OpenSpec.ofChange bivariateTermsSpec)

/-- ITS FALSE NEIGHBOUR: 'it returns false'. Refute it at one input. -/
def bivariateTermsWrong : ChangeSpec := { name := "bivariateTerms", fn := fun _ => fun
  | [d1, d2] => { results := [.lit (.bool false)], args := [d1, d2] }
  | _ => none }
def BivariateTermsWrongFalsely : Prop := bivariateTermsRow.holds Tryz.pinned (OpenSpec.ofChange bivariateTermsWrong)

/-- 'unravellaw13.BivariateMaps': WHATEVER THE INPUT: true; the input reads as it did. -/
def bivariateMapsSpec : ChangeSpec := { name := "bivariateMaps", fn := fun _ => fun
  | [d1, d2, d3, d4] => { results := [.lit (.bool true)], args := [d1, d2, d3, d4] }
  | _ => none }
def bivariateMapsRow : OpenClaim := { program := "ytbfggncmjdhapaagreatdoor", sum := "6ad86a9b03c622e21088c7dd28e5570b16bb8510301559d559b17c4b23f55cdc", func := "unravel/unravellaw13.BivariateMaps", spec := "bivariateMaps", inPlace := ["math/bits.Add64", "math/bits.Sub64", "internal/abi.NoEscape"], unfollowed := true, recurses := true, named := ["math/bits.divideError", "math/bits.overflowError", "internal/strconv.uint64pow10", "math/bits.deBruijn32tab", "math/bits.deBruijn64tab"], plainKeys := false, apart := false, laid := [("math/bits.deBruijn32tab", laid_math_bits_deBruijn32tab), ("math/bits.deBruijn64tab", laid_math_bits_deBruijn64tab), ("internal/strconv.uint64pow10", laid_internal_strconv_uint64pow10)] }
def BivariateMapsSaid : Prop := bivariateMapsRow.holds Tryz.pinned (OpenSpec.ofChange bivariateMapsSpec)

/-- ITS FALSE NEIGHBOUR: 'it returns false'. Refute it at one input. -/
def bivariateMapsWrong : ChangeSpec := { name := "bivariateMaps", fn := fun _ => fun
  | [d1, d2, d3, d4] => { results := [.lit (.bool false)], args := [d1, d2, d3, d4] }
  | _ => none }
def BivariateMapsWrongFalsely : Prop := bivariateMapsRow.holds Tryz.pinned (OpenSpec.ofChange bivariateMapsWrong)

/-- 'unravellaw13.BivariateErrors': WHATEVER THE INPUT: true; the input reads as it did. -/
def bivariateErrorsSpec : ChangeSpec := { name := "bivariateErrors", fn := fun _ => fun
  | [d] => { results := [.lit (.bool true)], args := [d] }
  | _ => none }
def bivariateErrorsRow : OpenClaim := { program := "ytbfggncmjdhapaagreatdoor", sum := "6ad86a9b03c622e21088c7dd28e5570b16bb8510301559d559b17c4b23f55cdc", func := "unravel/unravellaw13.BivariateErrors", spec := "bivariateErrors", inPlace := ["math/bits.Add64", "math/bits.Sub64", "internal/abi.NoEscape"], unfollowed := true, recurses := true, named := ["math/bits.divideError", "math/bits.overflowError", "internal/strconv.uint64pow10", "math/bits.deBruijn32tab", "math/bits.deBruijn64tab"], plainKeys := false, apart := false, laid := [("math/bits.deBruijn32tab", laid_math_bits_deBruijn32tab), ("math/bits.deBruijn64tab", laid_math_bits_deBruijn64tab), ("internal/strconv.uint64pow10", laid_internal_strconv_uint64pow10)] }
def BivariateErrorsSaid : Prop := bivariateErrorsRow.holds Tryz.pinned (OpenSpec.ofChange bivariateErrorsSpec)

/-- ITS FALSE NEIGHBOUR: 'it returns false'. Refute it at one input. -/
def bivariateErrorsWrong : ChangeSpec := { name := "bivariateErrors", fn := fun _ => fun
  | [d] => { results := [.lit (.bool false)], args := [d] }
  | _ => none }
def BivariateErrorsWrongFalsely : Prop := bivariateErrorsRow.holds Tryz.pinned (OpenSpec.ofChange bivariateErrorsWrong)

/- THE SECOND FORM. 'bulk': how many values and letters a reading holds, each counted each time it is reached (what is shared counts as often as it is met; a slice's spare places count too). A statement '..UptoSaid' is the law's where the arguments, and the package variables that the reading takes, are together of bulk at most 1048576: NARROWER than '..Said'. Prove '..Said' where nothing that the law and all that it calls make is longer than what came in: it says more and counts as full. Else prove '..UptoSaid'. A law counts once. -/
mutual
def uptoBulk {H : Type} : DataW H → Nat
  | .lit (.string bytes) => bytes.length + 1
  | .lit _ => 1
  | .nil => 1
  | .ptr d => uptoBulk d + 1
  | .slice elems spare => uptoBulkAll elems + uptoBulkAll spare + 1
  | .agg parts => uptoBulkAll parts + 1
  | .iface _ d => uptoBulk d + 1
  | .map entries => uptoBulkEntries entries + 1
  | .held _ => 1
def uptoBulkAll {H : Type} : List (DataW H) → Nat
  | [] => 0
  | d :: r => uptoBulk d + uptoBulkAll r
def uptoBulkEntries {H : Type} : List (Lit × DataW H) → Nat
  | [] => 0
  | x :: r => uptoBulkEntry x + uptoBulkEntries r
def uptoBulkEntry {H : Type} : Lit × DataW H → Nat
  | (.string bytes, d) => bytes.length + uptoBulk d + 1
  | (_, d) => uptoBulk d + 1
 end
def uptoSmall : (H : Type) → List (DataW H) → Bool := fun _ ds => decide (uptoBulkAll ds ≤ 1048576)
def OpenSpec.upto (s : _root_.Go.ChangeSpec) : _root_.Go.OpenSpec := { _root_.Go.OpenSpec.ofChange s with cond := some uptoSmall }

/-- 'unravellaw13.BivariateRing', WHERE WHAT IT READS IS OF BULK AT MOST 1048576: true; the input reads as it did. -/
def bivariateRingUptoRow : OpenClaim := { program := "ytbfggncmjdhapaagreatdoor", sum := "6ad86a9b03c622e21088c7dd28e5570b16bb8510301559d559b17c4b23f55cdc", func := "unravel/unravellaw13.BivariateRing", spec := "bivariateRing", inPlace := ["math/bits.Add64", "math/bits.Sub64", "internal/abi.NoEscape"], unfollowed := true, recurses := true, named := ["math/bits.divideError", "math/bits.overflowError", "internal/strconv.uint64pow10", "math/bits.deBruijn32tab", "math/bits.deBruijn64tab"], plainKeys := false, apart := false, laid := [("math/bits.deBruijn32tab", laid_math_bits_deBruijn32tab), ("math/bits.deBruijn64tab", laid_math_bits_deBruijn64tab), ("internal/strconv.uint64pow10", laid_internal_strconv_uint64pow10)], narrowed := true }
def BivariateRingUptoSaid : Prop := bivariateRingUptoRow.holds Tryz.pinned (OpenSpec.upto bivariateRingSpec)

/-- 'unravellaw13.BivariateDivides', WHERE WHAT IT READS IS OF BULK AT MOST 1048576: true; the input reads as it did. -/
def bivariateDividesUptoRow : OpenClaim := { program := "ytbfggncmjdhapaagreatdoor", sum := "6ad86a9b03c622e21088c7dd28e5570b16bb8510301559d559b17c4b23f55cdc", func := "unravel/unravellaw13.BivariateDivides", spec := "bivariateDivides", inPlace := ["math/bits.Add64", "math/bits.Sub64", "internal/abi.NoEscape"], unfollowed := true, recurses := true, named := ["math/bits.divideError", "math/bits.overflowError", "internal/strconv.uint64pow10", "math/bits.deBruijn32tab", "math/bits.deBruijn64tab"], plainKeys := false, apart := false, laid := [("math/bits.deBruijn32tab", laid_math_bits_deBruijn32tab), ("math/bits.deBruijn64tab", laid_math_bits_deBruijn64tab), ("internal/strconv.uint64pow10", laid_internal_strconv_uint64pow10)], narrowed := true }
def BivariateDividesUptoSaid : Prop := bivariateDividesUptoRow.holds Tryz.pinned (OpenSpec.upto bivariateDividesSpec)

/-- 'unravellaw13.BivariateTerms', WHERE WHAT IT READS IS OF BULK AT MOST 1048576: true; the input reads as it did. -/
def bivariateTermsUptoRow : OpenClaim := { program := "ytbfggncmjdhapaagreatdoor", sum := "6ad86a9b03c622e21088c7dd28e5570b16bb8510301559d559b17c4b23f55cdc", func := "unravel/unravellaw13.BivariateTerms", spec := "bivariateTerms", inPlace := ["math/bits.Add64", "math/bits.Sub64", "internal/abi.NoEscape"], unfollowed := true, recurses := true, named := ["math/bits.divideError", "math/bits.overflowError", "internal/strconv.uint64pow10", "math/bits.deBruijn32tab", "math/bits.deBruijn64tab"], plainKeys := false, apart := false, laid := [("math/bits.deBruijn32tab", laid_math_bits_deBruijn32tab), ("math/bits.deBruijn64tab", laid_math_bits_deBruijn64tab), ("internal/strconv.uint64pow10", laid_internal_strconv_uint64pow10)], narrowed := true }
def BivariateTermsUptoSaid : Prop := bivariateTermsUptoRow.holds Tryz.pinned (OpenSpec.upto bivariateTermsSpec)

/-- 'unravellaw13.BivariateMaps', WHERE WHAT IT READS IS OF BULK AT MOST 1048576: true; the input reads as it did. -/
def bivariateMapsUptoRow : OpenClaim := { program := "ytbfggncmjdhapaagreatdoor", sum := "6ad86a9b03c622e21088c7dd28e5570b16bb8510301559d559b17c4b23f55cdc", func := "unravel/unravellaw13.BivariateMaps", spec := "bivariateMaps", inPlace := ["math/bits.Add64", "math/bits.Sub64", "internal/abi.NoEscape"], unfollowed := true, recurses := true, named := ["math/bits.divideError", "math/bits.overflowError", "internal/strconv.uint64pow10", "math/bits.deBruijn32tab", "math/bits.deBruijn64tab"], plainKeys := false, apart := false, laid := [("math/bits.deBruijn32tab", laid_math_bits_deBruijn32tab), ("math/bits.deBruijn64tab", laid_math_bits_deBruijn64tab), ("internal/strconv.uint64pow10", laid_internal_strconv_uint64pow10)], narrowed := true }
def BivariateMapsUptoSaid : Prop := bivariateMapsUptoRow.holds Tryz.pinned (OpenSpec.upto bivariateMapsSpec)

/-- 'unravellaw13.BivariateErrors', WHERE WHAT IT READS IS OF BULK AT MOST 1048576: true; the input reads as it did. -/
def bivariateErrorsUptoRow : OpenClaim := { program := "ytbfggncmjdhapaagreatdoor", sum := "6ad86a9b03c622e21088c7dd28e5570b16bb8510301559d559b17c4b23f55cdc", func := "unravel/unravellaw13.BivariateErrors", spec := "bivariateErrors", inPlace := ["math/bits.Add64", "math/bits.Sub64", "internal/abi.NoEscape"], unfollowed := true, recurses := true, named := ["math/bits.divideError", "math/bits.overflowError", "internal/strconv.uint64pow10", "math/bits.deBruijn32tab", "math/bits.deBruijn64tab"], plainKeys := false, apart := false, laid := [("math/bits.deBruijn32tab", laid_math_bits_deBruijn32tab), ("math/bits.deBruijn64tab", laid_math_bits_deBruijn64tab), ("internal/strconv.uint64pow10", laid_internal_strconv_uint64pow10)], narrowed := true }
def BivariateErrorsUptoSaid : Prop := bivariateErrorsUptoRow.holds Tryz.pinned (OpenSpec.upto bivariateErrorsSpec)

end Rows
end Go.Proofs.YtbfggncmjdhapaaGreatDoor
