/-
  No cell of these rows narrows 'for every input' (looked for: loops, veiled, ifaces, maps, wideKeys, modest, calm, conditions, laid).
  DERIVED. THE GIVEN ROWS OF THIS SEAT. 7 by the template 'for every input the law returns true; each argument reads behind the call as it read before'; 0 by the template 'total and deterministic' (their statements: YtcjaloddgilnpaaTotals.lean).
  GIVEN WITH THE SEED: the statements are not yours to turn. If you find one false, say at which input.
  Laid BY PROGRAM, IN A SANDBOX (cutbox-rows.mjs): the forced cells as the released guide's own fill.sh prints them over the translation 0aadf0a6467ef84a… (all of the seat's roots in one cut). By AI agents, Wed Nov 11 2026. No macro, syntax, notation, axiom, sorry.
-/
import Derived.Test.YtcjaloddgilnpaaChecked
import GoSem.Claim
import GoSem.ClaimJoined
import GoSem.ClaimMapViews
import Derived.JoinedTies
import Derived.KernelRfl
namespace Go.Proofs.Ytcjaloddgilnpaa
/- THE CELL 'sum', in the pinned program and in every row, IS THE sha256 OF THE DUMP (.gsa) THAT YtcjaloddgilnpaaProg.lean LOADS. Nothing in Lean hashes anything: it is a label: what it is worth is what the hold of that sum in a sandbox is worth. -/
noncomputable def Try.pinned : Pinned := { name := "ytcjaloddgilnpaa", sum := "0aadf0a6467ef84a82b441b1b76985bc66dd9190d7a4fa5e4039381df263ca59", checked := Try.checked }
namespace Rows
def none {H : Type} : Left H := { results := [], args := [] }

/-- 'unravellaw27.FcolorMatrix': WHATEVER THE INPUT: true; the input reads as it did. -/
def fcolorMatrixSpec : ChangeSpec := { name := "fcolorMatrix", fn := fun _ => fun
  | [d] => { results := [.lit (.bool true)], args := [d] }
  | _ => none }
def fcolorMatrixRow : OpenClaim := { program := "ytcjaloddgilnpaa", sum := "0aadf0a6467ef84a82b441b1b76985bc66dd9190d7a4fa5e4039381df263ca59", func := "unravel/unravellaw27.FcolorMatrix", spec := "fcolorMatrix", unfollowed := true, recurses := true, named := ["math/bits.divideError", "math/bits.overflowError"], apart := false }
def FcolorMatrixSaid : Prop := fcolorMatrixRow.holds Try.pinned (OpenSpec.ofChange fcolorMatrixSpec)

/-- ITS FALSE NEIGHBOUR: 'it returns false'. Refute it at one input. -/
def fcolorMatrixWrong : ChangeSpec := { name := "fcolorMatrix", fn := fun _ => fun
  | [d] => { results := [.lit (.bool false)], args := [d] }
  | _ => none }
def FcolorMatrixWrongFalsely : Prop := fcolorMatrixRow.holds Try.pinned (OpenSpec.ofChange fcolorMatrixWrong)

/-- 'unravellaw27.FcolorCounts': WHATEVER THE INPUT: true; the input reads as it did. -/
def fcolorCountsSpec : ChangeSpec := { name := "fcolorCounts", fn := fun _ => fun
  | [d1, d2] => { results := [.lit (.bool true)], args := [d1, d2] }
  | _ => none }
def fcolorCountsRow : OpenClaim := { program := "ytcjaloddgilnpaa", sum := "0aadf0a6467ef84a82b441b1b76985bc66dd9190d7a4fa5e4039381df263ca59", func := "unravel/unravellaw27.FcolorCounts", spec := "fcolorCounts", unfollowed := true, recurses := true, named := ["math/bits.divideError", "math/bits.overflowError"], apart := false }
def FcolorCountsSaid : Prop := fcolorCountsRow.holds Try.pinned (OpenSpec.ofChange fcolorCountsSpec)

/-- ITS FALSE NEIGHBOUR: 'it returns false'. Refute it at one input. -/
def fcolorCountsWrong : ChangeSpec := { name := "fcolorCounts", fn := fun _ => fun
  | [d1, d2] => { results := [.lit (.bool false)], args := [d1, d2] }
  | _ => none }
def FcolorCountsWrongFalsely : Prop := fcolorCountsRow.holds Try.pinned (OpenSpec.ofChange fcolorCountsWrong)

/-- 'unravellaw27.FcolorInvariants': WHATEVER THE INPUT: true; the input reads as it did. -/
def fcolorInvariantsSpec : ChangeSpec := { name := "fcolorInvariants", fn := fun _ => fun
  | [d] => { results := [.lit (.bool true)], args := [d] }
  | _ => none }
def fcolorInvariantsRow : OpenClaim := { program := "ytcjaloddgilnpaa", sum := "0aadf0a6467ef84a82b441b1b76985bc66dd9190d7a4fa5e4039381df263ca59", func := "unravel/unravellaw27.FcolorInvariants", spec := "fcolorInvariants", unfollowed := true, recurses := true, named := ["math/bits.divideError", "math/bits.overflowError"], apart := false }
def FcolorInvariantsSaid : Prop := fcolorInvariantsRow.holds Try.pinned (OpenSpec.ofChange fcolorInvariantsSpec)

/-- ITS FALSE NEIGHBOUR: 'it returns false'. Refute it at one input. -/
def fcolorInvariantsWrong : ChangeSpec := { name := "fcolorInvariants", fn := fun _ => fun
  | [d] => { results := [.lit (.bool false)], args := [d] }
  | _ => none }
def FcolorInvariantsWrongFalsely : Prop := fcolorInvariantsRow.holds Try.pinned (OpenSpec.ofChange fcolorInvariantsWrong)

/-- 'unravellaw27.FcolorGcds': WHATEVER THE INPUT: true; the input reads as it did. -/
def fcolorGcdsSpec : ChangeSpec := { name := "fcolorGcds", fn := fun _ => fun
  | [d1, d2] => { results := [.lit (.bool true)], args := [d1, d2] }
  | _ => none }
def fcolorGcdsRow : OpenClaim := { program := "ytcjaloddgilnpaa", sum := "0aadf0a6467ef84a82b441b1b76985bc66dd9190d7a4fa5e4039381df263ca59", func := "unravel/unravellaw27.FcolorGcds", spec := "fcolorGcds", unfollowed := true, recurses := true, named := ["math/bits.divideError", "math/bits.overflowError"], apart := false }
def FcolorGcdsSaid : Prop := fcolorGcdsRow.holds Try.pinned (OpenSpec.ofChange fcolorGcdsSpec)

/-- ITS FALSE NEIGHBOUR: 'it returns false'. Refute it at one input. -/
def fcolorGcdsWrong : ChangeSpec := { name := "fcolorGcds", fn := fun _ => fun
  | [d1, d2] => { results := [.lit (.bool false)], args := [d1, d2] }
  | _ => none }
def FcolorGcdsWrongFalsely : Prop := fcolorGcdsRow.holds Try.pinned (OpenSpec.ofChange fcolorGcdsWrong)

/-- 'unravellaw27.FcolorLinear': WHATEVER THE INPUT: true; the input reads as it did. -/
def fcolorLinearSpec : ChangeSpec := { name := "fcolorLinear", fn := fun _ => fun
  | [d1, d2, d3] => { results := [.lit (.bool true)], args := [d1, d2, d3] }
  | _ => none }
def fcolorLinearRow : OpenClaim := { program := "ytcjaloddgilnpaa", sum := "0aadf0a6467ef84a82b441b1b76985bc66dd9190d7a4fa5e4039381df263ca59", func := "unravel/unravellaw27.FcolorLinear", spec := "fcolorLinear", unfollowed := true, recurses := true, named := ["math/bits.divideError", "math/bits.overflowError"], apart := false }
def FcolorLinearSaid : Prop := fcolorLinearRow.holds Try.pinned (OpenSpec.ofChange fcolorLinearSpec)

/-- ITS FALSE NEIGHBOUR: 'it returns false'. Refute it at one input. -/
def fcolorLinearWrong : ChangeSpec := { name := "fcolorLinear", fn := fun _ => fun
  | [d1, d2, d3] => { results := [.lit (.bool false)], args := [d1, d2, d3] }
  | _ => none }
def FcolorLinearWrongFalsely : Prop := fcolorLinearRow.holds Try.pinned (OpenSpec.ofChange fcolorLinearWrong)

/-- 'unravellaw27.FcolorMirrors': WHATEVER THE INPUT: true; the input reads as it did. -/
def fcolorMirrorsSpec : ChangeSpec := { name := "fcolorMirrors", fn := fun _ => fun
  | [d1, d2] => { results := [.lit (.bool true)], args := [d1, d2] }
  | _ => none }
def fcolorMirrorsRow : OpenClaim := { program := "ytcjaloddgilnpaa", sum := "0aadf0a6467ef84a82b441b1b76985bc66dd9190d7a4fa5e4039381df263ca59", func := "unravel/unravellaw27.FcolorMirrors", spec := "fcolorMirrors", unfollowed := true, recurses := true, named := ["math/bits.divideError", "math/bits.overflowError"], apart := false }
def FcolorMirrorsSaid : Prop := fcolorMirrorsRow.holds Try.pinned (OpenSpec.ofChange fcolorMirrorsSpec)

/-- ITS FALSE NEIGHBOUR: 'it returns false'. Refute it at one input. -/
def fcolorMirrorsWrong : ChangeSpec := { name := "fcolorMirrors", fn := fun _ => fun
  | [d1, d2] => { results := [.lit (.bool false)], args := [d1, d2] }
  | _ => none }
def FcolorMirrorsWrongFalsely : Prop := fcolorMirrorsRow.holds Try.pinned (OpenSpec.ofChange fcolorMirrorsWrong)

/-- 'unravellaw27.FcolorSums': WHATEVER THE INPUT: true; the input reads as it did. -/
def fcolorSumsSpec : ChangeSpec := { name := "fcolorSums", fn := fun _ => fun
  | [d1, d2, d3, d4, d5] => { results := [.lit (.bool true)], args := [d1, d2, d3, d4, d5] }
  | _ => none }
def fcolorSumsRow : OpenClaim := { program := "ytcjaloddgilnpaa", sum := "0aadf0a6467ef84a82b441b1b76985bc66dd9190d7a4fa5e4039381df263ca59", func := "unravel/unravellaw27.FcolorSums", spec := "fcolorSums", unfollowed := true, recurses := true, named := ["math/bits.divideError", "math/bits.overflowError"], apart := false }
def FcolorSumsSaid : Prop := fcolorSumsRow.holds Try.pinned (OpenSpec.ofChange fcolorSumsSpec)

/-- ITS FALSE NEIGHBOUR: 'it returns false'. Refute it at one input. -/
def fcolorSumsWrong : ChangeSpec := { name := "fcolorSums", fn := fun _ => fun
  | [d1, d2, d3, d4, d5] => { results := [.lit (.bool false)], args := [d1, d2, d3, d4, d5] }
  | _ => none }
def FcolorSumsWrongFalsely : Prop := fcolorSumsRow.holds Try.pinned (OpenSpec.ofChange fcolorSumsWrong)

/- THE SECOND FORM. 'bulk': how many values and letters a reading holds, each counted each time it is reached (what is shared counts as often as it is met; a slice's spare places count too). A statement '..UptoSaid' is the law's where the arguments, and the package variables that the reading takes, are together of bulk at most 1048576: NARROWER than '..Said'. Prove '..Said' where nothing that the law and all that it calls make is longer than what came in: it says more and counts as full. Else prove '..UptoSaid'. A law counts once. -/
mutual
def uptoBulk {H : Type} : DataW H → Nat
  | .lit (.string bytes) => bytes.length + 1
  | .lit _ => 1
  | .nil => 1
  | .ptr d => uptoBulk d + 1
  | .slice elems spare => uptoBulkAll elems + uptoBulkAll spare + 1
  | .agg parts => uptoBulkAll parts + 1
  | .iface _ d => uptoBulk d + 1
  | .map entries => uptoBulkEntries entries + 1
  | .held _ => 1
def uptoBulkAll {H : Type} : List (DataW H) → Nat
  | [] => 0
  | d :: r => uptoBulk d + uptoBulkAll r
def uptoBulkEntries {H : Type} : List (Lit × DataW H) → Nat
  | [] => 0
  | x :: r => uptoBulkEntry x + uptoBulkEntries r
def uptoBulkEntry {H : Type} : Lit × DataW H → Nat
  | (.string bytes, d) => bytes.length + uptoBulk d + 1
  | (_, d) => uptoBulk d + 1
 end
def uptoSmall : (H : Type) → List (DataW H) → Bool := fun _ ds => decide (uptoBulkAll ds ≤ 1048576)
def OpenSpec.upto (s : _root_.Go.ChangeSpec) : _root_.Go.OpenSpec := { _root_.Go.OpenSpec.ofChange s with cond := some uptoSmall }

/-- 'unravellaw27.FcolorMatrix', WHERE WHAT IT READS IS OF BULK AT MOST 1048576: true; the input reads as it did. -/
def fcolorMatrixUptoRow : OpenClaim := { program := "ytcjaloddgilnpaa", sum := "0aadf0a6467ef84a82b441b1b76985bc66dd9190d7a4fa5e4039381df263ca59", func := "unravel/unravellaw27.FcolorMatrix", spec := "fcolorMatrix", unfollowed := true, recurses := true, named := ["math/bits.divideError", "math/bits.overflowError"], apart := false, narrowed := true }
def FcolorMatrixUptoSaid : Prop := fcolorMatrixUptoRow.holds Try.pinned (OpenSpec.upto fcolorMatrixSpec)

/-- 'unravellaw27.FcolorCounts', WHERE WHAT IT READS IS OF BULK AT MOST 1048576: true; the input reads as it did. -/
def fcolorCountsUptoRow : OpenClaim := { program := "ytcjaloddgilnpaa", sum := "0aadf0a6467ef84a82b441b1b76985bc66dd9190d7a4fa5e4039381df263ca59", func := "unravel/unravellaw27.FcolorCounts", spec := "fcolorCounts", unfollowed := true, recurses := true, named := ["math/bits.divideError", "math/bits.overflowError"], apart := false, narrowed := true }
def FcolorCountsUptoSaid : Prop := fcolorCountsUptoRow.holds Try.pinned (OpenSpec.upto fcolorCountsSpec)

/-- 'unravellaw27.FcolorInvariants', WHERE WHAT IT READS IS OF BULK AT MOST 1048576: true; the input reads as it did. -/
def fcolorInvariantsUptoRow : OpenClaim := { program := "ytcjaloddgilnpaa", sum := "0aadf0a6467ef84a82b441b1b76985bc66dd9190d7a4fa5e4039381df263ca59", func := "unravel/unravellaw27.FcolorInvariants", spec := "fcolorInvariants", unfollowed := true, recurses := true, named := ["math/bits.divideError", "math/bits.overflowError"], apart := false, narrowed := true }
def FcolorInvariantsUptoSaid : Prop := fcolorInvariantsUptoRow.holds Try.pinned (OpenSpec.upto fcolorInvariantsSpec)

/-- 'unravellaw27.FcolorGcds', WHERE WHAT IT READS IS OF BULK AT MOST 1048576: true; the input reads as it did. -/
def fcolorGcdsUptoRow : OpenClaim := { program := "ytcjaloddgilnpaa", sum := "0aadf0a6467ef84a82b441b1b76985bc66dd9190d7a4fa5e4039381df263ca59", func := "unravel/unravellaw27.FcolorGcds", spec := "fcolorGcds", unfollowed := true, recurses := true, named := ["math/bits.divideError", "math/bits.overflowError"], apart := false, narrowed := true }
def FcolorGcdsUptoSaid : Prop := fcolorGcdsUptoRow.holds Try.pinned (OpenSpec.upto fcolorGcdsSpec)

/-- 'unravellaw27.FcolorLinear', WHERE WHAT IT READS IS OF BULK AT MOST 1048576: true; the input reads as it did. -/
def fcolorLinearUptoRow : OpenClaim := { program := "ytcjaloddgilnpaa", sum := "0aadf0a6467ef84a82b441b1b76985bc66dd9190d7a4fa5e4039381df263ca59", func := "unravel/unravellaw27.FcolorLinear", spec := "fcolorLinear", unfollowed := true, recurses := true, named := ["math/bits.divideError", "math/bits.overflowError"], apart := false, narrowed := true }
def FcolorLinearUptoSaid : Prop := fcolorLinearUptoRow.holds Try.pinned (OpenSpec.upto fcolorLinearSpec)

/-- 'unravellaw27.FcolorMirrors', WHERE WHAT IT READS IS OF BULK AT MOST 1048576: true; the input reads as it did. -/
def fcolorMirrorsUptoRow : OpenClaim := { program := "ytcjaloddgilnpaa", sum := "0aadf0a6467ef84a82b441b1b76985bc66dd9190d7a4fa5e4039381df263ca59", func := "unravel/unravellaw27.FcolorMirrors", spec := "fcolorMirrors", unfollowed := true, recurses := true, named := ["math/bits.divideError", "math/bits.overflowError"], apart := false, narrowed := true }
def FcolorMirrorsUptoSaid : Prop := fcolorMirrorsUptoRow.holds Try.pinned (OpenSpec.upto fcolorMirrorsSpec)

/-- 'unravellaw27.FcolorSums', WHERE WHAT IT READS IS OF BULK AT MOST 1048576: true; the input reads as it did. -/
def fcolorSumsUptoRow : OpenClaim := { program := "ytcjaloddgilnpaa", sum := "0aadf0a6467ef84a82b441b1b76985bc66dd9190d7a4fa5e4039381df263ca59", func := "unravel/unravellaw27.FcolorSums", spec := "fcolorSums", unfollowed := true, recurses := true, named := ["math/bits.divideError", "math/bits.overflowError"], apart := false, narrowed := true }
def FcolorSumsUptoSaid : Prop := fcolorSumsUptoRow.holds Try.pinned (OpenSpec.upto fcolorSumsSpec)

end Rows
end Go.Proofs.Ytcjaloddgilnpaa
