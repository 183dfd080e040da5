/- gridmove.Apply: what it returns, for all arguments. -/
import Derived.Test.YtgclngoeglopcaaAppR
namespace Go.Proofs.Ytgclngoeglopcaa
open Go.RowKit

theorem apply_any (vx vo : Value) (X O : List Int) (k : Int) (rows : Bool) (a v : Int) (w : World) (hX : Ints w vx X) (hO : Ints w vo O) (hl : X.length ≤ 1000) (hl' : O.length ≤ 1000) :
    Calls Try.prog 13 #[.agg #[vx, vo], .agg #[.int .i64 k, .bool rows, .int .i64 a, .int .i64 v]] w (GRes w.heap.size w (applyM X O k rows a v)) := by
  cases hv : validB X O with
  | false => exact apply_invalid vx vo X O k rows a v w hX hO hl hl' hv
  | true =>
    by_cases hk : limAt k X.length = 0
    · exact apply_kind vx vo X O k rows a v w hX hO hl hl' hv hk
    · by_cases hr : a < 0 ∨ limAt k X.length ≤ a ∨ v < 0 ∨ limVar k X.length ≤ v
      · exact apply_range vx vo X O k rows a v w hX hO hl hl' hv hk hr
      · cases rows with
        | false => exact apply_cols vx vo X O k false a v w hX hO hl hl' hv hk hr
        | true => exact apply_rows vx vo X O k true a v w hX hO hl hl' hv hk hr
end Go.Proofs.Ytgclngoeglopcaa
