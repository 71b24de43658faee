/-
  The walk of the law copselaw4.SpanParts: the printed walk over the pure statement. No condition but that the numbers are of 64 bits.
-/
import Derived.Test.YtdeedabhgfmgjaaPureSpanParts
import Derived.Test.YtdeedabhgfmgjaaRowLib
namespace Go.Proofs.Ytdeedabhgfmgjaa.WkSpanParts
open Go Go.RowKit
theorem walk (w : World) (a b : Int) (_wa : -9223372036854775808 ≤ a ∧ a ≤ 9223372036854775807) (wb : -9223372036854775808 ≤ b ∧ b ≤ 9223372036854775807) (c : Int) (w1 : (Lit.int .i64 c).wf = true) (d : Int) (_w2 : (Lit.int .i64 d).wf = true) :
    Calls Try.prog 9 #[.agg #[.int .i64 a, .int .i64 b], .int .i64 c, .int .i64 d] w fun e w' => e = .returned (.bool true) ∧ Below w.heap.size w w' :=
  PSpanParts.copselaw4_SpanParts.calls 3 a b c d true w (PureSpanParts.SpanParts a b c d wb.2 (by
    have h : -9223372036854775808 ≤ c ∧ c ≤ 9223372036854775807 := by simpa [Lit.wf, IntKind.min, IntKind.max, IntKind.signed, IntKind.bits] using w1
    exact h.1))
end Go.Proofs.Ytdeedabhgfmgjaa.WkSpanParts
