/-
  The law copselaw5.BoxRuns: the run of its body.
-/
import Derived.Test.YtdeedabhgfmgjaaBoxR
set_option maxRecDepth 100000
namespace Go.Proofs.Ytdeedabhgfmgjaa.WkBoxRuns
open Go Go.RowKit Go.Proofs.Ytdeedabhgfmgjaa.Ev Go.Proofs.Ytdeedabhgfmgjaa.SpanE
theorem walk (w : World) : Calls Try.prog 3 #[] w fun e w' => e = .returned (.bool true) ∧ Below w.heap.size w w' :=
  (calls_runO hm (auto0_ok t_sadd_ok) noHint [] [I64 2, I64 1, I64 4, 9 ≤ mx] (by kernel_rfl) ⟨by decide, by decide, by decide, by decide, trivial⟩).2.2 w
end Go.Proofs.Ytdeedabhgfmgjaa.WkBoxRuns

