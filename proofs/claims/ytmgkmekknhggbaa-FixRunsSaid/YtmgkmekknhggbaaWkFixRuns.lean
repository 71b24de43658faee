/-
  The walk of the law copselaw2.FixRuns. No condition.
-/
import Derived.Test.YtmgkmekknhggbaaFixD
namespace Go.Proofs.Ytmgkmekknhggbaa.WkFixRuns
open Go Go.RowKit
theorem walk (w : World) : Calls Try.prog 3 #[] w fun e w' => e = .returned (.bool true) ∧ Below w.heap.size w w' := FixD.runs_calls w
end Go.Proofs.Ytmgkmekknhggbaa.WkFixRuns
