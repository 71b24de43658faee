/-
  The law copselaw6.NodeRuns: chapter 6's runs.
-/
import Derived.Test.YtnngaedhedbenaaNodeV
set_option linter.unusedVariables false
set_option linter.unusedSimpArgs false
set_option maxRecDepth 100000
namespace Go.Proofs.Ytnngaedhedbenaa.WkNodeRuns
open Go Go.RowKit Go.Proofs.Ytnngaedhedbenaa.Ev Go.Proofs.Ytnngaedhedbenaa.NodeE
theorem walk (w : World) : Calls Try.prog 3 #[] w fun e w' => e = .returned (.bool true) ∧ Below w.heap.size w w' :=
  (calls_runO hm (auto0_ok t_runpack_ok) noHint [] [I64 0, I64 (-1), I64 (-1), I64 0, U64 0] (by kernel_rfl) ⟨by decide, by decide, by decide, by decide, by decide, trivial⟩).2.2 w
end Go.Proofs.Ytnngaedhedbenaa.WkNodeRuns

