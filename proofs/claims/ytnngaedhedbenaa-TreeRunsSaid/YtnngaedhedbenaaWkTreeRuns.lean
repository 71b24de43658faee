/-
  The law copselaw7.TreeRuns: chapter 7's runs.
-/
import Derived.Test.YtnngaedhedbenaaEvProg
set_option linter.unusedVariables false
set_option linter.unusedSimpArgs false
set_option maxRecDepth 100000
namespace Go.Proofs.Ytnngaedhedbenaa.WkTreeRuns
open Go Go.RowKit Go.Proofs.Ytnngaedhedbenaa.Ev
theorem walk (w : World) : Calls Try.prog 8 #[] w fun e w' => e = .returned (.bool true) ∧ Below w.heap.size w w' :=
  (calls_runO hm (auto1_ok t_none_ok) noHint [] [] (by kernel_rfl) trivial).2.2 w
end Go.Proofs.Ytnngaedhedbenaa.WkTreeRuns

