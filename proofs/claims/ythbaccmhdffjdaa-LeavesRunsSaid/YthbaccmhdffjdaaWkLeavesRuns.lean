/-
  The law copselaw13.LeavesRuns: chapter 13's runs.
-/
import Derived.Test.YthbaccmhdffjdaaEvProg
set_option linter.unusedVariables false
set_option linter.unusedSimpArgs false
set_option maxRecDepth 100000
namespace Go.Proofs.Ythbaccmhdffjdaa.WkLeavesRuns
open Go Go.RowKit Go.Proofs.Ythbaccmhdffjdaa.Ev
theorem walk (w : World) : Calls Try.prog 6 #[] w fun e w' => e = .returned (.bool true) ∧ Below w.heap.size w w' :=
  (calls_runO hm (autoM_ok t_none_ok) noHint [] [] (by kernel_rfl) trivial).2.2 w
end Go.Proofs.Ythbaccmhdffjdaa.WkLeavesRuns

