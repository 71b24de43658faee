/-
  The law copselaw19.ProofRuns: chapter 19's runs.
-/
import Derived.Test.YtoeehjfblpmljaaEvProg
set_option linter.unusedVariables false
set_option linter.unusedSimpArgs false
set_option maxRecDepth 100000
namespace Go.Proofs.Ytoeehjfblpmljaa.WkProofRuns
open Go Go.RowKit Go.Proofs.Ytoeehjfblpmljaa.Ev
theorem walk (w : World) : Calls Try.prog 3 #[] w fun e w' => e = .returned (.bool true) ∧ Below w.heap.size w w' :=
  (calls_runO hm (auto1_ok t_none_ok) noHint [] [] (by kernel_rfl) trivial).2.2 w
end Go.Proofs.Ytoeehjfblpmljaa.WkProofRuns

