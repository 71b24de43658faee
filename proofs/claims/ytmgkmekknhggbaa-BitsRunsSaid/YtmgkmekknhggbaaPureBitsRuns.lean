/-
  The law copselaw1.BitsRuns over plain numbers: a closed sentence, reckoned by the kernel. No condition.
-/
import Derived.KernelRfl
import Derived.Test.YtmgkmekknhggbaaPBitsRunsx1
namespace Go.Proofs.Ytmgkmekknhggbaa.Pure
open Go.RowKit Go.Proofs.Ytmgkmekknhggbaa.PBitsRuns Go.Proofs.YtmgkmekknhggbaaW.PrintWords Go.Proofs.YtmgkmekknhggbaaW.PrintLast

/-- YOURS: ∃ k, copselaw1_BitsRuns.f k  = some true
What it reaches (each with k first where it has rounds; `.mono`: more rounds tell the same; `.l0`, ..: its loops, with `.mono_l`): bits_field.f, bits_mask.f, bits_Put.f, bits_Wrap.f, bits_Get.f, bits_Signed.f, bits_Round.f, copselaw1_BitsRuns.f -/
theorem BitsRuns : copselaw1_BitsRuns.Pure := by
  exact ⟨5, by kernel_rfl⟩

end Go.Proofs.Ytmgkmekknhggbaa.Pure
