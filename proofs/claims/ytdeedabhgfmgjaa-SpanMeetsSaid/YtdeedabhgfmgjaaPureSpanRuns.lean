/-
  The law copselaw4.SpanRuns over plain numbers: a closed sentence, reckoned by the kernel. No condition.
-/
import Derived.KernelRfl
import Derived.Test.YtdeedabhgfmgjaaPSpanRunsx2
namespace Go.Proofs.Ytdeedabhgfmgjaa.Pure
open Go.RowKit Go.Proofs.Ytdeedabhgfmgjaa.PSpanRuns Go.Proofs.YtdeedabhgfmgjaaW.PrintWords Go.Proofs.YtdeedabhgfmgjaaW.PrintLast

/-- YOURS: copselaw4_SpanRuns.f  = some true
What it reaches (each with k first where it has rounds; `.mono`: more rounds tell the same; `.l0`, ..: its loops, with `.mono_l`): span_none.f, span_of.f, span_Cut.f, span_Empty.f, fix_Sub.f, fix_Add.f, span_Size.f, span_Meet.f, copselaw4_SpanRuns.f -/
theorem SpanRuns : copselaw4_SpanRuns.Pure := by
  show copselaw4_SpanRuns.f = some true
  kernel_rfl

end Go.Proofs.Ytdeedabhgfmgjaa.Pure
