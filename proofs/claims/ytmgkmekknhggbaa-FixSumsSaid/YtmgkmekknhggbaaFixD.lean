/-
  Chapter 2's runs, walked; and copsebook.Within: what it answers, where its bounds are in order and not too far apart.
-/
import Derived.Test.YtmgkmekknhggbaaFixC
set_option linter.unusedVariables false
set_option linter.unusedSimpArgs false
namespace Go.Proofs.Ytmgkmekknhggbaa.FixD
open Go Go.RowKit Go.Proofs.Ytmgkmekknhggbaa.BitLib Go.Proofs.Ytmgkmekknhggbaa.FixA Go.Proofs.Ytmgkmekknhggbaa.FixB Go.Proofs.Ytmgkmekknhggbaa.FixC

set_option maxHeartbeats 1000000 in
theorem runs_calls (w : World) :
    Calls Try.prog 3 #[] w fun e w' => e = .returned (.bool true) ∧ Below w.heap.size w w' := by
  have hs : sumV (halves [9223372036854775807, 1, -1]) = 9223372036854775807 := by decide +kernel
  have hs2 : sumOk (halves [9223372036854775807, 1, -1]) = true := by decide +kernel
  have e1 : told (9223372036854775807 + 1) = 0 := by decide +kernel
  have e2 : fits (9223372036854775807 + 1) = false := by decide +kernel
  have s1 : shiftS 3 2 = (12, true) := by decide +kernel
  have s2 : shiftS (-3) (-1) = (-2, true) := by decide +kernel
  have s3 : shiftS 1 63 = (0, false) := by decide +kernel
  have s4 : shiftS (-1) 63 = (-9223372036854775808, true) := by decide +kernel
  have s5 : shiftS 0 99 = (0, true) := by decide +kernel
  go_enter Try.func3, Try.ntmps3
  go_wp2_with (first | (go_at_call 14; refine (add_calls _ _ (by decide) (by decide) (by decide) (by decide) _).mono ?_; rintro e w' ⟨rfl, rfl⟩) | (go_at_call 16; refine (shift_calls _ _ (by decide) (by decide) (by decide) (by decide) _).mono ?_; rintro e w' ⟨rfl, rfl⟩) | (go_at_call 15; refine (sum_calls _ _ _ [9223372036854775807, 1, -1] _ (reads_alloc _ _ _ (by decide))).mono ?_; rintro e w' ⟨rfl, rfl⟩))
  go_ret
  exact ⟨rfl, below_alloc (Below.refl _ _) _⟩
end Go.Proofs.Ytmgkmekknhggbaa.FixD

