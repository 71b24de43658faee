/-
  The walk of the law copselaw2.FixOrder. No condition but that the numbers are of 64 bits.
-/
import Derived.Test.YtmgkmekknhggbaaFixD
import Derived.Lib.Hide
set_option linter.unusedVariables false
set_option linter.unusedSimpArgs false
namespace Go.Proofs.Ytmgkmekknhggbaa.WkFixOrder
open Go Go.RowKit Go.Proofs.Ytmgkmekknhggbaa.BitLib Go.Proofs.Ytmgkmekknhggbaa.FixA Go.Proofs.Ytmgkmekknhggbaa.FixD

theorem told_range (n : Int) : -9223372036854775808 ≤ told n ∧ told n ≤ 9223372036854775807 := by unfold told; split <;> omega
theorem fits_iff (n : Int) : fits n = true ↔ (-9223372036854775808 ≤ n ∧ n ≤ 9223372036854775807) := by unfold fits; exact decide_eq_true_iff
theorem rises (a b c : Int) (h1 : fits (a + c) = true) (h2 : fits (b + c) = true) : (!decide (a < b) == decide (told (a + c) < told (b + c))) = false := by
  rw [fits_iff] at h1 h2
  rw [told_yes h1.1 h1.2, told_yes h2.1 h2.2]
  by_cases h : a < b
  · have h' : a + c < b + c := by omega
    simp [h]
  · have h' : ¬ a + c < b + c := by omega
    simp [h]
/-- The law's last test, as plain numbers tell it. -/
theorem opposite (a b : Int) (h1 : fits (-a) = true) (h2 : fits (-b) = true) (h3 : fits (a + b) = true) (h4 : ¬ told (a + b) = -9223372036854775808) :
    fits (told (-a) + told (-b)) = true ∧ told (told (-a) + told (-b)) = wrap64 (-told (a + b)) := by
  rw [fits_iff] at h1 h2 h3
  rw [told_yes h3.1 h3.2] at h4 ⊢
  rw [told_yes h1.1 h1.2, told_yes h2.1 h2.2]
  rw [fits_yes (by omega) (by omega), told_yes (by omega) (by omega), wrap64_id (by omega) (by omega)]
  exact ⟨rfl, by omega⟩
def R (w : World) (e : Ending) (w' : World) : Prop := e = .returned (.bool true) ∧ Below w.heap.size w w'
set_option maxHeartbeats 4000000 in
theorem least (b c : Int) (b0 : -9223372036854775808 ≤ b) (b1 : b ≤ 9223372036854775807) (c0 : -9223372036854775808 ≤ c) (c1 : c ≤ 9223372036854775807) (w : World) :
    Calls Try.prog 11 #[.int .i64 (-9223372036854775808), .int .i64 b, .int .i64 c] w (R w) := by
  have f1 := rises (-9223372036854775808) b c
  have rb := told_range (-b)
  have rb' := told_range (0 - b)
  have e1 : told 9223372036854775808 = 0 := by decide +kernel
  have e2 : fits 9223372036854775808 = false := by decide +kernel
  go_enter Try.func11, Try.ntmps11
  go_wp2_with (first | (go_at_call 14; refine (add_calls _ _ (by omega) (by omega) (by omega) (by omega) _).mono ?_; rintro e w' ⟨rfl, rfl⟩) | (go_at_call 25; refine (sub_calls _ _ (by omega) (by omega) (by omega) (by omega) _).mono ?_; rintro e w' ⟨rfl, rfl⟩) | (go_at_call 3; refine (runs_calls _).mono ?_; rintro e w' ⟨rfl, hb⟩))
  all_goals (go_ret; exact ⟨rfl, by assumption⟩)
set_option maxHeartbeats 8000000 in
theorem core (a b c : Int) (a0 : -9223372036854775808 < a) (a1 : a ≤ 9223372036854775807) (b0 : -9223372036854775808 ≤ b) (b1 : b ≤ 9223372036854775807) (c0 : -9223372036854775808 ≤ c) (c1 : c ≤ 9223372036854775807) (w : World) :
    Calls Try.prog 11 #[.int .i64 a, .int .i64 b, .int .i64 c] w (R w) := by
  have f1 := rises a b c
  have ra := told_range (-a)
  have rb := told_range (-b)
  have ra' := told_range (0 - a)
  have rb' := told_range (0 - b)
  have hr : fits (-a) = true := fits_yes (by omega) (by omega)
  have hr' : fits (0 - a) = true := fits_yes (by omega) (by omega)
  have hm : (a != -9223372036854775808) = true := bne_iff_ne.mpr (by omega)
  have hd : (told (-a) != -a) = false := by rw [told_yes (by omega) (by omega)]; simp
  have HR := Lib.hid hr
  go_enter Try.func11, Try.ntmps11
  go_wp2_with (first | (go_at_call 14; refine (add_calls _ _ (by omega) (by omega) (by omega) (by omega) _).mono ?_; rintro e w' ⟨rfl, rfl⟩) | (go_at_call 25; refine (sub_calls _ _ (by omega) (by omega) (by omega) (by omega) _).mono ?_; rintro e w' ⟨rfl, rfl⟩) | (go_at_call 3; refine (runs_calls _).mono ?_; rintro e w' ⟨rfl, hb⟩))
  all_goals first | (go_ret; exact ⟨rfl, by assumption⟩) | (exfalso; have h := opposite a b HR.out (by assumption) (by assumption) (by assumption); exact absurd h.1 (by assumption)) | (exfalso; have h := opposite a b HR.out (by assumption) (by assumption) (by assumption); exact absurd h.2 (by assumption))
theorem walk (a0 : Int) (w0 : (Lit.int .i64 a0).wf = true) (a1 : Int) (w1 : (Lit.int .i64 a1).wf = true) (a2 : Int) (w2 : (Lit.int .i64 a2).wf = true) (w : World) :
    Calls Try.prog 11 #[.int .i64 a0, .int .i64 a1, .int .i64 a2] w fun e w' => e = .returned (.bool true) ∧ Below w.heap.size w w' :=
  by
  obtain ⟨x0, x1⟩ := wf_i64 w0
  obtain ⟨y0, y1⟩ := wf_i64 w1
  obtain ⟨z0, z1⟩ := wf_i64 w2
  by_cases h : a0 = -9223372036854775808
  · subst h; exact least a1 a2 y0 y1 z0 z1 w
  · exact core a0 a1 a2 (by omega) x1 y0 y1 z0 z1 w
end Go.Proofs.Ytmgkmekknhggbaa.WkFixOrder
