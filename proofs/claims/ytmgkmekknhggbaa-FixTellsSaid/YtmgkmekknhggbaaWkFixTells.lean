/-
  The walk of the law copselaw2.FixTells. No condition but that the numbers are of 64 bits.
-/
import Derived.Test.YtmgkmekknhggbaaFixD
set_option linter.unusedVariables false
set_option linter.unusedSimpArgs false
namespace Go.Proofs.Ytmgkmekknhggbaa.WkFixTells
open Go Go.RowKit Go.Proofs.Ytmgkmekknhggbaa.BitLib Go.Proofs.Ytmgkmekknhggbaa.FixA Go.Proofs.Ytmgkmekknhggbaa.FixB Go.Proofs.Ytmgkmekknhggbaa.FixC Go.Proofs.Ytmgkmekknhggbaa.FixD

set_option maxHeartbeats 1000000 in
theorem refAdd_calls (a b : Int) (a0 : -9223372036854775808 ≤ a) (a1 : a ≤ 9223372036854775807) (b0 : -9223372036854775808 ≤ b) (b1 : b ≤ 9223372036854775807) (w : World) :
    Calls Try.prog 23 #[.int .i64 a, .int .i64 b] w fun e w' => e = .returned (.tuple #[.int .i64 (told (a + b)), .bool (fits (a + b))]) ∧ w = w' := by
  have hw := wrap64_range (a + b)
  have HW : Hid (wrap64 (a + b) = (a + b + 9223372036854775808) % 18446744073709551616 - 9223372036854775808) := Lib.hid (by unfold wrap64; rfl)
  by_cases h : -9223372036854775808 ≤ a + b ∧ a + b ≤ 9223372036854775807
  · obtain ⟨h0, h1⟩ := h
    rw [told_yes h0 h1, fits_yes h0 h1]
    by_cases p : 0 < a <;> by_cases q : 0 < b <;> by_cases p' : a < 0 <;> by_cases q' : b < 0 <;> first
      | (exfalso; omega)
      | (go_enter Try.func23, Try.ntmps23
         go_wp2
         go_ret2
         exact ⟨rfl, rfl⟩)
  · rw [told_no h, fits_no h]
    have h' : (0 < a ∧ 0 < b) ∨ (a < 0 ∧ b < 0) := by omega
    rcases h' with ⟨p, q⟩ | ⟨p, q⟩
    · have hs : wrap64 (a + b) ≤ 0 := by have := HW.out; omega
      clear h
      go_enter Try.func23, Try.ntmps23
      go_wp2
      go_ret2
      exact ⟨rfl, rfl⟩
    · have hs : 0 ≤ wrap64 (a + b) := by have := HW.out; omega
      clear h
      go_enter Try.func23, Try.ntmps23
      go_wp2
      go_ret2
      exact ⟨rfl, rfl⟩

theorem refSum3 (a b : Int) (a0 : -9223372036854775808 ≤ a) (a1 : a ≤ 9223372036854775807) (b0 : -9223372036854775808 ≤ b) (b1 : b ≤ 9223372036854775807) (w : World) (T : TypeId) :
    Calls Try.prog 24 #[.slice (some ⟨w.heap.size, 0, none⟩) 3 3] (w.alloc (.cells #[.int .i64 a, .int .i64 (-1 - b), .int .i64 1] T)) fun e w' => e = .returned (.tuple #[.int .i64 (told (a - b)), .bool (fits (a - b))]) ∧ w.alloc (.cells #[.int .i64 a, .int .i64 (-1 - b), .int .i64 1] T) = w' := by
  have h := refSum_calls (some ⟨w.heap.size, 0, none⟩) 3 3 [a, -1 - b, 1] _ (reads_alloc w [a, -1 - b, 1] T (by simp))
  have hs := sum_short [a, -1 - b, 1] (by simp) (by intro x hx; simp at hx; omega)
  have e : sumI [a, -1 - b, 1] = a - b := by simp [sumI]; omega
  rw [e] at hs
  rw [hs.1, hs.2] at h
  exact h

set_option maxHeartbeats 2000000 in
theorem walk (w : World) (a0 : Int) (w0 : (Lit.int .i64 a0).wf = true) (a1 : Int) (w1 : (Lit.int .i64 a1).wf = true) (A : Option Addr) (n c : Nat) (l : List Int) (hr : ReadsInts w A n c l) (hl : ∀ x ∈ l, (Lit.int .i64 x).wf = true) :
    Calls Try.prog 9 #[.int .i64 a0, .int .i64 a1, .slice A n c] w fun e w' => e = .returned (.bool true) ∧ Below w.heap.size w w' := by
  obtain ⟨x0, x1⟩ := wf_i64 w0
  obtain ⟨y0, y1⟩ := wf_i64 w1
  have HR := Lib.hid hr
  clear hr hl w0 w1
  go_enter Try.func9, Try.ntmps9
  go_wp2_with (first | (go_at_call 14; refine (add_calls _ _ (by omega) (by omega) (by omega) (by omega) _).mono ?_; rintro e w' ⟨rfl, rfl⟩) | (go_at_call 23; refine (refAdd_calls _ _ (by omega) (by omega) (by omega) (by omega) _).mono ?_; rintro e w' ⟨rfl, rfl⟩) | (go_at_call 25; refine (sub_calls _ _ (by omega) (by omega) (by omega) (by omega) _).mono ?_; rintro e w' ⟨rfl, rfl⟩) | (go_at_call 15; refine (sum_calls _ _ _ _ _ HR.out.reads).mono ?_; rintro e w' ⟨rfl, rfl⟩) | (go_at_call 24; have tok := HR; refine (refSum_calls _ _ _ _ _ HR.out.reads).mono ?_; clear HR; rintro e w' ⟨rfl, rfl⟩) | (go_at_call 24; refine (refSum3 _ _ x0 x1 y0 y1 _ _).mono ?_; rintro e w' ⟨rfl, rfl⟩) | (go_at_call 3; refine (runs_calls _).mono ?_; rintro e w' ⟨rfl, hb⟩))
  go_ret
  exact ⟨rfl, by first | assumption | exact (below_alloc (Below.refl _ _) _).trans (hb.mono (by simp))⟩
end Go.Proofs.Ytmgkmekknhggbaa.WkFixTells
