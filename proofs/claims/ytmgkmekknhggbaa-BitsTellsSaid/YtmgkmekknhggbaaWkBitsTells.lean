/-
  The walk of the law copselaw1.BitsTells. No condition but that the numbers are of 64 bits.
-/
import Derived.Test.YtmgkmekknhggbaaBitsRef
set_option linter.unusedVariables false
set_option linter.unusedSimpArgs false
namespace Go.Proofs.Ytmgkmekknhggbaa.WkBitsTells
open Go Go.RowKit Go.Proofs.Ytmgkmekknhggbaa.BitLib Go.Proofs.Ytmgkmekknhggbaa.BitsA Go.Proofs.Ytmgkmekknhggbaa.BitsB Go.Proofs.Ytmgkmekknhggbaa.BitsRef

/-- Both functions answer the same value, whatever the world, and change nothing. -/
abbrev Both (f g : FuncId) (args : Array Value) (v : Value) : Prop :=
  (∀ w : World, Calls Try.prog f args w fun e w' => e = .returned v ∧ w = w') ∧ ∀ w : World, Calls Try.prog g args w fun e w' => e = .returned v ∧ w = w'
theorem fits_both (n : Int) (n0 : -9223372036854775808 ≤ n) (n1 : n ≤ 9223372036854775807) (s : Int) (s0 : -9223372036854775808 ≤ s) (s1 : s ≤ 9223372036854775807) : ∃ r : Bool, Both 28 29 #[.int .i64 n, .int .i64 s] (.bool r) := by
  by_cases h : s < 1 ∨ 64 < s
  · exact ⟨_, fun w => fits_no n s n0 n1 h w, fun w => refFits_no n s n0 n1 h w⟩
  · obtain ⟨k, rfl⟩ := Int.eq_ofNat_of_zero_le (show 0 ≤ s by omega)
    exact ⟨_, fun w => fits_yes n k n0 n1 (by omega) (by omega) w, fun w => refFits_yes n k n0 n1 (by omega) (by omega) w⟩
theorem wrap_both (n : Int) (n0 : -9223372036854775808 ≤ n) (n1 : n ≤ 9223372036854775807) (s : Int) (s0 : -9223372036854775808 ≤ s) (s1 : s ≤ 9223372036854775807) : ∃ r : Int, Both 19 30 #[.int .i64 n, .int .i64 s] (.int .i64 r) := by
  by_cases h : s < 1 ∨ 64 ≤ s
  · exact ⟨_, fun w => wrap_no n s n0 n1 h w, fun w => refWrap_no n s n0 n1 h w⟩
  · obtain ⟨k, rfl⟩ := Int.eq_ofNat_of_zero_le (show 0 ≤ s by omega)
    exact ⟨_, fun w => wrap_yes n k n0 n1 (by omega) (by omega) w, fun w => refWrap_yes n k n0 n1 (by omega) (by omega) w⟩
theorem round_both (n : Int) (n0 : -9223372036854775808 ≤ n) (n1 : n ≤ 9223372036854775807) (s : Int) (s0 : -9223372036854775808 ≤ s) (s1 : s ≤ 9223372036854775807) : ∃ r : Int, Both 21 34 #[.int .i64 n, .int .i64 s] (.int .i64 r) := by
  by_cases h : s < 1 ∨ 63 ≤ s
  · exact ⟨_, fun w => round_no n s n0 n1 h w, fun w => refRound_no n s n0 n1 h w⟩
  · obtain ⟨k, rfl⟩ := Int.eq_ofNat_of_zero_le (show 0 ≤ s by omega)
    exact ⟨_, fun w => round_yes n k n0 n1 (by omega) (by omega) w, fun w => refRound_yes n k n0 n1 (by omega) (by omega) w⟩
theorem get_both (x : Nat) (hx : x < 18446744073709551616) (a s : Int) (ha : -9223372036854775808 ≤ a ∧ a ≤ 9223372036854775807) (hs : -9223372036854775808 ≤ s ∧ s ≤ 9223372036854775807) : ∃ r : Int, Both 22 31 #[.int .u64 x, .int .i64 a, .int .i64 s] (.int .u64 r) := by
  by_cases h : 0 ≤ a ∧ a < 64 ∧ 1 ≤ s ∧ s ≤ 64 - a
  · obtain ⟨k, rfl⟩ := Int.eq_ofNat_of_zero_le (show 0 ≤ s by omega)
    obtain ⟨b, rfl⟩ := Int.eq_ofNat_of_zero_le h.1
    exact ⟨_, fun w => get_yes x b k hx (by omega) (by omega) w, fun w => refGet_yes x b k hx (by omega) (by omega) w⟩
  · exact ⟨_, fun w => get_no x a s ha hs h w, fun w => refGet_no x a s ha hs h w⟩
theorem signed_both (x : Nat) (hx : x < 18446744073709551616) (a s : Int) (ha : -9223372036854775808 ≤ a ∧ a ≤ 9223372036854775807) (hs : -9223372036854775808 ≤ s ∧ s ≤ 9223372036854775807) : ∃ r : Int, Both 20 33 #[.int .u64 x, .int .i64 a, .int .i64 s] (.int .i64 r) := by
  by_cases h : 0 ≤ a ∧ a < 64 ∧ 1 ≤ s ∧ s ≤ 64 - a
  · obtain ⟨k, rfl⟩ := Int.eq_ofNat_of_zero_le (show 0 ≤ s by omega)
    obtain ⟨b, rfl⟩ := Int.eq_ofNat_of_zero_le h.1
    exact ⟨_, fun w => signed_yes x b k hx (by omega) (by omega) w, fun w => refSigned_yes x b k hx (by omega) (by omega) w⟩
  · exact ⟨_, fun w => signed_no x a s ha hs h w, fun w => refSigned_no x a s ha hs h w⟩
theorem put_both (x : Nat) (hx : x < 18446744073709551616) (y : Nat) (hy : y < 18446744073709551616) (a s : Int) (ha : -9223372036854775808 ≤ a ∧ a ≤ 9223372036854775807) (hs : -9223372036854775808 ≤ s ∧ s ≤ 9223372036854775807) : ∃ r : Int, Both 18 32 #[.int .u64 x, .int .i64 a, .int .i64 s, .int .u64 y] (.int .u64 r) := by
  by_cases h : 0 ≤ a ∧ a < 64 ∧ 1 ≤ s ∧ s ≤ 64 - a
  · obtain ⟨k, rfl⟩ := Int.eq_ofNat_of_zero_le (show 0 ≤ s by omega)
    obtain ⟨b, rfl⟩ := Int.eq_ofNat_of_zero_le h.1
    exact ⟨_, fun w => put_yes x b k y hx hy (by omega) (by omega) w, fun w => refPut_yes x b k y hx hy (by omega) (by omega) w⟩
  · exact ⟨_, fun w => put_no x y a s ha hs h w, fun w => refPut_no x y a s ha hs h w⟩
set_option maxHeartbeats 4000000 in
theorem walk (w : World) (n : Int) (w0 : (Lit.int .i64 n).wf = true) (s : Int) (w1 : (Lit.int .i64 s).wf = true) (a : Int) (w2 : (Lit.int .i64 a).wf = true) (b : Int) (w3 : (Lit.int .i64 b).wf = true) (x : Int) (w4 : (Lit.int .u64 x).wf = true) (y : Int) (w5 : (Lit.int .u64 y).wf = true) :
    Calls Try.prog 12 #[.int .i64 n, .int .i64 s, .int .i64 a, .int .i64 b, .int .u64 x, .int .u64 y] w fun e w' => e = .returned (.bool true) ∧ Below w.heap.size w w' := by
  obtain ⟨n0, n1⟩ := wf_i64 w0
  obtain ⟨s0, s1⟩ := wf_i64 w1
  have ha := wf_i64 w2
  obtain ⟨b0, b1⟩ := wf_i64 w3
  obtain ⟨x0, x1⟩ := wf_u64 w4
  obtain ⟨y0, y1⟩ := wf_u64 w5
  obtain ⟨x, rfl⟩ := Int.eq_ofNat_of_zero_le x0
  obtain ⟨y, rfl⟩ := Int.eq_ofNat_of_zero_le y0
  obtain ⟨r1, h1⟩ := fits_both n n0 n1 s s0 s1
  obtain ⟨r2, h2⟩ := wrap_both n n0 n1 s s0 s1
  obtain ⟨r3, h3⟩ := get_both x (by omega) a s ha ⟨s0, s1⟩
  obtain ⟨r4, h4⟩ := put_both x (by omega) y (by omega) a s ha ⟨s0, s1⟩
  obtain ⟨r5, h5⟩ := signed_both x (by omega) a s ha ⟨s0, s1⟩
  obtain ⟨r6, h6⟩ := round_both n n0 n1 b b0 b1
  have HF := Lib.hid h1
  have HW := Lib.hid h2
  have HG := Lib.hid h3
  have HP := Lib.hid h4
  have HS := Lib.hid h5
  have HR := Lib.hid h6
  clear h1 h2 h3 h4 h5 h6 w0 w1 w2 w3 w4 w5
  go_enter Try.func12, Try.ntmps12
  go_wp2_with (first | (go_at_call 28; ((with_reducible refine (HF.out.1 _).mono ?_); rintro e w' ⟨rfl, rfl⟩)) | (go_at_call 29; ((with_reducible refine (HF.out.2 _).mono ?_); rintro e w' ⟨rfl, rfl⟩)) | (go_at_call 19; ((with_reducible refine (HW.out.1 _).mono ?_); rintro e w' ⟨rfl, rfl⟩)) | (go_at_call 30; ((with_reducible refine (HW.out.2 _).mono ?_); rintro e w' ⟨rfl, rfl⟩)) | (go_at_call 22; ((with_reducible refine (HG.out.1 _).mono ?_); rintro e w' ⟨rfl, rfl⟩)) | (go_at_call 31; ((with_reducible refine (HG.out.2 _).mono ?_); rintro e w' ⟨rfl, rfl⟩)) | (go_at_call 18; ((with_reducible refine (HP.out.1 _).mono ?_); rintro e w' ⟨rfl, rfl⟩)) | (go_at_call 32; ((with_reducible refine (HP.out.2 _).mono ?_); rintro e w' ⟨rfl, rfl⟩)) | (go_at_call 20; ((with_reducible refine (HS.out.1 _).mono ?_); rintro e w' ⟨rfl, rfl⟩)) | (go_at_call 33; ((with_reducible refine (HS.out.2 _).mono ?_); rintro e w' ⟨rfl, rfl⟩)) | (go_at_call 21; ((with_reducible refine (HR.out.1 _).mono ?_); rintro e w' ⟨rfl, rfl⟩)) | (go_at_call 34; ((with_reducible refine (HR.out.2 _).mono ?_); rintro e w' ⟨rfl, rfl⟩)) | (go_at_call 5; refine (runs_calls _).mono ?_; rintro e w' ⟨rfl, rfl⟩))
  go_ret
  exact ⟨rfl, Below.refl _ _⟩
end Go.Proofs.Ytmgkmekknhggbaa.WkBitsTells
