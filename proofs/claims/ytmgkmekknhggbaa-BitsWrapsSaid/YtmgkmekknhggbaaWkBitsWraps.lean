/-
  The walk of the law copselaw1.BitsWraps. No condition but that the numbers are of 64 bits.
-/
import Derived.Test.YtmgkmekknhggbaaBitsB
import Derived.Test.YtmgkmekknhggbaaWithin
set_option linter.unusedVariables false
set_option linter.unusedSimpArgs false
namespace Go.Proofs.Ytmgkmekknhggbaa.WkBitsWraps
open Go Go.RowKit Go.Proofs.Ytmgkmekknhggbaa.BitLib Go.Proofs.Ytmgkmekknhggbaa.BitsA Go.Proofs.Ytmgkmekknhggbaa.BitsB Go.Proofs.Ytmgkmekknhggbaa.Within

theorem dvd64 (k : Nat) (h : k ≤ 64) : (2 : Int) ^ k ∣ 18446744073709551616 := by
  have : (2 : Int) ^ 64 = 2 ^ k * 2 ^ (64 - k) := by rw [← Int.pow_add]; congr 1; omega
  exact ⟨2 ^ (64 - k), by rw [← this]; rfl⟩
theorem wrap64_mod (x : Int) (k : Nat) (h : k ≤ 64) : wrap64 x % 2 ^ k = x % 2 ^ k := by
  have e : wrap64 x = x + 18446744073709551616 * (-((x + 9223372036854775808) / 18446744073709551616)) := by unfold wrap64; omega
  obtain ⟨c, hc⟩ := dvd64 k h
  rw [e, hc, Int.mul_assoc, Int.add_mul_emod_self_left]
theorem wrapS_congr {x y : Int} {k : Nat} (h : x % 2 ^ k = y % 2 ^ k) : wrapS x k = wrapS y k := by
  unfold wrapS
  rw [Int.add_emod x, h, ← Int.add_emod]
theorem wrapS_mod (x : Int) (k : Nat) : wrapS x k % 2 ^ k = x % 2 ^ k := by
  unfold wrapS
  rw [Int.sub_emod, Int.emod_emod_of_dvd _ (Int.dvd_refl _), ← Int.sub_emod, Int.add_sub_cancel]
theorem wrap_add (n m : Int) (k : Nat) (h : k ≤ 64) : wrapS (wrap64 (wrapS n k + wrapS m k)) k = wrapS (wrap64 (n + m)) k := by
  refine wrapS_congr ?_
  rw [wrap64_mod _ k h, wrap64_mod _ k h, Int.add_emod, wrapS_mod, wrapS_mod, ← Int.add_emod]
theorem wrap_mul (n m : Int) (k : Nat) (h : k ≤ 64) : wrapS (wrap64 (wrapS n k * wrapS m k)) k = wrapS (wrap64 (n * m)) k := by
  refine wrapS_congr ?_
  rw [wrap64_mod _ k h, wrap64_mod _ k h, Int.mul_emod, wrapS_mod, wrapS_mod, ← Int.mul_emod]
theorem fits_wrapped (n : Int) (k : Nat) (k0 : 1 ≤ k) : decide (-(2 ^ (k - 1)) ≤ wrapS n k ∧ wrapS n k < 2 ^ (k - 1)) = true := decide_eq_true (wrapS_range n k k0)
theorem fits_same (n : Int) (k : Nat) (k0 : 1 ≤ k) : decide (-(2 ^ (k - 1)) ≤ n ∧ n < 2 ^ (k - 1)) = (wrapS n k == n) := by
  rw [Bool.eq_iff_iff, decide_eq_true_iff, beq_iff_eq]
  exact ⟨fun h => wrapS_fits n k k0 h.1 h.2, fun h => by have := wrapS_range n k k0; rwa [h] at this⟩
theorem low_mask (k : Nat) (h : k ≤ 63) : wrap64 (wrap64 (2 ^ k) - 1) = 2 ^ k - 1 := by
  have h1 : (2 : Int) ^ k ≤ 9223372036854775808 := pow_le (b := 63) h
  have h0 := ipow_pos k
  generalize (2 : Int) ^ k = p at *
  unfold wrap64
  omega
theorem differ (n : Int) (k : Nat) (h : k ≤ 63) : Go.bits .and .i64 (wrap64 (n - wrapS n k)) (wrap64 (wrap64 (2 ^ k) - 1)) = 0 := by
  rw [low_mask k h, i64_low _ k h, wrap64_mod _ k (by omega), Int.sub_emod, wrapS_mod, Int.sub_self, Int.zero_emod]
theorem wrapS_i64 (n : Int) (k : Nat) (k0 : 1 ≤ k) (k1 : k ≤ 64) : -9223372036854775808 ≤ wrapS n k ∧ wrapS n k ≤ 9223372036854775807 := by
  have h := wrapS_range n k k0
  have hp : (2 : Int) ^ (k - 1) ≤ 9223372036854775808 := pow_le (b := 63) (by omega)
  generalize (2 : Int) ^ (k - 1) = p at *
  omega
def R (w : World) (e : Ending) (w' : World) : Prop := e = .returned (.bool true) ∧ Below w.heap.size w w'
set_option maxHeartbeats 4000000 in
theorem walk (w : World) (n : Int) (w0 : (Lit.int .i64 n).wf = true) (m : Int) (w1 : (Lit.int .i64 m).wf = true) (b : Int) (w2 : (Lit.int .i64 b).wf = true) :
    Calls Try.prog 13 #[.int .i64 n, .int .i64 m, .int .i64 b] w (R w) := by
  obtain ⟨n0, n1⟩ := wf_i64 w0
  obtain ⟨m0, m1⟩ := wf_i64 w1
  obtain ⟨b0, b1⟩ := wf_i64 w2
  clear w0 w1 w2
  obtain ⟨k0, k1⟩ := within_range b (show (1 : Int) ≤ 63 by decide)
  obtain ⟨k, hk⟩ := Int.eq_ofNat_of_zero_le (show 0 ≤ withinS b 1 63 by omega)
  rw [hk] at k0 k1
  have HF1 := Lib.hid (fits_wrapped n k (by omega))
  have HF2 := Lib.hid (fits_same n k (by omega))
  have hd := differ n k (by omega)
  have HS := Lib.hid (wrap_add n m k (by omega))
  have HP := Lib.hid (wrap_mul n m k (by omega))
  have HRA := Lib.hid (wrapS_i64 n k (by omega) (by omega))
  have HF64 : Hid (decide (-(2 ^ (64 - 1)) ≤ n ∧ n < 2 ^ (64 - 1)) = true) := Lib.hid (decide_eq_true ⟨n0, by have : (2 : Int) ^ (64 - 1) = 9223372036854775808 := rfl; omega⟩)
  generalize hA : wrapS n k = x at *
  generalize hB : wrapS m k = y at *
  have HK := Lib.hid hk
  have HA := Lib.hid hA
  have HB := Lib.hid hB
  have HD : ∀ [Inhabited Nat], Go.bits .and .i64 (wrap64 (n - x)) (wrap64 (wrap64 (2 ^ k) - 1)) = 0 := fun {_} => hd
  clear hk hA hB hd
  go_enter Try.func13, Try.ntmps13
  go_wp2_with (first | (go_at_call 17; ((with_reducible refine (within_calls b 1 63 (by omega) (by omega) (by omega) (by omega) (by omega) _).mono ?_); rintro e w' ⟨rfl, rfl⟩; rw [HK.out])) | (go_at_call 19; ((with_reducible refine (wrap_yes n k n0 n1 (by omega) (by omega) _).mono ?_); rintro e w' ⟨rfl, rfl⟩; rw [HA.out])) | (go_at_call 19; ((with_reducible refine (wrap_yes m k m0 m1 (by omega) (by omega) _).mono ?_); rintro e w' ⟨rfl, rfl⟩; rw [HB.out])) | (go_at_call 28; ((with_reducible refine (fits_yes x k HRA.out.1 HRA.out.2 (by omega) (by omega) _).mono ?_); rintro e w' ⟨rfl, rfl⟩; rw [HF1.out])) | (go_at_call 28; ((with_reducible refine (fits_yes n k n0 n1 (by omega) (by omega) _).mono ?_); rintro e w' ⟨rfl, rfl⟩; rw [HF2.out])) | (go_at_call 19; ((with_reducible refine (wrap_yes (wrap64 (x + y)) k (wrap64_range _).1 (wrap64_range _).2 (by omega) (by omega) _).mono ?_); rintro e w' ⟨rfl, rfl⟩; rw [HS.out])) | (go_at_call 19; ((with_reducible refine (wrap_yes (wrap64 (x * y)) k (wrap64_range _).1 (wrap64_range _).2 (by omega) (by omega) _).mono ?_); rintro e w' ⟨rfl, rfl⟩; rw [HP.out])) | (go_at_call 19; ((with_reducible refine (wrap_yes (wrap64 (n + m)) k (wrap64_range _).1 (wrap64_range _).2 (by omega) (by omega) _).mono ?_); rintro e w' ⟨rfl, rfl⟩)) | (go_at_call 19; ((with_reducible refine (wrap_yes (wrap64 (n * m)) k (wrap64_range _).1 (wrap64_range _).2 (by omega) (by omega) _).mono ?_); rintro e w' ⟨rfl, rfl⟩)) | (go_at_call 28; ((with_reducible refine (fits_no n 0 n0 n1 (by omega) _).mono ?_); rintro e w' ⟨rfl, rfl⟩)) | (go_at_call 28; ((with_reducible refine (fits_no n 65 n0 n1 (by omega) _).mono ?_); rintro e w' ⟨rfl, rfl⟩)) | (go_at_call 28; (refine (fits_yes n 64 n0 n1 (by decide) (by decide) _).mono ?_; rintro e w' ⟨rfl, rfl⟩; rw [HF64.out])) | (go_at_call 5; refine (runs_calls _).mono ?_; rintro e w' ⟨rfl, rfl⟩))
  go_ret
  exact ⟨rfl, Below.refl _ _⟩
end Go.Proofs.Ytmgkmekknhggbaa.WkBitsWraps
