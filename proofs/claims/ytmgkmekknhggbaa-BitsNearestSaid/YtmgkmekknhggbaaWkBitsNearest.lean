/-
  The walk of the law copselaw1.BitsNearest. No condition but that the numbers are of 64 bits.
-/
import Derived.Test.YtmgkmekknhggbaaBitsB
import Derived.Test.YtmgkmekknhggbaaWithin
set_option linter.unusedVariables false
set_option linter.unusedSimpArgs false
namespace Go.Proofs.Ytmgkmekknhggbaa.WkBitsNearest
open Go Go.RowKit Go.Proofs.Ytmgkmekknhggbaa.BitLib Go.Proofs.Ytmgkmekknhggbaa.BitsA Go.Proofs.Ytmgkmekknhggbaa.BitsB Go.Proofs.Ytmgkmekknhggbaa.Within

/-- What is rounded is as near as may be; of two as near the even one. -/
theorem nearest (x : Int) (k : Nat) (k0 : 1 ≤ k) :
    (-(2 ^ (k - 1)) ≤ x - roundS x k * 2 ^ k ∧ x - roundS x k * 2 ^ k ≤ 2 ^ (k - 1)) ∧ (x - roundS x k * 2 ^ k = 2 ^ (k - 1) ∨ x - roundS x k * 2 ^ k = -(2 ^ (k - 1)) → roundS x k % 2 = 0) := by
  have hk2 : (2 : Int) ^ k = 2 ^ (k - 1) * 2 := by rw [← Int.pow_succ]; congr 1; omega
  have hp := ipow_pos (k - 1)
  have e1 := Int.mul_ediv_add_emod x (2 ^ k)
  have e2 := Int.emod_nonneg x (show (2 : Int) ^ k ≠ 0 by have := ipow_pos k; omega)
  have e3 := Int.emod_lt_of_pos x (ipow_pos k)
  have e4 : (x / 2 ^ k + 1) * 2 ^ k = 2 ^ k * (x / 2 ^ k) + 2 ^ k := by rw [Int.add_mul, Int.one_mul, Int.mul_comm]
  have e5 : x / 2 ^ k * 2 ^ k = 2 ^ k * (x / 2 ^ k) := Int.mul_comm _ _
  unfold roundS
  generalize x / 2 ^ k = q at *
  generalize x % 2 ^ k = r at *
  generalize (2 : Int) ^ k * q = m at *
  rw [hk2] at *
  generalize (2 : Int) ^ (k - 1) = h at *
  split
  · rw [e4]; omega
  · rw [e5]; omega
theorem exact (q : Int) (k : Nat) : roundS (q * 2 ^ k) k = q := by
  unfold roundS
  have hp := ipow_pos (k - 1)
  rw [Int.mul_emod_left, Int.mul_ediv_cancel _ (by have := ipow_pos k; omega), if_neg (by omega)]
theorem tests (x q m h : Int) (x0 : -1152921504606846976 ≤ x) (x1 : x ≤ 1152921504606846976) (h0 : 0 < h) (h1 : h ≤ 549755813888) (near : -h ≤ x - m ∧ x - m ≤ h) (even : x - m = h ∨ x - m = -h → q % 2 = 0) :
    wrap64 m = m ∧ wrap64 h = h ∧ decide (x - m < -h) = false ∧ decide (h < x - m) = false ∧ (x - m = h ∨ x - m = -h → (q % 2 != 0) = false) ∧ wrap64 (x - m) = x - m ∧ wrap64 (-h) = -h ∧ wrap64 (x - m) = x - m := by
  refine ⟨wrap64_id (by omega) (by omega), wrap64_id (by omega) (by omega), decide_eq_false (by omega), decide_eq_false (by omega), fun hc => ?_, wrap64_id (by omega) (by omega), wrap64_id (by omega) (by omega), wrap64_id (by omega) (by omega)⟩
  rw [even hc]; rfl
def R (w : World) (e : Ending) (w' : World) : Prop := e = .returned (.bool true) ∧ Below w.heap.size w w'
set_option maxHeartbeats 4000000 in
theorem walk (w : World) (n : Int) (w0 : (Lit.int .i64 n).wf = true) (b : Int) (w1 : (Lit.int .i64 b).wf = true) :
    Calls Try.prog 7 #[.int .i64 n, .int .i64 b] w (R w) := by
  obtain ⟨n0, n1⟩ := wf_i64 w0
  obtain ⟨b0, b1⟩ := wf_i64 w1
  clear w0 w1
  obtain ⟨k0, k1⟩ := within_range b (show (1 : Int) ≤ 40 by decide)
  obtain ⟨k, hk⟩ := Int.eq_ofNat_of_zero_le (show 0 ≤ withinS b 1 40 by omega)
  rw [hk] at k0 k1
  obtain ⟨x0, x1⟩ := within_range n (show (-1152921504606846976 : Int) ≤ 1152921504606846976 by decide)
  generalize hx : withinS n (-1152921504606846976) 1152921504606846976 = x at *
  obtain ⟨near, even⟩ := nearest x k (by omega)
  have ex := exact (roundS x k) k
  have hh1 : (2 : Int) ^ (k - 1) ≤ 549755813888 := pow_le (b := 39) (by omega)
  have hh0 := ipow_pos (k - 1)
  generalize hQ : roundS x k = q at *
  obtain ⟨hw, hw2, f1, f2, f3, hw3, hw4, _⟩ := tests x q (q * 2 ^ k) (2 ^ (k - 1)) x0 x1 hh0 hh1 near even
  have hlow := i64_low1 q
  have HK := Lib.hid hk
  have HX := Lib.hid hx
  have HQ := Lib.hid hQ
  have HE := Lib.hid ex
  have HE2 : Hid (roundS (wrap64 (q * 2 ^ k)) k = q) := Lib.hid (by rw [hw]; exact ex)
  have HW : ∀ [Inhabited Nat], wrap64 (q * 2 ^ k) = q * 2 ^ k := fun {_} => hw
  have HH : ∀ [Inhabited Nat], wrap64 (2 ^ (k - 1)) = 2 ^ (k - 1) := fun {_} => hw2
  have HL : ∀ [Inhabited Nat], Go.bits .and .i64 q 1 = q % 2 := fun {_} => hlow
  have hr := wrap64_range (q * 2 ^ k)
  have HRG := Lib.hid hr
  have HRG2 : Hid (-9223372036854775808 ≤ q * 2 ^ k ∧ q * 2 ^ k ≤ 9223372036854775807) := Lib.hid (by rw [← hw]; exact hr)
  have HW3 : ∀ [Inhabited Nat], wrap64 (x - q * 2 ^ k) = x - q * 2 ^ k := fun {_} => hw3
  have HW4 : ∀ [Inhabited Nat], wrap64 (-(2 ^ (k - 1))) = -(2 ^ (k - 1)) := fun {_} => hw4
  clear hk hx hQ ex hw hw2 hw3 hw4 hlow near even hh0 hh1 hr
  by_cases h1 : x - q * 2 ^ k = 2 ^ (k - 1)
  · have f3 := f3 (.inl h1)
    have f4 : (x - q * 2 ^ k == 2 ^ (k - 1)) = true := beq_iff_eq.mpr h1
    clear h1
    go_enter Try.func7, Try.ntmps7
    go_wp2_with (first | (go_at_call 17; ((with_reducible refine (within_calls b 1 40 (by omega) (by omega) (by omega) (by omega) (by omega) _).mono ?_); rintro e w' ⟨rfl, rfl⟩; rw [HK.out])) | (go_at_call 17; ((with_reducible refine (within_calls n (-1152921504606846976) 1152921504606846976 (by omega) (by omega) (by omega) (by omega) (by omega) _).mono ?_); rintro e w' ⟨rfl, rfl⟩; rw [HX.out])) | (go_at_call 21; ((with_reducible refine (round_yes x k (by omega) (by omega) (by omega) (by omega) _).mono ?_); rintro e w' ⟨rfl, rfl⟩; rw [HQ.out])) | (go_at_call 21; ((with_reducible refine (round_yes (q * 2 ^ k) k HRG2.out.1 HRG2.out.2 (by omega) (by omega) _).mono ?_); rintro e w' ⟨rfl, rfl⟩; rw [HE.out])) | (go_at_call 21; ((with_reducible refine (round_yes (wrap64 (q * 2 ^ k)) k HRG.out.1 HRG.out.2 (by omega) (by omega) _).mono ?_); rintro e w' ⟨rfl, rfl⟩; rw [HE2.out])) | (go_at_call 21; ((with_reducible refine (round_no n 0 n0 n1 (by omega) _).mono ?_); rintro e w' ⟨rfl, rfl⟩)) | (go_at_call 21; ((with_reducible refine (round_no n 63 n0 n1 (by omega) _).mono ?_); rintro e w' ⟨rfl, rfl⟩)) | (go_at_call 5; refine (runs_calls _).mono ?_; rintro e w' ⟨rfl, rfl⟩))
    go_ret
    exact ⟨rfl, Below.refl _ _⟩
  · by_cases h2 : x - q * 2 ^ k = -(2 ^ (k - 1))
    · have f3 := f3 (.inr h2)
      have f4 : (x - q * 2 ^ k == 2 ^ (k - 1)) = false := beq_eq_false_iff_ne.mpr h1
      have f5 : (x - q * 2 ^ k == -(2 ^ (k - 1))) = true := beq_iff_eq.mpr h2
      clear h1 h2
      go_enter Try.func7, Try.ntmps7
      go_wp2_with (first | (go_at_call 17; ((with_reducible refine (within_calls b 1 40 (by omega) (by omega) (by omega) (by omega) (by omega) _).mono ?_); rintro e w' ⟨rfl, rfl⟩; rw [HK.out])) | (go_at_call 17; ((with_reducible refine (within_calls n (-1152921504606846976) 1152921504606846976 (by omega) (by omega) (by omega) (by omega) (by omega) _).mono ?_); rintro e w' ⟨rfl, rfl⟩; rw [HX.out])) | (go_at_call 21; ((with_reducible refine (round_yes x k (by omega) (by omega) (by omega) (by omega) _).mono ?_); rintro e w' ⟨rfl, rfl⟩; rw [HQ.out])) | (go_at_call 21; ((with_reducible refine (round_yes (q * 2 ^ k) k HRG2.out.1 HRG2.out.2 (by omega) (by omega) _).mono ?_); rintro e w' ⟨rfl, rfl⟩; rw [HE.out])) | (go_at_call 21; ((with_reducible refine (round_yes (wrap64 (q * 2 ^ k)) k HRG.out.1 HRG.out.2 (by omega) (by omega) _).mono ?_); rintro e w' ⟨rfl, rfl⟩; rw [HE2.out])) | (go_at_call 21; ((with_reducible refine (round_no n 0 n0 n1 (by omega) _).mono ?_); rintro e w' ⟨rfl, rfl⟩)) | (go_at_call 21; ((with_reducible refine (round_no n 63 n0 n1 (by omega) _).mono ?_); rintro e w' ⟨rfl, rfl⟩)) | (go_at_call 5; refine (runs_calls _).mono ?_; rintro e w' ⟨rfl, rfl⟩))
      go_ret
      exact ⟨rfl, Below.refl _ _⟩
    · have f4 : (x - q * 2 ^ k == 2 ^ (k - 1)) = false := beq_eq_false_iff_ne.mpr h1
      have f5 : (x - q * 2 ^ k == -(2 ^ (k - 1))) = false := beq_eq_false_iff_ne.mpr h2
      clear h1 h2 f3
      go_enter Try.func7, Try.ntmps7
      go_wp2_with (first | (go_at_call 17; ((with_reducible refine (within_calls b 1 40 (by omega) (by omega) (by omega) (by omega) (by omega) _).mono ?_); rintro e w' ⟨rfl, rfl⟩; rw [HK.out])) | (go_at_call 17; ((with_reducible refine (within_calls n (-1152921504606846976) 1152921504606846976 (by omega) (by omega) (by omega) (by omega) (by omega) _).mono ?_); rintro e w' ⟨rfl, rfl⟩; rw [HX.out])) | (go_at_call 21; ((with_reducible refine (round_yes x k (by omega) (by omega) (by omega) (by omega) _).mono ?_); rintro e w' ⟨rfl, rfl⟩; rw [HQ.out])) | (go_at_call 21; ((with_reducible refine (round_yes (q * 2 ^ k) k HRG2.out.1 HRG2.out.2 (by omega) (by omega) _).mono ?_); rintro e w' ⟨rfl, rfl⟩; rw [HE.out])) | (go_at_call 21; ((with_reducible refine (round_yes (wrap64 (q * 2 ^ k)) k HRG.out.1 HRG.out.2 (by omega) (by omega) _).mono ?_); rintro e w' ⟨rfl, rfl⟩; rw [HE2.out])) | (go_at_call 21; ((with_reducible refine (round_no n 0 n0 n1 (by omega) _).mono ?_); rintro e w' ⟨rfl, rfl⟩)) | (go_at_call 21; ((with_reducible refine (round_no n 63 n0 n1 (by omega) _).mono ?_); rintro e w' ⟨rfl, rfl⟩)) | (go_at_call 5; refine (runs_calls _).mono ?_; rintro e w' ⟨rfl, rfl⟩))
      go_ret
      exact ⟨rfl, Below.refl _ _⟩
end Go.Proofs.Ytmgkmekknhggbaa.WkBitsNearest
