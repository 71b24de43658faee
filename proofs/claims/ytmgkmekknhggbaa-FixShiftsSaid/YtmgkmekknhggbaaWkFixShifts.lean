/-
  The walk of the law copselaw2.FixShifts. No condition but that the numbers are of 64 bits.
-/
import Derived.Test.YtmgkmekknhggbaaFixD
import Derived.Test.YtmgkmekknhggbaaWithin
set_option linter.unusedVariables false
set_option linter.unusedSimpArgs false
namespace Go.Proofs.Ytmgkmekknhggbaa.WkFixShifts
open Go Go.RowKit Go.Proofs.Ytmgkmekknhggbaa.BitLib Go.Proofs.Ytmgkmekknhggbaa.FixA Go.Proofs.Ytmgkmekknhggbaa.FixB Go.Proofs.Ytmgkmekknhggbaa.FixC Go.Proofs.Ytmgkmekknhggbaa.FixD Go.Proofs.Ytmgkmekknhggbaa.Within

theorem pow_pos2 (k : Nat) : (0 : Int) < 2 ^ k := Int.pow_pos (by decide)
theorem fits_iff (n : Int) : fits n = true ↔ (-9223372036854775808 ≤ n ∧ n ≤ 9223372036854775807) := by unfold fits; exact decide_eq_true_iff
theorem fits_false (n : Int) : fits n = false ↔ ¬ (-9223372036854775808 ≤ n ∧ n ≤ 9223372036854775807) := by unfold fits; exact decide_eq_false_iff_not
/-- Doubled on, a number that is out of range stays so. -/
theorem grows (n : Int) (i d : Nat) (h : fits (n * 2 ^ i) = false) : fits (n * 2 ^ (i + d)) = false := by
  induction d with
  | zero => exact h
  | succ d ih =>
    rw [fits_false] at ih ⊢
    have e : n * 2 ^ (i + (d + 1)) = n * 2 ^ (i + d) * 2 := by rw [← Nat.add_assoc, Int.pow_succ, Int.mul_assoc]
    rw [e]
    omega
theorem beyond (n : Int) (k : Nat) (hn : n ≠ 0) (hk : 64 ≤ k) : fits (n * 2 ^ k) = false := by
  have h : fits (n * 2 ^ 64) = false := by
    rw [fits_false]
    have : (2 : Int) ^ 64 = 18446744073709551616 := rfl
    rw [this]; omega
  have := grows n 64 (k - 64) h
  rwa [show 64 + (k - 64) = k by omega] at this
theorem told_false {n : Int} (h : fits n = false) : told n = 0 := told_no ((fits_false n).1 h)
theorem up (n : Int) (k : Nat) : shiftS n k = (told (n * 2 ^ k), fits (n * 2 ^ k)) := by
  unfold shiftS
  rw [if_neg (by omega), if_neg (by omega)]
  by_cases hn : n = 0
  · subst hn
    rw [if_pos rfl, Int.zero_mul]; rfl
  · rw [if_neg hn]
    split
    · rw [beyond n k hn (by omega), told_false (beyond n k hn (by omega))]
    · rw [Int.toNat_natCast]
theorem low_ediv (n : Int) (k : Nat) (n0 : -9223372036854775808 ≤ n) (n1 : n ≤ 9223372036854775807) (hk : 63 ≤ k) : n / 9223372036854775808 = n / 2 ^ k := by
  have hp : (2 : Int) ^ 63 ≤ 2 ^ k := pow_le hk
  have h63 : (2 : Int) ^ 63 = 9223372036854775808 := rfl
  by_cases h : 0 ≤ n
  · rw [Int.ediv_eq_zero_of_lt h (by omega), Int.ediv_eq_zero_of_lt h (by omega)]
  · have e1 : n / 9223372036854775808 = -1 := by omega
    rw [e1]
    have := Int.ediv_emod_unique (a := n) (b := 2 ^ k) (r := n + 2 ^ k) (q := -1) (pow_pos2 k)
    exact (this.2 ⟨by rw [Int.mul_neg_one]; omega, by omega, by omega⟩).1.symm
theorem down (n : Int) (k : Nat) (n0 : -9223372036854775808 ≤ n) (n1 : n ≤ 9223372036854775807) : shiftS n (-(k : Int)) = (n / 2 ^ k, true) := by
  by_cases h63 : 63 ≤ k
  · unfold shiftS
    rw [if_pos (by omega), low_ediv n k n0 n1 h63]
  · unfold shiftS
    rw [if_neg (by omega)]
    by_cases h0 : k = 0
    · subst h0
      rw [if_neg (by omega)]
      by_cases hn : n = 0
      · subst hn; rfl
      · rw [if_neg hn, if_neg (by omega)]
        simp [told_yes n0 n1, fits_yes n0 n1]
    · rw [if_pos (by omega)]
      have : (- -(k : Int)).toNat = k := by omega
      rw [this]
theorem back (n : Int) (k : Nat) (h : fits (n * 2 ^ k) = true) : shiftS (told (n * 2 ^ k)) (-(k : Int)) = (n, true) := by
  rw [fits_iff] at h
  rw [told_yes h.1 h.2, down _ k h.1 h.2, mul_pow_ediv]
theorem twice (n : Int) (i : Nat) : n * 2 ^ i + n * 2 ^ i = n * 2 ^ (i + 1) := by
  rw [Int.pow_succ, ← Int.mul_assoc]; omega
theorem halved (n : Int) (i : Nat) : n / 2 ^ i / 2 = n / 2 ^ (i + 1) := by
  rw [Int.pow_succ, Int.ediv_ediv_of_nonneg (by have := pow_pos2 i; omega)]
theorem far (n : Int) : n / 4611686018427387904 / 2 = n / 9223372036854775808 := by omega
theorem topmost (n : Int) : shiftS n 9223372036854775807 = (0, n == 0) := by
  unfold shiftS
  rw [if_neg (by omega), if_neg (by omega)]
  by_cases h : n = 0
  · subst h; rfl
  · rw [if_neg h, if_pos (by omega), beq_eq_false_iff_ne.mpr h]
theorem lowest (n : Int) : shiftS n (-9223372036854775808) = (n / 9223372036854775808, true) := by
  unfold shiftS; rw [if_pos (by omega)]
theorem ediv_range (n : Int) (i : Nat) (n0 : -9223372036854775808 ≤ n) (n1 : n ≤ 9223372036854775807) : -9223372036854775808 ≤ n / 2 ^ i ∧ n / 2 ^ i ≤ 9223372036854775807 := by
  have hp := pow_pos2 i
  constructor
  · rw [Int.le_ediv_iff_mul_le hp]
    have := Int.mul_le_mul_of_nonneg_left (a := 1) (b := 2 ^ i) (c := 9223372036854775808) (by omega) (by omega)
    omega
  · by_cases h : 0 ≤ n
    · have := Int.ediv_le_self (2 ^ i) h; omega
    · have := Int.ediv_neg_of_neg_of_pos (by omega : n < 0) hp; omega
theorem told_range (n : Int) : -9223372036854775808 ≤ told n ∧ told n ≤ 9223372036854775807 := by unfold told; split <;> omega
def R (w : World) (e : Ending) (w' : World) : Prop := e = .returned (.bool true) ∧ Below w.heap.size w w'
set_option maxHeartbeats 4000000 in
theorem yes (w : World) (n b : Int) (k : Nat) (n0 : -9223372036854775808 ≤ n) (n1 : n ≤ 9223372036854775807) (b0 : -9223372036854775808 ≤ b) (b1 : b ≤ 9223372036854775807) (HK : Hid (withinS b 0 70 = k)) (k1 : (k : Int) ≤ 70) (hf : fits (n * 2 ^ k) = true) :
    Calls Try.prog 4 #[.int .i64 n, .int .i64 b] w (R w) := by
  have hr := (fits_iff _).1 hf
  have hup := up n k
  have hbk := back n k hf
  rw [hf, told_yes hr.1 hr.2] at hup
  rw [told_yes hr.1 hr.2] at hbk
  have hdn := down n k n0 n1
  have htop := topmost n
  have hlow := lowest n
  have hfar := far n
  have HF := Lib.hid hf
  clear hf
  have hne : (-(k : Int)) ≥ -70 := by omega
  go_enter Try.func4, Try.ntmps4
  go_wp2_with (first | (go_at_call 17; refine (within_calls _ _ _ (by omega) (by omega) (by omega) (by omega) (by omega) _).mono ?_; rintro e w' ⟨rfl, rfl⟩; rw [HK.out]) | (go_at_call 16; refine (shift_calls _ _ (by omega) (by omega) (by omega) (by omega) _).mono ?_; rintro e w' ⟨rfl, rfl⟩))
  go_loop [8, 9, 10] (fun x c i => ∃ j : Nat, j ≤ k ∧ i = .int .i64 j ∧ x = .int .i64 (n * 2 ^ j) ∧ c = .bool true) (fun _ _ i => k - (intOf i).toNat)
  case atStart => exact ⟨0, Nat.zero_le _, rfl, by simp, rfl⟩
  case round =>
    obtain ⟨j, hj, rfl, rfl, rfl⟩ := hrel
    by_cases hjk : j < k
    · have hall : ∀ i, i ≤ k → fits (n * 2 ^ i) = true := by
        intro i hi
        cases h : fits (n * 2 ^ i) with
        | true => rfl
        | false => have := grows n i (k - i) h; rw [show i + (k - i) = k by omega, HF.out] at this; exact absurd this (by decide)
      have ht := (fits_iff _).1 (hall j (by omega))
      have ht2 := (fits_iff _).1 (hall (j + 1) (by omega))
      have e2 := twice n j
      rw [← e2] at ht2
      have e3 := told_yes ht2.1 ht2.2
      have e4 := fits_yes ht2.1 ht2.2
      have h2 := Lib.hid e2
      clear hup hdn htop hlow hfar hbk hall e2 hr
      go_wp2_with (go_at_call 14; refine (add_calls _ _ (by omega) (by omega) (by omega) (by omega) _).mono ?_; rintro e w' ⟨rfl, rfl⟩)
      go_round
      case rel => exact ⟨j + 1, by omega, by go_num, by rw [← h2.out], rfl⟩
      case measure => simp [intOf]; omega
    · obtain rfl : k = j := by omega
      go_wp2_with (go_at_call 16; refine (shift_calls _ _ (by omega) (by omega) (by omega) (by omega) _).mono ?_; rintro e w' ⟨rfl, rfl⟩)
      go_loop [15, 16] (fun x i => ∃ j : Nat, j ≤ k ∧ i = .int .i64 j ∧ x = .int .i64 (n / 2 ^ j)) (fun _ i => k - (intOf i).toNat)
      case atStart => exact ⟨0, Nat.zero_le _, rfl, by simp⟩
      case round =>
        obtain ⟨i, hi, rfl, rfl⟩ := hrel
        have hir := ediv_range n i n0 n1
        by_cases hik : i < k
        · have hhv := Lib.hid (halved n i)
          go_wp2
          go_round
          case rel => exact ⟨i + 1, by omega, by go_num, by rw [← hhv.out]⟩
          case measure => simp [intOf]; omega
        · obtain rfl : k = i := by omega
          go_wp2_with (first | (go_at_call 16; refine (shift_calls _ _ (by omega) (by omega) (by omega) (by omega) _).mono ?_; rintro e w' ⟨rfl, rfl⟩) | (go_at_call 3; refine (runs_calls _).mono ?_; rintro e w' ⟨rfl, hb⟩))
          all_goals (go_ret; exact ⟨rfl, by assumption⟩)

set_option maxHeartbeats 4000000 in
theorem no (w : World) (n b : Int) (k : Nat) (n0 : -9223372036854775808 ≤ n) (n1 : n ≤ 9223372036854775807) (b0 : -9223372036854775808 ≤ b) (b1 : b ≤ 9223372036854775807) (HK : Hid (withinS b 0 70 = k)) (k1 : (k : Int) ≤ 70) (hf : fits (n * 2 ^ k) = false) :
    Calls Try.prog 4 #[.int .i64 n, .int .i64 b] w (R w) := by
  have hup := up n k
  rw [hf, told_false hf] at hup
  have hz : shiftS 0 (-(k : Int)) = (0, true) := by
    have := down 0 k (by decide) (by decide)
    rw [this, Int.zero_ediv]
  have hdn := down n k n0 n1
  have htop := topmost n
  have hlow := lowest n
  have hfar := far n
  have HF := Lib.hid hf
  clear hf
  have hne : (-(k : Int)) ≥ -70 := by omega
  go_enter Try.func4, Try.ntmps4
  go_wp2_with (first | (go_at_call 17; refine (within_calls _ _ _ (by omega) (by omega) (by omega) (by omega) (by omega) _).mono ?_; rintro e w' ⟨rfl, rfl⟩; rw [HK.out]) | (go_at_call 16; refine (shift_calls _ _ (by omega) (by omega) (by omega) (by omega) _).mono ?_; rintro e w' ⟨rfl, rfl⟩))
  go_loop [8, 9, 10] (fun x c i => ∃ j : Nat, j ≤ k ∧ i = .int .i64 j ∧ x = .int .i64 (told (n * 2 ^ j)) ∧ c = .bool (fits (n * 2 ^ j))) (fun _ _ i => k - (intOf i).toNat)
  case atStart => exact ⟨0, Nat.zero_le _, rfl, by simp [told_yes n0 n1], by simp [fits_yes n0 n1]⟩
  case round =>
    obtain ⟨j, hj, rfl, rfl, rfl⟩ := hrel
    by_cases hfj : fits (n * 2 ^ j) = true
    · have hjk : j < k := by
        by_cases e : j < k
        · exact e
        · have : j = k := by omega
          rw [this, HF.out] at hfj; exact absurd hfj (by decide)
      have ht := (fits_iff _).1 hfj
      have htj := told_yes ht.1 ht.2
      have h2 := Lib.hid (twice n j)
      clear hup hdn htop hlow hfar hz
      go_wp2_with (go_at_call 14; refine (add_calls _ _ (by omega) (by omega) (by omega) (by omega) _).mono ?_; rintro e w' ⟨rfl, rfl⟩)
      go_round
      case rel => exact ⟨j + 1, by omega, by go_num, by rw [← h2.out], by rw [← h2.out]⟩
      case measure => simp [intOf]; omega
    · have hfj : fits (n * 2 ^ j) = false := by cases h : fits (n * 2 ^ j) <;> simp_all
      have htj : told (n * 2 ^ j) = 0 := told_false hfj
      by_cases hjk : j < k
      all_goals
        go_wp2_with (go_at_call 16; refine (shift_calls _ _ (by omega) (by omega) (by omega) (by omega) _).mono ?_; rintro e w' ⟨rfl, rfl⟩)
        go_loop [15, 16] (fun x i => ∃ j : Nat, j ≤ k ∧ i = .int .i64 j ∧ x = .int .i64 (n / 2 ^ j)) (fun _ i => k - (intOf i).toNat)
        case atStart => exact ⟨0, Nat.zero_le _, rfl, by simp⟩
        case round =>
          obtain ⟨i, hi, rfl, rfl⟩ := hrel
          have hir := ediv_range n i n0 n1
          by_cases hik : i < k
          · have hhv := Lib.hid (halved n i)
            go_wp2
            go_round
            case rel => exact ⟨i + 1, by omega, by go_num, by rw [← hhv.out]⟩
            case measure => simp [intOf]; omega
          · obtain rfl : k = i := by omega
            go_wp2_with (first | (go_at_call 16; refine (shift_calls _ _ (by omega) (by omega) (by omega) (by omega) _).mono ?_; rintro e w' ⟨rfl, rfl⟩) | (go_at_call 3; refine (runs_calls _).mono ?_; rintro e w' ⟨rfl, hb⟩))
            all_goals (go_ret; exact ⟨rfl, by assumption⟩)
theorem walk (w : World) (n : Int) (w0 : (Lit.int .i64 n).wf = true) (b : Int) (w1 : (Lit.int .i64 b).wf = true) :
    Calls Try.prog 4 #[.int .i64 n, .int .i64 b] w (R w) := by
  obtain ⟨n0, n1⟩ := wf_i64 w0
  obtain ⟨b0, b1⟩ := wf_i64 w1
  obtain ⟨k0, k1⟩ := within_range b (show (0 : Int) ≤ 70 by decide)
  obtain ⟨k, hk⟩ := Int.eq_ofNat_of_zero_le k0
  rw [hk] at k1
  cases hf : fits (n * 2 ^ k) with
  | true => exact yes w n b k n0 n1 b0 b1 (Lib.hid hk) k1 hf
  | false => exact no w n b k n0 n1 b0 b1 (Lib.hid hk) k1 hf
end Go.Proofs.Ytmgkmekknhggbaa.WkFixShifts
