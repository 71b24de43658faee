/-
  Contracts of the package bits (field, mask, Put, Get, Wrap, Signed, Fits, Round): what each answers, for all numbers of 64 bits.
-/
import Derived.Test.YtnngaedhedbenaaBitLib
import Derived.Test.YtnngaedhedbenaaRowLib
import Derived.Test.YtnngaedhedbenaaRows
import Derived.WalkKit
import Derived.WalkLawsBesides
import Derived.KernelRfl
import Derived.Lib.Hide
import Derived.Outline
set_option linter.unusedVariables false
set_option linter.unusedSimpArgs false
namespace Go.Proofs.Ytnngaedhedbenaa.BitsA
open Go Go.RowKit Go.Proofs.Ytnngaedhedbenaa.BitLib

/-! ### Words as natural numbers -/
def getN (x a w : Nat) : Nat := x / 2 ^ a % 2 ^ w
def maskN (a w : Nat) : Nat := (2 ^ w - 1) * 2 ^ a
def putN (x a w y : Nat) : Nat := (x &&& (18446744073709551615 - maskN a w)) ||| ((y * 2 ^ a % 18446744073709551616) &&& maskN a w)
theorem two64 : (2 : Nat) ^ 64 = 18446744073709551616 := rfl
theorem getN_testBit (x a w i : Nat) : (getN x a w).testBit i = (decide (i < w) && x.testBit (a + i)) := by
  unfold getN
  rw [Nat.testBit_mod_two_pow, Nat.testBit_div_two_pow, Nat.add_comm]
theorem maskN_testBit (a w i : Nat) : (maskN a w).testBit i = (decide (a ≤ i) && decide (i < a + w)) := by
  unfold maskN
  rw [Nat.testBit_mul_two_pow, Nat.testBit_two_pow_sub_one]
  by_cases h : a ≤ i
  · have e : decide (i - a < w) = decide (i < a + w) := by rw [Bool.eq_iff_iff]; simp; omega
    rw [e]
  · simp [h]
theorem maskN_lt (a w : Nat) (h : a + w ≤ 64) : maskN a w < 18446744073709551616 := by
  unfold maskN
  rw [← two64]
  have h1 : 2 ^ w - 1 < 2 ^ w := Nat.sub_lt (Nat.two_pow_pos w) (by decide)
  calc (2 ^ w - 1) * 2 ^ a < 2 ^ w * 2 ^ a := Nat.mul_lt_mul_of_pos_right h1 (Nat.two_pow_pos a)
    _ = 2 ^ (w + a) := (Nat.pow_add ..).symm
    _ ≤ 2 ^ 64 := Nat.pow_le_pow_right (by decide) (by omega)
theorem compl_testBit (m i : Nat) (hm : m < 18446744073709551616) : (18446744073709551615 - m).testBit i = (decide (i < 64) && !m.testBit i) := by
  have h := @Nat.testBit_two_pow_sub_succ m 64 (by rw [two64]; exact hm) i
  rw [two64] at h
  rw [← h]
  congr 1
  omega
theorem putN_testBit (x a w y i : Nat) (h : a + w ≤ 64) (hx : x < 18446744073709551616) : (putN x a w y).testBit i = if a ≤ i ∧ i < a + w then y.testBit (i - a) else x.testBit i := by
  unfold putN
  rw [Nat.testBit_or, Nat.testBit_and, Nat.testBit_and, compl_testBit _ _ (maskN_lt a w h), maskN_testBit, ← two64, Nat.testBit_mod_two_pow, Nat.testBit_mul_two_pow]
  by_cases hi : a ≤ i ∧ i < a + w
  · obtain ⟨h1, h2⟩ := hi
    simp [h1, h2, show i < 64 by omega]
  · rw [if_neg hi]
    have hxi : 64 ≤ i → x.testBit i = false := fun h64 => Nat.testBit_lt_two_pow (Nat.lt_of_lt_of_le (by rw [← two64] at hx; exact hx) (Nat.pow_le_pow_right (by decide) h64))
    by_cases h1 : a ≤ i
    · have h2 : ¬ i < a + w := fun hn => hi ⟨h1, hn⟩
      by_cases h3 : i < 64
      · simp [h1, h2, h3]
      · simp [h1, h2, h3, hxi (by omega)]
    · by_cases h3 : i < 64
      · simp [h1, h3]
      · simp [h1, h3, hxi (by omega)]
theorem lt_of_testBit {x : Nat} (h : ∀ i, 64 ≤ i → x.testBit i = false) : x < 18446744073709551616 := by
  rw [← two64]; exact Nat.lt_pow_two_of_testBit x h
theorem putN_lt (x a w y : Nat) (h : a + w ≤ 64) (hx : x < 18446744073709551616) : putN x a w y < 18446744073709551616 := by
  refine lt_of_testBit fun i hi => ?_
  rw [putN_testBit x a w y i h hx, if_neg (by omega)]
  exact Nat.testBit_lt_two_pow (Nat.lt_of_lt_of_le (by rw [← two64] at hx; exact hx) (Nat.pow_le_pow_right (by decide) hi))
theorem getN_lt (x a w : Nat) : getN x a w < 2 ^ w := Nat.mod_lt _ (Nat.two_pow_pos w)
theorem getN_lt64 (x a w : Nat) (hx : x < 18446744073709551616) : getN x a w < 18446744073709551616 :=
  Nat.lt_of_le_of_lt (Nat.le_trans (Nat.mod_le _ _) (Nat.div_le_self _ _)) hx

/-! ### field, mask -/
set_option maxHeartbeats 400000 in
theorem field_yes (a s : Int) (a0 : 0 ≤ a) (a1 : a < 64) (s0 : 1 ≤ s) (s1 : s ≤ 64 - a) (w : World) :
    Calls Try.prog 42 #[.int .i64 a, .int .i64 s] w fun e w' => e = .returned (.bool true) ∧ w = w' := by
  go_enter Try.func42, Try.ntmps42
  go_wp2
  go_ret
  exact ⟨by first | rfl | (simp; done) | (simp; omega), rfl⟩
set_option maxHeartbeats 400000 in
theorem field_no (a s : Int) (ha : -9223372036854775808 ≤ a ∧ a ≤ 9223372036854775807) (hs : -9223372036854775808 ≤ s ∧ s ≤ 9223372036854775807) (h : ¬ (0 ≤ a ∧ a < 64 ∧ 1 ≤ s ∧ s ≤ 64 - a)) (w : World) :
    Calls Try.prog 42 #[.int .i64 a, .int .i64 s] w fun e w' => e = .returned (.bool false) ∧ w = w' := by
  by_cases h1 : 0 ≤ a
  · by_cases h2 : a < 64
    · have h3 : s < 1 ∨ 64 - a < s := by omega
      clear h
      go_enter Try.func42, Try.ntmps42
      go_wp2
      all_goals (go_ret; exact ⟨by first | rfl | (simp; done) | (simp; omega), rfl⟩)
    · clear h
      go_enter Try.func42, Try.ntmps42
      go_wp2
      all_goals (go_ret; exact ⟨by first | rfl | (simp; done) | (simp; omega), rfl⟩)
  · clear h
    go_enter Try.func42, Try.ntmps42
    go_wp2
    all_goals (go_ret; exact ⟨by first | rfl | (simp; done) | (simp; omega), rfl⟩)
set_option maxHeartbeats 400000 in
theorem mask_calls (k : Nat) (k0 : 1 ≤ k) (k1 : k ≤ 64) (w : World) :
    Calls Try.prog 43 #[.int .i64 k] w fun e w' => e = .returned (.int .u64 ((2 ^ k - 1 : Nat) : Int)) ∧ w = w' := by
  have hc : IntKind.u64.wrap (64 - (k : Int)) = 64 - (k : Int) := wrapu_id (by omega) (by omega)
  have HR : Hid ((18446744073709551615 : Int) / 2 ^ (64 - k) = ((2 ^ k - 1 : Nat) : Int)) := Lib.hid (by
    have h1 : (18446744073709551615 : Nat) / 2 ^ (64 - k) = 2 ^ k - 1 := by
      have e : (18446744073709551616 : Nat) = 2 ^ k * 2 ^ (64 - k) := by rw [← Nat.pow_add, show k + (64 - k) = 64 by omega]
      have hp := Nat.two_pow_pos (64 - k)
      have hk := Nat.two_pow_pos k
      rw [Nat.div_eq_iff hp]
      generalize (2 : Nat) ^ (64 - k) = p at *
      generalize (2 : Nat) ^ k = q at *
      have e2 : (q - 1) * p = q * p - p := by rw [Nat.sub_mul, Nat.one_mul]
      have e3 : p ≤ q * p := Nat.le_mul_of_pos_left p hk
      omega
    rw [← h1]; simp)
  go_enter Try.func43, Try.ntmps43
  go_wp2
  go_ret
  exact ⟨by rw [← HR.out]; rfl, rfl⟩

/-! ### Put, Get -/
theorem wrapu_nat (n : Nat) : IntKind.u64.wrap (n : Int) = ((n % 18446744073709551616 : Nat) : Int) := by rw [IntKind.wrap_u64]; simp
theorem wrapu_shl (m a : Nat) : IntKind.u64.wrap ((m : Int) * 2 ^ a) = ((m * 2 ^ a % 18446744073709551616 : Nat) : Int) := by
  rw [← wrapu_nat]; simp
theorem wrapu_mask (a k : Nat) (h : a + k ≤ 64) : IntKind.u64.wrap (((2 ^ k - 1 : Nat) : Int) * 2 ^ a) = (maskN a k : Int) := by
  rw [wrapu_shl]
  exact congrArg _ (Nat.mod_eq_of_lt (maskN_lt a k h))
set_option maxHeartbeats 1000000 in
theorem put_yes (x a k y : Nat) (hx : x < 18446744073709551616) (hy : y < 18446744073709551616) (k0 : 1 ≤ k) (h : a + k ≤ 64) (w : World) :
    Calls Try.prog 36 #[.int .u64 x, .int .i64 a, .int .i64 k, .int .u64 y] w fun e w' => e = .returned (.int .u64 (putN x a k y : Nat)) ∧ w = w' := by
  have hc : IntKind.u64.wrap (a : Int) = a := wrapu_id (by omega) (by omega)
  have hm := Lib.hid (wrapu_mask a k h)
  go_enter Try.func36, Try.ntmps36
  go_wp2_with (first | (go_at_call 42; refine (field_yes _ _ (by omega) (by omega) (by omega) (by omega) _).mono ?_; rintro e w' ⟨rfl, rfl⟩) | (go_at_call 43; refine (mask_calls _ (by omega) (by omega) _).mono ?_; rintro e w' ⟨rfl, rfl⟩))
  go_ret
  exact ⟨by
    show Ending.returned (.int .u64 (Go.bits .or .u64 (Go.bits .andNot .u64 x (IntKind.u64.wrap (((2 ^ k - 1 : Nat) : Int) * 2 ^ a))) (Go.bits .and .u64 (IntKind.u64.wrap ((y : Int) * 2 ^ a)) (IntKind.u64.wrap (((2 ^ k - 1 : Nat) : Int) * 2 ^ a))))) = _
    have ml := maskN_lt a k h
    rw [hm.out, wrapu_shl, u64_andNot_nat _ _ hx ml, u64_and_nat _ _ (Nat.mod_lt _ (by decide)) ml, u64_or_nat _ _ (Nat.lt_of_le_of_lt Nat.and_le_left hx) (Nat.lt_of_le_of_lt Nat.and_le_right ml)]
    rfl, rfl⟩
set_option maxHeartbeats 1000000 in
theorem put_no (x y : Int) (a k : Int) (ha : -9223372036854775808 ≤ a ∧ a ≤ 9223372036854775807) (hk : -9223372036854775808 ≤ k ∧ k ≤ 9223372036854775807) (h : ¬ (0 ≤ a ∧ a < 64 ∧ 1 ≤ k ∧ k ≤ 64 - a)) (w : World) :
    Calls Try.prog 36 #[.int .u64 x, .int .i64 a, .int .i64 k, .int .u64 y] w fun e w' => e = .returned (.int .u64 x) ∧ w = w' := by
  have H := Lib.hid h
  clear h
  go_enter Try.func36, Try.ntmps36
  go_wp2_with (go_at_call 42; refine (field_no _ _ ha hk H.out _).mono ?_; rintro e w' ⟨rfl, rfl⟩)
  go_ret
  exact ⟨rfl, rfl⟩
theorem and_low_u64 (x k : Nat) (hx : x < 18446744073709551616) (hk : k ≤ 64) : Go.bits .and .u64 (x : Int) ((2 ^ k - 1 : Nat) : Int) = ((x % 2 ^ k : Nat) : Int) := by
  have hk2 : (2 : Nat) ^ k ≤ 2 ^ 64 := Nat.pow_le_pow_right (by decide) hk
  rw [two64] at hk2
  have hp := Nat.two_pow_pos k
  rw [u64_and_nat _ _ hx (by omega), Nat.and_two_pow_sub_one_eq_mod]
set_option maxHeartbeats 1000000 in
theorem get_yes (x a k : Nat) (hx : x < 18446744073709551616) (k0 : 1 ≤ k) (h : a + k ≤ 64) (w : World) :
    Calls Try.prog 21 #[.int .u64 x, .int .i64 a, .int .i64 k] w fun e w' => e = .returned (.int .u64 (getN x a k : Nat)) ∧ w = w' := by
  have hc : IntKind.u64.wrap (a : Int) = a := wrapu_id (by omega) (by omega)
  have HR : Hid (Go.bits .and .u64 ((x : Int) / 2 ^ a) ((2 ^ k - 1 : Nat) : Int) = ((getN x a k : Nat) : Int)) := Lib.hid (by
    have e : (x : Int) / 2 ^ a = ((x / 2 ^ a : Nat) : Int) := by simp
    rw [e, and_low_u64 _ _ (Nat.lt_of_le_of_lt (Nat.div_le_self _ _) hx) (by omega)]; rfl)
  go_enter Try.func21, Try.ntmps21
  go_wp2_with (first | (go_at_call 42; refine (field_yes _ _ (by omega) (by omega) (by omega) (by omega) _).mono ?_; rintro e w' ⟨rfl, rfl⟩) | (go_at_call 43; refine (mask_calls _ (by omega) (by omega) _).mono ?_; rintro e w' ⟨rfl, rfl⟩))
  go_ret
  exact ⟨by rw [← HR.out]; rfl, rfl⟩
set_option maxHeartbeats 1000000 in
theorem get_no (x : Int) (a k : Int) (ha : -9223372036854775808 ≤ a ∧ a ≤ 9223372036854775807) (hk : -9223372036854775808 ≤ k ∧ k ≤ 9223372036854775807) (h : ¬ (0 ≤ a ∧ a < 64 ∧ 1 ≤ k ∧ k ≤ 64 - a)) (w : World) :
    Calls Try.prog 21 #[.int .u64 x, .int .i64 a, .int .i64 k] w fun e w' => e = .returned (.int .u64 0) ∧ w = w' := by
  have H := Lib.hid h
  clear h
  go_enter Try.func21, Try.ntmps21
  go_wp2_with (go_at_call 42; refine (field_no _ _ ha hk H.out _).mono ?_; rintro e w' ⟨rfl, rfl⟩)
  go_ret
  exact ⟨rfl, rfl⟩

/-! ### Wrap, Signed, Fits -/
/-- A number wrapped round into so many bits. -/
def wrapS (n : Int) (k : Nat) : Int := (n + 2 ^ (k - 1)) % 2 ^ k - 2 ^ (k - 1)
theorem wrapS_64 (n : Int) : wrapS n 64 = wrap64 n := by
  unfold wrapS wrap64
  rw [show (2 : Int) ^ (64 - 1) = 9223372036854775808 from rfl, show (2 : Int) ^ 64 = 18446744073709551616 from rfl]
theorem pow_split {a b : Nat} : (2 : Int) ^ (a + b) = 2 ^ a * 2 ^ b := Int.pow_add ..
theorem ipow_pos (k : Nat) : (0 : Int) < 2 ^ k := Int.pow_pos (by decide)
/-- Up and down again: what Go's two shifts come to. -/
theorem up_down (n : Int) (k : Nat) (k0 : 1 ≤ k) (k1 : k ≤ 63) : wrap64 (n * 2 ^ (64 - k)) / 2 ^ (64 - k) = wrapS n k := by
  have e1 : (18446744073709551616 : Int) = 2 ^ k * 2 ^ (64 - k) := by rw [← pow_split, show k + (64 - k) = 64 by omega]; rfl
  have e2 : (9223372036854775808 : Int) = 2 ^ (k - 1) * 2 ^ (64 - k) := by rw [← pow_split, show k - 1 + (64 - k) = 63 by omega]; rfl
  unfold wrap64 wrapS
  rw [e1, e2]
  have hp := ipow_pos (64 - k)
  generalize (2 : Int) ^ (64 - k) = p at *
  generalize (2 : Int) ^ (k - 1) = h at *
  rw [← Int.add_mul, Int.mul_comm (n + h) p, Int.mul_comm (2 ^ k) p, Int.mul_emod_mul_of_pos _ _ hp, Int.mul_comm h p, ← Int.mul_sub, Int.mul_comm p, Int.mul_ediv_cancel _ (by omega)]
theorem wrapS_range (n : Int) (k : Nat) (k0 : 1 ≤ k) : -(2 ^ (k - 1)) ≤ wrapS n k ∧ wrapS n k < 2 ^ (k - 1) := by
  have e : (2 : Int) ^ k = 2 ^ (k - 1) * 2 := by rw [← Int.pow_succ]; congr 1; omega
  have h0 := Int.emod_nonneg (n + 2 ^ (k - 1)) (show (2 : Int) ^ k ≠ 0 by have := ipow_pos k; omega)
  have h1 := Int.emod_lt_of_pos (n + 2 ^ (k - 1)) (ipow_pos k)
  unfold wrapS
  omega
theorem wrapS_fits (n : Int) (k : Nat) (k0 : 1 ≤ k) (h0 : -(2 ^ (k - 1)) ≤ n) (h1 : n < 2 ^ (k - 1)) : wrapS n k = n := by
  have e : (2 : Int) ^ k = 2 ^ (k - 1) * 2 := by rw [← Int.pow_succ]; congr 1; omega
  unfold wrapS
  rw [Int.emod_eq_of_lt (by omega) (by omega)]; omega
set_option maxHeartbeats 1000000 in
theorem wrap_yes (n : Int) (k : Nat) (n0 : -9223372036854775808 ≤ n) (n1 : n ≤ 9223372036854775807) (k0 : 1 ≤ k) (k1 : k ≤ 63) (w : World) :
    Calls Try.prog 41 #[.int .i64 n, .int .i64 k] w fun e w' => e = .returned (.int .i64 (wrapS n k)) ∧ w = w' := by
  have hc : IntKind.u64.wrap (64 - (k : Int)) = 64 - (k : Int) := wrapu_id (by omega) (by omega)
  have t1 : decide ((k : Int) < 1) = false := decide_eq_false (by omega)
  have t2 : decide (64 ≤ (k : Int)) = false := decide_eq_false (by omega)
  have HR := Lib.hid (up_down n k k0 k1)
  go_enter Try.func41, Try.ntmps41
  go_wp2
  go_ret
  exact ⟨by rw [← HR.out]; rfl, rfl⟩
set_option maxHeartbeats 1000000 in
theorem wrap_no (n k : Int) (n0 : -9223372036854775808 ≤ n) (n1 : n ≤ 9223372036854775807) (h : k < 1 ∨ 64 ≤ k) (w : World) :
    Calls Try.prog 41 #[.int .i64 n, .int .i64 k] w fun e w' => e = .returned (.int .i64 n) ∧ w = w' := by
  rcases h with h | h
  all_goals
    go_enter Try.func41, Try.ntmps41
    go_wp2
    all_goals (go_ret; exact ⟨rfl, rfl⟩)
set_option maxHeartbeats 1000000 in
theorem fits_yes (n : Int) (k : Nat) (n0 : -9223372036854775808 ≤ n) (n1 : n ≤ 9223372036854775807) (k0 : 1 ≤ k) (k1 : k ≤ 64) (w : World) :
    Calls Try.prog 38 #[.int .i64 n, .int .i64 k] w fun e w' => e = .returned (.bool (decide (-(2 ^ (k - 1)) ≤ n ∧ n < 2 ^ (k - 1)))) ∧ w = w' := by
  have hc : IntKind.u64.wrap ((k : Int) - 1) = (k : Int) - 1 := wrapu_id (by omega) (by omega)
  have t1 : decide ((k : Int) < 1) = false := decide_eq_false (by omega)
  have t2 : decide (64 < (k : Int)) = false := decide_eq_false (by omega)
  have HR : Hid ((n / 2 ^ (k - 1) == 0 || n / 2 ^ (k - 1) == -1) = decide (-(2 ^ (k - 1)) ≤ n ∧ n < 2 ^ (k - 1))) := Lib.hid (by
    have hp := ipow_pos (k - 1)
    generalize (2 : Int) ^ (k - 1) = p at *
    rw [Bool.eq_iff_iff, Bool.or_eq_true, beq_iff_eq, beq_iff_eq, decide_eq_true_iff]
    have h1 := Int.mul_ediv_add_emod n p
    have h2 := Int.emod_nonneg n (show p ≠ 0 by omega)
    have h3 := Int.emod_lt_of_pos n hp
    constructor
    · rintro (h | h)
      · rw [h] at h1; simp at h1; omega
      · rw [h] at h1; omega
    · rintro ⟨g1, g2⟩
      by_cases hn : 0 ≤ n
      · left; exact Int.ediv_eq_zero_of_lt hn g2
      · right
        have := Int.ediv_emod_unique (a := n) (b := p) (r := n + p) (q := -1) hp
        exact (this.2 ⟨by rw [Int.mul_neg_one]; omega, by omega, by omega⟩).1)
  by_cases h : n / 2 ^ (k - 1) = 0
  · have hq : (n / 2 ^ (k - 1) == 0) = true := beq_iff_eq.mpr h
    clear h
    go_enter Try.func38, Try.ntmps38
    go_wp2
    go_ret
    exact ⟨by rw [← HR.out, hq]; rfl, rfl⟩
  · have hq : (n / 2 ^ (k - 1) == 0) = false := beq_eq_false_iff_ne.mpr h
    clear h
    go_enter Try.func38, Try.ntmps38
    go_wp2
    go_ret
    exact ⟨by rw [← HR.out, hq]; rfl, rfl⟩
set_option maxHeartbeats 1000000 in
theorem fits_no (n k : Int) (n0 : -9223372036854775808 ≤ n) (n1 : n ≤ 9223372036854775807) (h : k < 1 ∨ 64 < k) (w : World) :
    Calls Try.prog 38 #[.int .i64 n, .int .i64 k] w fun e w' => e = .returned (.bool false) ∧ w = w' := by
  rcases h with h | h
  all_goals
    go_enter Try.func38, Try.ntmps38
    go_wp2
    all_goals (go_ret; exact ⟨rfl, rfl⟩)
end Go.Proofs.Ytnngaedhedbenaa.BitsA

