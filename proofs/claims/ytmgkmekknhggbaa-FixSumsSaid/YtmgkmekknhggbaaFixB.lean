/-
  Contracts of fix.Shift, fix.Sum, copseref1.Sum, copseref1.Add, copsebook.Within: what each answers, for all numbers of 64 bits; Sum for each slice that reads as a list of numbers.
-/
import Derived.Test.YtmgkmekknhggbaaFixA
set_option linter.unusedVariables false
set_option linter.unusedSimpArgs false
namespace Go.Proofs.Ytmgkmekknhggbaa.FixB
open Go Go.RowKit Go.Proofs.Ytmgkmekknhggbaa.BitLib Go.Proofs.Ytmgkmekknhggbaa.FixA

/-! ### Shift -/
theorem mul_pow_ediv (n : Int) (k : Nat) : n * 2 ^ k / 2 ^ k = n := Int.mul_ediv_cancel _ (by have : (0 : Int) < 2 ^ k := Int.pow_pos (by decide); omega)
/-- What is shifted out is lost: then what is shifted back is another number. -/
theorem shift_lost {n : Int} {k : Nat} (hk : k ≤ 63) (h : ¬ (-9223372036854775808 ≤ n * 2 ^ k ∧ n * 2 ^ k ≤ 9223372036854775807)) : wrap64 (n * 2 ^ k) / 2 ^ k ≠ n := by
  intro he
  have hp : (0 : Int) < 2 ^ k := Int.pow_pos (by decide)
  have hle : (2 : Int) ^ k ≤ 2 ^ 63 := pow_le hk
  have h63 : (2 : Int) ^ 63 = 9223372036854775808 := rfl
  have h1 := Int.emod_add_mul_ediv (wrap64 (n * 2 ^ k)) (2 ^ k)
  have h2 := Int.emod_nonneg (wrap64 (n * 2 ^ k)) (show (2 : Int) ^ k ≠ 0 by omega)
  have h3 := Int.emod_lt_of_pos (wrap64 (n * 2 ^ k)) hp
  rw [he, Int.mul_comm (2 ^ k) n] at h1
  generalize n * 2 ^ k = m at *
  generalize (2 : Int) ^ k = p at *
  generalize hr : wrap64 m % p = r at *
  unfold wrap64 at *
  omega

def shiftS (n by_ : Int) : Int × Bool :=
  if by_ ≤ -63 then (n / 9223372036854775808, true)
  else if by_ < 0 then (n / 2 ^ (-by_).toNat, true)
  else if n = 0 then (0, true)
  else if by_ > 63 then (0, false)
  else (told (n * 2 ^ by_.toNat), fits (n * 2 ^ by_.toNat))

set_option maxHeartbeats 400000 in
theorem shift_far (n b : Int) (n0 : -9223372036854775808 ≤ n) (n1 : n ≤ 9223372036854775807) (b0 : -9223372036854775808 ≤ b) (b1 : b ≤ -63) (w : World) :
    Calls Try.prog 16 #[.int .i64 n, .int .i64 b] w fun e w' => e = .returned (.tuple #[.int .i64 (n / 9223372036854775808), .bool true]) ∧ w = w' := by
  go_enter Try.func16, Try.ntmps16
  go_wp2
  go_ret2
  exact ⟨rfl, rfl⟩
set_option maxHeartbeats 400000 in
theorem shift_none (b : Int) (b0 : -63 < b) (b1 : b ≤ 9223372036854775807) (w : World) :
    Calls Try.prog 16 #[.int .i64 0, .int .i64 b] w fun e w' => e = .returned (.tuple #[.int .i64 0, .bool true]) ∧ w = w' := by
  go_enter Try.func16, Try.ntmps16
  go_wp2
  go_ret2
  exact ⟨rfl, rfl⟩
set_option maxHeartbeats 400000 in
theorem shift_down (n b : Int) (n0 : -9223372036854775808 ≤ n) (n1 : n ≤ 9223372036854775807) (hn : n ≠ 0) (b0 : -63 < b) (b1 : b < 0) (w : World) :
    Calls Try.prog 16 #[.int .i64 n, .int .i64 b] w fun e w' => e = .returned (.tuple #[.int .i64 (n / 2 ^ (-b).toNat), .bool true]) ∧ w = w' := by
  have hc : IntKind.u64.wrap (-b) = -b := wrapu_id (by omega) (by omega)
  have t1 : decide (b ≤ -63) = false := decide_eq_false (by omega)
  have t2 : (n == 0) = false := beq_eq_false_iff_ne.mpr hn
  go_enter Try.func16, Try.ntmps16
  go_wp2
  go_ret2
  exact ⟨rfl, rfl⟩
set_option maxHeartbeats 400000 in
theorem shift_beyond (n b : Int) (n0 : -9223372036854775808 ≤ n) (n1 : n ≤ 9223372036854775807) (hn : n ≠ 0) (b0 : 63 < b) (b1 : b ≤ 9223372036854775807) (w : World) :
    Calls Try.prog 16 #[.int .i64 n, .int .i64 b] w fun e w' => e = .returned (.tuple #[.int .i64 0, .bool false]) ∧ w = w' := by
  have t1 : decide (b ≤ -63) = false := decide_eq_false (by omega)
  have t2 : (n == 0) = false := beq_eq_false_iff_ne.mpr hn
  have t3 : decide (63 < b) = true := decide_eq_true b0
  go_enter Try.func16, Try.ntmps16
  go_wp2
  go_ret2
  exact ⟨rfl, rfl⟩
set_option maxHeartbeats 400000 in
theorem shift_up (n : Int) (k : Nat) (n0 : -9223372036854775808 ≤ n) (n1 : n ≤ 9223372036854775807) (hn : n ≠ 0) (hk : k ≤ 63) (w : World) :
    Calls Try.prog 16 #[.int .i64 n, .int .i64 k] w fun e w' => e = .returned (.tuple #[.int .i64 (told (n * 2 ^ k)), .bool (fits (n * 2 ^ k))]) ∧ w = w' := by
  have hc : IntKind.u64.wrap (k : Int) = k := wrapu_id (by omega) (by omega)
  have t1 : decide ((k : Int) ≤ -63) = false := decide_eq_false (by omega)
  have t2 : (n == 0) = false := beq_eq_false_iff_ne.mpr hn
  have t3 : decide (63 < (k : Int)) = false := decide_eq_false (by omega)
  by_cases h : -9223372036854775808 ≤ n * 2 ^ k ∧ n * 2 ^ k ≤ 9223372036854775807
  · obtain ⟨h0, h1⟩ := h
    have e1 := mul_pow_ediv n k
    have e2 := wrap64_id h0 h1
    rw [told_yes h0 h1, fits_yes h0 h1]
    go_enter Try.func16, Try.ntmps16
    go_wp2
    go_ret2
    exact ⟨rfl, rfl⟩
  · have e1 := shift_lost hk h
    have e2 : (wrap64 (n * 2 ^ k) / 2 ^ k != n) = true := bne_iff_ne.mpr e1
    rw [told_no h, fits_no h]
    clear h
    go_enter Try.func16, Try.ntmps16
    go_wp2
    go_ret2
    exact ⟨rfl, rfl⟩

theorem shift_calls (n b : Int) (n0 : -9223372036854775808 ≤ n) (n1 : n ≤ 9223372036854775807) (b0 : -9223372036854775808 ≤ b) (b1 : b ≤ 9223372036854775807) (w : World) :
    Calls Try.prog 16 #[.int .i64 n, .int .i64 b] w fun e w' => e = .returned (.tuple #[.int .i64 (shiftS n b).1, .bool (shiftS n b).2]) ∧ w = w' := by
  unfold shiftS
  split
  · exact shift_far n b n0 n1 b0 (by assumption) w
  · split
    · by_cases hn : n = 0
      · subst hn
        have e : (0 : Int) / 2 ^ (-b).toNat = 0 := Int.zero_ediv _
        rw [e]
        exact shift_none b (by omega) b1 w
      · exact shift_down n b n0 n1 hn (by omega) (by assumption) w
    · split
      · rename_i hn; subst hn
        exact shift_none b (by omega) b1 w
      · split
        · exact shift_beyond n b n0 n1 (by assumption) (by omega) b1 w
        · obtain ⟨k, rfl⟩ := Int.eq_ofNat_of_zero_le (show 0 ≤ b by omega)
          rw [Int.toNat_natCast]
          exact shift_up n k n0 n1 (by assumption) (by omega) w
end Go.Proofs.Ytmgkmekknhggbaa.FixB

