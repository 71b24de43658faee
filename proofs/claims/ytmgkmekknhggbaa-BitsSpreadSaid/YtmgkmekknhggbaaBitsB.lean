/-
  Contracts of bits.Signed and bits.Round; chapter 1's runs, walked.
-/
import Derived.Test.YtmgkmekknhggbaaBitsA
set_option linter.unusedVariables false
set_option linter.unusedSimpArgs false
namespace Go.Proofs.Ytmgkmekknhggbaa.BitsB
open Go Go.RowKit Go.Proofs.Ytmgkmekknhggbaa.BitLib Go.Proofs.Ytmgkmekknhggbaa.BitsA

def signedS (x a k : Nat) : Int := wrapS (getN x a k : Int) k
set_option maxHeartbeats 1000000 in
theorem signed_yes (x a k : Nat) (hx : x < 18446744073709551616) (k0 : 1 ≤ k) (h : a + k ≤ 64) (w : World) :
    Calls Try.prog 20 #[.int .u64 x, .int .i64 a, .int .i64 k] w fun e w' => e = .returned (.int .i64 (signedS x a k)) ∧ w = w' := by
  have hg := getN_lt64 x a k hx
  by_cases hk : k = 64
  · have HR : Hid (wrap64 (getN x a k : Int) = signedS x a k) := Lib.hid (by subst hk; exact (wrapS_64 _).symm)
    have hr := wrap64_range (getN x a k : Int)
    have HK := Lib.hid hk
    clear hk
    go_enter Try.func20, Try.ntmps20
    go_wp2_with (first | (go_at_call 22; refine (get_yes _ _ _ hx k0 h _).mono ?_; rintro e w' ⟨rfl, rfl⟩) | (go_at_call 19; refine (wrap_no _ _ hr.1 hr.2 (by have := HK.out; omega) _).mono ?_; rintro e w' ⟨rfl, rfl⟩))
    go_ret
    exact ⟨by rw [← HR.out]; rfl, rfl⟩
  · have hg2 : getN x a k < 2 ^ 63 := Nat.lt_of_lt_of_le (getN_lt x a k) (Nat.pow_le_pow_right (by decide) (by omega))
    have h63 : (2 : Nat) ^ 63 = 9223372036854775808 := rfl
    rw [h63] at hg2
    have hw : wrap64 (getN x a k : Int) = getN x a k := wrap64_id (by omega) (by omega)
    go_enter Try.func20, Try.ntmps20
    go_wp2_with (first | (go_at_call 22; refine (get_yes _ _ _ hx k0 h _).mono ?_; rintro e w' ⟨rfl, rfl⟩) | (go_at_call 19; refine (wrap_yes _ _ (by omega) (by omega) k0 (by omega) _).mono ?_; rintro e w' ⟨rfl, rfl⟩))
    go_ret
    exact ⟨rfl, rfl⟩
theorem wrapS_zero (k : Nat) (k0 : 1 ≤ k) : wrapS 0 k = 0 := wrapS_fits 0 k k0 (by have := ipow_pos (k - 1); omega) (ipow_pos _)
set_option maxHeartbeats 1000000 in
theorem signed_no (x : Int) (a k : Int) (ha : -9223372036854775808 ≤ a ∧ a ≤ 9223372036854775807) (hk : -9223372036854775808 ≤ k ∧ k ≤ 9223372036854775807) (h : ¬ (0 ≤ a ∧ a < 64 ∧ 1 ≤ k ∧ k ≤ 64 - a)) (w : World) :
    Calls Try.prog 20 #[.int .u64 x, .int .i64 a, .int .i64 k] w fun e w' => e = .returned (.int .i64 0) ∧ w = w' := by
  have H := Lib.hid h
  clear h
  by_cases hk1 : 1 ≤ k ∧ k ≤ 63
  · obtain ⟨j, rfl⟩ := Int.eq_ofNat_of_zero_le (show 0 ≤ k by omega)
    have hz := wrapS_zero j (by omega)
    go_enter Try.func20, Try.ntmps20
    go_wp2_with (first | (go_at_call 22; refine (get_no _ _ _ ha hk H.out _).mono ?_; rintro e w' ⟨rfl, rfl⟩) | (go_at_call 19; refine (wrap_yes _ _ (by omega) (by omega) (by omega) (by omega) _).mono ?_; rintro e w' ⟨rfl, rfl⟩))
    go_ret
    exact ⟨rfl, rfl⟩
  · go_enter Try.func20, Try.ntmps20
    go_wp2_with (first | (go_at_call 22; refine (get_no _ _ _ ha hk H.out _).mono ?_; rintro e w' ⟨rfl, rfl⟩) | (go_at_call 19; refine (wrap_no _ _ (by omega) (by omega) (by omega) _).mono ?_; rintro e w' ⟨rfl, rfl⟩))
    go_ret
    exact ⟨rfl, rfl⟩

/-! ### Round -/
def roundS (n : Int) (k : Nat) : Int := if n % 2 ^ k > 2 ^ (k - 1) ∨ n % 2 ^ k = 2 ^ (k - 1) ∧ n / 2 ^ k % 2 = 1 then n / 2 ^ k + 1 else n / 2 ^ k
set_option maxHeartbeats 2000000 in
theorem round_yes (n : Int) (k : Nat) (n0 : -9223372036854775808 ≤ n) (n1 : n ≤ 9223372036854775807) (k0 : 1 ≤ k) (k1 : k ≤ 62) (w : World) :
    Calls Try.prog 21 #[.int .i64 n, .int .i64 k] w fun e w' => e = .returned (.int .i64 (roundS n k)) ∧ w = w' := by
  have hc : IntKind.u64.wrap (k : Int) = k := wrapu_id (by omega) (by omega)
  have hc2 : IntKind.u64.wrap ((k : Int) - 1) = (k : Int) - 1 := wrapu_id (by omega) (by omega)
  have t1 : decide ((k : Int) < 1) = false := decide_eq_false (by omega)
  have t2 : decide (63 ≤ (k : Int)) = false := decide_eq_false (by omega)
  have hp := ipow_pos k
  have hp1 : (2 : Int) ^ (k - 1) ≤ 2305843009213693952 := pow_le (b := 61) (by omega)
  have hp2 := ipow_pos (k - 1)
  have hk2 : (2 : Int) ^ k = 2 ^ (k - 1) * 2 := by rw [← Int.pow_succ]; congr 1; omega
  have e1 := Int.mul_ediv_add_emod n (2 ^ k)
  have e2 := Int.emod_nonneg n (show (2 : Int) ^ k ≠ 0 by omega)
  have e3 := Int.emod_lt_of_pos n hp
  have HR := Lib.hid (show roundS n k = if n % 2 ^ k > 2 ^ (k - 1) ∨ n % 2 ^ k = 2 ^ (k - 1) ∧ n / 2 ^ k % 2 = 1 then n / 2 ^ k + 1 else n / 2 ^ k from rfl)
  have hlow := i64_low1 (n / 2 ^ k)
  have hq0 : -9223372036854775808 ≤ n / 2 ^ k ∧ n / 2 ^ k ≤ 4611686018427387904 := by
    constructor
    · rw [Int.le_ediv_iff_mul_le hp]
      have := Int.mul_le_mul_of_nonneg_left (a := 1) (b := 2 ^ k) (c := 9223372036854775808) (by omega) (by omega)
      omega
    · by_cases hn : 0 ≤ n
      · have hq := Int.ediv_nonneg hn (show 0 ≤ (2 : Int) ^ k by omega)
        have := Int.mul_le_mul_of_nonneg_left (a := 2) (b := 2 ^ k) (c := n / 2 ^ k) (by omega) hq
        have e : n / 2 ^ k * 2 ^ k = 2 ^ k * (n / 2 ^ k) := Int.mul_comm _ _
        omega
      · have := Int.ediv_neg_of_neg_of_pos (show n < 0 by omega) hp
        omega
  have hm : n / 2 ^ k * 2 ^ k = 2 ^ k * (n / 2 ^ k) := Int.mul_comm _ _
  have hw1 : wrap64 (n - wrap64 (n / 2 ^ k * 2 ^ k)) = n % 2 ^ k := by
    have e9 : n - n / 2 ^ k * 2 ^ k = n % 2 ^ k := by omega
    have h63 : (2 : Int) ^ k ≤ 4611686018427387904 := pow_le (b := 62) (by omega)
    generalize n / 2 ^ k * 2 ^ k = m at *
    unfold wrap64
    omega
  clear e1 hm
  generalize n % 2 ^ k = r at *
  have hh' : wrap64 (2 ^ (k - 1)) = 2 ^ (k - 1) := wrap64_id (Int.le_trans (by decide) (Int.le_of_lt hp2)) (Int.le_trans hp1 (by decide))
  have HW : ∀ [Inhabited Nat], wrap64 (n - wrap64 (n / 2 ^ k * 2 ^ k)) = r := fun {_} => hw1
  have HH : ∀ [Inhabited Nat], wrap64 (2 ^ (k - 1)) = 2 ^ (k - 1) := fun {_} => hh'
  have HL : ∀ [Inhabited Nat], Go.bits .and .i64 (n / 2 ^ k) 1 = n / 2 ^ k % 2 := fun {_} => hlow
  have hq1 : wrap64 (n / 2 ^ k + 1) = n / 2 ^ k + 1 := wrap64_id (by omega) (by omega)
  have HQ : ∀ [Inhabited Nat], wrap64 (n / 2 ^ k + 1) = n / 2 ^ k + 1 := fun {_} => hq1
  clear hk2 hp e3 hw1 hh' hlow hq1 hp1 hp2 hq0 e2
  by_cases h1 : 2 ^ (k - 1) < r
  · have HR' := Lib.hid (HR.out.trans (if_pos (.inl h1)))
    have f1 : decide (2 ^ (k - 1) < r) = true := decide_eq_true h1
    clear HR h1
    go_enter Try.func21, Try.ntmps21
    go_wp2
    go_ret
    exact ⟨by rw [HR'.out]; first | rfl | exact congrArg (fun z => Ending.returned (.int .i64 z)) HQ, rfl⟩
  · have f1 : decide (2 ^ (k - 1) < r) = false := decide_eq_false h1
    by_cases h2 : r = 2 ^ (k - 1)
    · have f2 : (r == 2 ^ (k - 1)) = true := beq_iff_eq.mpr h2
      by_cases h3 : n / 2 ^ k % 2 = 1
      · have f3 : (n / 2 ^ k % 2 == 1) = true := beq_iff_eq.mpr h3
        have HR' := Lib.hid (HR.out.trans (if_pos (.inr ⟨h2, h3⟩)))
        clear HR h1 h2 h3
        go_enter Try.func21, Try.ntmps21
        go_wp2
        go_ret
        exact ⟨by rw [HR'.out]; first | rfl | exact congrArg (fun z => Ending.returned (.int .i64 z)) HQ, rfl⟩
      · have f3 : (n / 2 ^ k % 2 == 1) = false := beq_eq_false_iff_ne.mpr h3
        have HR' := Lib.hid (HR.out.trans (if_neg (fun hn => hn.elim h1 (fun hn => h3 hn.2))))
        clear HR h1 h2 h3
        go_enter Try.func21, Try.ntmps21
        go_wp2
        go_ret
        exact ⟨by rw [HR'.out]; first | rfl | exact congrArg (fun z => Ending.returned (.int .i64 z)) HQ, rfl⟩
    · have f2 : (r == 2 ^ (k - 1)) = false := beq_eq_false_iff_ne.mpr h2
      have HR' := Lib.hid (HR.out.trans (if_neg (fun hn => hn.elim h1 (fun hn => h2 hn.1))))
      clear HR h1 h2
      go_enter Try.func21, Try.ntmps21
      go_wp2
      go_ret
      exact ⟨by rw [HR'.out]; first | rfl | exact congrArg (fun z => Ending.returned (.int .i64 z)) HQ, rfl⟩
set_option maxHeartbeats 1000000 in
theorem round_no (n k : Int) (n0 : -9223372036854775808 ≤ n) (n1 : n ≤ 9223372036854775807) (h : k < 1 ∨ 63 ≤ k) (w : World) :
    Calls Try.prog 21 #[.int .i64 n, .int .i64 k] w fun e w' => e = .returned (.int .i64 n) ∧ w = w' := by
  rcases h with h | h
  all_goals
    go_enter Try.func21, Try.ntmps21
    go_wp2
    all_goals (go_ret; exact ⟨rfl, rfl⟩)

/-! ### Chapter 1's runs -/
theorem run_put (w : World) : Calls Try.prog 18 #[.int .u64 0, .int .i64 4, .int .i64 8, .int .u64 511] w fun e w' => e = .returned (.int .u64 4080) ∧ w = w' :=
  put_yes 0 4 8 511 (by decide) (by decide) (by decide) (by decide) w
theorem run_signed (w : World) : Calls Try.prog 20 #[.int .u64 4080, .int .i64 4, .int .i64 8] w fun e w' => e = .returned (.int .i64 (-1)) ∧ w = w' := by
  have h := signed_yes 4080 4 8 (by decide) (by decide) (by decide) w
  rw [show signedS 4080 4 8 = -1 by decide +kernel] at h
  exact h
theorem run_wrap (w : World) : Calls Try.prog 19 #[.int .i64 200, .int .i64 8] w fun e w' => e = .returned (.int .i64 (-56)) ∧ w = w' := by
  have h := wrap_yes 200 8 (by decide) (by decide) (by decide) (by decide) w
  rw [show wrapS 200 8 = -56 by decide +kernel] at h
  exact h
theorem run_round (n r : Int) (n0 : -9223372036854775808 ≤ n) (n1 : n ≤ 9223372036854775807) (hr : roundS n 1 = r) (w : World) : Calls Try.prog 21 #[.int .i64 n, .int .i64 1] w fun e w' => e = .returned (.int .i64 r) ∧ w = w' := by
  have h := round_yes n 1 n0 n1 (by decide) (by decide) w
  rw [hr] at h
  exact h
set_option maxHeartbeats 1000000 in
theorem runs_calls (w : World) : Calls Try.prog 5 #[] w fun e w' => e = .returned (.bool true) ∧ w = w' := by
  go_enter Try.func5, Try.ntmps5
  go_wp2_with (first | (go_at_call 18; refine (run_put _).mono ?_; rintro e w' ⟨rfl, rfl⟩) | (go_at_call 19; refine (run_wrap _).mono ?_; rintro e w' ⟨rfl, rfl⟩) | (go_at_call 20; refine (run_signed _).mono ?_; rintro e w' ⟨rfl, rfl⟩) | (go_at_call 21; ((with_reducible refine (run_round 5 2 (by decide) (by decide) (by decide +kernel) _).mono ?_); rintro e w' ⟨rfl, rfl⟩)) | (go_at_call 21; ((with_reducible refine (run_round 7 4 (by decide) (by decide) (by decide +kernel) _).mono ?_); rintro e w' ⟨rfl, rfl⟩)) | (go_at_call 21; ((with_reducible refine (run_round (-5) (-2) (by decide) (by decide) (by decide +kernel) _).mono ?_); rintro e w' ⟨rfl, rfl⟩)))
  go_ret
  exact ⟨rfl, rfl⟩
end Go.Proofs.Ytmgkmekknhggbaa.BitsB
