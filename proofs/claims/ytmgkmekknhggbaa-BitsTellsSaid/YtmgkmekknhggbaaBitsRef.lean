/-
  Contracts of copseref1's Fits, Wrap, mask, Get, Put, Signed, Round: what each answers, for all numbers of 64 bits.
-/
import Derived.Test.YtmgkmekknhggbaaBitsB
import Derived.LoopTactic
set_option linter.unusedVariables false
set_option linter.unusedSimpArgs false
namespace Go.Proofs.Ytmgkmekknhggbaa.BitsRef
open Go Go.RowKit Go.Proofs.Ytmgkmekknhggbaa.BitLib Go.Proofs.Ytmgkmekknhggbaa.BitsA Go.Proofs.Ytmgkmekknhggbaa.BitsB

theorem maskN_zero (a : Nat) : maskN a 0 = 0 := by simp [maskN]
theorem maskN_succ (a i : Nat) : maskN a i ||| 2 ^ (a + i) = maskN a (i + 1) := by
  apply Nat.eq_of_testBit_eq; intro j
  rw [Nat.testBit_or, maskN_testBit, maskN_testBit, Nat.testBit_two_pow]
  by_cases h1 : a ≤ j <;> by_cases h2 : j < a + i <;> by_cases h3 : a + i = j <;> by_cases h4 : j < a + (i + 1) <;> simp [h1, h2, h3, h4] <;> omega
theorem mask_step (a i : Nat) (h : a + i < 64) : Go.bits .or .u64 (maskN a i : Int) (IntKind.u64.wrap (2 ^ (a + i))) = (maskN a (i + 1) : Int) := by
  have hp : (2 : Nat) ^ (a + i) < 18446744073709551616 := by rw [← two64]; exact Nat.pow_lt_pow_right (by decide) h
  have e : IntKind.u64.wrap (2 ^ (a + i)) = ((2 ^ (a + i) : Nat) : Int) := by
    have := wrapu_nat (2 ^ (a + i))
    rw [Nat.mod_eq_of_lt hp] at this
    rw [← this]; simp
  rw [e, u64_or_nat _ _ (maskN_lt a i (by omega)) hp, maskN_succ]
set_option maxHeartbeats 1000000 in
theorem refMask_yes (a k : Nat) (k0 : 1 ≤ k) (h : a + k ≤ 64) (w : World) :
    Calls Try.prog 38 #[.int .i64 a, .int .i64 k] w fun e w' => e = .returned (.int .u64 (maskN a k : Nat)) ∧ w = w' := by
  have t1 : decide ((a : Int) < 0) = false := decide_eq_false (by omega)
  have t2 : decide (63 < (a : Int)) = false := decide_eq_false (by omega)
  have t3 : decide ((k : Int) < 1) = false := decide_eq_false (by omega)
  have t4 : decide (64 - (a : Int) < k) = false := decide_eq_false (by omega)
  go_enter Try.func38, Try.ntmps38
  go_wp2
  go_loop [5, 24] (fun m i => ∃ j : Nat, j ≤ k ∧ i = .int .i64 j ∧ m = .int .u64 (maskN a j : Nat)) (fun _ i => k - (intOf i).toNat)
  case atStart => exact ⟨0, Nat.zero_le _, rfl, by rw [maskN_zero]; rfl⟩
  case round =>
    obtain ⟨j, hj, rfl, rfl⟩ := hrel
    by_cases hlt : j < k
    · have hst := Lib.hid (mask_step a j (by omega))
      go_wp2
      go_round
      case rel => exact ⟨j + 1, by omega, by go_num, by rw [← hst.out]⟩
      case measure => simp [intOf]; omega
    · obtain rfl : k = j := by omega
      go_wp2
      go_ret
      exact ⟨rfl, rfl⟩
set_option maxHeartbeats 1000000 in
theorem refMask_no (a k : Int) (ha : -9223372036854775808 ≤ a ∧ a ≤ 9223372036854775807) (hk : -9223372036854775808 ≤ k ∧ k ≤ 9223372036854775807) (h : ¬ (0 ≤ a ∧ a < 64 ∧ 1 ≤ k ∧ k ≤ 64 - a)) (w : World) :
    Calls Try.prog 38 #[.int .i64 a, .int .i64 k] w fun e w' => e = .returned (.int .u64 0) ∧ w = w' := by
  by_cases h1 : a < 0
  · have t1 : decide (a < 0) = true := decide_eq_true h1
    clear h
    go_enter Try.func38, Try.ntmps38
    go_wp2
    go_ret
    exact ⟨rfl, rfl⟩
  · have t1 : decide (a < 0) = false := decide_eq_false h1
    by_cases h2 : 63 < a
    · have t2 : decide (63 < a) = true := decide_eq_true h2
      clear h
      go_enter Try.func38, Try.ntmps38
      go_wp2
      go_ret
      exact ⟨rfl, rfl⟩
    · have t2 : decide (63 < a) = false := decide_eq_false h2
      by_cases h3 : k < 1
      · have t3 : decide (k < 1) = true := decide_eq_true h3
        clear h
        go_enter Try.func38, Try.ntmps38
        go_wp2
        go_ret
        exact ⟨rfl, rfl⟩
      · have t3 : decide (k < 1) = false := decide_eq_false h3
        have t4 : decide (64 - a < k) = true := decide_eq_true (by omega)
        clear h
        go_enter Try.func38, Try.ntmps38
        go_wp2
        go_ret
        exact ⟨rfl, rfl⟩
theorem maskN_ne (a k : Nat) (k0 : 1 ≤ k) : ((maskN a k : Int) == 0) = false := by
  rw [beq_eq_false_iff_ne]
  have : 0 < maskN a k := by
    unfold maskN
    have h1 : 2 ≤ 2 ^ k := by have := Nat.pow_le_pow_right (show 0 < 2 by decide) k0; omega
    exact Nat.mul_pos (by omega) (Nat.two_pow_pos a)
  omega
theorem get_ref (x a k : Nat) (hx : x < 18446744073709551616) (h : a + k ≤ 64) : Go.bits .and .u64 (x : Int) (maskN a k : Int) / 2 ^ a = (getN x a k : Int) := by
  rw [u64_and_nat _ _ hx (maskN_lt a k h)]
  have e : (((x &&& maskN a k) / 2 ^ a : Nat) : Int) = ((x &&& maskN a k : Nat) : Int) / 2 ^ a := by simp
  rw [← e]
  congr 1
  apply Nat.eq_of_testBit_eq; intro i
  rw [Nat.testBit_div_two_pow, Nat.testBit_and, maskN_testBit, getN_testBit]
  by_cases hi : i < k
  · simp [hi, show a ≤ i + a by omega, show i + a < a + k by omega, Nat.add_comm]
  · simp [hi, show ¬ i + a < a + k by omega]
set_option maxHeartbeats 1000000 in
theorem refGet_yes (x a k : Nat) (hx : x < 18446744073709551616) (k0 : 1 ≤ k) (h : a + k ≤ 64) (w : World) :
    Calls Try.prog 31 #[.int .u64 x, .int .i64 a, .int .i64 k] w fun e w' => e = .returned (.int .u64 (getN x a k : Nat)) ∧ w = w' := by
  have hne := maskN_ne a k k0
  have HR := Lib.hid (get_ref x a k hx h)
  go_enter Try.func31, Try.ntmps31
  go_wp2_with (go_at_call 38; refine (refMask_yes _ _ k0 h _).mono ?_; rintro e w' ⟨rfl, rfl⟩)
  go_ret
  exact ⟨by rw [← HR.out]; rfl, rfl⟩
set_option maxHeartbeats 1000000 in
theorem refGet_no (x : Int) (a k : Int) (ha : -9223372036854775808 ≤ a ∧ a ≤ 9223372036854775807) (hk : -9223372036854775808 ≤ k ∧ k ≤ 9223372036854775807) (h : ¬ (0 ≤ a ∧ a < 64 ∧ 1 ≤ k ∧ k ≤ 64 - a)) (w : World) :
    Calls Try.prog 31 #[.int .u64 x, .int .i64 a, .int .i64 k] w fun e w' => e = .returned (.int .u64 0) ∧ w = w' := by
  have H := Lib.hid h
  clear h
  go_enter Try.func31, Try.ntmps31
  go_wp2_with (go_at_call 38; refine (refMask_no _ _ ha hk H.out _).mono ?_; rintro e w' ⟨rfl, rfl⟩)
  go_ret
  exact ⟨rfl, rfl⟩
set_option maxHeartbeats 1000000 in
theorem refPut_yes (x a k y : Nat) (hx : x < 18446744073709551616) (hy : y < 18446744073709551616) (k0 : 1 ≤ k) (h : a + k ≤ 64) (w : World) :
    Calls Try.prog 32 #[.int .u64 x, .int .i64 a, .int .i64 k, .int .u64 y] w fun e w' => e = .returned (.int .u64 (putN x a k y : Nat)) ∧ w = w' := by
  have hne := maskN_ne a k k0
  have HR : Hid (Go.bits .or .u64 (Go.bits .andNot .u64 x (maskN a k : Int)) (Go.bits .and .u64 (IntKind.u64.wrap ((y : Int) * 2 ^ a)) (maskN a k : Int)) = (putN x a k y : Int)) := Lib.hid (by
    have ml := maskN_lt a k h
    rw [wrapu_shl, u64_andNot_nat _ _ hx ml, u64_and_nat _ _ (Nat.mod_lt _ (by decide)) ml, u64_or_nat _ _ (Nat.lt_of_le_of_lt Nat.and_le_left hx) (Nat.lt_of_le_of_lt Nat.and_le_right ml)]
    rfl)
  go_enter Try.func32, Try.ntmps32
  go_wp2_with (go_at_call 38; refine (refMask_yes _ _ k0 h _).mono ?_; rintro e w' ⟨rfl, rfl⟩)
  go_ret
  exact ⟨by rw [← HR.out]; rfl, rfl⟩
set_option maxHeartbeats 1000000 in
theorem refPut_no (x y : Int) (a k : Int) (ha : -9223372036854775808 ≤ a ∧ a ≤ 9223372036854775807) (hk : -9223372036854775808 ≤ k ∧ k ≤ 9223372036854775807) (h : ¬ (0 ≤ a ∧ a < 64 ∧ 1 ≤ k ∧ k ≤ 64 - a)) (w : World) :
    Calls Try.prog 32 #[.int .u64 x, .int .i64 a, .int .i64 k, .int .u64 y] w fun e w' => e = .returned (.int .u64 x) ∧ w = w' := by
  have H := Lib.hid h
  clear h
  go_enter Try.func32, Try.ntmps32
  go_wp2_with (go_at_call 38; refine (refMask_no _ _ ha hk H.out _).mono ?_; rintro e w' ⟨rfl, rfl⟩)
  go_ret
  exact ⟨rfl, rfl⟩

/-! ### Wrap, Fits -/
theorem low_u64 (n : Int) (k : Nat) (k1 : k ≤ 63) : Go.bits .and .u64 (IntKind.u64.wrap n) (IntKind.u64.wrap (IntKind.u64.wrap (2 ^ k) - 1)) = n % 2 ^ k := by
  have hp := ipow_pos k
  have h1 : (2 : Int) ^ k ≤ 9223372036854775808 := pow_le (b := 63) k1
  have e1 : IntKind.u64.wrap (2 ^ k) = 2 ^ k := wrapu_id (by omega) (by omega)
  have e2 : IntKind.u64.wrap ((2 : Int) ^ k - 1) = 2 ^ k - 1 := wrapu_id (by omega) (by omega)
  rw [e1, e2]
  obtain ⟨m, hm⟩ := Int.eq_ofNat_of_zero_le (show 0 ≤ IntKind.u64.wrap n by rw [IntKind.wrap_u64]; exact Int.emod_nonneg _ (by decide))
  have hm1 : m < 18446744073709551616 := by have : IntKind.u64.wrap n < 18446744073709551616 := by rw [IntKind.wrap_u64]; exact Int.emod_lt_of_pos _ (by decide)
                                            omega
  have e3 : (2 : Int) ^ k - 1 = ((2 ^ k - 1 : Nat) : Int) := by
    have := Nat.two_pow_pos k
    rw [Int.natCast_sub this]; simp
  rw [hm, e3, and_low_u64 m k hm1 (by omega)]
  have e4 : ((m % 2 ^ k : Nat) : Int) = (m : Int) % 2 ^ k := by simp
  have hd : (2 : Int) ^ k ∣ 18446744073709551616 := by
    have : (2 : Int) ^ 64 = 2 ^ k * 2 ^ (64 - k) := by rw [← Int.pow_add]; congr 1; omega
    exact ⟨2 ^ (64 - k), by rw [← this]; rfl⟩
  rw [e4, ← hm, IntKind.wrap_u64, Int.emod_emod_of_dvd _ hd]
theorem wrap_parts (n : Int) (k : Nat) (k0 : 1 ≤ k) (k1 : k ≤ 63) : (n % 2 ^ k / 2 ^ (k - 1) = 1 → wrap64 (wrap64 (n % 2 ^ k) - wrap64 (2 ^ k)) = wrapS n k) ∧ (n % 2 ^ k / 2 ^ (k - 1) ≠ 1 → wrap64 (n % 2 ^ k) = wrapS n k) := by
  have hk2 : (2 : Int) ^ k = 2 ^ (k - 1) * 2 := by rw [← Int.pow_succ]; congr 1; omega
  have hp := ipow_pos (k - 1)
  have h1 : (2 : Int) ^ (k - 1) ≤ 4611686018427387904 := pow_le (b := 62) (by omega)
  have e1 := Int.mul_ediv_add_emod (n % 2 ^ k) (2 ^ (k - 1))
  have e2 := Int.emod_nonneg (n % 2 ^ k) (show (2 : Int) ^ (k - 1) ≠ 0 by have := ipow_pos (k - 1); intro h; rw [h] at this; exact absurd this (by decide))
  have e3 := Int.emod_lt_of_pos (n % 2 ^ k) hp
  have u0 := Int.emod_nonneg n (show (2 : Int) ^ k ≠ 0 by have := ipow_pos k; intro h; rw [h] at this; exact absurd this (by decide))
  have u1 := Int.emod_lt_of_pos n (ipow_pos k)
  have hm : (n + 2 ^ (k - 1)) % 2 ^ k = (n % 2 ^ k + 2 ^ (k - 1)) % 2 ^ k := (Int.emod_add_emod n (2 ^ k) (2 ^ (k - 1))).symm
  unfold wrapS
  rw [hm]
  generalize n % 2 ^ k = u at *
  generalize hd : u / 2 ^ (k - 1) = d at *
  generalize u % 2 ^ (k - 1) = r at *
  rw [hk2] at *
  generalize (2 : Int) ^ (k - 1) = h at *
  have hd0 : 0 ≤ d := by rw [← hd]; exact Int.ediv_nonneg u0 (by omega)
  have hd1 : d < 2 := by rw [← hd]; exact Int.ediv_lt_of_lt_mul hp (by omega)
  constructor
  · intro g
    subst g
    have : (u + h) % (h * 2) = u - h := by rw [show u + h = (u - h) + h * 2 by omega, Int.add_emod_right, Int.emod_eq_of_lt (by omega) (by omega)]
    rw [this]
    unfold wrap64
    omega
  · intro g
    have g0 : d = 0 := by omega
    subst g0
    have : (u + h) % (h * 2) = u + h := Int.emod_eq_of_lt (by omega) (by omega)
    rw [this]
    unfold wrap64
    omega
set_option maxHeartbeats 1000000 in
theorem refWrap_yes (n : Int) (k : Nat) (n0 : -9223372036854775808 ≤ n) (n1 : n ≤ 9223372036854775807) (k0 : 1 ≤ k) (k1 : k ≤ 63) (w : World) :
    Calls Try.prog 30 #[.int .i64 n, .int .i64 k] w fun e w' => e = .returned (.int .i64 (wrapS n k)) ∧ w = w' := by
  have t1 : decide ((k : Int) < 1) = false := decide_eq_false (by omega)
  have t2 : decide (63 < (k : Int)) = false := decide_eq_false (by omega)
  have hl := low_u64 n k k1
  obtain ⟨p1, p2⟩ := wrap_parts n k k0 k1
  by_cases h : n % 2 ^ k / 2 ^ (k - 1) = 1
  · have HR : Hid (wrap64 (wrap64 (Go.bits .and .u64 (IntKind.u64.wrap n) (IntKind.u64.wrap (IntKind.u64.wrap (2 ^ k) - 1))) - wrap64 (2 ^ k)) = wrapS n k) := Lib.hid (by rw [hl]; exact p1 h)
    have t3 : (Go.bits .and .u64 (IntKind.u64.wrap n) (IntKind.u64.wrap (IntKind.u64.wrap (2 ^ k) - 1)) / 2 ^ (k - 1) == 1) = true := by rw [hl]; exact beq_iff_eq.mpr h
    clear hl p1 p2 h
    go_enter Try.func30, Try.ntmps30
    go_wp2
    go_ret
    exact ⟨by rw [← HR.out]; rfl, rfl⟩
  · have HR : Hid (wrap64 (Go.bits .and .u64 (IntKind.u64.wrap n) (IntKind.u64.wrap (IntKind.u64.wrap (2 ^ k) - 1))) = wrapS n k) := Lib.hid (by rw [hl]; exact p2 h)
    have t3 : (Go.bits .and .u64 (IntKind.u64.wrap n) (IntKind.u64.wrap (IntKind.u64.wrap (2 ^ k) - 1)) / 2 ^ (k - 1) == 1) = false := by rw [hl]; exact beq_eq_false_iff_ne.mpr h
    clear hl p1 p2 h
    go_enter Try.func30, Try.ntmps30
    go_wp2
    go_ret
    exact ⟨by rw [← HR.out]; rfl, rfl⟩
set_option maxHeartbeats 1000000 in
theorem refWrap_no (n k : Int) (n0 : -9223372036854775808 ≤ n) (n1 : n ≤ 9223372036854775807) (h : k < 1 ∨ 64 ≤ k) (w : World) :
    Calls Try.prog 30 #[.int .i64 n, .int .i64 k] w fun e w' => e = .returned (.int .i64 n) ∧ w = w' := by
  rcases h with h | h
  all_goals
    go_enter Try.func30, Try.ntmps30
    go_wp2
    all_goals (go_ret; exact ⟨rfl, rfl⟩)
theorem half_edges (k : Nat) (k0 : 1 ≤ k) (k1 : k ≤ 63) : wrap64 (2 ^ (k - 1)) = 2 ^ (k - 1) ∧ wrap64 (-(2 ^ (k - 1))) = -(2 ^ (k - 1)) ∧ wrap64 (2 ^ (k - 1) - 1) = 2 ^ (k - 1) - 1 := by
  have hp := ipow_pos (k - 1)
  have h1 : (2 : Int) ^ (k - 1) ≤ 4611686018427387904 := pow_le (b := 62) (by omega)
  generalize (2 : Int) ^ (k - 1) = h at *
  exact ⟨wrap64_id (by omega) (by omega), wrap64_id (by omega) (by omega), wrap64_id (by omega) (by omega)⟩
theorem half_test (n h : Int) : decide (-h ≤ n ∧ n < h) = (decide (-h ≤ n) && decide (n ≤ h - 1)) := by
  rw [← Bool.decide_and, decide_eq_decide]
  omega
theorem half64 (n : Int) (n0 : -9223372036854775808 ≤ n) (n1 : n ≤ 9223372036854775807) : decide (-(2 ^ (64 - 1)) ≤ n ∧ n < 2 ^ (64 - 1)) = true := by
  rw [show (2 : Int) ^ (64 - 1) = 9223372036854775808 from rfl]
  exact decide_eq_true ⟨n0, by omega⟩
set_option maxHeartbeats 1000000 in
theorem refFits_yes (n : Int) (k : Nat) (n0 : -9223372036854775808 ≤ n) (n1 : n ≤ 9223372036854775807) (k0 : 1 ≤ k) (k1 : k ≤ 64) (w : World) :
    Calls Try.prog 29 #[.int .i64 n, .int .i64 k] w fun e w' => e = .returned (.bool (decide (-(2 ^ (k - 1)) ≤ n ∧ n < 2 ^ (k - 1)))) ∧ w = w' := by
  have t1 : decide ((k : Int) < 1) = false := decide_eq_false (by omega)
  have t2 : decide (64 < (k : Int)) = false := decide_eq_false (by omega)
  by_cases hk : k = 64
  · have HR : Hid (decide (-(2 ^ (k - 1)) ≤ n ∧ n < 2 ^ (k - 1)) = true) := Lib.hid (by rw [hk]; exact half64 n n0 n1)
    have t3 : ((k : Int) == 64) = true := beq_iff_eq.mpr (by omega)
    clear hk
    go_enter Try.func29, Try.ntmps29
    go_wp2
    go_ret
    exact ⟨by rw [HR.out]; rfl, rfl⟩
  · have HR := Lib.hid (half_test n (2 ^ (k - 1)))
    obtain ⟨h1, h2, h3⟩ := half_edges k k0 (by omega)
    have H1 : ∀ [Inhabited Nat], wrap64 (2 ^ (k - 1)) = 2 ^ (k - 1) := fun {_} => h1
    have H2 : ∀ [Inhabited Nat], wrap64 (-(2 ^ (k - 1))) = -(2 ^ (k - 1)) := fun {_} => h2
    have H3 : ∀ [Inhabited Nat], wrap64 (2 ^ (k - 1) - 1) = 2 ^ (k - 1) - 1 := fun {_} => h3
    clear h1 h2 h3
    have t3 : ((k : Int) == 64) = false := beq_eq_false_iff_ne.mpr (by omega)
    by_cases h : -(2 ^ (k - 1)) ≤ n
    · have t4 : decide (-(2 ^ (k - 1)) ≤ n) = true := decide_eq_true h
      clear hk h
      go_enter Try.func29, Try.ntmps29
      go_wp2
      go_ret
      exact ⟨by rw [HR.out, t4]; rfl, rfl⟩
    · have t4 : decide (-(2 ^ (k - 1)) ≤ n) = false := decide_eq_false h
      clear hk h
      go_enter Try.func29, Try.ntmps29
      go_wp2
      go_ret
      exact ⟨by rw [HR.out, t4]; rfl, rfl⟩
set_option maxHeartbeats 1000000 in
theorem refFits_no (n k : Int) (n0 : -9223372036854775808 ≤ n) (n1 : n ≤ 9223372036854775807) (h : k < 1 ∨ 64 < k) (w : World) :
    Calls Try.prog 29 #[.int .i64 n, .int .i64 k] w fun e w' => e = .returned (.bool false) ∧ w = w' := by
  rcases h with h | h
  all_goals
    go_enter Try.func29, Try.ntmps29
    go_wp2
    all_goals (go_ret; exact ⟨rfl, rfl⟩)
set_option maxHeartbeats 1000000 in
theorem refSigned_yes (x a k : Nat) (hx : x < 18446744073709551616) (k0 : 1 ≤ k) (h : a + k ≤ 64) (w : World) :
    Calls Try.prog 33 #[.int .u64 x, .int .i64 a, .int .i64 k] w fun e w' => e = .returned (.int .i64 (signedS x a k)) ∧ w = w' := by
  have hg := getN_lt64 x a k hx
  by_cases hk : k = 64
  · have HR : Hid (wrap64 (getN x a k : Int) = signedS x a k) := Lib.hid (by subst hk; exact (wrapS_64 _).symm)
    have hr := wrap64_range (getN x a k : Int)
    have HK := Lib.hid hk
    clear hk
    go_enter Try.func33, Try.ntmps33
    go_wp2_with (first | (go_at_call 31; refine (refGet_yes _ _ _ hx k0 h _).mono ?_; rintro e w' ⟨rfl, rfl⟩) | (go_at_call 30; refine (refWrap_no _ _ hr.1 hr.2 (by have := HK.out; omega) _).mono ?_; rintro e w' ⟨rfl, rfl⟩))
    go_ret
    exact ⟨by rw [← HR.out]; rfl, rfl⟩
  · have hg2 : getN x a k < 2 ^ 63 := Nat.lt_of_lt_of_le (getN_lt x a k) (Nat.pow_le_pow_right (by decide) (by omega))
    have h63 : (2 : Nat) ^ 63 = 9223372036854775808 := rfl
    rw [h63] at hg2
    have hw : wrap64 (getN x a k : Int) = getN x a k := wrap64_id (by omega) (by omega)
    go_enter Try.func33, Try.ntmps33
    go_wp2_with (first | (go_at_call 31; refine (refGet_yes _ _ _ hx k0 h _).mono ?_; rintro e w' ⟨rfl, rfl⟩) | (go_at_call 30; refine (refWrap_yes _ _ (by omega) (by omega) k0 (by omega) _).mono ?_; rintro e w' ⟨rfl, rfl⟩))
    go_ret
    exact ⟨rfl, rfl⟩
set_option maxHeartbeats 1000000 in
theorem refSigned_no (x : Int) (a k : Int) (ha : -9223372036854775808 ≤ a ∧ a ≤ 9223372036854775807) (hk : -9223372036854775808 ≤ k ∧ k ≤ 9223372036854775807) (h : ¬ (0 ≤ a ∧ a < 64 ∧ 1 ≤ k ∧ k ≤ 64 - a)) (w : World) :
    Calls Try.prog 33 #[.int .u64 x, .int .i64 a, .int .i64 k] w fun e w' => e = .returned (.int .i64 0) ∧ w = w' := by
  have H := Lib.hid h
  clear h
  by_cases hk1 : 1 ≤ k ∧ k ≤ 63
  · obtain ⟨j, rfl⟩ := Int.eq_ofNat_of_zero_le (show 0 ≤ k by omega)
    have hz := wrapS_zero j (by omega)
    go_enter Try.func33, Try.ntmps33
    go_wp2_with (first | (go_at_call 31; refine (refGet_no _ _ _ ha hk H.out _).mono ?_; rintro e w' ⟨rfl, rfl⟩) | (go_at_call 30; refine (refWrap_yes _ _ (by omega) (by omega) (by omega) (by omega) _).mono ?_; rintro e w' ⟨rfl, rfl⟩))
    go_ret
    exact ⟨rfl, rfl⟩
  · go_enter Try.func33, Try.ntmps33
    go_wp2_with (first | (go_at_call 31; refine (refGet_no _ _ _ ha hk H.out _).mono ?_; rintro e w' ⟨rfl, rfl⟩) | (go_at_call 30; refine (refWrap_no _ _ (by omega) (by omega) (by omega) _).mono ?_; rintro e w' ⟨rfl, rfl⟩))
    go_ret
    exact ⟨rfl, rfl⟩

set_option maxHeartbeats 2000000 in
theorem refRound_yes (n : Int) (k : Nat) (n0 : -9223372036854775808 ≤ n) (n1 : n ≤ 9223372036854775807) (k0 : 1 ≤ k) (k1 : k ≤ 62) (w : World) :
    Calls Try.prog 34 #[.int .i64 n, .int .i64 k] w fun e w' => e = .returned (.int .i64 (roundS n k)) ∧ w = w' := by
  have hc : IntKind.u64.wrap (k : Int) = k := wrapu_id (by omega) (by omega)
  have hc2 : IntKind.u64.wrap ((k : Int) - 1) = (k : Int) - 1 := wrapu_id (by omega) (by omega)
  have t1 : decide ((k : Int) < 1) = false := decide_eq_false (by omega)
  have t2 : decide (62 < (k : Int)) = false := decide_eq_false (by omega)
  have hp := ipow_pos k
  have hp1 : (2 : Int) ^ (k - 1) ≤ 2305843009213693952 := pow_le (b := 61) (by omega)
  have hp2 := ipow_pos (k - 1)
  have hk2 : (2 : Int) ^ k = 2 ^ (k - 1) * 2 := by rw [← Int.pow_succ]; congr 1; omega
  have e1 := Int.mul_ediv_add_emod n (2 ^ k)
  have e2 := Int.emod_nonneg n (show (2 : Int) ^ k ≠ 0 by omega)
  have e3 := Int.emod_lt_of_pos n hp
  have HR := Lib.hid (show roundS n k = if n % 2 ^ k > 2 ^ (k - 1) ∨ n % 2 ^ k = 2 ^ (k - 1) ∧ n / 2 ^ k % 2 = 1 then n / 2 ^ k + 1 else n / 2 ^ k from rfl)
  have hlow := i64_low1 (n / 2 ^ k)
  have hq0 : -9223372036854775808 ≤ n / 2 ^ k ∧ n / 2 ^ k ≤ 4611686018427387904 := by
    constructor
    · rw [Int.le_ediv_iff_mul_le hp]
      have := Int.mul_le_mul_of_nonneg_left (a := 1) (b := 2 ^ k) (c := 9223372036854775808) (by omega) (by omega)
      omega
    · by_cases hn : 0 ≤ n
      · have hq := Int.ediv_nonneg hn (show 0 ≤ (2 : Int) ^ k by omega)
        have := Int.mul_le_mul_of_nonneg_left (a := 2) (b := 2 ^ k) (c := n / 2 ^ k) (by omega) hq
        have e : n / 2 ^ k * 2 ^ k = 2 ^ k * (n / 2 ^ k) := Int.mul_comm _ _
        omega
      · have := Int.ediv_neg_of_neg_of_pos (show n < 0 by omega) hp
        omega
  have hm : n / 2 ^ k * 2 ^ k = 2 ^ k * (n / 2 ^ k) := Int.mul_comm _ _
  have hw1 : wrap64 (n - wrap64 (n / 2 ^ k * 2 ^ k)) = n % 2 ^ k := by
    have e9 : n - n / 2 ^ k * 2 ^ k = n % 2 ^ k := by omega
    have h63 : (2 : Int) ^ k ≤ 4611686018427387904 := pow_le (b := 62) (by omega)
    generalize n / 2 ^ k * 2 ^ k = m at *
    unfold wrap64
    omega
  clear e1 hm
  generalize n % 2 ^ k = r at *
  have hh' : wrap64 (2 ^ (k - 1)) = 2 ^ (k - 1) := wrap64_id (Int.le_trans (by decide) (Int.le_of_lt hp2)) (Int.le_trans hp1 (by decide))
  have HW : ∀ [Inhabited Nat], wrap64 (n - wrap64 (n / 2 ^ k * 2 ^ k)) = r := fun {_} => hw1
  have HH : ∀ [Inhabited Nat], wrap64 (2 ^ (k - 1)) = 2 ^ (k - 1) := fun {_} => hh'
  have HL : ∀ [Inhabited Nat], Go.bits .and .i64 (n / 2 ^ k) 1 = n / 2 ^ k % 2 := fun {_} => hlow
  have hq1 : wrap64 (n / 2 ^ k + 1) = n / 2 ^ k + 1 := wrap64_id (by omega) (by omega)
  have HQ : ∀ [Inhabited Nat], wrap64 (n / 2 ^ k + 1) = n / 2 ^ k + 1 := fun {_} => hq1
  clear hk2 hp e3 hw1 hh' hlow hq1 hp1 hp2 hq0 e2
  by_cases h1 : 2 ^ (k - 1) < r
  · have HR' := Lib.hid (HR.out.trans (if_pos (.inl h1)))
    have f1 : decide (2 ^ (k - 1) < r) = true := decide_eq_true h1
    clear HR h1
    go_enter Try.func34, Try.ntmps34
    go_wp2
    go_ret
    exact ⟨by rw [HR'.out]; first | rfl | exact congrArg (fun z => Ending.returned (.int .i64 z)) HQ, rfl⟩
  · have f1 : decide (2 ^ (k - 1) < r) = false := decide_eq_false h1
    by_cases h2 : r = 2 ^ (k - 1)
    · have f2 : (r == 2 ^ (k - 1)) = true := beq_iff_eq.mpr h2
      by_cases h3 : n / 2 ^ k % 2 = 1
      · have f3 : (n / 2 ^ k % 2 == 1) = true := beq_iff_eq.mpr h3
        have HR' := Lib.hid (HR.out.trans (if_pos (.inr ⟨h2, h3⟩)))
        clear HR h1 h2 h3
        go_enter Try.func34, Try.ntmps34
        go_wp2
        go_ret
        exact ⟨by rw [HR'.out]; first | rfl | exact congrArg (fun z => Ending.returned (.int .i64 z)) HQ, rfl⟩
      · have f3 : (n / 2 ^ k % 2 == 1) = false := beq_eq_false_iff_ne.mpr h3
        have HR' := Lib.hid (HR.out.trans (if_neg (fun hn => hn.elim h1 (fun hn => h3 hn.2))))
        clear HR h1 h2 h3
        go_enter Try.func34, Try.ntmps34
        go_wp2
        go_ret
        exact ⟨by rw [HR'.out]; first | rfl | exact congrArg (fun z => Ending.returned (.int .i64 z)) HQ, rfl⟩
    · have f2 : (r == 2 ^ (k - 1)) = false := beq_eq_false_iff_ne.mpr h2
      have HR' := Lib.hid (HR.out.trans (if_neg (fun hn => hn.elim h1 (fun hn => h2 hn.1))))
      clear HR h1 h2
      go_enter Try.func34, Try.ntmps34
      go_wp2
      go_ret
      exact ⟨by rw [HR'.out]; first | rfl | exact congrArg (fun z => Ending.returned (.int .i64 z)) HQ, rfl⟩
set_option maxHeartbeats 1000000 in
theorem refRound_no (n k : Int) (n0 : -9223372036854775808 ≤ n) (n1 : n ≤ 9223372036854775807) (h : k < 1 ∨ 63 ≤ k) (w : World) :
    Calls Try.prog 34 #[.int .i64 n, .int .i64 k] w fun e w' => e = .returned (.int .i64 n) ∧ w = w' := by
  rcases h with h | h
  all_goals
    go_enter Try.func34, Try.ntmps34
    go_wp2
    all_goals (go_ret; exact ⟨rfl, rfl⟩)

end Go.Proofs.Ytmgkmekknhggbaa.BitsRef
