/-
  Contracts of bits.Signed and copseref1's Wrap and Fits, for nodes.
-/
import Derived.Test.YtnngaedhedbenaaBitsA
import Derived.Test.YtnngaedhedbenaaEvProg
set_option linter.unusedVariables false
set_option linter.unusedSimpArgs false
namespace Go.Proofs.Ytnngaedhedbenaa.NodeB
open Go Go.RowKit Go.Proofs.Ytnngaedhedbenaa.BitLib Go.Proofs.Ytnngaedhedbenaa.BitsA

def signedS (x a k : Nat) : Int := wrapS (getN x a k : Int) k
set_option maxHeartbeats 1000000 in
theorem signed_yes (x a k : Nat) (hx : x < 18446744073709551616) (k0 : 1 ≤ k) (h : a + k ≤ 64) (w : World) :
    Calls Try.prog 20 #[.int .u64 x, .int .i64 a, .int .i64 k] w fun e w' => e = .returned (.int .i64 (signedS x a k)) ∧ w = w' := by
  have hg := getN_lt64 x a k hx
  by_cases hk : k = 64
  · have HR : Hid (wrap64 (getN x a k : Int) = signedS x a k) := Lib.hid (by subst hk; exact (wrapS_64 _).symm)
    have hr := wrap64_range (getN x a k : Int)
    have HK := Lib.hid hk
    clear hk
    go_enter Try.func20, Try.ntmps20
    go_wp2_with (first | (go_at_call 21; refine (get_yes _ _ _ hx k0 h _).mono ?_; rintro e w' ⟨rfl, rfl⟩) | (go_at_call 41; refine (wrap_no _ _ hr.1 hr.2 (by have := HK.out; omega) _).mono ?_; rintro e w' ⟨rfl, rfl⟩))
    go_ret
    exact ⟨by rw [← HR.out]; rfl, rfl⟩
  · have hg2 : getN x a k < 2 ^ 63 := Nat.lt_of_lt_of_le (getN_lt x a k) (Nat.pow_le_pow_right (by decide) (by omega))
    have h63 : (2 : Nat) ^ 63 = 9223372036854775808 := rfl
    rw [h63] at hg2
    have hw : wrap64 (getN x a k : Int) = getN x a k := wrap64_id (by omega) (by omega)
    go_enter Try.func20, Try.ntmps20
    go_wp2_with (first | (go_at_call 21; refine (get_yes _ _ _ hx k0 h _).mono ?_; rintro e w' ⟨rfl, rfl⟩) | (go_at_call 41; refine (wrap_yes _ _ (by omega) (by omega) k0 (by omega) _).mono ?_; rintro e w' ⟨rfl, rfl⟩))
    go_ret
    exact ⟨rfl, rfl⟩
theorem low_u64 (n : Int) (k : Nat) (k1 : k ≤ 63) : Go.bits .and .u64 (IntKind.u64.wrap n) (IntKind.u64.wrap (IntKind.u64.wrap (2 ^ k) - 1)) = n % 2 ^ k := by
  have hp := ipow_pos k
  have h1 : (2 : Int) ^ k ≤ 9223372036854775808 := pow_le (b := 63) k1
  have e1 : IntKind.u64.wrap (2 ^ k) = 2 ^ k := wrapu_id (by omega) (by omega)
  have e2 : IntKind.u64.wrap ((2 : Int) ^ k - 1) = 2 ^ k - 1 := wrapu_id (by omega) (by omega)
  rw [e1, e2]
  obtain ⟨m, hm⟩ := Int.eq_ofNat_of_zero_le (show 0 ≤ IntKind.u64.wrap n by rw [IntKind.wrap_u64]; exact Int.emod_nonneg _ (by decide))
  have hm1 : m < 18446744073709551616 := by have : IntKind.u64.wrap n < 18446744073709551616 := by rw [IntKind.wrap_u64]; exact Int.emod_lt_of_pos _ (by decide)
                                            omega
  have e3 : (2 : Int) ^ k - 1 = ((2 ^ k - 1 : Nat) : Int) := by
    have := Nat.two_pow_pos k
    rw [Int.natCast_sub this]; simp
  rw [hm, e3, and_low_u64 m k hm1 (by omega)]
  have e4 : ((m % 2 ^ k : Nat) : Int) = (m : Int) % 2 ^ k := by simp
  have hd : (2 : Int) ^ k ∣ 18446744073709551616 := by
    have : (2 : Int) ^ 64 = 2 ^ k * 2 ^ (64 - k) := by rw [← Int.pow_add]; congr 1; omega
    exact ⟨2 ^ (64 - k), by rw [← this]; rfl⟩
  rw [e4, ← hm, IntKind.wrap_u64, Int.emod_emod_of_dvd _ hd]
theorem wrap_parts (n : Int) (k : Nat) (k0 : 1 ≤ k) (k1 : k ≤ 63) : (n % 2 ^ k / 2 ^ (k - 1) = 1 → wrap64 (wrap64 (n % 2 ^ k) - wrap64 (2 ^ k)) = wrapS n k) ∧ (n % 2 ^ k / 2 ^ (k - 1) ≠ 1 → wrap64 (n % 2 ^ k) = wrapS n k) := by
  have hk2 : (2 : Int) ^ k = 2 ^ (k - 1) * 2 := by rw [← Int.pow_succ]; congr 1; omega
  have hp := ipow_pos (k - 1)
  have h1 : (2 : Int) ^ (k - 1) ≤ 4611686018427387904 := pow_le (b := 62) (by omega)
  have e1 := Int.mul_ediv_add_emod (n % 2 ^ k) (2 ^ (k - 1))
  have e2 := Int.emod_nonneg (n % 2 ^ k) (show (2 : Int) ^ (k - 1) ≠ 0 by have := ipow_pos (k - 1); intro h; rw [h] at this; exact absurd this (by decide))
  have e3 := Int.emod_lt_of_pos (n % 2 ^ k) hp
  have u0 := Int.emod_nonneg n (show (2 : Int) ^ k ≠ 0 by have := ipow_pos k; intro h; rw [h] at this; exact absurd this (by decide))
  have u1 := Int.emod_lt_of_pos n (ipow_pos k)
  have hm : (n + 2 ^ (k - 1)) % 2 ^ k = (n % 2 ^ k + 2 ^ (k - 1)) % 2 ^ k := (Int.emod_add_emod n (2 ^ k) (2 ^ (k - 1))).symm
  unfold wrapS
  rw [hm]
  generalize n % 2 ^ k = u at *
  generalize hd : u / 2 ^ (k - 1) = d at *
  generalize u % 2 ^ (k - 1) = r at *
  rw [hk2] at *
  generalize (2 : Int) ^ (k - 1) = h at *
  have hd0 : 0 ≤ d := by rw [← hd]; exact Int.ediv_nonneg u0 (by omega)
  have hd1 : d < 2 := by rw [← hd]; exact Int.ediv_lt_of_lt_mul hp (by omega)
  constructor
  · intro g
    subst g
    have : (u + h) % (h * 2) = u - h := by rw [show u + h = (u - h) + h * 2 by omega, Int.add_emod_right, Int.emod_eq_of_lt (by omega) (by omega)]
    rw [this]
    unfold wrap64
    omega
  · intro g
    have g0 : d = 0 := by omega
    subst g0
    have : (u + h) % (h * 2) = u + h := Int.emod_eq_of_lt (by omega) (by omega)
    rw [this]
    unfold wrap64
    omega
set_option maxHeartbeats 1000000 in
theorem refWrap_yes (n : Int) (k : Nat) (n0 : -9223372036854775808 ≤ n) (n1 : n ≤ 9223372036854775807) (k0 : 1 ≤ k) (k1 : k ≤ 63) (w : World) :
    Calls Try.prog 37 #[.int .i64 n, .int .i64 k] w fun e w' => e = .returned (.int .i64 (wrapS n k)) ∧ w = w' := by
  have t1 : decide ((k : Int) < 1) = false := decide_eq_false (by omega)
  have t2 : decide (63 < (k : Int)) = false := decide_eq_false (by omega)
  have hl := low_u64 n k k1
  obtain ⟨p1, p2⟩ := wrap_parts n k k0 k1
  by_cases h : n % 2 ^ k / 2 ^ (k - 1) = 1
  · have HR : Hid (wrap64 (wrap64 (Go.bits .and .u64 (IntKind.u64.wrap n) (IntKind.u64.wrap (IntKind.u64.wrap (2 ^ k) - 1))) - wrap64 (2 ^ k)) = wrapS n k) := Lib.hid (by rw [hl]; exact p1 h)
    have t3 : (Go.bits .and .u64 (IntKind.u64.wrap n) (IntKind.u64.wrap (IntKind.u64.wrap (2 ^ k) - 1)) / 2 ^ (k - 1) == 1) = true := by rw [hl]; exact beq_iff_eq.mpr h
    clear hl p1 p2 h
    go_enter Try.func37, Try.ntmps37
    go_wp2
    go_ret
    exact ⟨by rw [← HR.out]; rfl, rfl⟩
  · have HR : Hid (wrap64 (Go.bits .and .u64 (IntKind.u64.wrap n) (IntKind.u64.wrap (IntKind.u64.wrap (2 ^ k) - 1))) = wrapS n k) := Lib.hid (by rw [hl]; exact p2 h)
    have t3 : (Go.bits .and .u64 (IntKind.u64.wrap n) (IntKind.u64.wrap (IntKind.u64.wrap (2 ^ k) - 1)) / 2 ^ (k - 1) == 1) = false := by rw [hl]; exact beq_eq_false_iff_ne.mpr h
    clear hl p1 p2 h
    go_enter Try.func37, Try.ntmps37
    go_wp2
    go_ret
    exact ⟨by rw [← HR.out]; rfl, rfl⟩
theorem half_edges (k : Nat) (k0 : 1 ≤ k) (k1 : k ≤ 63) : wrap64 (2 ^ (k - 1)) = 2 ^ (k - 1) ∧ wrap64 (-(2 ^ (k - 1))) = -(2 ^ (k - 1)) ∧ wrap64 (2 ^ (k - 1) - 1) = 2 ^ (k - 1) - 1 := by
  have hp := ipow_pos (k - 1)
  have h1 : (2 : Int) ^ (k - 1) ≤ 4611686018427387904 := pow_le (b := 62) (by omega)
  generalize (2 : Int) ^ (k - 1) = h at *
  exact ⟨wrap64_id (by omega) (by omega), wrap64_id (by omega) (by omega), wrap64_id (by omega) (by omega)⟩
theorem half_test (n h : Int) : decide (-h ≤ n ∧ n < h) = (decide (-h ≤ n) && decide (n ≤ h - 1)) := by
  rw [← Bool.decide_and, decide_eq_decide]
  omega
theorem half64 (n : Int) (n0 : -9223372036854775808 ≤ n) (n1 : n ≤ 9223372036854775807) : decide (-(2 ^ (64 - 1)) ≤ n ∧ n < 2 ^ (64 - 1)) = true := by
  rw [show (2 : Int) ^ (64 - 1) = 9223372036854775808 from rfl]
  exact decide_eq_true ⟨n0, by omega⟩
set_option maxHeartbeats 1000000 in
theorem refFits_yes (n : Int) (k : Nat) (n0 : -9223372036854775808 ≤ n) (n1 : n ≤ 9223372036854775807) (k0 : 1 ≤ k) (k1 : k ≤ 64) (w : World) :
    Calls Try.prog 40 #[.int .i64 n, .int .i64 k] w fun e w' => e = .returned (.bool (decide (-(2 ^ (k - 1)) ≤ n ∧ n < 2 ^ (k - 1)))) ∧ w = w' := by
  have t1 : decide ((k : Int) < 1) = false := decide_eq_false (by omega)
  have t2 : decide (64 < (k : Int)) = false := decide_eq_false (by omega)
  by_cases hk : k = 64
  · have HR : Hid (decide (-(2 ^ (k - 1)) ≤ n ∧ n < 2 ^ (k - 1)) = true) := Lib.hid (by rw [hk]; exact half64 n n0 n1)
    have t3 : ((k : Int) == 64) = true := beq_iff_eq.mpr (by omega)
    clear hk
    go_enter Try.func40, Try.ntmps40
    go_wp2
    go_ret
    exact ⟨by rw [HR.out]; rfl, rfl⟩
  · have HR := Lib.hid (half_test n (2 ^ (k - 1)))
    obtain ⟨h1, h2, h3⟩ := half_edges k k0 (by omega)
    have H1 : ∀ [Inhabited Nat], wrap64 (2 ^ (k - 1)) = 2 ^ (k - 1) := fun {_} => h1
    have H2 : ∀ [Inhabited Nat], wrap64 (-(2 ^ (k - 1))) = -(2 ^ (k - 1)) := fun {_} => h2
    have H3 : ∀ [Inhabited Nat], wrap64 (2 ^ (k - 1) - 1) = 2 ^ (k - 1) - 1 := fun {_} => h3
    clear h1 h2 h3
    have t3 : ((k : Int) == 64) = false := beq_eq_false_iff_ne.mpr (by omega)
    by_cases h : -(2 ^ (k - 1)) ≤ n
    · have t4 : decide (-(2 ^ (k - 1)) ≤ n) = true := decide_eq_true h
      clear hk h
      go_enter Try.func40, Try.ntmps40
      go_wp2
      go_ret
      exact ⟨by rw [HR.out, t4]; rfl, rfl⟩
    · have t4 : decide (-(2 ^ (k - 1)) ≤ n) = false := decide_eq_false h
      clear hk h
      go_enter Try.func40, Try.ntmps40
      go_wp2
      go_ret
      exact ⟨by rw [HR.out, t4]; rfl, rfl⟩
end Go.Proofs.Ytnngaedhedbenaa.NodeB

