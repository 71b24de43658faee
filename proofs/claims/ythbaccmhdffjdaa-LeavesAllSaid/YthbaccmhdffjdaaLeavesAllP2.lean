/-
  tree.Right, as the evaluator runs it. No condition.
-/
import Derived.Test.YthbaccmhdffjdaaRows
import Derived.WalkKit
import Derived.ProofKit
import Derived.OpenShut
import Derived.Deep.Slices
import Derived.WalkLawsBesides
import Derived.KernelRfl
import Derived.Lib.Hide
import Derived.Test.YthbaccmhdffjdaaLeavesAllP1
set_option linter.unusedVariables false
set_option linter.unusedSimpArgs false
namespace Go.Proofs.Ythbaccmhdffjdaa.NodeB
open Go Go.RowKit Go.Proofs.Ythbaccmhdffjdaa.BitLib Go.Proofs.Ythbaccmhdffjdaa.BitsA

def signedS (x a k : Nat) : Int := wrapS (getN x a k : Int) k
set_option maxHeartbeats 1000000 in
theorem signed_yes (x a k : Nat) (hx : x < 18446744073709551616) (k0 : 1 ≤ k) (h : a + k ≤ 64) (w : World) :
    Calls Try.prog 56 #[.int .u64 x, .int .i64 a, .int .i64 k] w fun e w' => e = .returned (.int .i64 (signedS x a k)) ∧ w = w' := by
  have hg := getN_lt64 x a k hx
  by_cases hk : k = 64
  · have HR : Hid (wrap64 (getN x a k : Int) = signedS x a k) := Lib.hid (by subst hk; exact (wrapS_64 _).symm)
    have hr := wrap64_range (getN x a k : Int)
    have HK := Lib.hid hk
    clear hk
    go_enter Try.func56, Try.ntmps56
    go_wp2_with (first | (go_at_call 57; refine (get_yes _ _ _ hx k0 h _).mono ?_; rintro e w' ⟨rfl, rfl⟩) | (go_at_call 64; refine (wrap_no _ _ hr.1 hr.2 (by have := HK.out; omega) _).mono ?_; rintro e w' ⟨rfl, rfl⟩))
    go_ret
    exact ⟨by rw [← HR.out]; rfl, rfl⟩
  · have hg2 : getN x a k < 2 ^ 63 := Nat.lt_of_lt_of_le (getN_lt x a k) (Nat.pow_le_pow_right (by decide) (by omega))
    have h63 : (2 : Nat) ^ 63 = 9223372036854775808 := rfl
    rw [h63] at hg2
    have hw : wrap64 (getN x a k : Int) = getN x a k := wrap64_id (by omega) (by omega)
    go_enter Try.func56, Try.ntmps56
    go_wp2_with (first | (go_at_call 57; refine (get_yes _ _ _ hx k0 h _).mono ?_; rintro e w' ⟨rfl, rfl⟩) | (go_at_call 64; refine (wrap_yes _ _ (by omega) (by omega) k0 (by omega) _).mono ?_; rintro e w' ⟨rfl, rfl⟩))
    go_ret
    exact ⟨rfl, rfl⟩
theorem low_u64 (n : Int) (k : Nat) (k1 : k ≤ 63) : Go.bits .and .u64 (IntKind.u64.wrap n) (IntKind.u64.wrap (IntKind.u64.wrap (2 ^ k) - 1)) = n % 2 ^ k := by
  have hp := ipow_pos k
  have h1 : (2 : Int) ^ k ≤ 9223372036854775808 := pow_le (b := 63) k1
  have e1 : IntKind.u64.wrap (2 ^ k) = 2 ^ k := wrapu_id (by omega) (by omega)
  have e2 : IntKind.u64.wrap ((2 : Int) ^ k - 1) = 2 ^ k - 1 := wrapu_id (by omega) (by omega)
  rw [e1, e2]
  obtain ⟨m, hm⟩ := Int.eq_ofNat_of_zero_le (show 0 ≤ IntKind.u64.wrap n by rw [IntKind.wrap_u64]; exact Int.emod_nonneg _ (by decide))
  have hm1 : m < 18446744073709551616 := by have : IntKind.u64.wrap n < 18446744073709551616 := by rw [IntKind.wrap_u64]; exact Int.emod_lt_of_pos _ (by decide)
                                            omega
  have e3 : (2 : Int) ^ k - 1 = ((2 ^ k - 1 : Nat) : Int) := by
    have := Nat.two_pow_pos k
    rw [Int.natCast_sub this]; simp
  rw [hm, e3, and_low_u64 m k hm1 (by omega)]
  have e4 : ((m % 2 ^ k : Nat) : Int) = (m : Int) % 2 ^ k := by simp
  have hd : (2 : Int) ^ k ∣ 18446744073709551616 := by
    have : (2 : Int) ^ 64 = 2 ^ k * 2 ^ (64 - k) := by rw [← Int.pow_add]; congr 1; omega
    exact ⟨2 ^ (64 - k), by rw [← this]; rfl⟩
  rw [e4, ← hm, IntKind.wrap_u64, Int.emod_emod_of_dvd _ hd]
theorem wrap_parts (n : Int) (k : Nat) (k0 : 1 ≤ k) (k1 : k ≤ 63) : (n % 2 ^ k / 2 ^ (k - 1) = 1 → wrap64 (wrap64 (n % 2 ^ k) - wrap64 (2 ^ k)) = wrapS n k) ∧ (n % 2 ^ k / 2 ^ (k - 1) ≠ 1 → wrap64 (n % 2 ^ k) = wrapS n k) := by
  have hk2 : (2 : Int) ^ k = 2 ^ (k - 1) * 2 := by rw [← Int.pow_succ]; congr 1; omega
  have hp := ipow_pos (k - 1)
  have h1 : (2 : Int) ^ (k - 1) ≤ 4611686018427387904 := pow_le (b := 62) (by omega)
  have e1 := Int.mul_ediv_add_emod (n % 2 ^ k) (2 ^ (k - 1))
  have e2 := Int.emod_nonneg (n % 2 ^ k) (show (2 : Int) ^ (k - 1) ≠ 0 by have := ipow_pos (k - 1); intro h; rw [h] at this; exact absurd this (by decide))
  have e3 := Int.emod_lt_of_pos (n % 2 ^ k) hp
  have u0 := Int.emod_nonneg n (show (2 : Int) ^ k ≠ 0 by have := ipow_pos k; intro h; rw [h] at this; exact absurd this (by decide))
  have u1 := Int.emod_lt_of_pos n (ipow_pos k)
  have hm : (n + 2 ^ (k - 1)) % 2 ^ k = (n % 2 ^ k + 2 ^ (k - 1)) % 2 ^ k := (Int.emod_add_emod n (2 ^ k) (2 ^ (k - 1))).symm
  unfold wrapS
  rw [hm]
  generalize n % 2 ^ k = u at *
  generalize hd : u / 2 ^ (k - 1) = d at *
  generalize u % 2 ^ (k - 1) = r at *
  rw [hk2] at *
  generalize (2 : Int) ^ (k - 1) = h at *
  have hd0 : 0 ≤ d := by rw [← hd]; exact Int.ediv_nonneg u0 (by omega)
  have hd1 : d < 2 := by rw [← hd]; exact Int.ediv_lt_of_lt_mul hp (by omega)
  constructor
  · intro g
    subst g
    have : (u + h) % (h * 2) = u - h := by rw [show u + h = (u - h) + h * 2 by omega, Int.add_emod_right, Int.emod_eq_of_lt (by omega) (by omega)]
    rw [this]
    unfold wrap64
    omega
  · intro g
    have g0 : d = 0 := by omega
    subst g0
    have : (u + h) % (h * 2) = u + h := Int.emod_eq_of_lt (by omega) (by omega)
    rw [this]
    unfold wrap64
    omega
set_option maxHeartbeats 1000000 in
theorem refWrap_yes (n : Int) (k : Nat) (n0 : -9223372036854775808 ≤ n) (n1 : n ≤ 9223372036854775807) (k0 : 1 ≤ k) (k1 : k ≤ 63) (w : World) :
    Calls Try.prog 60 #[.int .i64 n, .int .i64 k] w fun e w' => e = .returned (.int .i64 (wrapS n k)) ∧ w = w' := by
  have t1 : decide ((k : Int) < 1) = false := decide_eq_false (by omega)
  have t2 : decide (63 < (k : Int)) = false := decide_eq_false (by omega)
  have hl := low_u64 n k k1
  obtain ⟨p1, p2⟩ := wrap_parts n k k0 k1
  by_cases h : n % 2 ^ k / 2 ^ (k - 1) = 1
  · have HR : Hid (wrap64 (wrap64 (Go.bits .and .u64 (IntKind.u64.wrap n) (IntKind.u64.wrap (IntKind.u64.wrap (2 ^ k) - 1))) - wrap64 (2 ^ k)) = wrapS n k) := Lib.hid (by rw [hl]; exact p1 h)
    have t3 : (Go.bits .and .u64 (IntKind.u64.wrap n) (IntKind.u64.wrap (IntKind.u64.wrap (2 ^ k) - 1)) / 2 ^ (k - 1) == 1) = true := by rw [hl]; exact beq_iff_eq.mpr h
    clear hl p1 p2 h
    go_enter Try.func60, Try.ntmps60
    go_wp2
    go_ret
    exact ⟨by rw [← HR.out]; rfl, rfl⟩
  · have HR : Hid (wrap64 (Go.bits .and .u64 (IntKind.u64.wrap n) (IntKind.u64.wrap (IntKind.u64.wrap (2 ^ k) - 1))) = wrapS n k) := Lib.hid (by rw [hl]; exact p2 h)
    have t3 : (Go.bits .and .u64 (IntKind.u64.wrap n) (IntKind.u64.wrap (IntKind.u64.wrap (2 ^ k) - 1)) / 2 ^ (k - 1) == 1) = false := by rw [hl]; exact beq_eq_false_iff_ne.mpr h
    clear hl p1 p2 h
    go_enter Try.func60, Try.ntmps60
    go_wp2
    go_ret
    exact ⟨by rw [← HR.out]; rfl, rfl⟩
theorem half_edges (k : Nat) (k0 : 1 ≤ k) (k1 : k ≤ 63) : wrap64 (2 ^ (k - 1)) = 2 ^ (k - 1) ∧ wrap64 (-(2 ^ (k - 1))) = -(2 ^ (k - 1)) ∧ wrap64 (2 ^ (k - 1) - 1) = 2 ^ (k - 1) - 1 := by
  have hp := ipow_pos (k - 1)
  have h1 : (2 : Int) ^ (k - 1) ≤ 4611686018427387904 := pow_le (b := 62) (by omega)
  generalize (2 : Int) ^ (k - 1) = h at *
  exact ⟨wrap64_id (by omega) (by omega), wrap64_id (by omega) (by omega), wrap64_id (by omega) (by omega)⟩
theorem half_test (n h : Int) : decide (-h ≤ n ∧ n < h) = (decide (-h ≤ n) && decide (n ≤ h - 1)) := by
  rw [← Bool.decide_and, decide_eq_decide]
  omega
theorem half64 (n : Int) (n0 : -9223372036854775808 ≤ n) (n1 : n ≤ 9223372036854775807) : decide (-(2 ^ (64 - 1)) ≤ n ∧ n < 2 ^ (64 - 1)) = true := by
  rw [show (2 : Int) ^ (64 - 1) = 9223372036854775808 from rfl]
  exact decide_eq_true ⟨n0, by omega⟩
set_option maxHeartbeats 1000000 in
theorem refFits_yes (n : Int) (k : Nat) (n0 : -9223372036854775808 ≤ n) (n1 : n ≤ 9223372036854775807) (k0 : 1 ≤ k) (k1 : k ≤ 64) (w : World) :
    Calls Try.prog 63 #[.int .i64 n, .int .i64 k] w fun e w' => e = .returned (.bool (decide (-(2 ^ (k - 1)) ≤ n ∧ n < 2 ^ (k - 1)))) ∧ w = w' := by
  have t1 : decide ((k : Int) < 1) = false := decide_eq_false (by omega)
  have t2 : decide (64 < (k : Int)) = false := decide_eq_false (by omega)
  by_cases hk : k = 64
  · have HR : Hid (decide (-(2 ^ (k - 1)) ≤ n ∧ n < 2 ^ (k - 1)) = true) := Lib.hid (by rw [hk]; exact half64 n n0 n1)
    have t3 : ((k : Int) == 64) = true := beq_iff_eq.mpr (by omega)
    clear hk
    go_enter Try.func63, Try.ntmps63
    go_wp2
    go_ret
    exact ⟨by rw [HR.out]; rfl, rfl⟩
  · have HR := Lib.hid (half_test n (2 ^ (k - 1)))
    obtain ⟨h1, h2, h3⟩ := half_edges k k0 (by omega)
    have H1 : ∀ [Inhabited Nat], wrap64 (2 ^ (k - 1)) = 2 ^ (k - 1) := fun {_} => h1
    have H2 : ∀ [Inhabited Nat], wrap64 (-(2 ^ (k - 1))) = -(2 ^ (k - 1)) := fun {_} => h2
    have H3 : ∀ [Inhabited Nat], wrap64 (2 ^ (k - 1) - 1) = 2 ^ (k - 1) - 1 := fun {_} => h3
    clear h1 h2 h3
    have t3 : ((k : Int) == 64) = false := beq_eq_false_iff_ne.mpr (by omega)
    by_cases h : -(2 ^ (k - 1)) ≤ n
    · have t4 : decide (-(2 ^ (k - 1)) ≤ n) = true := decide_eq_true h
      clear hk h
      go_enter Try.func63, Try.ntmps63
      go_wp2
      go_ret
      exact ⟨by rw [HR.out, t4]; rfl, rfl⟩
    · have t4 : decide (-(2 ^ (k - 1)) ≤ n) = false := decide_eq_false h
      clear hk h
      go_enter Try.func63, Try.ntmps63
      go_wp2
      go_ret
      exact ⟨by rw [HR.out, t4]; rfl, rfl⟩
end Go.Proofs.Ythbaccmhdffjdaa.NodeB


set_option linter.unusedVariables false
set_option linter.unusedSimpArgs false
set_option maxRecDepth 100000
namespace Go.Proofs.Ythbaccmhdffjdaa.NodeE
open Go Go.RowKit Go.Proofs.Ythbaccmhdffjdaa.Ev Go.Proofs.Ythbaccmhdffjdaa.BitLib Go.Proofs.Ythbaccmhdffjdaa.BitsA Go.Proofs.Ythbaccmhdffjdaa.NodeB
abbrev u64 (n : Int) : Value := .int .u64 n
abbrev U64 (n : Int) : Prop := 0 ≤ n ∧ n ≤ 18446744073709551615
theorem still {f : FuncId} {args : Array Value} {v : Value} (h : ∀ w, Calls Try.prog f args w fun e w' => e = .returned v ∧ w = w') : ∀ w, Calls Try.prog f args w fun e w' => e = .returned v ∧ Below w.heap.size w w' := fun w =>
  (h w).mono fun e w' hh => ⟨hh.1, hh.2 ▸ Below.refl _ _⟩
/-! ### bits -/
def fitB (n : Int) : Bool := decide (-2147483648 ≤ n) && decide (n ≤ 2147483647)
theorem fitB_eq (n : Int) : decide (-(2 ^ (32 - 1)) ≤ n ∧ n < 2 ^ (32 - 1)) = fitB n := by
  unfold fitB
  rw [← Bool.decide_and, decide_eq_decide]
  have : (2 : Int) ^ (32 - 1) = 2147483648 := rfl
  omega
def low32 (n : Int) : Int := (n + 2147483648) % 4294967296 - 2147483648
def fld (a k : Int) : Prop := 0 ≤ a ∧ 1 ≤ k ∧ a + k ≤ 64
def getI (x a k : Int) : Int := x / 2 ^ a.toNat % 2 ^ k.toNat
def putI (x a k y : Int) : Int := (putN x.toNat a.toNat k.toNat y.toNat : Nat)
def bfits_F : List Value → Option (Value × List Prop)
  | [.int .i64 n, .int .i64 32] => some (.bool (fitB n), [I64 n])
  | _ => none
theorem bfits_sum : SumOK Try.prog 69 (sumOf bfits_F) := by
  refine sumOf_ok (en Try.func69 rfl) fun args v ob h hob => ?_
  unfold bfits_F at h
  split at h
  · rename_i n
    obtain ⟨rfl, rfl⟩ := Prod.mk.inj (Option.some.inj h)
    clear h
    have hn := hob (I64 n) (by simp)
    exact ⟨rfl, rfl, still fun w => by rw [← fitB_eq]; exact fits_yes n 32 hn.1 hn.2 (by decide) (by decide) w⟩
  · exact absurd h (by simp)
noncomputable def t_bfits : Sums := upd t_none 69 (some (sumOf bfits_F))
theorem t_bfits_ok : SumsOK Try.prog t_bfits := sums_cons t_none_ok bfits_sum
def rfits_F : List Value → Option (Value × List Prop)
  | [.int .i64 n, .int .i64 32] => some (.bool (fitB n), [I64 n])
  | _ => none
theorem rfits_sum : SumOK Try.prog 63 (sumOf rfits_F) := by
  refine sumOf_ok (en Try.func63 rfl) fun args v ob h hob => ?_
  unfold rfits_F at h
  split at h
  · rename_i n
    obtain ⟨rfl, rfl⟩ := Prod.mk.inj (Option.some.inj h)
    clear h
    have hn := hob (I64 n) (by simp)
    exact ⟨rfl, rfl, still fun w => by rw [← fitB_eq]; exact refFits_yes n 32 hn.1 hn.2 (by decide) (by decide) w⟩
  · exact absurd h (by simp)
noncomputable def t_rfits : Sums := upd t_bfits 63 (some (sumOf rfits_F))
theorem t_rfits_ok : SumsOK Try.prog t_rfits := sums_cons t_bfits_ok rfits_sum
def rwrap_F : List Value → Option (Value × List Prop)
  | [.int .i64 n, .int .i64 32] => some (.int .i64 (low32 n), [I64 n])
  | _ => none
theorem rwrap_sum : SumOK Try.prog 60 (sumOf rwrap_F) := by
  refine sumOf_ok (en Try.func60 rfl) fun args v ob h hob => ?_
  unfold rwrap_F at h
  split at h
  · rename_i n
    obtain ⟨rfl, rfl⟩ := Prod.mk.inj (Option.some.inj h)
    clear h
    have hn := hob (I64 n) (by simp)
    exact ⟨rfl, rfl, still fun w => refWrap_yes n 32 hn.1 hn.2 (by decide) (by decide) w⟩
  · exact absurd h (by simp)
noncomputable def t_rwrap : Sums := upd t_rfits 60 (some (sumOf rwrap_F))
theorem t_rwrap_ok : SumsOK Try.prog t_rwrap := sums_cons t_rfits_ok rwrap_sum
def bget_F : List Value → Option (Value × List Prop)
  | [.int .u64 x, .int .i64 a, .int .i64 k] => some (.int .u64 (getI x a k), [U64 x, fld a k])
  | _ => none
theorem bget_sum : SumOK Try.prog 57 (sumOf bget_F) := by
  refine sumOf_ok (en Try.func57 rfl) fun args v ob h hob => ?_
  unfold bget_F at h
  split at h
  · rename_i x a k
    obtain ⟨rfl, rfl⟩ := Prod.mk.inj (Option.some.inj h)
    clear h
    have hx := hob (U64 x) (by simp)
    have hk := hob (fld a k) (by simp)
    unfold fld at hk
    obtain ⟨x, rfl⟩ := Int.eq_ofNat_of_zero_le hx.1
    obtain ⟨a, rfl⟩ := Int.eq_ofNat_of_zero_le hk.1
    obtain ⟨k, rfl⟩ := Int.eq_ofNat_of_zero_le (show 0 ≤ k by omega)
    have e : getI x a k = (getN x a k : Nat) := by simp [getI, getN]
    exact ⟨rfl, rfl, still fun w => by rw [e]; exact get_yes x a k (by omega) (by omega) (by omega) w⟩
  · exact absurd h (by simp)
noncomputable def t_bget : Sums := upd t_rwrap 57 (some (sumOf bget_F))
theorem t_bget_ok : SumsOK Try.prog t_bget := sums_cons t_rwrap_ok bget_sum
def bput_F : List Value → Option (Value × List Prop)
  | [.int .u64 x, .int .i64 a, .int .i64 k, .int .u64 y] => some (.int .u64 (putI x a k y), [U64 x, fld a k, U64 y])
  | _ => none
theorem bput_sum : SumOK Try.prog 68 (sumOf bput_F) := by
  refine sumOf_ok (en Try.func68 rfl) fun args v ob h hob => ?_
  unfold bput_F at h
  split at h
  · rename_i x a k y
    obtain ⟨rfl, rfl⟩ := Prod.mk.inj (Option.some.inj h)
    clear h
    have hx := hob (U64 x) (by simp)
    have hy := hob (U64 y) (by simp)
    have hk := hob (fld a k) (by simp)
    unfold fld at hk
    obtain ⟨x, rfl⟩ := Int.eq_ofNat_of_zero_le hx.1
    obtain ⟨y, rfl⟩ := Int.eq_ofNat_of_zero_le hy.1
    obtain ⟨a, rfl⟩ := Int.eq_ofNat_of_zero_le hk.1
    obtain ⟨k, rfl⟩ := Int.eq_ofNat_of_zero_le (show 0 ≤ k by omega)
    exact ⟨rfl, rfl, still fun w => put_yes x a k y (by omega) (by omega) (by omega) (by omega) w⟩
  · exact absurd h (by simp)
noncomputable def t_bput : Sums := upd t_bget 68 (some (sumOf bput_F))
theorem t_bput_ok : SumsOK Try.prog t_bput := sums_cons t_bget_ok bput_sum
def bsigned_F : List Value → Option (Value × List Prop)
  | [.int .u64 x, .int .i64 0, .int .i64 32] => some (.int .i64 (low32 x), [U64 x])
  | _ => none
theorem bsigned_sum : SumOK Try.prog 56 (sumOf bsigned_F) := by
  refine sumOf_ok (en Try.func56 rfl) fun args v ob h hob => ?_
  unfold bsigned_F at h
  split at h
  · rename_i x
    obtain ⟨rfl, rfl⟩ := Prod.mk.inj (Option.some.inj h)
    clear h
    have hx := hob (U64 x) (by simp)
    obtain ⟨x, rfl⟩ := Int.eq_ofNat_of_zero_le hx.1
    have e : low32 x = signedS x 0 32 := by
      have e1 : ((2 : Nat) ^ 0) = 1 := rfl
      have e2 : ((2 : Nat) ^ 32) = 4294967296 := rfl
      have e3 : ((2 : Int) ^ 32) = 4294967296 := rfl
      have e4 : ((2 : Int) ^ (32 - 1)) = 2147483648 := rfl
      unfold low32 signedS wrapS getN
      rw [e1, e2, e3, e4]
      omega
    exact ⟨rfl, rfl, still fun w => by rw [e]; exact signed_yes x 0 32 (by omega) (by decide) (by decide) w⟩
  · exact absurd h (by simp)
noncomputable def t_bsigned : Sums := upd t_bput 56 (some (sumOf bsigned_F))
theorem t_bsigned_ok : SumsOK Try.prog t_bsigned := sums_cons t_bput_ok bsigned_sum
end Go.Proofs.Ythbaccmhdffjdaa.NodeE


set_option linter.unusedVariables false
set_option linter.unusedSimpArgs false
set_option maxRecDepth 100000
namespace Go.Proofs.Ythbaccmhdffjdaa.NodeE
open Go Go.RowKit Go.Proofs.Ythbaccmhdffjdaa.Ev Go.Proofs.Ythbaccmhdffjdaa.BitLib Go.Proofs.Ythbaccmhdffjdaa.BitsA Go.Proofs.Ythbaccmhdffjdaa.NodeB
abbrev nd (l : Bool) (v f a x y : Int) : Value := .agg ⟨[.bool l, .int .i64 v, .int .i64 f, .int .i64 a, .int .i64 x, .int .i64 y]⟩
def chB (n : Int) : Bool := decide (n ≥ 1) && decide (n < 31)
def rightB (l : Bool) (v f a x y : Int) : Bool := bif l then ((f == 0) && ((a == 0) && ((x == 0) && (y == 0)))) && fitB v
  else (v == 0) && (decide (f ≥ 0) && (decide (f < 4) && (fitB a && (chB x && chB y))))
theorem key_nd (v f a x y : Int) : keyEq (nd true v f a x y) (nd true v 0 0 0 0) = ((f == 0) && ((a == 0) && ((x == 0) && (y == 0)))) := by
  simp [keyEq, cellsEq, leafEq]
def child_F : List Value → Option (Value × List Prop)
  | [.int .i64 n] => some (.bool (chB n), [])
  | _ => none
theorem child_sum : SumOK Try.prog 70 (sumOf child_F) := by
  refine sumOf_ok (en Try.func70 rfl) fun args v ob h hob => ?_
  unfold child_F at h
  split at h
  · rename_i n
    obtain ⟨rfl, rfl⟩ := Prod.mk.inj (Option.some.inj h)
    clear h
    cases h : decide (n ≥ 1)
    · rw [show chB n = false from by simp only [chB, h, Bool.false_and]]
      exact calls_runO hm (auto0_ok t_bsigned_ok) (hints [(1, 1, ht false)]) [] [bb (decide (n ≥ 1)) false] (by kernel_rfl) ⟨bb_of h, trivial⟩
    · rw [show chB n = decide (n < 31) from by simp only [chB, h, Bool.true_and]]
      exact calls_runO hm (auto0_ok t_bsigned_ok) (hints [(1, 1, ht true)]) [] [bb (decide (n ≥ 1)) true] (by kernel_rfl) ⟨bb_of h, trivial⟩
  · exact absurd h (by simp)
noncomputable def t_child : Sums := upd t_bsigned 70 (some (sumOf child_F))
theorem t_child_ok : SumsOK Try.prog t_child := sums_cons t_bsigned_ok child_sum
def right_F : List Value → Option (Value × List Prop)
  | [.agg ⟨[.bool l, .int .i64 v, .int .i64 f, .int .i64 a, .int .i64 x, .int .i64 y]⟩] => some (.bool (rightB l v f a x y), [I64 v, I64 a])
  | _ => none
theorem right_sum : SumOK Try.prog 67 (sumOf right_F) := by
  refine sumOf_ok (en Try.func67 rfl) fun args v ob h hob => ?_
  unfold right_F at h
  split at h
  · rename_i l v f a x y
    obtain ⟨rfl, rfl⟩ := Prod.mk.inj (Option.some.inj h)
    clear h
    have hv := hob (I64 v) (by simp)
    have ha := hob (I64 a) (by simp)
    cases l
    · cases d0 : v == 0
      · rw [show rightB false v f a x y = false from by simp [rightB, d0]]
        exact calls_runO hm (auto0_ok t_child_ok) (hints [(3, 2, ht false)]) [] [bb (v == 0) false] (by kernel_rfl) ⟨bb_of d0, trivial⟩
      cases d1 : decide (f ≥ 0)
      · rw [show rightB false v f a x y = false from by simp [rightB, d0, d1]]
        exact calls_runO hm (auto0_ok t_child_ok) (hints [(3, 2, ht true), (3, 6, ht false)]) [] [bb (decide (f ≥ 0)) false, bb (v == 0) true] (by kernel_rfl) ⟨bb_of d1, bb_of d0, trivial⟩
      cases d2 : decide (f < 4)
      · rw [show rightB false v f a x y = false from by simp [rightB, d0, d1, d2]]
        exact calls_runO hm (auto0_ok t_child_ok) (hints [(3, 2, ht true), (3, 6, ht true), (3, 11, ht false)]) [] [bb (decide (f < 4)) false, bb (decide (f ≥ 0)) true, bb (v == 0) true] (by kernel_rfl) ⟨bb_of d2, bb_of d1, bb_of d0, trivial⟩
      cases d3 : fitB a
      · rw [show rightB false v f a x y = false from by simp [rightB, d0, d1, d2, d3]]
        exact calls_runO hm (auto0_ok t_child_ok) (hints [(3, 2, ht true), (3, 6, ht true), (3, 11, ht true), (3, 16, ht false)]) [] [bb (fitB a) false, I64 a, bb (decide (f < 4)) true, bb (decide (f ≥ 0)) true, bb (v == 0) true] (by kernel_rfl) ⟨bb_of d3, ha, bb_of d2, bb_of d1, bb_of d0, trivial⟩
      cases d4 : chB x
      · rw [show rightB false v f a x y = false from by simp [rightB, d0, d1, d2, d3, d4]]
        exact calls_runO hm (auto0_ok t_child_ok) (hints [(3, 2, ht true), (3, 6, ht true), (3, 11, ht true), (3, 16, ht true), (3, 21, ht false)]) [] [bb (chB x) false, bb (fitB a) true, I64 a, bb (decide (f < 4)) true, bb (decide (f ≥ 0)) true, bb (v == 0) true] (by kernel_rfl) ⟨bb_of d4, bb_of d3, ha, bb_of d2, bb_of d1, bb_of d0, trivial⟩
      cases d5 : chB y
      · rw [show rightB false v f a x y = false from by simp [rightB, d0, d1, d2, d3, d4, d5]]
        exact calls_runO hm (auto0_ok t_child_ok) (hints [(3, 2, ht true), (3, 6, ht true), (3, 11, ht true), (3, 16, ht true), (3, 21, ht true), (3, 26, ht false)]) [] [bb (chB y) false, bb (chB x) true, bb (fitB a) true, I64 a, bb (decide (f < 4)) true, bb (decide (f ≥ 0)) true, bb (v == 0) true] (by kernel_rfl) ⟨bb_of d5, bb_of d4, bb_of d3, ha, bb_of d2, bb_of d1, bb_of d0, trivial⟩
      rw [show rightB false v f a x y = true from by simp [rightB, d0, d1, d2, d3, d4, d5]]
      exact calls_runO hm (auto0_ok t_child_ok) (hints [(3, 2, ht true), (3, 6, ht true), (3, 11, ht true), (3, 16, ht true), (3, 21, ht true), (3, 26, ht true)]) [] [bb (chB y) true, bb (chB x) true, bb (fitB a) true, I64 a, bb (decide (f < 4)) true, bb (decide (f ≥ 0)) true, bb (v == 0) true] (by kernel_rfl) ⟨bb_of d5, bb_of d4, bb_of d3, ha, bb_of d2, bb_of d1, bb_of d0, trivial⟩
    · cases d0 : keyEq (nd true v f a x y) (nd true v 0 0 0 0)
      · rw [show rightB true v f a x y = false from by simp only [rightB, cond_true, ← key_nd v f a x y, d0, Bool.false_and]]
        exact calls_runO hm (auto0_ok t_child_ok) (hints [(2, 4, ht false)]) [] [bb (keyEq (nd true v f a x y) (nd true v 0 0 0 0)) false] (by kernel_rfl) ⟨bb_of d0, trivial⟩
      cases d1 : fitB v
      · rw [show rightB true v f a x y = false from by simp only [rightB, cond_true, ← key_nd v f a x y, d0, d1, Bool.and_true, Bool.and_false, Bool.true_and, Bool.false_and]]
        exact calls_runO hm (auto0_ok t_child_ok) (hints [(2, 4, ht true), (2, 8, ht false)]) [] [bb (fitB v) false, I64 v, bb (keyEq (nd true v f a x y) (nd true v 0 0 0 0)) true] (by kernel_rfl) ⟨bb_of d1, hv, bb_of d0, trivial⟩
      rw [show rightB true v f a x y = true from by simp only [rightB, cond_true, ← key_nd v f a x y, d0, d1, Bool.and_true, Bool.and_false, Bool.true_and, Bool.false_and]]
      exact calls_runO hm (auto0_ok t_child_ok) (hints [(2, 4, ht true), (2, 8, ht true)]) [] [bb (fitB v) true, I64 v, bb (keyEq (nd true v f a x y) (nd true v 0 0 0 0)) true] (by kernel_rfl) ⟨bb_of d1, hv, bb_of d0, trivial⟩
  · exact absurd h (by simp)
noncomputable def t_right : Sums := upd t_child 67 (some (sumOf right_F))
theorem t_right_ok : SumsOK Try.prog t_right := sums_cons t_child_ok right_sum
def rright_F : List Value → Option (Value × List Prop)
  | [.agg ⟨[.bool l, .int .i64 v, .int .i64 f, .int .i64 a, .int .i64 x, .int .i64 y]⟩] => some (.bool (rightB l v f a x y), [I64 v, I64 a])
  | _ => none
theorem rright_sum : SumOK Try.prog 55 (sumOf rright_F) := by
  refine sumOf_ok (en Try.func55 rfl) fun args v ob h hob => ?_
  unfold rright_F at h
  split at h
  · rename_i l v f a x y
    obtain ⟨rfl, rfl⟩ := Prod.mk.inj (Option.some.inj h)
    clear h
    have hv := hob (I64 v) (by simp)
    have ha := hob (I64 a) (by simp)
    cases l
    · cases d0 : v == 0
      · rw [show rightB false v f a x y = false from by simp [rightB, chB, d0]]
        exact calls_runO hm (auto0_ok t_right_ok) (hints [(3, 2, ht false)]) [] [bb (v == 0) false] (by kernel_rfl) ⟨bb_of d0, trivial⟩
      cases d1 : decide (f ≥ 0)
      · rw [show rightB false v f a x y = false from by simp [rightB, chB, d0, d1]]
        exact calls_runO hm (auto0_ok t_right_ok) (hints [(3, 2, ht true), (3, 6, ht false)]) [] [bb (decide (f ≥ 0)) false, bb (v == 0) true] (by kernel_rfl) ⟨bb_of d1, bb_of d0, trivial⟩
      cases d2 : decide (f < 4)
      · rw [show rightB false v f a x y = false from by simp [rightB, chB, d0, d1, d2]]
        exact calls_runO hm (auto0_ok t_right_ok) (hints [(3, 2, ht true), (3, 6, ht true), (3, 11, ht false)]) [] [bb (decide (f < 4)) false, bb (decide (f ≥ 0)) true, bb (v == 0) true] (by kernel_rfl) ⟨bb_of d2, bb_of d1, bb_of d0, trivial⟩
      cases d3 : fitB a
      · rw [show rightB false v f a x y = false from by simp [rightB, chB, d0, d1, d2, d3]]
        exact calls_runO hm (auto0_ok t_right_ok) (hints [(3, 2, ht true), (3, 6, ht true), (3, 11, ht true), (3, 16, ht false)]) [] [bb (fitB a) false, I64 a, bb (decide (f < 4)) true, bb (decide (f ≥ 0)) true, bb (v == 0) true] (by kernel_rfl) ⟨bb_of d3, ha, bb_of d2, bb_of d1, bb_of d0, trivial⟩
      cases d4 : decide (x ≥ 1)
      · rw [show rightB false v f a x y = false from by simp [rightB, chB, d0, d1, d2, d3, d4]]
        exact calls_runO hm (auto0_ok t_right_ok) (hints [(3, 2, ht true), (3, 6, ht true), (3, 11, ht true), (3, 16, ht true), (3, 21, ht false)]) [] [bb (decide (x ≥ 1)) false, bb (fitB a) true, I64 a, bb (decide (f < 4)) true, bb (decide (f ≥ 0)) true, bb (v == 0) true] (by kernel_rfl) ⟨bb_of d4, bb_of d3, ha, bb_of d2, bb_of d1, bb_of d0, trivial⟩
      cases d5 : decide (x < 31)
      · rw [show rightB false v f a x y = false from by simp [rightB, chB, d0, d1, d2, d3, d4, d5]]
        exact calls_runO hm (auto0_ok t_right_ok) (hints [(3, 2, ht true), (3, 6, ht true), (3, 11, ht true), (3, 16, ht true), (3, 21, ht true), (3, 26, ht false)]) [] [bb (decide (x < 31)) false, bb (decide (x ≥ 1)) true, bb (fitB a) true, I64 a, bb (decide (f < 4)) true, bb (decide (f ≥ 0)) true, bb (v == 0) true] (by kernel_rfl) ⟨bb_of d5, bb_of d4, bb_of d3, ha, bb_of d2, bb_of d1, bb_of d0, trivial⟩
      cases d6 : decide (y ≥ 1)
      · rw [show rightB false v f a x y = false from by simp [rightB, chB, d0, d1, d2, d3, d4, d5, d6]]
        exact calls_runO hm (auto0_ok t_right_ok) (hints [(3, 2, ht true), (3, 6, ht true), (3, 11, ht true), (3, 16, ht true), (3, 21, ht true), (3, 26, ht true), (3, 31, ht false)]) [] [bb (decide (y ≥ 1)) false, bb (decide (x < 31)) true, bb (decide (x ≥ 1)) true, bb (fitB a) true, I64 a, bb (decide (f < 4)) true, bb (decide (f ≥ 0)) true, bb (v == 0) true] (by kernel_rfl) ⟨bb_of d6, bb_of d5, bb_of d4, bb_of d3, ha, bb_of d2, bb_of d1, bb_of d0, trivial⟩
      cases d7 : decide (y < 31)
      · rw [show rightB false v f a x y = false from by simp [rightB, chB, d0, d1, d2, d3, d4, d5, d6, d7]]
        exact calls_runO hm (auto0_ok t_right_ok) (hints [(3, 2, ht true), (3, 6, ht true), (3, 11, ht true), (3, 16, ht true), (3, 21, ht true), (3, 26, ht true), (3, 31, ht true), (3, 36, ht false)]) [] [bb (decide (y < 31)) false, bb (decide (y ≥ 1)) true, bb (decide (x < 31)) true, bb (decide (x ≥ 1)) true, bb (fitB a) true, I64 a, bb (decide (f < 4)) true, bb (decide (f ≥ 0)) true, bb (v == 0) true] (by kernel_rfl) ⟨bb_of d7, bb_of d6, bb_of d5, bb_of d4, bb_of d3, ha, bb_of d2, bb_of d1, bb_of d0, trivial⟩
      rw [show rightB false v f a x y = true from by simp [rightB, chB, d0, d1, d2, d3, d4, d5, d6, d7]]
      exact calls_runO hm (auto0_ok t_right_ok) (hints [(3, 2, ht true), (3, 6, ht true), (3, 11, ht true), (3, 16, ht true), (3, 21, ht true), (3, 26, ht true), (3, 31, ht true), (3, 36, ht true)]) [] [bb (decide (y < 31)) true, bb (decide (y ≥ 1)) true, bb (decide (x < 31)) true, bb (decide (x ≥ 1)) true, bb (fitB a) true, I64 a, bb (decide (f < 4)) true, bb (decide (f ≥ 0)) true, bb (v == 0) true] (by kernel_rfl) ⟨bb_of d7, bb_of d6, bb_of d5, bb_of d4, bb_of d3, ha, bb_of d2, bb_of d1, bb_of d0, trivial⟩
    · cases d0 : fitB v
      · rw [show rightB true v f a x y = false from by simp [rightB, d0]]
        exact calls_runO hm (auto0_ok t_right_ok) (hints [(2, 2, ht false)]) [] [bb (fitB v) false, I64 v] (by kernel_rfl) ⟨bb_of d0, hv, trivial⟩
      cases d1 : f == 0
      · rw [show rightB true v f a x y = false from by simp [rightB, d0, d1]]
        exact calls_runO hm (auto0_ok t_right_ok) (hints [(2, 2, ht true), (2, 6, ht false)]) [] [bb (f == 0) false, bb (fitB v) true, I64 v] (by kernel_rfl) ⟨bb_of d1, bb_of d0, hv, trivial⟩
      cases d2 : a == 0
      · rw [show rightB true v f a x y = false from by simp [rightB, d0, d1, d2]]
        exact calls_runO hm (auto0_ok t_right_ok) (hints [(2, 2, ht true), (2, 6, ht true), (2, 11, ht false)]) [] [bb (a == 0) false, bb (f == 0) true, bb (fitB v) true, I64 v] (by kernel_rfl) ⟨bb_of d2, bb_of d1, bb_of d0, hv, trivial⟩
      cases d3 : x == 0
      · rw [show rightB true v f a x y = false from by simp [rightB, d0, d1, d2, d3]]
        exact calls_runO hm (auto0_ok t_right_ok) (hints [(2, 2, ht true), (2, 6, ht true), (2, 11, ht true), (2, 16, ht false)]) [] [bb (x == 0) false, bb (a == 0) true, bb (f == 0) true, bb (fitB v) true, I64 v] (by kernel_rfl) ⟨bb_of d3, bb_of d2, bb_of d1, bb_of d0, hv, trivial⟩
      cases d4 : y == 0
      · rw [show rightB true v f a x y = false from by simp [rightB, d0, d1, d2, d3, d4]]
        exact calls_runO hm (auto0_ok t_right_ok) (hints [(2, 2, ht true), (2, 6, ht true), (2, 11, ht true), (2, 16, ht true), (2, 21, ht false)]) [] [bb (y == 0) false, bb (x == 0) true, bb (a == 0) true, bb (f == 0) true, bb (fitB v) true, I64 v] (by kernel_rfl) ⟨bb_of d4, bb_of d3, bb_of d2, bb_of d1, bb_of d0, hv, trivial⟩
      rw [show rightB true v f a x y = true from by simp [rightB, d0, d1, d2, d3, d4]]
      exact calls_runO hm (auto0_ok t_right_ok) (hints [(2, 2, ht true), (2, 6, ht true), (2, 11, ht true), (2, 16, ht true), (2, 21, ht true)]) [] [bb (y == 0) true, bb (x == 0) true, bb (a == 0) true, bb (f == 0) true, bb (fitB v) true, I64 v] (by kernel_rfl) ⟨bb_of d4, bb_of d3, bb_of d2, bb_of d1, bb_of d0, hv, trivial⟩
  · exact absurd h (by simp)
noncomputable def t_rright : Sums := upd t_right 55 (some (sumOf rright_F))
theorem t_rright_ok : SumsOK Try.prog t_rright := sums_cons t_right_ok rright_sum
end Go.Proofs.Ythbaccmhdffjdaa.NodeE


set_option linter.unusedVariables false
set_option linter.unusedSimpArgs false
set_option maxRecDepth 100000
namespace Go.Proofs.Ythbaccmhdffjdaa.NodeE
open Go Go.RowKit Go.Proofs.Ythbaccmhdffjdaa.Ev Go.Proofs.Ythbaccmhdffjdaa.BitLib Go.Proofs.Ythbaccmhdffjdaa.BitsA Go.Proofs.Ythbaccmhdffjdaa.NodeB
theorem putN_low {x a k y : Nat} (h : a + k ≤ 64) (ha : x < 2 ^ a) : putN x a k y = 2 ^ a * (y % 2 ^ k) + x := by
  have hx : x < 18446744073709551616 := Nat.lt_of_lt_of_le ha (Nat.pow_le_pow_right (by decide) (show a ≤ 64 by omega))
  refine Nat.eq_of_testBit_eq fun i => ?_
  rw [Nat.two_pow_add_eq_or_of_lt ha, Nat.testBit_or, putN_testBit x a k y i h hx, Nat.testBit_two_pow_mul, Nat.testBit_mod_two_pow]
  by_cases h1 : a ≤ i
  · have : x.testBit i = false := Nat.testBit_lt_two_pow (Nat.lt_of_lt_of_le ha (Nat.pow_le_pow_right (by decide) h1))
    by_cases h2 : i < a + k
    · simp [h1, h2, this, show i - a < k by omega]
    · simp [h1, h2, this, show ¬ i - a < k by omega]
  · simp [h1]
theorem putN_top (x y : Nat) (hx : 2 ^ 32 * x < 18446744073709551616) : putN (2 ^ 32 * x) 0 32 y = 2 ^ 32 * x + y % 2 ^ 32 := by
  refine Nat.eq_of_testBit_eq fun i => ?_
  rw [Nat.two_pow_add_eq_or_of_lt (Nat.mod_lt _ (by decide)), Nat.testBit_or, putN_testBit _ 0 32 y i (by decide) hx, Nat.testBit_two_pow_mul, Nat.testBit_mod_two_pow]
  by_cases h : i < 32
  · simp [h, show ¬ (32 ≤ i) by omega]
  · simp [h, show 32 ≤ i by omega]
theorem putI_leaf (y : Int) (hy : 0 ≤ y) : putI 9223372036854775808 0 32 y = 9223372036854775808 + y % 4294967296 := by
  obtain ⟨y, rfl⟩ := Int.eq_ofNat_of_zero_le hy
  have := putN_top 2147483648 y (by decide)
  unfold putI
  have e1 : (9223372036854775808 : Int).toNat = 2 ^ 32 * 2147483648 := rfl
  have e2 : (0 : Int).toNat = 0 := rfl
  have e3 : (32 : Int).toNat = 32 := rfl
  rw [e1, e2, e3, Int.toNat_natCast, this]
  have e4 : (2 : Nat) ^ 32 = 4294967296 := rfl
  rw [e4]; omega
theorem putI_low (x a k y m n : Int) (hx : 0 ≤ x) (hy : 0 ≤ y) (h : a.toNat + k.toNat ≤ 64) (hm : (2 ^ a.toNat : Nat) = m) (hn : (2 ^ k.toNat : Nat) = n) (hxm : x < m) : putI x a k y = x + (y % n) * m := by
  obtain ⟨x, rfl⟩ := Int.eq_ofNat_of_zero_le hx
  obtain ⟨y, rfl⟩ := Int.eq_ofNat_of_zero_le hy
  have := putN_low (x := x) (a := a.toNat) (k := k.toNat) (y := y) h (by omega)
  unfold putI
  rw [Int.toNat_natCast, Int.toNat_natCast, this, ← hm, ← hn, Int.mul_comm]
  simp only [Int.natCast_add, Int.natCast_mul, Int.natCast_emod]
  omega
def packI (l : Bool) (v f a x y : Int) : Int := bif l then 9223372036854775808 + v % 4294967296 else a % 4294967296 + f * 4294967296 + x * 1099511627776 + y * 281474976710656
def packS (l : Bool) (v f a x y : Int) : Int := bif rightB l v f a x y then packI l v f a x y else 0
theorem u_eq {a b : Int} (h : a = b) : u64 a = u64 b := by rw [h]
theorem right_inner {v f a x y : Int} (h : rightB false v f a x y = true) : v = 0 ∧ 0 ≤ f ∧ f < 4 ∧ (-2147483648 ≤ a ∧ a ≤ 2147483647) ∧ (1 ≤ x ∧ x < 31) ∧ 1 ≤ y ∧ y < 31 := by
  simpa [rightB, fitB, chB] using h
theorem right_leaf {v f a x y : Int} (h : rightB true v f a x y = true) : (f = 0 ∧ a = 0 ∧ x = 0 ∧ y = 0) ∧ -2147483648 ≤ v ∧ v ≤ 2147483647 := by
  simpa [rightB, fitB] using h
abbrev w1 (a : Int) : Int := a % 4294967296
abbrev w2 (a f : Int) : Int := a % 4294967296 + f * 4294967296
abbrev w3 (a f x : Int) : Int := a % 4294967296 + f * 4294967296 + x * 1099511627776
abbrev w4 (a f x y : Int) : Int := a % 4294967296 + f * 4294967296 + x * 1099511627776 + y * 281474976710656
def pack_F : List Value → Option (Value × List Prop)
  | [.agg ⟨[.bool l, .int .i64 v, .int .i64 f, .int .i64 a, .int .i64 x, .int .i64 y]⟩] => some (.int .u64 (packS l v f a x y), [I64 v, I64 a])
  | _ => none
theorem pack_sum : SumOK Try.prog 59 (sumOf pack_F) := by
  refine sumOf_ok (en Try.func59 rfl) fun args v ob h hob => ?_
  unfold pack_F at h
  split at h
  · rename_i l v f a x y
    obtain ⟨rfl, rfl⟩ := Prod.mk.inj (Option.some.inj h)
    clear h
    have hv := hob (I64 v) (by simp)
    have ha := hob (I64 a) (by simp)
    cases hr : rightB l v f a x y
    · rw [show packS l v f a x y = 0 from by simp only [packS, hr, cond_false]]
      exact calls_runO hm (auto0_ok t_rright_ok) (hints [(1, 1, ht false)]) [] [bb (rightB l v f a x y) false, I64 v, I64 a] (by kernel_rfl) ⟨bb_of hr, hv, ha, trivial⟩
    cases l
    · rw [show packS false v f a x y = w4 a f x y from by simp only [packS, packI, hr, cond_true, cond_false]]
      obtain ⟨rfl, f0, f1, a0, ⟨x0, x1⟩, y0, y1⟩ := right_inner hr
      have c1 : IntKind.u64.wrap a = a % 18446744073709551616 := by rw [IntKind.wrap_u64]
      have q1 : putI 0 0 32 (a % 18446744073709551616) = w1 a := by rw [putI_low 0 0 32 _ 1 4294967296 (by decide) (by omega) (by decide) rfl rfl (by decide)]; show _ = a % 4294967296; omega
      have q2 : putI (w1 a) 32 4 f = w2 a f := by rw [putI_low (w1 a) 32 4 f 4294967296 16 (show 0 ≤ a % 4294967296 by omega) f0 (by decide) rfl rfl (show a % 4294967296 < _ by omega)]; show a % 4294967296 + _ = a % 4294967296 + _; omega
      have q3 : putI (w2 a f) 40 8 x = w3 a f x := by rw [putI_low (w2 a f) 40 8 x 1099511627776 256 (show 0 ≤ a % 4294967296 + f * 4294967296 by omega) (by omega) (by decide) rfl rfl (show a % 4294967296 + f * 4294967296 < _ by omega)]; show a % 4294967296 + f * 4294967296 + _ = a % 4294967296 + f * 4294967296 + _; omega
      have q4 : putI (w3 a f x) 48 8 y = w4 a f x y := by rw [putI_low (w3 a f x) 48 8 y 281474976710656 256 (show 0 ≤ a % 4294967296 + f * 4294967296 + x * 1099511627776 by omega) (by omega) (by decide) rfl rfl (show a % 4294967296 + f * 4294967296 + x * 1099511627776 < _ by omega)]; show a % 4294967296 + f * 4294967296 + x * 1099511627776 + _ = a % 4294967296 + f * 4294967296 + x * 1099511627776 + _; omega
      exact calls_runO hm (auto0_ok t_rright_ok) (hints [(1, 1, ht true), (5, 2, { v := some (u64 (a % 18446744073709551616)) }), (5, 3, { v := some (u64 (w1 a)) }), (6, 3, { v := some (u64 f) }), (6, 4, { v := some (u64 (w2 a f)) }), (7, 3, { v := some (u64 x) }), (7, 4, { v := some (u64 (w3 a f x)) }), (8, 3, { v := some (u64 y) }), (8, 4, { v := some (u64 (w4 a f x y)) })]) []
        [u64 (putI (w3 a f x) 48 8 y) = u64 (w4 a f x y), U64 (w3 a f x), fld 48 8, U64 y, u64 (IntKind.u64.wrap y) = u64 y,
         u64 (putI (w2 a f) 40 8 x) = u64 (w3 a f x), U64 (w2 a f), fld 40 8, U64 x, u64 (IntKind.u64.wrap x) = u64 x,
         u64 (putI (w1 a) 32 4 f) = u64 (w2 a f), U64 (w1 a), fld 32 4, U64 f, u64 (IntKind.u64.wrap f) = u64 f,
         u64 (putI 0 0 32 (a % 18446744073709551616)) = u64 (w1 a), U64 0, fld 0 32, U64 (a % 18446744073709551616), u64 (IntKind.u64.wrap a) = u64 (a % 18446744073709551616),
         bb (rightB false 0 f a x y) true, I64 0, I64 a] (by kernel_rfl)
        ⟨u_eq q4, (show 0 ≤ a % 4294967296 + f * 4294967296 + x * 1099511627776 ∧ a % 4294967296 + f * 4294967296 + x * 1099511627776 ≤ _ by omega), (by unfold fld; decide), (by show 0 ≤ y ∧ y ≤ _; omega), u_eq (wrapu_id (by omega) (by omega)),
         u_eq q3, (show 0 ≤ a % 4294967296 + f * 4294967296 ∧ a % 4294967296 + f * 4294967296 ≤ _ by omega), (by unfold fld; decide), (by show 0 ≤ x ∧ x ≤ _; omega), u_eq (wrapu_id (by omega) (by omega)),
         u_eq q2, (show 0 ≤ a % 4294967296 ∧ a % 4294967296 ≤ _ by omega), (by unfold fld; decide), (by show 0 ≤ f ∧ f ≤ _; omega), u_eq (wrapu_id (by omega) (by omega)),
         u_eq q1, (by decide), (by unfold fld; decide), (show 0 ≤ a % 18446744073709551616 ∧ a % 18446744073709551616 ≤ _ by omega), u_eq c1, bb_of hr, (by decide), ha, trivial⟩
    · rw [show packS true v f a x y = 9223372036854775808 + v % 4294967296 from by simp only [packS, packI, hr, cond_true]]
      have c1 : IntKind.u64.wrap v = v % 18446744073709551616 := by rw [IntKind.wrap_u64]
      have q1 : putI 9223372036854775808 0 32 (v % 18446744073709551616) = 9223372036854775808 + v % 4294967296 := by rw [putI_leaf _ (by omega)]; omega
      exact calls_runO hm (auto0_ok t_rright_ok) (hints [(1, 1, ht true), (4, 2, { v := some (u64 (v % 18446744073709551616)) }), (4, 3, { v := some (u64 (9223372036854775808 + v % 4294967296)) })]) []
        [u64 (putI 9223372036854775808 0 32 (v % 18446744073709551616)) = u64 (9223372036854775808 + v % 4294967296), U64 9223372036854775808, fld 0 32, U64 (v % 18446744073709551616), u64 (IntKind.u64.wrap v) = u64 (v % 18446744073709551616), bb (rightB true v f a x y) true, I64 v, I64 a] (by kernel_rfl)
        ⟨u_eq q1, by decide, (by unfold fld; decide), (show 0 ≤ v % 18446744073709551616 ∧ v % 18446744073709551616 ≤ _ by omega), u_eq c1, bb_of hr, hv, ha, trivial⟩
  · exact absurd h (by simp)
noncomputable def t_pack : Sums := upd t_rright 59 (some (sumOf pack_F))
theorem t_pack_ok : SumsOK Try.prog t_pack := sums_cons t_rright_ok pack_sum
end Go.Proofs.Ythbaccmhdffjdaa.NodeE


set_option linter.unusedVariables false
set_option linter.unusedSimpArgs false
set_option maxRecDepth 100000
namespace Go.Proofs.Ythbaccmhdffjdaa.NodeE
open Go Go.RowKit Go.Proofs.Ythbaccmhdffjdaa.Ev Go.Proofs.Ythbaccmhdffjdaa.BitLib Go.Proofs.Ythbaccmhdffjdaa.BitsA Go.Proofs.Ythbaccmhdffjdaa.NodeB
theorem and_low (x : Int) (k : Nat) (m n : Int) (h0 : 0 ≤ x) (h1 : x ≤ 18446744073709551615) (hk : k ≤ 64) (hm : ((2 ^ k - 1 : Nat) : Int) = m) (hn : ((2 ^ k : Nat) : Int) = n) : Go.bits .and .u64 x m = x % n := by
  obtain ⟨x, rfl⟩ := Int.eq_ofNat_of_zero_le h0
  rw [← hm, ← hn, and_low_u64 x k (by omega) hk]
  simp
theorem or_add (x y : Int) (k : Nat) (n : Int) (hn : ((2 ^ k : Nat) : Int) = n) (h0 : 0 ≤ x) (h1 : x < n) (h2 : 0 ≤ y) (h3 : y * n ≤ 18446744073709551615) (h4 : x ≤ 18446744073709551615) : Go.bits .or .u64 x (y * n) = x + y * n := by
  obtain ⟨x, rfl⟩ := Int.eq_ofNat_of_zero_le h0
  obtain ⟨y, rfl⟩ := Int.eq_ofNat_of_zero_le h2
  rw [← hn] at h1 h3 ⊢
  have e : (y : Int) * ((2 ^ k : Nat) : Int) = ((2 ^ k * y : Nat) : Int) := by rw [Int.natCast_mul, Int.mul_comm]
  rw [e] at h3 ⊢
  rw [u64_or_nat _ _ (by omega) (by omega), Nat.or_comm, ← Nat.two_pow_add_eq_or_of_lt (by omega)]
  omega
theorem or_top (x : Int) (h0 : 0 ≤ x) (h1 : x < 4294967296) : Go.bits .or .u64 9223372036854775808 x = 9223372036854775808 + x := by
  obtain ⟨x, rfl⟩ := Int.eq_ofNat_of_zero_le h0
  have e : (9223372036854775808 : Int) = ((2 ^ 32 * 2147483648 : Nat) : Int) := rfl
  rw [e, u64_or_nat _ _ (by decide) (by omega), ← Nat.two_pow_add_eq_or_of_lt (by omega)]
  omega
def rpack_F : List Value → Option (Value × List Prop)
  | [.agg ⟨[.bool l, .int .i64 v, .int .i64 f, .int .i64 a, .int .i64 x, .int .i64 y]⟩] => some (.int .u64 (packS l v f a x y), [I64 v, I64 a])
  | _ => none
theorem rpack_sum : SumOK Try.prog 41 (sumOf rpack_F) := by
  refine sumOf_ok (en Try.func41 rfl) fun args v ob h hob => ?_
  unfold rpack_F at h
  split at h
  · rename_i l v f a x y
    obtain ⟨rfl, rfl⟩ := Prod.mk.inj (Option.some.inj h)
    clear h
    have hv := hob (I64 v) (by simp)
    have ha := hob (I64 a) (by simp)
    cases hr : rightB l v f a x y
    · rw [show packS l v f a x y = 0 from by simp only [packS, hr, cond_false]]
      exact calls_runO hm (auto0_ok t_pack_ok) (hints [(1, 1, ht false)]) [] [bb (rightB l v f a x y) false, I64 v, I64 a] (by kernel_rfl) ⟨bb_of hr, hv, ha, trivial⟩
    cases l
    · rw [show packS false v f a x y = w4 a f x y from by simp only [packS, packI, hr, cond_true, cond_false]]
      obtain ⟨rfl, f0, f1, a0, ⟨x0, x1⟩, y0, y1⟩ := right_inner hr
      have c1 : IntKind.u64.wrap a = a % 18446744073709551616 := by rw [IntKind.wrap_u64]
      have q1 : Go.bits .and .u64 (a % 18446744073709551616) 4294967295 = w1 a := by rw [and_low (a % 18446744073709551616) 32 4294967295 4294967296 (by omega) (by omega) (by decide) rfl rfl]; show _ = a % 4294967296; omega
      have q2 : Go.bits .or .u64 (w1 a) (f * 4294967296) = w2 a f := or_add (w1 a) f 32 4294967296 rfl (show 0 ≤ a % 4294967296 by omega) (show a % 4294967296 < _ by omega) f0 (by omega) (show a % 4294967296 ≤ _ by omega)
      have q3 : Go.bits .or .u64 (w2 a f) (x * 1099511627776) = w3 a f x := or_add (w2 a f) x 40 1099511627776 rfl (show 0 ≤ a % 4294967296 + f * 4294967296 by omega) (show a % 4294967296 + f * 4294967296 < _ by omega) (by omega) (by omega) (show a % 4294967296 + f * 4294967296 ≤ _ by omega)
      have q4 : Go.bits .or .u64 (w3 a f x) (y * 281474976710656) = w4 a f x y := or_add (w3 a f x) y 48 281474976710656 rfl (show 0 ≤ a % 4294967296 + f * 4294967296 + x * 1099511627776 by omega) (show a % 4294967296 + f * 4294967296 + x * 1099511627776 < _ by omega) (by omega) (by omega) (show a % 4294967296 + f * 4294967296 + x * 1099511627776 ≤ _ by omega)
      exact calls_runO hm (auto0_ok t_pack_ok) (hints [(1, 1, ht true), (5, 2, { v := some (u64 (a % 18446744073709551616)) }), (5, 3, { v := some (u64 (w1 a)) }), (5, 6, { v := some (u64 f) }), (5, 7, { v := some (u64 (f * 4294967296)) }), (5, 8, { v := some (u64 (w2 a f)) }),
          (5, 11, { v := some (u64 x) }), (5, 12, { v := some (u64 (x * 1099511627776)) }), (5, 13, { v := some (u64 (w3 a f x)) }), (5, 16, { v := some (u64 y) }), (5, 17, { v := some (u64 (y * 281474976710656)) }), (5, 18, { v := some (u64 (w4 a f x y)) })]) []
        [u64 (Go.bits .or .u64 (w3 a f x) (y * 281474976710656)) = u64 (w4 a f x y), u64 (IntKind.u64.wrap (y * 2 ^ 48)) = u64 (y * 281474976710656), u64 (IntKind.u64.wrap y) = u64 y,
         u64 (Go.bits .or .u64 (w2 a f) (x * 1099511627776)) = u64 (w3 a f x), u64 (IntKind.u64.wrap (x * 2 ^ 40)) = u64 (x * 1099511627776), u64 (IntKind.u64.wrap x) = u64 x,
         u64 (Go.bits .or .u64 (w1 a) (f * 4294967296)) = u64 (w2 a f), u64 (IntKind.u64.wrap (f * 2 ^ 32)) = u64 (f * 4294967296), u64 (IntKind.u64.wrap f) = u64 f,
         u64 (Go.bits .and .u64 (a % 18446744073709551616) 4294967295) = u64 (w1 a), u64 (IntKind.u64.wrap a) = u64 (a % 18446744073709551616),
         bb (rightB false 0 f a x y) true, I64 0, I64 a] (by kernel_rfl)
        ⟨u_eq q4, u_eq (by rw [show (2 : Int) ^ 48 = 281474976710656 from rfl]; exact wrapu_id (by omega) (by omega)), u_eq (wrapu_id (by omega) (by omega)),
         u_eq q3, u_eq (by rw [show (2 : Int) ^ 40 = 1099511627776 from rfl]; exact wrapu_id (by omega) (by omega)), u_eq (wrapu_id (by omega) (by omega)),
         u_eq q2, u_eq (by rw [show (2 : Int) ^ 32 = 4294967296 from rfl]; exact wrapu_id (by omega) (by omega)), u_eq (wrapu_id (by omega) (by omega)),
         u_eq q1, u_eq c1, bb_of hr, (by decide), ha, trivial⟩
    · rw [show packS true v f a x y = 9223372036854775808 + v % 4294967296 from by simp only [packS, packI, hr, cond_true]]
      have c1 : IntKind.u64.wrap v = v % 18446744073709551616 := by rw [IntKind.wrap_u64]
      have q1 : Go.bits .and .u64 (v % 18446744073709551616) 4294967295 = v % 4294967296 := by rw [and_low (v % 18446744073709551616) 32 4294967295 4294967296 (by omega) (by omega) (by decide) rfl rfl]; omega
      have q2 : Go.bits .or .u64 9223372036854775808 (v % 4294967296) = 9223372036854775808 + v % 4294967296 := or_top _ (by omega) (by omega)
      exact calls_runO hm (auto0_ok t_pack_ok) (hints [(1, 1, ht true), (4, 2, { v := some (u64 (v % 18446744073709551616)) }), (4, 3, { v := some (u64 (v % 4294967296)) }), (4, 4, { v := some (u64 (9223372036854775808 + v % 4294967296)) })]) []
        [u64 (Go.bits .or .u64 9223372036854775808 (v % 4294967296)) = u64 (9223372036854775808 + v % 4294967296), u64 (Go.bits .and .u64 (v % 18446744073709551616) 4294967295) = u64 (v % 4294967296), u64 (IntKind.u64.wrap v) = u64 (v % 18446744073709551616), bb (rightB true v f a x y) true, I64 v, I64 a] (by kernel_rfl)
        ⟨u_eq q2, u_eq q1, u_eq c1, bb_of hr, hv, ha, trivial⟩
  · exact absurd h (by simp)
noncomputable def t_rpack : Sums := upd t_pack 41 (some (sumOf rpack_F))
theorem t_rpack_ok : SumsOK Try.prog t_rpack := sums_cons t_pack_ok rpack_sum
end Go.Proofs.Ythbaccmhdffjdaa.NodeE


set_option linter.unusedVariables false
set_option linter.unusedSimpArgs false
set_option maxRecDepth 100000
namespace Go.Proofs.Ythbaccmhdffjdaa.NodeE
open Go Go.RowKit Go.Proofs.Ythbaccmhdffjdaa.Ev Go.Proofs.Ythbaccmhdffjdaa.BitLib Go.Proofs.Ythbaccmhdffjdaa.BitsA Go.Proofs.Ythbaccmhdffjdaa.NodeB
abbrev HB (b : Blk) : Heap := upd (fun _ => none) 0 (some b)
noncomputable def getS : List Value → Heap → Nat → Option Res := fun args H nm =>
  match args with
  | [.int .i64 a, .int .i64 k, .pointer (some ⟨b, 0, none⟩)] =>
    match H b with
    | some (.cells [.int .u64 w] ty) => some ⟨i64 (getI w a k), [], [b], [U64 w, fld a k, getI w a k ≤ 9223372036854775807]⟩
    | _ => none
  | _ => none
theorem getI_nn (w a k : Int) : 0 ≤ getI w a k := Int.emod_nonneg _ (by have : (0 : Int) < 2 ^ k.toNat := Int.pow_pos (by decide); omega)
theorem get_spec (w a k : Int) (ty : TypeId) (hw : U64 w) (hk : fld a k) (hr : getI w a k ≤ 9223372036854775807) :
    ∃ H', CallSpec Try.prog 58 [i64 a, i64 k, .pointer (some ⟨0, 0, none⟩)] (HB (.cells [u64 w] ty)) 1 (i64 (getI w a k)) H' ∧ H' 0 = some (.cells [u64 w] ty) := by
  let ob : List Prop := [i64 (IntKind.i64.wrap (getI w a k)) = i64 (getI w a k), U64 w, fld a k]
  have hob : all ob := by
    refine ⟨?_, hw, hk, trivial⟩
    have := getI_nn w a k
    rw [wrap_id (show I64 _ from ⟨by omega, hr⟩)]
  have hspec := spec_run (f := 58) (fn := Try.f58) (args := [i64 a, i64 k, .pointer (some ⟨0, 0, none⟩)]) (H0 := HB (.cells [u64 w] ty)) (nx := 1) hm (auto0_ok t_rpack_ok)
    (hint := hints [(1, 4, { v := some (i64 (getI w a k)) })]) (ws := []) Try.func58 rfl (v := i64 (getI w a k)) (by kernel_rfl)
    (cast (by kernel_rfl : all ob = all (oOb (runH Try.prog (auto0 t_rpack) (hints [(1, 4, { v := some (i64 (getI w a k)) })]) [] Try.f58 _ [i64 a, i64 k, .pointer (some ⟨0, 0, none⟩)] (HB (.cells [u64 w] ty)) 1))) hob)
  refine ⟨_, hspec, ?_⟩
  kernel_rfl
theorem get_sum : SumOK Try.prog 58 getS := by
  refine ⟨en Try.func58 rfl, ?_, ?_⟩
  · intro args H nm r hr hob M w0 g B W hH hargs hn
    unfold getS at hr
    split at hr
    · rename_i a k b
      split at hr
      · rename_i w ty hb
        simp only [Option.some.injEq] at hr
        subst hr
        obtain ⟨H', hs, h0⟩ := get_spec w a k ty (hob _ (by simp)) (hob _ (by simp)) (hob _ (by simp))
        have := spec_calls (old := [(0, b)]) (new := []) (nm := nm) hs (by simp) (by simp) (fun j k' h => by
            simp at h; obtain ⟨rfl, rfl⟩ := h
            exact ⟨by omega, _, hb, by simp [HB, upd_self], fun c hc => by simp at hc; subst hc; rfl⟩)
          (fun j b' h => by
            by_cases e : j = 0
            · subst e; exact ⟨b, by simp⟩
            · simp [HB, upd_ne _ _ e] at h)
          (fun m k h => by simp at h)
          (fun j k' h b' hb' => by
            simp at h; obtain ⟨rfl, rfl⟩ := h
            rw [h0] at hb'; simp at hb'; subst hb'
            exact ⟨fun c hc => by simp at hc; subst hc; rfl, fun _ => ⟨.cells [u64 w] ty, by simp [HB, upd_self], rfl⟩⟩)
          (fun g1 g2 _ => rfl)
          (fun u hu g1 g2 hg => by
            rcases List.mem_cons.1 hu with rfl | hu
            · exact (ren_gnd g1 rfl).trans (ren_gnd g2 rfl).symm
            rcases List.mem_cons.1 hu with rfl | hu
            · exact (ren_gnd g1 rfl).trans (ren_gnd g2 rfl).symm
            · simp at hu; subst hu
              have := hg 0 b (by simp)
              show Value.pointer (some ⟨g1.blk 0, g1.base 0 + 0, none⟩) = Value.pointer (some ⟨g2.blk 0, g2.base 0 + 0, none⟩)
              rw [this.1, this.2.1])
          hH hn
        refine this.mono ?_
        rintro e w' ⟨g', h1, h2, h3, h4⟩
        refine ⟨g', h1, ?_, h3, h4⟩
        have e1 : apU (usOf ([(0, b)] ++ []) H') H = H := by
          simp only [List.append_nil, usOf, List.map_cons, List.map_nil, h0, apU]
          funext i
          by_cases e : i = b
          · subst e; rw [upd_self, hb]
          · rw [upd_ne _ _ e]
        rw [e1] at h2; exact h2
      · simp at hr
    · simp at hr
  · intro args H nm r hr H' hH'
    unfold getS at hr ⊢
    split at hr
    · rename_i a k b
      split at hr
      · rename_i w ty hb
        simp only [Option.some.injEq] at hr
        subst hr
        have : H' b = H b := hH' b (by simp)
        simp only [this, hb]
      · simp at hr
    · simp at hr
noncomputable def t_get : Sums := upd t_rpack 58 (some getS)
theorem t_get_ok : SumsOK Try.prog t_get := sums_cons t_rpack_ok get_sum
end Go.Proofs.Ythbaccmhdffjdaa.NodeE


set_option linter.unusedVariables false
set_option linter.unusedSimpArgs false
set_option maxRecDepth 100000
namespace Go.Proofs.Ythbaccmhdffjdaa.NodeE
open Go Go.RowKit Go.Proofs.Ythbaccmhdffjdaa.Ev Go.Proofs.Ythbaccmhdffjdaa.BitLib Go.Proofs.Ythbaccmhdffjdaa.BitsA Go.Proofs.Ythbaccmhdffjdaa.NodeB
def lfB (w : Int) : Bool := decide (9223372036854775808 ≤ w)
abbrev uF (w : Int) : Int := getI w 32 4
abbrev uX (w : Int) : Int := getI w 40 8
abbrev uY (w : Int) : Int := getI w 48 8
def pkB (w : Int) : Int := bif lfB w then packS true (low32 w) 0 0 0 0 else packS false 0 (uF w) (low32 w) (uX w) (uY w)
def okB (w : Int) : Bool := !(w == 0) && (pkB w == w)
def sV (w : Int) : Int := bif okB w && lfB w then low32 w else 0
def sF (w : Int) : Int := bif okB w && !lfB w then uF w else 0
def sA (w : Int) : Int := bif okB w && !lfB w then low32 w else 0
def sX (w : Int) : Int := bif okB w && !lfB w then uX w else 0
def sY (w : Int) : Int := bif okB w && !lfB w then uY w else 0
abbrev unp (w : Int) : Value := .tuple ⟨[nd (okB w && lfB w) (sV w) (sF w) (sA w) (sX w) (sY w), .bool (okB w)]⟩
theorem unp_no {w : Int} (h : okB w = false) : unp w = .tuple ⟨[nd false 0 0 0 0 0, .bool false]⟩ := by
  simp only [unp, sV, sF, sA, sX, sY, h, Bool.false_and, cond_false]
theorem unp_leaf {w : Int} (h : okB w = true) (hl : lfB w = true) : unp w = .tuple ⟨[nd true (low32 w) 0 0 0 0, .bool true]⟩ := by
  simp only [unp, sV, sF, sA, sX, sY, h, hl, Bool.and_self, Bool.not_true, Bool.and_false, cond_false, cond_true]
theorem unp_inner {w : Int} (h : okB w = true) (hl : lfB w = false) : unp w = .tuple ⟨[nd false 0 (uF w) (low32 w) (uX w) (uY w), .bool true]⟩ := by
  simp only [unp, sV, sF, sA, sX, sY, h, hl, Bool.and_self, Bool.not_false, Bool.and_false, cond_false, cond_true]
theorem get_63 {w : Int} (h : U64 w) : (getI w 63 1 == 0) = !lfB w := by
  have e : getI w 63 1 = w / 9223372036854775808 % 2 := rfl
  rw [e]
  have := h.1
  have := h.2
  cases hl : lfB w
  · have := of_decide_eq_false hl
    simp only [Bool.not_false, beq_iff_eq]; omega
  · have := of_decide_eq_true hl
    simp only [Bool.not_true, beq_eq_false_iff_ne]; omega
theorem low32_r (w : Int) : -2147483648 ≤ low32 w ∧ low32 w ≤ 2147483647 := by unfold low32; omega
theorem low32_i (w : Int) : I64 (low32 w) := by have := low32_r w; exact ⟨by omega, by omega⟩
theorem low32_mod (w : Int) : low32 (w % 4294967296) = low32 w := by unfold low32; omega
theorem uF_eq (w : Int) : uF w = w / 4294967296 % 16 := rfl
theorem uX_eq (w : Int) : uX w = w / 1099511627776 % 256 := rfl
theorem uY_eq (w : Int) : uY w = w / 281474976710656 % 256 := rfl
theorem pack_pos {l : Bool} {v f a x y : Int} (h : rightB l v f a x y = true) : 0 < packS l v f a x y := by
  unfold packS packI
  cases l
  · obtain ⟨rfl, f0, f1, a0, ⟨x0, x1⟩, y0, y1⟩ := right_inner h
    simp only [h, cond_true, cond_false]; omega
  · simp only [h, cond_true]; omega
theorem pack_no {l : Bool} {v f a x y : Int} (h : rightB l v f a x y = false) : packS l v f a x y = 0 := by
  simp only [packS, h, cond_false]
theorem fl (a k : Int) (h : (decide (0 ≤ a) && (decide (1 ≤ k) && decide (a + k ≤ 64))) = true) : fld a k := by
  simpa [fld] using h
theorem get_le (w a : Int) (k : Int) (m : Int) (hm : ((2 : Int) ^ k.toNat) = m) (h0 : 0 < m) (h : m ≤ 9223372036854775808) : getI w a k ≤ 9223372036854775807 := by
  have : getI w a k < m := by unfold getI; rw [hm]; exact Int.emod_lt_of_pos _ h0
  omega
abbrev z : Int := 0
def unpack_F : List Value → Option (Value × List Prop)
  | [.int .u64 w] => some (unp w, [U64 w])
  | _ => none
theorem unpack_sum : SumOK Try.prog 43 (sumOf unpack_F) := by
  refine sumOf_ok (en Try.func43 rfl) fun args v ob h hob => ?_
  unfold unpack_F at h
  split at h
  · rename_i w
    obtain ⟨rfl, rfl⟩ := Prod.mk.inj (Option.some.inj h)
    clear h
    have hw := hob (U64 w) (by simp)
    have h63 := get_63 hw
    have hi := low32_i w
    have g1 := get_le w 32 4 16 rfl (by decide) (by decide)
    have g2 := get_le w 40 8 256 rfl (by decide) (by decide)
    have g3 := get_le w 48 8 256 rfl (by decide) (by decide)
    have f0 : fld 63 1 := fl 63 1 rfl
    have f1 : fld 32 4 := fl 32 4 rfl
    have f2 : fld 40 8 := fl 40 8 rfl
    have f3 : fld 48 8 := fl 48 8 rfl
    cases hl : lfB w <;> rw [hl] at h63 <;> cases hz : w == 0
    · have hp : pkB w = packS false 0 (uF w) (low32 w) (uX w) (uY w) := by simp only [pkB, hl, cond_false]
      cases hk : packS false 0 (uF w) (low32 w) (uX w) (uY w) != w
      · have ho : okB w = true := by simp only [okB, hp, hz, Bool.not_false, Bool.true_and]; simpa using hk
        rw [unp_inner ho hl]
        exact calls_runO hm (auto0_ok t_get_ok) (hints [(3, 2, ht true), (6, 1, ht false), (6, 6, ht false)]) []
          [bb (packS false 0 (uF w) (low32 w) (uX w) (uY w) != w) false, I64 0, I64 (low32 w), bb (w == 0) false, U64 w, fld 48 8, getI w 48 8 ≤ 9223372036854775807, U64 w, fld 40 8, getI w 40 8 ≤ 9223372036854775807, U64 w, fld 32 4, getI w 32 4 ≤ 9223372036854775807,
           bb (getI w 63 1 == 0) true, U64 w, fld 63 1, U64 w] (by kernel_rfl) ⟨bb_of hk, by decide, hi, bb_of hz, hw, f3, g3, hw, f2, g2, hw, f1, g1, bb_of h63, hw, f0, hw, trivial⟩
      · have ho : okB w = false := by simp only [okB, hp, hz, Bool.not_false, Bool.true_and]; simpa using hk
        rw [unp_no ho]
        exact calls_runO hm (auto0_ok t_get_ok) (hints [(3, 2, ht true), (6, 1, ht false), (6, 6, ht true)]) []
          [bb (packS false 0 (uF w) (low32 w) (uX w) (uY w) != w) true, I64 0, I64 (low32 w), bb (w == 0) false, U64 w, fld 48 8, getI w 48 8 ≤ 9223372036854775807, U64 w, fld 40 8, getI w 40 8 ≤ 9223372036854775807, U64 w, fld 32 4, getI w 32 4 ≤ 9223372036854775807,
           bb (getI w 63 1 == 0) true, U64 w, fld 63 1, U64 w] (by kernel_rfl) ⟨bb_of hk, by decide, hi, bb_of hz, hw, f3, g3, hw, f2, g2, hw, f1, g1, bb_of h63, hw, f0, hw, trivial⟩
    · have ho : okB w = false := by simp only [okB, hz, Bool.not_true, Bool.false_and]
      rw [unp_no ho]
      exact calls_runO hm (auto0_ok t_get_ok) (hints [(3, 2, ht true), (6, 1, ht true)]) []
        [bb (w == 0) true, U64 w, fld 48 8, getI w 48 8 ≤ 9223372036854775807, U64 w, fld 40 8, getI w 40 8 ≤ 9223372036854775807, U64 w, fld 32 4, getI w 32 4 ≤ 9223372036854775807,
         bb (getI w 63 1 == 0) true, U64 w, fld 63 1, U64 w] (by kernel_rfl) ⟨bb_of hz, hw, f3, g3, hw, f2, g2, hw, f1, g1, bb_of h63, hw, f0, hw, trivial⟩
    · have hp : pkB w = packS true (low32 w) 0 0 0 0 := by simp only [pkB, hl, cond_true]
      cases hk : packS true (low32 w) 0 0 0 0 != w
      · have ho : okB w = true := by simp only [okB, hp, hz, Bool.not_false, Bool.true_and]; simpa using hk
        rw [unp_leaf ho hl]
        exact calls_runO hm (auto0_ok t_get_ok) (hints [(3, 2, ht false), (6, 1, ht false), (6, 6, ht false)]) []
          [bb (packS true (low32 w) 0 0 0 0 != w) false, I64 (low32 w), I64 0, bb (w == 0) false, bb (getI w 63 1 == 0) false, U64 w, fld 63 1, U64 w] (by kernel_rfl) ⟨bb_of hk, hi, by decide, bb_of hz, bb_of h63, hw, f0, hw, trivial⟩
      · have ho : okB w = false := by simp only [okB, hp, hz, Bool.not_false, Bool.true_and]; simpa using hk
        rw [unp_no ho]
        exact calls_runO hm (auto0_ok t_get_ok) (hints [(3, 2, ht false), (6, 1, ht false), (6, 6, ht true)]) []
          [bb (packS true (low32 w) 0 0 0 0 != w) true, I64 (low32 w), I64 0, bb (w == 0) false, bb (getI w 63 1 == 0) false, U64 w, fld 63 1, U64 w] (by kernel_rfl) ⟨bb_of hk, hi, by decide, bb_of hz, bb_of h63, hw, f0, hw, trivial⟩
    · have h1 := of_decide_eq_true hl
      have h2 := eq_of_beq hz
      omega
  · exact absurd h (by simp)
noncomputable def t_unpack : Sums := upd t_get 43 (some (sumOf unpack_F))
theorem t_unpack_ok : SumsOK Try.prog t_unpack := sums_cons t_get_ok unpack_sum
end Go.Proofs.Ythbaccmhdffjdaa.NodeE


set_option linter.unusedVariables false
set_option linter.unusedSimpArgs false
set_option maxRecDepth 100000
namespace Go.Proofs.Ythbaccmhdffjdaa.NodeE
open Go Go.RowKit Go.Proofs.Ythbaccmhdffjdaa.Ev Go.Proofs.Ythbaccmhdffjdaa.BitLib Go.Proofs.Ythbaccmhdffjdaa.BitsA Go.Proofs.Ythbaccmhdffjdaa.NodeB
theorem shr63 {w : Int} (h : U64 w) : (w.fdiv (2 ^ 63) == 1) = lfB w := by
  have e : (2 : Int) ^ 63 = 9223372036854775808 := rfl
  have := h.1
  have := h.2
  rw [e, Int.fdiv_eq_ediv_of_nonneg _ (by decide)]
  cases hl : lfB w
  · have := of_decide_eq_false hl
    simp only [beq_eq_false_iff_ne]; omega
  · have := of_decide_eq_true hl
    simp only [beq_iff_eq]; omega
theorem i_eq {a b : Int} (h : a = b) : i64 a = i64 b := by rw [h]
theorem getI_le' (w a k m : Int) (hm : ((2 : Int) ^ k.toNat) = m) (h0 : 0 < m) (h : m ≤ 9223372036854775808) : IntKind.i64.wrap (getI w a k) = getI w a k :=
  wrap_id ⟨by have := getI_nn w a k; omega, get_le w a k m hm h0 h⟩
def runpack_F : List Value → Option (Value × List Prop)
  | [.int .u64 w] => some (unp w, [U64 w])
  | _ => none
theorem runpack_sum : SumOK Try.prog 46 (sumOf runpack_F) := by
  refine sumOf_ok (en Try.func46 rfl) fun args v ob h hob => ?_
  unfold runpack_F at h
  split at h
  · rename_i w
    obtain ⟨rfl, rfl⟩ := Prod.mk.inj (Option.some.inj h)
    clear h
    have hw := hob (U64 w) (by simp)
    have h63 := shr63 hw
    have hi := low32_i w
    have w0 := hw.1
    have w1' := hw.2
    have m0 : 0 ≤ w % 4294967296 ∧ w % 4294967296 < 4294967296 := by omega
    have a1 : u64 (Go.bits .and .u64 w 4294967295) = u64 (w % 4294967296) := u_eq (and_low w 32 4294967295 4294967296 hw.1 hw.2 (by decide) rfl rfl)
    have a2 : i64 (IntKind.i64.wrap (w % 4294967296)) = i64 (w % 4294967296) := i_eq (wrap_id ⟨by omega, by omega⟩)
    have a3 : i64 (low32 (w % 4294967296)) = i64 (low32 w) := i_eq (low32_mod w)
    have a4 : I64 (w % 4294967296) := ⟨by omega, by omega⟩
    have e1 : (2 : Int) ^ 32 = 4294967296 := rfl
    have e2 : (2 : Int) ^ 40 = 1099511627776 := rfl
    have e3 : (2 : Int) ^ 48 = 281474976710656 := rfl
    have b1 : u64 (Go.bits .and .u64 (w.fdiv (2 ^ 32)) 15) = u64 (uF w) := u_eq (by rw [e1, Int.fdiv_eq_ediv_of_nonneg _ (by decide), and_low _ 4 15 16 (by omega) (by omega) (by decide) rfl rfl]; rfl)
    have b2 : u64 (Go.bits .and .u64 (w.fdiv (2 ^ 40)) 255) = u64 (uX w) := u_eq (by rw [e2, Int.fdiv_eq_ediv_of_nonneg _ (by decide), and_low _ 8 255 256 (by omega) (by omega) (by decide) rfl rfl]; rfl)
    have b3 : u64 (Go.bits .and .u64 (w.fdiv (2 ^ 48)) 255) = u64 (uY w) := u_eq (by rw [e3, Int.fdiv_eq_ediv_of_nonneg _ (by decide), and_low _ 8 255 256 (by omega) (by omega) (by decide) rfl rfl]; rfl)
    have c1 : i64 (IntKind.i64.wrap (uF w)) = i64 (uF w) := i_eq (getI_le' w 32 4 16 rfl (by decide) (by decide))
    have c2 : i64 (IntKind.i64.wrap (uX w)) = i64 (uX w) := i_eq (getI_le' w 40 8 256 rfl (by decide) (by decide))
    have c3 : i64 (IntKind.i64.wrap (uY w)) = i64 (uY w) := i_eq (getI_le' w 48 8 256 rfl (by decide) (by decide))
    cases hl : lfB w <;> rw [hl] at h63
    · have hp : pkB w = packS false 0 (uF w) (low32 w) (uX w) (uY w) := by simp only [pkB, hl, cond_false]
      cases hr : rightB false 0 (uF w) (low32 w) (uX w) (uY w)
      · have ho : okB w = false := by
          simp only [okB, hp, pack_no hr]
          cases hz : w == 0
          · have := ne_of_beq_false hz
            simp; omega
          · rfl
        rw [unp_no ho]
        exact calls_runO hm (auto0_ok t_unpack_ok) (hints [(2, 2, ht false), (4, 1, { v := some (u64 (w % 4294967296)) }), (4, 2, { v := some (i64 (w % 4294967296)) }), (4, 3, { v := some (i64 (low32 w)) }), (4, 6, { v := some (u64 (uF w)) }), (4, 7, { v := some (i64 (uF w)) }), (4, 10, { v := some (u64 (uX w)) }), (4, 11, { v := some (i64 (uX w)) }), (4, 14, { v := some (u64 (uY w)) }), (4, 15, { v := some (i64 (uY w)) }), (5, 1, ht false)]) []
          [bb (rightB false 0 (uF w) (low32 w) (uX w) (uY w)) false, I64 0, I64 (low32 w), i64 (IntKind.i64.wrap (uY w)) = i64 (uY w), u64 (Go.bits .and .u64 (w.fdiv (2 ^ 48)) 255) = u64 (uY w), i64 (IntKind.i64.wrap (uX w)) = i64 (uX w), u64 (Go.bits .and .u64 (w.fdiv (2 ^ 40)) 255) = u64 (uX w), i64 (IntKind.i64.wrap (uF w)) = i64 (uF w), u64 (Go.bits .and .u64 (w.fdiv (2 ^ 32)) 15) = u64 (uF w),
           i64 (low32 (w % 4294967296)) = i64 (low32 w), I64 (w % 4294967296), i64 (IntKind.i64.wrap (w % 4294967296)) = i64 (w % 4294967296), u64 (Go.bits .and .u64 w 4294967295) = u64 (w % 4294967296), bb (w.fdiv (2 ^ 63) == 1) false] (by kernel_rfl) ⟨bb_of hr, by decide, hi, c3, b3, c2, b2, c1, b1, a3, a4, a2, a1, bb_of h63, trivial⟩
      · have hpos := pack_pos hr
        cases hk : packS false 0 (uF w) (low32 w) (uX w) (uY w) != w
        · have hk' : packS false 0 (uF w) (low32 w) (uX w) (uY w) = w := by simpa using hk
          have ho : okB w = true := by
            simp only [okB, hp, hk', beq_self_eq_true, Bool.and_true]
            simp; omega
          rw [unp_inner ho hl]
          exact calls_runO hm (auto0_ok t_unpack_ok) (hints [(2, 2, ht false), (4, 1, { v := some (u64 (w % 4294967296)) }), (4, 2, { v := some (i64 (w % 4294967296)) }), (4, 3, { v := some (i64 (low32 w)) }), (4, 6, { v := some (u64 (uF w)) }), (4, 7, { v := some (i64 (uF w)) }), (4, 10, { v := some (u64 (uX w)) }), (4, 11, { v := some (i64 (uX w)) }), (4, 14, { v := some (u64 (uY w)) }), (4, 15, { v := some (i64 (uY w)) }), (5, 1, ht true), (5, 7, ht false)]) []
            [bb (packS false 0 (uF w) (low32 w) (uX w) (uY w) != w) false, I64 0, I64 (low32 w), bb (rightB false 0 (uF w) (low32 w) (uX w) (uY w)) true, I64 0, I64 (low32 w), i64 (IntKind.i64.wrap (uY w)) = i64 (uY w), u64 (Go.bits .and .u64 (w.fdiv (2 ^ 48)) 255) = u64 (uY w), i64 (IntKind.i64.wrap (uX w)) = i64 (uX w), u64 (Go.bits .and .u64 (w.fdiv (2 ^ 40)) 255) = u64 (uX w), i64 (IntKind.i64.wrap (uF w)) = i64 (uF w), u64 (Go.bits .and .u64 (w.fdiv (2 ^ 32)) 15) = u64 (uF w),
             i64 (low32 (w % 4294967296)) = i64 (low32 w), I64 (w % 4294967296), i64 (IntKind.i64.wrap (w % 4294967296)) = i64 (w % 4294967296), u64 (Go.bits .and .u64 w 4294967295) = u64 (w % 4294967296), bb (w.fdiv (2 ^ 63) == 1) false] (by kernel_rfl) ⟨bb_of hk, by decide, hi, bb_of hr, by decide, hi, c3, b3, c2, b2, c1, b1, a3, a4, a2, a1, bb_of h63, trivial⟩
        · have ho : okB w = false := by
            simp only [okB, hp]
            have : packS false 0 (uF w) (low32 w) (uX w) (uY w) ≠ w := by simpa using hk
            simp [this]
          rw [unp_no ho]
          exact calls_runO hm (auto0_ok t_unpack_ok) (hints [(2, 2, ht false), (4, 1, { v := some (u64 (w % 4294967296)) }), (4, 2, { v := some (i64 (w % 4294967296)) }), (4, 3, { v := some (i64 (low32 w)) }), (4, 6, { v := some (u64 (uF w)) }), (4, 7, { v := some (i64 (uF w)) }), (4, 10, { v := some (u64 (uX w)) }), (4, 11, { v := some (i64 (uX w)) }), (4, 14, { v := some (u64 (uY w)) }), (4, 15, { v := some (i64 (uY w)) }), (5, 1, ht true), (5, 7, ht true)]) []
            [bb (packS false 0 (uF w) (low32 w) (uX w) (uY w) != w) true, I64 0, I64 (low32 w), bb (rightB false 0 (uF w) (low32 w) (uX w) (uY w)) true, I64 0, I64 (low32 w), i64 (IntKind.i64.wrap (uY w)) = i64 (uY w), u64 (Go.bits .and .u64 (w.fdiv (2 ^ 48)) 255) = u64 (uY w), i64 (IntKind.i64.wrap (uX w)) = i64 (uX w), u64 (Go.bits .and .u64 (w.fdiv (2 ^ 40)) 255) = u64 (uX w), i64 (IntKind.i64.wrap (uF w)) = i64 (uF w), u64 (Go.bits .and .u64 (w.fdiv (2 ^ 32)) 15) = u64 (uF w),
             i64 (low32 (w % 4294967296)) = i64 (low32 w), I64 (w % 4294967296), i64 (IntKind.i64.wrap (w % 4294967296)) = i64 (w % 4294967296), u64 (Go.bits .and .u64 w 4294967295) = u64 (w % 4294967296), bb (w.fdiv (2 ^ 63) == 1) false] (by kernel_rfl) ⟨bb_of hk, by decide, hi, bb_of hr, by decide, hi, c3, b3, c2, b2, c1, b1, a3, a4, a2, a1, bb_of h63, trivial⟩
    · have hp : pkB w = packS true (low32 w) 0 0 0 0 := by simp only [pkB, hl, cond_true]
      have hr : rightB true (low32 w) 0 0 0 0 = true := by
        have := low32_r w
        simp [rightB, fitB, this]
      have h1 := of_decide_eq_true hl
      cases hk : packS true (low32 w) 0 0 0 0 != w
      · have hk' : packS true (low32 w) 0 0 0 0 = w := by simpa using hk
        have ho : okB w = true := by
          simp only [okB, hp, hk', beq_self_eq_true, Bool.and_true]
          simp; omega
        rw [unp_leaf ho hl]
        exact calls_runO hm (auto0_ok t_unpack_ok) (hints [(2, 2, ht true), (3, 1, { v := some (u64 (w % 4294967296)) }), (3, 2, { v := some (i64 (w % 4294967296)) }), (3, 3, { v := some (i64 (low32 w)) }), (5, 1, ht true), (5, 7, ht false)]) []
          [bb (packS true (low32 w) 0 0 0 0 != w) false, I64 (low32 w), I64 0, bb (rightB true (low32 w) 0 0 0 0) true, I64 (low32 w), I64 0, i64 (low32 (w % 4294967296)) = i64 (low32 w), I64 (w % 4294967296), i64 (IntKind.i64.wrap (w % 4294967296)) = i64 (w % 4294967296), u64 (Go.bits .and .u64 w 4294967295) = u64 (w % 4294967296), bb (w.fdiv (2 ^ 63) == 1) true] (by kernel_rfl)
          ⟨bb_of hk, hi, by decide, bb_of hr, hi, by decide, a3, a4, a2, a1, bb_of h63, trivial⟩
      · have ho : okB w = false := by
          simp only [okB, hp]
          have : packS true (low32 w) 0 0 0 0 ≠ w := by simpa using hk
          simp [this]
        rw [unp_no ho]
        exact calls_runO hm (auto0_ok t_unpack_ok) (hints [(2, 2, ht true), (3, 1, { v := some (u64 (w % 4294967296)) }), (3, 2, { v := some (i64 (w % 4294967296)) }), (3, 3, { v := some (i64 (low32 w)) }), (5, 1, ht true), (5, 7, ht true)]) []
          [bb (packS true (low32 w) 0 0 0 0 != w) true, I64 (low32 w), I64 0, bb (rightB true (low32 w) 0 0 0 0) true, I64 (low32 w), I64 0, i64 (low32 (w % 4294967296)) = i64 (low32 w), I64 (w % 4294967296), i64 (IntKind.i64.wrap (w % 4294967296)) = i64 (w % 4294967296), u64 (Go.bits .and .u64 w 4294967295) = u64 (w % 4294967296), bb (w.fdiv (2 ^ 63) == 1) true] (by kernel_rfl)
          ⟨bb_of hk, hi, by decide, bb_of hr, hi, by decide, a3, a4, a2, a1, bb_of h63, trivial⟩
  · exact absurd h (by simp)
noncomputable def t_runpack : Sums := upd t_unpack 46 (some (sumOf runpack_F))
theorem t_runpack_ok : SumsOK Try.prog t_runpack := sums_cons t_unpack_ok runpack_sum
end Go.Proofs.Ythbaccmhdffjdaa.NodeE


set_option linter.unusedVariables false
set_option linter.unusedSimpArgs false
namespace Go.Proofs.Ythbaccmhdffjdaa.Ev
open Go Go.RowKit
/-- The mark of a room. -/
abbrev mk : Nat := Ev.mark
def ro1 (cs : List Value) : Heap := upd (fun _ => none) 0 (some (.ro cs))
/-- The numbers that stand in a row from a place on. -/
def intsOf (cs : List Value) (off n : Nat) : List Int := ((cs.drop off).take n).map intV
def IntRow (k : IntKind) (cs : List Value) (off n : Nat) : Prop := off + n ≤ cs.length ∧ ∀ j, j < n → cs[off + j]? = some (.int k ((intsOf cs off n).getD j 0))
theorem intsOf_len {cs : List Value} {off n : Nat} (h : off + n ≤ cs.length) : (intsOf cs off n).length = n := by simp [intsOf]; omega
theorem intRow_of (k : IntKind) (zs : List Int) : IntRow k (zs.map (Value.int k)) 0 zs.length ∧ intsOf (zs.map (Value.int k)) 0 zs.length = zs := by
  have h : intsOf (zs.map (Value.int k)) 0 zs.length = zs := by
    simp only [intsOf, List.drop_zero]
    rw [List.take_of_length_le (by simp), List.map_map]
    conv => rhs; rw [← List.map_id zs]
    exact List.map_congr_left fun x _ => rfl
  refine ⟨⟨by simp, fun j hj => ?_⟩, h⟩
  rw [h]
  simp [List.getD, List.getElem?_eq_getElem hj]
/-- What is read of a row of one-cell values. -/
theorem readPart_one {P : Program} {ty : TypeId} (ha : aggT P ty = some false) {cs : List Value} {off : Nat} {v : Value} (h : cs[off]? = some v) (hl : leaf v = true) : readPart P ty cs off = some v := by
  have hlt : off < cs.length := (List.getElem?_eq_some_iff.1 h).1
  have he : cs[off] = v := (List.getElem?_eq_some_iff.1 h).2
  have : sub cs off 1 = some [v] := by
    rw [sub_of (by omega)]
    simp [List.drop_eq_getElem_cons hlt, he]
  simp [readPart, ha, this, hl]
theorem i64_id {z w : Int} (h : z = w) (h1 : -9223372036854775808 ≤ w) (h2 : w ≤ 9223372036854775807) : Value.int .i64 (IntKind.i64.wrap z) = Value.int .i64 w := by
  subst h; rw [wrap_id ⟨h1, h2⟩]
theorem i64_succ {i : Nat} (h : i < 9223372036854775807) : Value.int .i64 (IntKind.i64.wrap (Int.ofNat i.succ)) = Value.int .i64 (Int.ofNat i.succ) := by
  refine i64_id rfl ?_ ?_
  · exact Int.le_trans (by decide) (Int.natCast_nonneg (i + 1))
  · show ((i + 1 : Nat) : Int) ≤ _
    omega
end Go.Proofs.Ythbaccmhdffjdaa.Ev


set_option linter.unusedVariables false
set_option linter.unusedSimpArgs false
namespace Go.Proofs.Ythbaccmhdffjdaa.Ev
open Go Go.RowKit
structure Elt (α : Type) where
  cells : α → List Value
  s : Nat
  of : List Value → α
  len : ∀ x, (cells x).length = s
  ofc : ∀ x, of (cells x) = x
  pl : ∀ x, ∀ c ∈ cells x, leafG c = true
namespace Elt
variable {α : Type} (e : Elt α)
def row (l : List α) : List Value := l.flatMap e.cells
def list (cs : List Value) (off n : Nat) : List α := (List.range n).map fun i => e.of ((cs.drop (off + i * e.s)).take e.s)
def Row (cs : List Value) (off n : Nat) : Prop := off + n * e.s ≤ cs.length ∧ ∀ i, i < n → (cs.drop (off + i * e.s)).take e.s = e.cells (e.of ((cs.drop (off + i * e.s)).take e.s))
variable {e}
theorem row_nil : e.row [] = [] := rfl
theorem row_cons (x : α) (l : List α) : e.row (x :: l) = e.cells x ++ e.row l := by simp [row]
theorem row_app (l m : List α) : e.row (l ++ m) = e.row l ++ e.row m := by simp [row]
theorem row_one (x : α) : e.row [x] = e.cells x := by simp [row]
theorem row_len (l : List α) : (e.row l).length = l.length * e.s := by
  induction l with
  | nil => simp [row]
  | cons x l ih => rw [row_cons, List.length_append, ih, e.len]; simp [Nat.succ_mul]; omega
theorem row_pl (l : List α) : ∀ c ∈ e.row l, leafG c = true := by
  intro c hc
  obtain ⟨x, _, hx⟩ := List.mem_flatMap.1 hc
  exact e.pl x c hx
theorem row_drop (l : List α) (i : Nat) : (e.row l).drop (i * e.s) = e.row (l.drop i) := by
  induction l generalizing i with
  | nil => simp [row]
  | cons x l ih =>
    cases i with
    | zero => simp
    | succ i =>
      rw [row_cons, Nat.succ_mul, Nat.add_comm, ← List.drop_drop, List.drop_left' (e.len x), ih]
      simp
theorem row_take (l : List α) (i : Nat) : (e.row l).take (i * e.s) = e.row (l.take i) := by
  induction l generalizing i with
  | nil => simp [row]
  | cons x l ih =>
    cases i with
    | zero => simp [row]
    | succ i =>
      rw [row_cons, Nat.succ_mul, List.take_append, e.len, List.take_of_length_le (by rw [e.len]; omega), show i * e.s + e.s - e.s = i * e.s by omega, ih]
      rw [List.take_succ_cons, row_cons]
theorem row_at (l : List α) (tail : List Value) {i : Nat} {x : α} (h : l[i]? = some x) : ((e.row l ++ tail).drop (i * e.s)).take e.s = e.cells x := by
  have hlt := (List.getElem?_eq_some_iff.1 h).1
  have he := (List.getElem?_eq_some_iff.1 h).2
  have h1 : (i + 1) * e.s ≤ l.length * e.s := Nat.mul_le_mul_right _ hlt
  rw [Nat.succ_mul] at h1
  rw [List.drop_append_of_le_length (by rw [row_len]; omega), row_drop, List.drop_eq_getElem_cons hlt, he, row_cons, List.append_assoc, List.take_left' (e.len x)]
theorem row_sub (l : List α) (tail : List Value) {i : Nat} {x : α} (h : l[i]? = some x) : sub (e.row l ++ tail) (i * e.s) e.s = some (e.cells x) := by
  have hlt := (List.getElem?_eq_some_iff.1 h).1
  have h1 : (i + 1) * e.s ≤ l.length * e.s := Nat.mul_le_mul_right _ hlt
  rw [Nat.succ_mul] at h1
  rw [sub_of (by rw [List.length_append, row_len]; omega), row_at l tail h]
/-- A row that is laid as a list tells: it reads as that list. -/
theorem canon (l : List α) (tail : List Value) : e.Row (e.row l ++ tail) 0 l.length ∧ e.list (e.row l ++ tail) 0 l.length = l := by
  refine ⟨⟨by rw [List.length_append, row_len]; omega, fun i hi => ?_⟩, ?_⟩
  · rw [Nat.zero_add, row_at l tail (List.getElem?_eq_getElem hi), e.ofc]
  · apply List.ext_getElem
    · simp [list]
    · intro i h1 h2
      simp only [list, List.getElem_map, List.getElem_range, Nat.zero_add]
      rw [row_at l tail (List.getElem?_eq_getElem h2), e.ofc]
theorem canon0 (l : List α) : e.Row (e.row l) 0 l.length ∧ e.list (e.row l) 0 l.length = l := by have := canon (e := e) l []; simpa using this
theorem list_len (cs : List Value) (off n : Nat) : (e.list cs off n).length = n := by simp [list]
theorem Row.get {cs : List Value} {off n : Nat} (h : e.Row cs off n) {i : Nat} {x : α} (hx : (e.list cs off n)[i]? = some x) : sub cs (off + i * e.s) e.s = some (e.cells x) := by
  have hlt := (List.getElem?_eq_some_iff.1 hx).1
  have he := (List.getElem?_eq_some_iff.1 hx).2
  rw [list_len] at hlt
  have h1 : (i + 1) * e.s ≤ n * e.s := Nat.mul_le_mul_right _ hlt
  rw [Nat.succ_mul] at h1
  have h0 := h.1
  rw [sub_of (by omega), h.2 i hlt]
  simp [list] at he
  rw [he]
/-- What is read of a row of structs. -/
theorem Row.read {P : Program} {ty : TypeId} (ha : aggT P ty = some true) (hs : sizeOfT P ty = some e.s) {cs : List Value} {off n : Nat} (h : e.Row cs off n) {i : Nat} {x : α} (hx : (e.list cs off n)[i]? = some x) : readPart P ty cs (off + i * e.s) = some (.agg ⟨e.cells x⟩) := by
  simp only [readPart, ha, hs, h.get hx]
theorem Row.read1 {P : Program} {ty : TypeId} (ha : aggT P ty = some false) (hs : e.s = 1) {cs : List Value} {off n : Nat} (h : e.Row cs off n) {i : Nat} {x : α} (hx : (e.list cs off n)[i]? = some x) {v : Value} (hv : e.cells x = [v]) (hl : leaf v = true) : readPart P ty cs (off + i) = some v := by
  have := h.get hx
  rw [hs, Nat.mul_one, hv] at this
  simp [readPart, ha, this, hl]
theorem Row.take {cs : List Value} {off n m : Nat} (h : e.Row cs off n) (hm : m ≤ n) : e.Row cs off m ∧ e.list cs off m = (e.list cs off n).take m := by
  have h1 : m * e.s ≤ n * e.s := Nat.mul_le_mul_right _ hm
  refine ⟨⟨by have := h.1; omega, fun i hi => h.2 i (by omega)⟩, ?_⟩
  simp only [list, ← List.map_take, List.take_range, Nat.min_eq_left hm]
end Elt
/-! ### What the evaluator owes of rows -/
section
variable {α : Type} {e : Elt α}
theorem appOK {L new : List α} {ty : TypeId} {own : Option Blk} {n m size bytes : Nat} {src res : List Value} (hown : own = some (.vec (e.row L) ty size)) (hs : size = e.s) (hm : m = new.length) (hsrc : src = e.row new) (hn : n ≤ L.length) (hres : res = e.row (L.take n ++ new))
    (h1 : 1 ≤ m) (hb : n + m ≤ 16777216) (hby : (n + m) * bytes ≤ 140737488355328) : AppOK own n mk size bytes m src 0 res := by
  subst hown
  subst hs
  subst hm
  subst hsrc
  subst hres
  refine ⟨e.row (L.take n), e.row new, ?_, ?_, h1, hb, hby, Elt.row_app _ _, rfl, ?_, (Elt.row_take L n).symm⟩
  · rw [sub_of (by rw [Elt.row_len]; omega), List.drop_zero, List.take_of_length_le (by rw [Elt.row_len]; omega)]
  · exact allB_iff.2 fun c hc => leaf_of_leafG (Elt.row_pl _ c hc)
  · rw [Elt.row_len]; exact Nat.mul_le_mul_right _ hn
theorem appOK_nil {new : List α} {m size bytes : Nat} {src res : List Value} (hs : size = e.s) (hm : m = new.length) (hsrc : src = e.row new) (hres : res = e.row new)
    (h1 : 1 ≤ m) (hb : m ≤ 16777216) (hby : m * bytes ≤ 140737488355328) : AppOK none 0 0 size bytes m src 0 res := by
  subst hs
  subst hm
  subst hsrc
  subst hres
  refine ⟨[], e.row new, ?_, ?_, h1, by omega, by rw [Nat.zero_add]; exact hby, rfl, rfl, rfl, rfl⟩
  · rw [sub_of (by rw [Elt.row_len]; omega), List.drop_zero, List.take_of_length_le (by rw [Elt.row_len]; omega)]
  · exact allB_iff.2 fun c hc => leaf_of_leafG (Elt.row_pl _ c hc)
theorem slOK_pre {size k n h : Nat} {i : Int} {cs : List Value} {ty : TypeId} (hi : i = (h : Int)) (hh : h ≤ n) (hs : 1 ≤ size) (hc : n * size ≤ cs.length) :
    SlOK size k 0 n mk none (some i) (some (.vec cs ty size)) (.slice (some ⟨k, 0, none⟩) h mk) :=
  ⟨0, h, rfl, hi, Nat.zero_le _, hh, Or.inl ⟨Nat.le_refl _, ⟨cs, ty, rfl, hs, by rw [Nat.sub_self, Nat.zero_add]; exact hc⟩, Or.inl rfl, by simp⟩⟩
theorem read_row {P : Program} {ty : TypeId} (ha : aggT P ty = some true) (hs : sizeOfT P ty = some e.s) {L : List α} {i : Nat} {x : α} (h : L[i]? = some x) : readPart P ty (e.row L) (0 + (Int.ofNat i).toNat * e.s) = some (.agg ⟨e.cells x⟩) := by
  have := (Elt.canon0 (e := e) L).1.read (P := P) (ty := ty) ha hs (i := i) (x := x) (by rw [(Elt.canon0 L).2]; exact h)
  exact this
theorem i64_pred {n : Nat} (h : n < 9223372036854775807) : Value.int .i64 (IntKind.i64.wrap (Int.ofNat n.succ - 1)) = Value.int .i64 (Int.ofNat n) := by
  have e : Int.ofNat n.succ - 1 = (n : Int) := by show ((n + 1 : Nat) : Int) - 1 = n; omega
  rw [e]
  exact i64_id (w := (n : Int)) rfl (by omega) (by omega)
theorem nat_in {n : Nat} : (0 : Int) ≤ Int.ofNat n ∧ Int.ofNat n < Int.ofNat n.succ := ⟨Int.natCast_nonneg n, Int.ofNat_lt.2 (Nat.lt_succ_self n)⟩
end
abbrev i64s (l : List Int) : List Value := l.map (Value.int .i64)
/-- Numbers. -/
def eInt : Elt Int := ⟨fun z => [.int .i64 z], 1, fun cs => match cs with | [.int _ z] => z | _ => 0, fun _ => rfl, fun _ => rfl, fun x c hc => by simp at hc; subst hc; rfl⟩
def eWord : Elt Int := ⟨fun z => [.int .u64 z], 1, fun cs => match cs with | [.int _ z] => z | _ => 0, fun _ => rfl, fun _ => rfl, fun x c hc => by simp at hc; subst hc; rfl⟩
/-- A box: five spans. -/
structure Bx where
  a0 : Int
  b0 : Int
  a1 : Int
  b1 : Int
  a2 : Int
  b2 : Int
  a3 : Int
  b3 : Int
  a4 : Int
  b4 : Int
deriving DecidableEq
def Bx.cs (x : Bx) : List Value := [.int .i64 x.a0, .int .i64 x.b0, .int .i64 x.a1, .int .i64 x.b1, .int .i64 x.a2, .int .i64 x.b2, .int .i64 x.a3, .int .i64 x.b3, .int .i64 x.a4, .int .i64 x.b4]
def eBox : Elt Bx := ⟨Bx.cs, 10, fun cs => match cs with | [.int _ a0, .int _ b0, .int _ a1, .int _ b1, .int _ a2, .int _ b2, .int _ a3, .int _ b3, .int _ a4, .int _ b4] => ⟨a0, b0, a1, b1, a2, b2, a3, b3, a4, b4⟩ | _ => ⟨0, 0, 0, 0, 0, 0, 0, 0, 0, 0⟩, fun _ => rfl, fun _ => rfl, fun x c hc => by
  simp [Bx.cs] at hc
  rcases hc with rfl | rfl | rfl | rfl | rfl | rfl | rfl | rfl | rfl | rfl <;> rfl⟩
/-- A step of a proof. -/
structure Stp where
  sum : Bool
  place : Int
  at_ : Int
deriving DecidableEq
def eStp : Elt Stp := ⟨fun x => [.bool x.sum, .int .i64 x.place, .int .i64 x.at_], 3, fun cs => match cs with | [.bool s, .int _ p, .int _ a] => ⟨s, p, a⟩ | _ => ⟨false, 0, 0⟩, fun _ => rfl, fun _ => rfl, fun x c hc => by
  simp at hc
  rcases hc with rfl | rfl | rfl <;> rfl⟩
/-- A piece: a box, a value. -/
structure Pc where
  box : Bx
  val : Int
deriving DecidableEq
def ePc : Elt Pc := ⟨fun x => x.box.cs ++ [.int .i64 x.val], 11, fun cs => match cs with | [.int _ a0, .int _ b0, .int _ a1, .int _ b1, .int _ a2, .int _ b2, .int _ a3, .int _ b3, .int _ a4, .int _ b4, .int _ v] => ⟨⟨a0, b0, a1, b1, a2, b2, a3, b3, a4, b4⟩, v⟩ | _ => ⟨⟨0, 0, 0, 0, 0, 0, 0, 0, 0, 0⟩, 0⟩, fun _ => rfl, fun _ => rfl, fun x c hc => by
  simp [Bx.cs] at hc
  rcases hc with rfl | rfl | rfl | rfl | rfl | rfl | rfl | rfl | rfl | rfl | rfl <;> rfl⟩
/-- cells of numbers and bools that are the same. -/
theorem cellsEq_app {a b c d : List Value} (h : a.length = b.length) : cellsEq (a ++ c) (b ++ d) = (cellsEq a b && cellsEq c d) := by
  have key : ∀ (x y : Value) (xs ys : List Value), xs.length = ys.length → cellsEq (x :: xs) (y :: ys) = (leafEq x y && cellsEq xs ys) := by
    intro x y xs ys hl
    cases xs with
    | nil =>
      cases ys with
      | nil => simp [cellsEq]
      | cons _ _ => simp at hl
    | cons u us =>
      cases ys with
      | nil => simp at hl
      | cons _ _ => simp [cellsEq]
  have key2 : ∀ (x y : Value) (xs ys : List Value), cellsEq (x :: xs) (y :: ys) = (leafEq x y && cellsEq xs ys) := by
    intro x y xs ys
    by_cases hl : xs.length = ys.length
    · exact key x y xs ys hl
    · cases xs with
      | nil =>
        cases ys with
        | nil => simp at hl
        | cons _ _ => simp [cellsEq]
      | cons u us =>
        cases ys with
        | nil => simp [cellsEq]
        | cons _ _ => simp [cellsEq]
  induction a generalizing b with
  | nil =>
    cases b with
    | nil => simp [cellsEq]
    | cons _ _ => simp at h
  | cons x a ih =>
    cases b with
    | nil => simp at h
    | cons y b =>
      simp only [List.cons_append, key2, ih (b := b) (by simpa using h), Bool.and_assoc]
end Go.Proofs.Ythbaccmhdffjdaa.Ev


set_option linter.unusedVariables false
set_option linter.unusedSimpArgs false
set_option maxRecDepth 100000
namespace Go.Proofs.Ythbaccmhdffjdaa.Tr
open Go Go.RowKit Go.Proofs.Ythbaccmhdffjdaa.Ev Go.Proofs.Ythbaccmhdffjdaa.NodeE
/-- A point. -/
structure Pt where
  p0 : Int
  p1 : Int
  p2 : Int
  p3 : Int
def Pt.cs (p : Pt) : List Value := [.int .i64 p.p0, .int .i64 p.p1, .int .i64 p.p2, .int .i64 p.p3]
def Pt.at (p : Pt) (f : Int) : Int := bif f == 0 then p.p0 else bif f == 1 then p.p1 else bif f == 2 then p.p2 else p.p3
/-- Where an inner word sends a point. -/
def goes (p : Pt) (w : Int) : Int := bif decide (p.at (uF w) ≤ low32 w) then uX w else uY w
/-- The leaf that a point comes to, in so many steps, from a place. -/
def goW (ws : List Int) (p : Pt) : Nat → Nat → Option Nat
  | 0, _ => none
  | k + 1, a => match ws[a]? with
    | none => none
    | some w => bif okB w then bif lfB w then some a else goW ws p k (goes p w).toNat else none
def walkI (ws : List Int) (p : Pt) : Int := match goW ws p 31 0 with
  | some a => a
  | none => -1
def endV (ws : List Int) (p : Pt) : Int := match goW ws p 31 0 with
  | some a => low32 (ws.getD a 0)
  | none => 0
def endL (ws : List Int) (p : Pt) : Bool := match goW ws p 31 0 with
  | some _ => true
  | none => false
theorem end_some {ws : List Int} {p : Pt} {a : Nat} (h : goW ws p 31 0 = some a) : walkI ws p = a ∧ endV ws p = low32 (ws.getD a 0) ∧ endL ws p = true := by
  simp only [walkI, endV, endL, h]; exact ⟨trivial, trivial, trivial⟩
theorem end_none {ws : List Int} {p : Pt} (h : goW ws p 31 0 = none) : walkI ws p = -1 ∧ endV ws p = 0 ∧ endL ws p = false := by
  simp only [walkI, endV, endL, h]; exact ⟨trivial, trivial, trivial⟩
theorem goW_step {ws : List Int} {p : Pt} {k a : Nat} {w : Int} (hw : ws[a]? = some w) (ho : okB w = true) (hl : lfB w = false) : goW ws p (k + 1) a = goW ws p k (goes p w).toNat := by
  simp only [goW, hw, ho, hl, cond_true, cond_false]
theorem goW_leaf {ws : List Int} {p : Pt} {k a : Nat} {w : Int} (hw : ws[a]? = some w) (ho : okB w = true) (hl : lfB w = true) : goW ws p (k + 1) a = some a := by
  simp only [goW, hw, ho, hl, cond_true]
theorem goW_bad {ws : List Int} {p : Pt} {k a : Nat} {w : Int} (hw : ws[a]? = some w) (ho : okB w = false) : goW ws p (k + 1) a = none := by
  simp only [goW, hw, ho, cond_false]
theorem goW_out {ws : List Int} {p : Pt} {k a : Nat} (hw : ws.length ≤ a) : goW ws p (k + 1) a = none := by
  simp only [goW, List.getElem?_eq_none hw]
/-- Where a point comes to is a leaf. -/
theorem goW_is {ws : List Int} {p : Pt} : ∀ {k b a : Nat}, goW ws p k b = some a → ∃ w, ws[a]? = some w ∧ okB w = true ∧ lfB w = true
  | 0, b, a, h => by simp [goW] at h
  | k + 1, b, a, h => by
    cases hw : ws[b]? with
    | none => simp only [goW, hw] at h; exact absurd h (by simp)
    | some w =>
      cases ho : okB w with
      | false => rw [goW_bad hw ho] at h; exact absurd h (by simp)
      | true =>
        cases hl : lfB w with
        | false => rw [goW_step hw ho hl] at h; exact goW_is h
        | true => rw [goW_leaf hw ho hl] at h; injection h with h; subst h; exact ⟨w, hw, ho, hl⟩
/-- What a word that is an inner node tells. -/
theorem inner_bounds {w : Int} (h : okB w = true) (hl : lfB w = false) : (0 ≤ uF w ∧ uF w < 4) ∧ (1 ≤ uX w ∧ uX w < 31) ∧ (1 ≤ uY w ∧ uY w < 31) := by
  have hp : pkB w = w := by
    simp only [okB, Bool.and_eq_true, beq_iff_eq] at h
    exact h.2
  have hz : w ≠ 0 := by
    simp only [okB, Bool.and_eq_true, Bool.not_eq_true', beq_eq_false_iff_ne] at h
    exact h.1
  simp only [pkB, hl, cond_false] at hp
  cases hr : rightB false 0 (uF w) (low32 w) (uX w) (uY w)
  · rw [pack_no hr] at hp
    exact absurd hp.symm hz
  · obtain ⟨_, f0, f1, _, ⟨x0, x1⟩, y0, y1⟩ := right_inner hr
    exact ⟨⟨f0, f1⟩, ⟨x0, x1⟩, y0, y1⟩
theorem goes_range {p : Pt} {w : Int} (h : okB w = true) (hl : lfB w = false) : 1 ≤ goes p w ∧ goes p w < 31 := by
  obtain ⟨_, hx, hy⟩ := inner_bounds h hl
  unfold goes
  cases decide (p.at (uF w) ≤ low32 w)
  · exact hy
  · exact hx
/-! ### Right trees -/
/-- What an inner node names. -/
def namesW (w : Int) : List Int := bif lfB w then [] else [uX w, uY w]
def goodW (dim : Int) (n i : Nat) (w : Int) : Bool := okB w && (lfB w || !(decide (dim ≤ uF w) || (uX w == uY w || (decide (uX w ≤ i) || (decide (uY w ≤ i) || (decide ((n : Int) ≤ uX w) || decide ((n : Int) ≤ uY w)))))))
def allGood (dim : Int) (n : Nat) : Nat → List Int → Bool
  | _, [] => true
  | i, w :: ws => goodW dim n i w && allGood dim n (i + 1) ws
def named (ws : List Int) (k : Int) : Nat := (ws.flatMap namesW).count k
def onceI (ws : List Int) (n : Nat) : Bool := (List.range n).all fun k => k == 0 || named ws (k : Int) == 1
def rightI (ws : List Int) (dim : Int) : Bool := decide (1 ≤ ws.length) && (decide (ws.length ≤ 31) && (allGood dim ws.length 0 ws && onceI ws ws.length))
theorem named_snoc (ws : List Int) (w k : Int) : named (ws ++ [w]) k = named ws k + (namesW w).count k := by
  simp [named, List.flatMap_append, List.count_append]
theorem named_nil (k : Int) : named [] k = 0 := rfl
theorem allGood_get {dim : Int} {n : Nat} : ∀ {ws : List Int} {i : Nat}, allGood dim n i ws = true → ∀ (j : Nat) (w : Int), ws[j]? = some w → goodW dim n (i + j) w = true
  | w :: ws, i, h, 0, v, hv => by
    simp only [allGood, Bool.and_eq_true] at h
    simp at hv; subst hv; exact h.1
  | w :: ws, i, h, j + 1, v, hv => by
    simp only [allGood, Bool.and_eq_true] at h
    have := allGood_get h.2 j v (by simpa using hv)
    rw [show i + (j + 1) = i + 1 + j by omega]; exact this
theorem allGood_of {dim : Int} {n : Nat} : ∀ {ws : List Int} {i : Nat}, (∀ (j : Nat) (w : Int), ws[j]? = some w → goodW dim n (i + j) w = true) → allGood dim n i ws = true
  | [], _, _ => rfl
  | w :: ws, i, h => by
    simp only [allGood, Bool.and_eq_true]
    refine ⟨h 0 w rfl, allGood_of fun j v hv => ?_⟩
    have := h (j + 1) v (by simpa using hv)
    rw [show i + 1 + j = i + (j + 1) by omega]; exact this
theorem allGood_bad {dim : Int} {n : Nat} {ws : List Int} {i j : Nat} {w : Int} (hw : ws[j]? = some w) (h : goodW dim n (i + j) w = false) : allGood dim n i ws = false := by
  cases hg : allGood dim n i ws
  · rfl
  · have := allGood_get hg j w hw
    rw [h] at this; exact absurd this (by simp)
theorem good_leaf {dim : Int} {n i : Nat} {w : Int} (ho : okB w = true) (hl : lfB w = true) : goodW dim n i w = true := by simp [goodW, ho, hl]
theorem good_inner {dim : Int} {n i : Nat} {w : Int} (h : goodW dim n i w = true) (hl : lfB w = false) : okB w = true ∧ uF w < dim ∧ uX w ≠ uY w ∧ (i : Int) < uX w ∧ (i : Int) < uY w ∧ uX w < n ∧ uY w < n := by
  simp [goodW, hl] at h
  obtain ⟨h0, h1, h2, h3, h4, h5, h6⟩ := h
  exact ⟨h0, h1, h2, h3, h4, h5, h6⟩
theorem good_mk {dim : Int} {n i : Nat} {w : Int} (hl : lfB w = false) (h0 : okB w = true) (h1 : uF w < dim) (h2 : uX w ≠ uY w) (h3 : (i : Int) < uX w) (h4 : (i : Int) < uY w) (h5 : uX w < n) (h6 : uY w < n) : goodW dim n i w = true := by
  simp [goodW, hl]
  exact ⟨h0, h1, h2, h3, h4, h5, h6⟩
theorem right_parts {ws : List Int} {dim : Int} : rightI ws dim = true ↔ (1 ≤ ws.length ∧ ws.length ≤ 31) ∧ (∀ (j : Nat) (w : Int), ws[j]? = some w → goodW dim ws.length j w = true) ∧ ∀ k : Nat, 1 ≤ k → k < ws.length → named ws (k : Int) = 1 := by
  simp only [rightI, Bool.and_eq_true, decide_eq_true_eq, onceI, List.all_eq_true, List.mem_range, Bool.or_eq_true, beq_iff_eq]
  constructor
  · rintro ⟨h1, h2, h3, h4⟩
    refine ⟨⟨h1, h2⟩, fun j w hw => by have := allGood_get h3 j w hw; rwa [Nat.zero_add] at this, fun k hk hn => ?_⟩
    rcases h4 k hn with h | h
    · omega
    · exact h
  · rintro ⟨⟨h1, h2⟩, h3, h4⟩
    refine ⟨h1, h2, allGood_of fun j w hw => by rw [Nat.zero_add]; exact h3 j w hw, fun k hk => ?_⟩
    by_cases h0 : k = 0
    · exact Or.inl h0
    · exact Or.inr (h4 k (by omega) hk)
theorem right_len {ws : List Int} {dim : Int} (h : ¬ (1 ≤ ws.length ∧ ws.length ≤ 31)) : rightI ws dim = false := by
  cases hr : rightI ws dim
  · rfl
  · exact absurd (right_parts.1 hr).1 h
theorem right_bad {ws : List Int} {dim : Int} {j : Nat} {w : Int} (hw : ws[j]? = some w) (h : goodW dim ws.length j w = false) : rightI ws dim = false := by
  cases hr : rightI ws dim
  · rfl
  · have := (right_parts.1 hr).2.1 j w hw
    rw [h] at this; exact absurd this (by simp)
theorem right_once {ws : List Int} {dim : Int} {k : Nat} (h1 : 1 ≤ k) (h2 : k < ws.length) (h : named ws (k : Int) ≠ 1) : rightI ws dim = false := by
  cases hr : rightI ws dim
  · rfl
  · exact absurd ((right_parts.1 hr).2.2 k h1 h2) h
/-- Leaves' places. -/
def leafIx : Nat → List Int → List Int
  | _, [] => []
  | i, w :: ws => bif okB w && lfB w then (i : Int) :: leafIx (i + 1) ws else leafIx (i + 1) ws
theorem leafIx_app : ∀ (l m : List Int) (i : Nat), leafIx i (l ++ m) = leafIx i l ++ leafIx (i + l.length) m
  | [], m, i => by simp [leafIx]
  | w :: l, m, i => by
    simp only [List.cons_append, leafIx, leafIx_app l m (i + 1), List.length_cons]
    rw [show i + (l.length + 1) = i + 1 + l.length by omega]
    cases okB w && lfB w <;> simp
def leavesI (ws : List Int) : List Int := bif rightI ws 4 then leafIx 0 ws else []
/-- One step of the depths. -/
def depS (i : Nat) (w : Int) (d : Int × List Int) : Int × List Int :=
  (max d.1 (d.2.getD i 0), bif okB w && lfB w then d.2 else (d.2.set (sX w).toNat (d.2.getD i 0 + 1)).set (sY w).toNat (d.2.getD i 0 + 1))
def depGo : Nat → List Int → Int × List Int → Int × List Int
  | _, [], d => d
  | i, w :: ws, d => depGo (i + 1) ws (depS i w d)
theorem depGo_app : ∀ (l m : List Int) (i : Nat) (d : Int × List Int), depGo i (l ++ m) d = depGo (i + l.length) m (depGo i l d)
  | [], m, i, d => rfl
  | w :: l, m, i, d => by
    simp only [List.cons_append, depGo, depGo_app l m (i + 1), List.length_cons]
    rw [show i + (l.length + 1) = i + 1 + l.length by omega]
def dep0 (n : Nat) : Int × List Int := (1, (List.replicate n 0).set 0 1)
def depthI (ws : List Int) : Int := bif rightI ws 4 then (depGo 0 ws (dep0 ws.length)).1 else 0
end Go.Proofs.Ythbaccmhdffjdaa.Tr


set_option linter.unusedVariables false
set_option linter.unusedSimpArgs false
set_option maxRecDepth 100000
namespace Go.Proofs.Ythbaccmhdffjdaa.PickE
open Go Go.RowKit Go.Proofs.Ythbaccmhdffjdaa.Ev
theorem pick0 (cs : List Value) (off n c : Nat) (i : Int)  {E : Env} (hE : EnvOK E Try.prog Try.f44 2 1 (.int .i64 0) [] []) (hob : all ([Back (Value.int IntKind.i64 ((0 : Int))) (Value.int IntKind.i64 ((0 : Int))) [] [] [], ((n : Int) == (0 : Int)) = true])) : Sat E [.code (bodyOf Try.f44)] (st0 Try.f44 [.slice (some ⟨0, off, none⟩) n c, .int .i64 i] (roRows [cs]) 1) :=
  by_ret (T := auto0 t_none) (h := hints []) (ws := [.b true]) (nx' := 1) hE hm (auto0_ok t_none_ok) (by omega) (by simp) (by simp) (by kernel_rfl) hob
theorem pick1 (cs : List Value) (off n c : Nat) (i z : Int)  {E : Env} (hE : EnvOK E Try.prog Try.f44 2 1 (.int .i64 z) [] []) (hob : all ([Back (Value.int IntKind.i64 z) (Value.int IntKind.i64 z) [] [] [], readPart Try.prog 3 cs (off + (i.tmod ((n : Int))).toNat * 1) = some (Value.int IntKind.i64 z), (0 : Int) ≤ i.tmod ((n : Int)) ∧ i.tmod ((n : Int)) < (n : Int), (n : Int) ≠ (0 : Int), ((n : Int) == (0 : Int)) = false])) : Sat E [.code (bodyOf Try.f44)] (st0 Try.f44 [.slice (some ⟨0, off, none⟩) n c, .int .i64 i] (roRows [cs]) 1) :=
  by_ret (T := auto0 t_none) (h := hints [(3, 4, { p := true }), (3, 5, { p := true }), (3, 6, { o := some (.int .i64 z) })]) (ws := [.b false]) (nx' := 1) hE hm (auto0_ok t_none_ok) (by omega) (by simp) (by simp) (by kernel_rfl) hob
theorem pickN (i : Int)  {E : Env} (hE : EnvOK E Try.prog Try.f44 2 0 (.int .i64 0) [] []) (hob : all ([Back (Value.int IntKind.i64 ((0 : Int))) (Value.int IntKind.i64 ((0 : Int))) [] [] []])) : Sat E [.code (bodyOf Try.f44)] (st0 Try.f44 [.slice none 0 0, .int .i64 i] (roRows []) 0) :=
  by_ret (T := auto0 t_none) (h := hints []) (ws := []) (nx' := 0) hE hm (auto0_ok t_none_ok) (by omega) (by simp) (by simp) (by kernel_rfl) hob
def pickI (zs : List Int) (i : Int) : Int := zs.getD (Int.tmod i zs.length).toNat 0
def pick_F : RoF := fun xs css =>
  match xs, css with
  | [.slice none 0 0, .int .i64 i], [] => some (.int .i64 (pickI [] i), [], [])
  | [.slice (some ⟨0, off, none⟩) n c, .int .i64 i], [cs] => some (.int .i64 (pickI (intsOf cs off n) i), [], [IntRow .i64 cs off n, 0 ≤ i])
  | _, _ => none
theorem pick_sum : SumOK Try.prog 44 (roSum pick_F) := by
  refine roSum_ok (en Try.func44 rfl) ?_ (fun xs css r h => ?_)
  · intro xs css v blks ob h hob hpl hl
    unfold pick_F at h
    split at h
    · rename_i i
      simp only [Option.some.injEq, Prod.mk.injEq] at h
      obtain ⟨rfl, rfl, rfl⟩ := h
      refine ⟨by simp, by simp, fun j hj => by simp [nms, nm1, nm0] at hj, ?_⟩
      refine spec_of_sat Try.func44 rfl fun E hE => ?_
      exact pickN i hE ⟨⟨rfl, rfl⟩, trivial⟩
    · rename_i off n c i cs
      simp only [Option.some.injEq, Prod.mk.injEq] at h
      obtain ⟨rfl, rfl, rfl⟩ := h
      refine ⟨by simp, by simp, fun j hj => by simp [nms, nm1, nm0] at hj, ?_⟩
      obtain ⟨h1, h2⟩ := hob _ (List.mem_cons_self ..)
      have h0 : 0 ≤ i := hob _ (by simp)
      refine spec_of_sat Try.func44 rfl fun E hE => ?_
      have hlen := intsOf_len h1
      by_cases hn : n = 0
      · subst hn
        have e : pickI (intsOf cs off 0) i = 0 := by simp [pickI, intsOf]
        rw [e] at hE
        exact pick0 cs off 0 c i hE ⟨⟨rfl, rfl⟩, rfl, trivial⟩
      · have hm0 : 0 ≤ i.tmod (n : Int) := Int.tmod_nonneg _ h0
        have hm1 : i.tmod (n : Int) < (n : Int) := by have := Int.tmod_lt_of_pos i (b := (n : Int)) (by omega); omega
        refine pick1 cs off n c i _ hE ⟨⟨rfl, rfl⟩, ?_, ⟨hm0, hm1⟩, by omega, ?_, trivial⟩
        · refine readPart_one (by kernel_rfl) ?_ rfl
          rw [Nat.mul_one, h2 _ (by omega)]
          simp only [pickI, hlen]
        · have : ((n : Int) == 0) = false := by rw [beq_eq_false_iff_ne]; omega
          exact this
    · simp at h
  · unfold pick_F at h
    split at h <;> simp at h <;> simp
noncomputable def t_pick : Sums := upd t_none 44 (some (roSum pick_F))
theorem t_pick_ok : SumsOK Try.prog t_pick := sums_cons t_none_ok pick_sum
end Go.Proofs.Ythbaccmhdffjdaa.PickE


set_option linter.unusedVariables false
set_option linter.unusedSimpArgs false
namespace Go.Proofs.Ythbaccmhdffjdaa.Ev
open Go Go.RowKit Go.Deep
/-- A slice whose elements are such. -/
def Opened {α : Type} (W : World) (e : Elt α) (good : α → Prop) (v : Value) : Prop :=
  v = .slice none 0 0 ∨ ∃ (b off cap : Nat) (l : List α), v = .slice (some ⟨b, off, none⟩) l.length cap ∧ l.length ≤ cap ∧ cap ≤ maxLen ∧ (∀ x ∈ l, good x) ∧ ∃ c ty fz, W.heap[b]? = some (.cells c ty fz) ∧ ∀ i u, (e.row l)[i]? = some u → c[off + i]? = some u
theorem row_get {α : Type} (e : Elt α) : ∀ (l : List α) (i : Nat) (u : Value), (e.row l)[i]? = some u → ∃ (j r : Nat) (x : α), l[j]? = some x ∧ (e.cells x)[r]? = some u ∧ i = j * e.s + r ∧ r < e.s
  | [], i, u, h => by simp [Elt.row] at h
  | x :: l, i, u, h => by
    rw [Elt.row_cons] at h
    by_cases hi : i < e.s
    · rw [List.getElem?_append_left (by rw [e.len]; exact hi)] at h
      exact ⟨0, i, x, rfl, h, by omega, hi⟩
    · rw [List.getElem?_append_right (by rw [e.len]; omega), e.len] at h
      obtain ⟨j, r, y, h1, h2, h3, h4⟩ := row_get e l _ u h
      exact ⟨j + 1, r, y, by simpa using h1, h2, by rw [Nat.succ_mul]; omega, h4⟩
theorem choose_list {α : Type} (p : Nat → α → Prop) : ∀ n, (∀ i, i < n → ∃ x, p i x) → ∃ l : List α, l.length = n ∧ ∀ i x, l[i]? = some x → p i x
  | 0, _ => ⟨[], rfl, by simp⟩
  | n + 1, h => by
    obtain ⟨l, h1, h2⟩ := choose_list p n (fun i hi => h i (by omega))
    obtain ⟨x, hx⟩ := h n (by omega)
    refine ⟨l ++ [x], by simp [h1], fun i y hy => ?_⟩
    by_cases hi : i < l.length
    · rw [List.getElem?_append_left hi] at hy; exact h2 i y hy
    · rw [List.getElem?_append_right (by omega)] at hy
      have : i - l.length = 0 := by
        rcases Nat.eq_zero_or_pos (i - l.length) with h0 | h0
        · exact h0
        · rw [List.getElem?_eq_none (by simp; omega)] at hy; simp at hy
      rw [this] at hy
      simp at hy
      subst hy
      have : i = n := by omega
      subst this
      exact hx
section
variable {H : Type} {enc : TypeId × Value → H} {P : Program} {W : World} {base : Nat} {spare : Nat → Bool} {held : Bool} {r : Reach} {b0 : Nat}
theorem open_row {α : Type} {e : Elt α} {good : α → Prop} {t et : TypeId} {fuel : Nat} {v : Value} {y : DataW H × List MemPlace} (ht : P.underlying t = some (.slice et)) (hc : P.cellsOf et = e.s)
    (elem : ∀ n cs z, DataW.trod enc P W base spare held n et cs = some z → ∃ x, cs = e.cells x ∧ good x) (hv : Cell.okWide P W r b0 t v) (h : DataW.trod enc P W base spare held fuel t [v] = some y) : Opened W e good v := by
  rcases open_slice ht h with ⟨h0, _⟩ | ⟨a, len, cap, m, n, D, Pl, hcs, _, hl, hm, hmm, _, hx⟩
  · left; simpa using h0
  right
  have hcs : v = .slice (some a) len cap := by simpa using hcs
  subst hcs
  have hok : W.has P r b0 a et cap := by
    simp only [Cell.okWide, ht, Cell.ok] at hv
    exact hv.2.2
  obtain ⟨_, hsp, row, cells, hsh, _⟩ := hok
  obtain ⟨blk, off, spot⟩ := a
  simp only at hsp hsh
  subst hsp
  have hlm : len ≤ m := by rw [hmm]; split <;> omega
  obtain ⟨c, ty, fz, hblk⟩ : ∃ c ty fz, W.heap[blk]? = some (.cells c ty fz) := by
    unfold World.shape? at hsh
    split at hsh
    · rename_i c ty fz hb; exact ⟨c, ty, fz, hb⟩
    · simp at hsh
  obtain ⟨l, hl1, hl2⟩ := choose_list (fun i x => good x ∧ ∀ j u, (e.cells x)[j]? = some u → c[off + (i * e.s + j)]? = some u) len (fun i hi => by
    obtain ⟨cs', h1, h2⟩ := hx i (by omega)
    obtain ⟨x, rfl, hg⟩ := elem _ _ _ h2
    obtain ⟨_, hlen, hcell⟩ := World.cells?_some h1
    refine ⟨x, hg, fun j u hj => ?_⟩
    have hjl : j < P.cellsOf et := by
      have := (List.getElem?_eq_some_iff.1 hj).1
      omega
    have := hcell j hjl
    rw [add_add, hj, plain_add, hc] at this
    simpa [World.cell?, hblk] using this)
  refine ⟨blk, off, cap, l, by rw [hl1], by rw [hl1]; exact hl, hm, fun x hx' => ?_, c, ty, fz, hblk, fun i u hu => ?_⟩
  · obtain ⟨j, hj⟩ := List.getElem?_of_mem hx'
    exact (hl2 j x hj).1
  · obtain ⟨j, q, x, h1, h2, h3, _⟩ := row_get e l i u hu
    rw [h3]
    exact (hl2 j x h1).2 q u h2
theorem elem_int {k : IntKind} {t : TypeId} (ht : P.underlying t = some (.int k)) (n : Nat) (cs : List Value) (z : DataW H × List MemPlace) (h : DataW.trod enc P W base spare held n t cs = some z) : ∃ x : Int, cs = [.int k x] ∧ (Lit.int k x).wf = true := by
  obtain ⟨m, h1, _, h2⟩ := DataW.trod_int ht h
  exact ⟨m, h1, h2⟩
theorem wf64 {n : Int} (h : (Lit.int .i64 n).wf = true) : I64 n := by
  simp [Lit.wf, IntKind.has, IntKind.min, IntKind.max, IntKind.signed, IntKind.bits] at h
  exact ⟨by omega, by omega⟩
end
/-- Names stand for these addresses. -/
def Nm.at (l : List (Nat × Nat)) : Nm := ⟨fun k => match l[k]? with | some p => p.1 | none => 0, fun k => match l[k]? with | some p => p.2 | none => 0, fun _ => 0⟩
/-- What a call does that only reads, where its arguments lie there. -/
theorem calls_ro {P : Program} {f : FuncId} {args : List Value} {H0 : Heap} {nx : Nat} {v : Value} (hs : CallSpec P f args H0 nx v (assocN [] [])) (hv : gnd v = true) (hro : ∀ j b, H0 j = some b → j < nx ∧ ∃ cs, b = .ro cs ∧ ∀ c ∈ cs, leafG c = true)
    (hnm : ∀ u ∈ args, ∀ j ∈ nms u, j < nx) {W : World} {l : List (Nat × Nat)} (hat : ∀ j cs, H0 j = some (.ro cs) → (Blk.ro cs).Holds (Nm.at l) j W.heap[(Nm.at l).blk j]?) :
    Calls P f (args.map (ren (Nm.at l))).toArray W fun e w' => e = .returned v ∧ Below W.heap.size W w' := by
  have hwr : ∀ j b, H0 j = some b → b.wr = false := fun j b hb => by obtain ⟨_, cs, rfl, _⟩ := hro j b hb; rfl
  have hH : HC (fun _ => False) W (Nm.at l) (· < nx) H0 W := by
    refine ⟨BelowBut.refl _ _, fun j b hb => (hro j b hb).1, fun j b hb => ?_, fun j b hb => ?_, fun j b hb hw => by rw [hwr j b hb] at hw; simp at hw, fun i j b c hb hc hw he => by rw [hwr i b hb] at hw; simp at hw⟩
    · obtain ⟨_, cs, rfl, hp⟩ := hro j b hb
      exact fun c hc => In0.leafG (hp c hc)
    · obtain ⟨_, cs, rfl, _⟩ := hro j b hb
      exact hat j cs hb
  refine (ro_own hs hwr (fun _ h => h) hH (fun u hu => inB_lt (hnm u hu))).mono ?_
  rintro e w' ⟨g', B', _, hc, rfl⟩
  exact ⟨by rw [ren_gnd g' hv], hc.below.below⟩
end Go.Proofs.Ythbaccmhdffjdaa.Ev


set_option linter.unusedVariables false
set_option linter.unusedSimpArgs false
namespace Go.Proofs.Ythbaccmhdffjdaa.Ev
open Go Go.RowKit
/-- Under that name: nil, or a row. -/
def CanAt {α : Type} (e : Elt α) (good : α → Prop) (k : Nat) (u : Value) (r : Option (List Value)) : Prop :=
  (u = .slice none 0 0 ∧ r = none) ∨ ∃ (l : List α) (cap : Nat), u = .slice (some ⟨k, 0, none⟩) l.length cap ∧ r = some (e.row l) ∧ l.length ≤ cap ∧ cap ≤ maxLen ∧ ∀ x ∈ l, good x
section
variable {α : Type} {e : Elt α} {good : α → Prop} {k : Nat} {u : Value} {r : Option (List Value)}
theorem CanAt.nm0 (h : CanAt e good k u r) : ∀ j ∈ nm0 u, j = k := by
  rcases h with ⟨rfl, _⟩ | ⟨l, cap, rfl, _⟩
  · simp [Ev.nm0]
  · simp [Ev.nm0]
theorem CanAt.nms (h : CanAt e good k u r) : ∀ j ∈ nms u, j = k := by
  rcases h with ⟨rfl, _⟩ | ⟨l, cap, rfl, _⟩
  · simp [Ev.nms, nm1, Ev.nm0]
  · simp [Ev.nms, nm1, Ev.nm0]
theorem CanAt.ren (h : CanAt e good k u r) (g : Nm) : ren g u = ren0 g u := by
  rcases h with ⟨rfl, _⟩ | ⟨l, cap, rfl, _⟩ <;> rfl
theorem small_cap {c : Nat} (h : c ≤ maxLen) : Nat.ble mark c = false := by
  cases hb : Nat.ble mark c with
  | false => rfl
  | true =>
    have := Nat.le_of_ble_eq_true hb
    unfold mark maxLen at *
    omega
theorem Opened.can {W : World} {v : Value} (h : Opened W e good v) (k : Nat) : ∃ (u : Value) (r : Option (List Value)) (ad : Nat × Nat), CanAt e good k u r ∧ (∀ l : List (Nat × Nat), l[k]? = some ad → ren0 (Nm.at l) u = v) ∧ (∀ j ∈ Ev.nms u, j = k) ∧
    ∀ cs, r = some cs → (∀ c ∈ cs, leafG c = true) ∧ ∀ l : List (Nat × Nat), l[k]? = some ad → (Blk.ro cs).Holds (Nm.at l) k W.heap[(Nm.at l).blk k]? := by
  rcases h with rfl | ⟨b, off, cap, l, rfl, hl, hm, hg, c, ty, fz, hb, hc⟩
  · exact ⟨.slice none 0 0, none, (0, 0), Or.inl ⟨rfl, rfl⟩, fun _ _ => rfl, by simp [Ev.nms, nm1, Ev.nm0], fun _ h => by simp at h⟩
  · have hca : CanAt e good k (.slice (some ⟨k, 0, none⟩) l.length cap) (some (e.row l)) := Or.inr ⟨l, cap, rfl, rfl, hl, hm, hg⟩
    refine ⟨_, _, (b, off), hca, fun m hk => ?_, hca.nms, fun cs hcs => ?_⟩
    · simp only [ren0, renA, Nm.at, hk, capOf, small_cap hm, cond_false, Nat.add_zero]
    · simp at hcs; subst hcs
      refine ⟨Elt.row_pl _, fun m hk => ?_⟩
      have e1 : (Nm.at m).blk k = b := by simp [Nm.at, hk]
      have e2 : (Nm.at m).base k = off := by simp [Nm.at, hk]
      rw [e1]
      refine ⟨c, ty, fz, hb, fun i v hv => ?_⟩
      rw [e2, hc i v hv, ren0_leafG _ (Elt.row_pl _ v (List.mem_of_getElem? hv))]
end
theorem slOK_ro {size k off n c h : Nat} {b : Option Blk} (hh : h ≤ n) (hn : n ≤ c) (hc : c ≤ maxLen) : SlOK size k off n c none (some (h : Int)) b (.slice (some ⟨k, off, none⟩) h c) := by
  have hm : c < mark := by unfold mark maxLen at *; omega
  refine ⟨0, h, rfl, rfl, Nat.zero_le _, hh, Or.inr ⟨hm, hn, ?_⟩⟩
  by_cases h0 : c = 0
  · exact Or.inl ⟨h0, by simp⟩
  · exact Or.inr ⟨h0, by simp⟩
theorem eInt_row (l : List Int) : eInt.row l = l.map (Value.int .i64) := by
  induction l with
  | nil => rfl
  | cons x l ih => rw [Elt.row_cons, ih]; rfl
theorem int_row {l : List Int} (h : ∀ x ∈ l, I64 x) : IntRow .i64 (eInt.row l) 0 l.length ∧ ∀ z ∈ intsOf (eInt.row l) 0 l.length, I64 z := by
  obtain ⟨h1, h2⟩ := intRow_of .i64 l
  rw [eInt_row]
  exact ⟨h1, by rw [h2]; exact h⟩
theorem ints_of (l : List Int) : intsOf (eInt.row l) 0 l.length = l := by
  rw [eInt_row]; exact (intRow_of .i64 l).2
end Go.Proofs.Ythbaccmhdffjdaa.Ev


set_option linter.unusedVariables false
set_option linter.unusedSimpArgs false
namespace Go.Proofs.Ythbaccmhdffjdaa.Ev
open Go Go.RowKit
theorem lset_of : ∀ {cs : List Value} {o : Nat} {vs : List Value}, o + vs.length ≤ cs.length → lset cs o vs = some (cs.take o ++ vs ++ cs.drop (o + vs.length))
  | cs, 0, [], _ => by cases cs <;> simp [lset]
  | [], 0, v :: vs, h => by simp at h
  | [], o + 1, vs, h => by simp at h
  | c :: cs, 0, v :: vs, h => by
    have := lset_of (cs := cs) (o := 0) (vs := vs) (by simp at h ⊢; omega)
    simp only [lset, this]
    simp
  | c :: cs, o + 1, vs, h => by
    have := lset_of (cs := cs) (o := o) (vs := vs) (by simp at h; omega)
    simp only [lset, this]
    rw [show o + 1 + vs.length = (o + vs.length) + 1 by omega]
    simp
theorem lset_mid {a b c vs r : List Value} {f : Nat} (h : lset b f vs = some r) : lset (a ++ (b ++ c)) (a.length + f) vs = some (a ++ (r ++ c)) := by
  obtain ⟨h1, h2⟩ := lset_spec h
  rw [lset_of (by simp; omega), h1]
  congr 1
  rw [List.take_length_add_append, List.take_append_of_le_length (by omega), show a.length + f + vs.length = a.length + (f + vs.length) by omega, List.drop_length_add_append, List.drop_append_of_le_length (by omega)]
  simp
/-- A store into one struct of a row. -/
theorem lset_row {α : Type} {e : Elt α} {l : List α} {k f : Nat} {x y : α} {vs : List Value} (hk : l[k]? = some y) (h : lset (e.cells y) f vs = some (e.cells x)) : lset (e.row l) (k * e.s + f) vs = some (e.row (l.set k x)) := by
  have hlt := (List.getElem?_eq_some_iff.1 hk).1
  have he := (List.getElem?_eq_some_iff.1 hk).2
  have e1 : l = l.take k ++ y :: l.drop (k + 1) := by
    conv => lhs; rw [← List.take_append_drop k l]
    rw [List.drop_eq_getElem_cons hlt, he]
  have e2 : l.set k x = l.take k ++ x :: l.drop (k + 1) := by
    rw [List.set_eq_take_append_cons_drop, if_pos hlt]
  have e3 : e.row l = e.row (l.take k) ++ (e.cells y ++ e.row (l.drop (k + 1))) := by
    conv => lhs; rw [e1]
    rw [Elt.row_app, Elt.row_cons]
  rw [e2, e3, Elt.row_app, Elt.row_cons]
  have hl : (e.row (l.take k)).length = k * e.s := by rw [Elt.row_len, List.length_take, Nat.min_eq_left (by omega)]
  rw [← hl]
  exact lset_mid h
section
variable {α : Type} {e : Elt α}
theorem appG {L M : List α} {ty : TypeId} {own : Option Blk} {n m c size bytes o : Nat} {res : List Value} (hown : (own = some (.vec (e.row L) ty size) ∧ c = mk) ∨ (own = some (.cells [] ty) ∧ n = 0 ∧ c = 0)) (hs : size = e.s) {k : Nat} (ho : o = k * e.s) (hk : k + m ≤ M.length) (hn : n ≤ L.length) (hres : res = e.row (L.take n ++ (M.drop k).take m))
    (h1 : 1 ≤ m) (hb : n + m ≤ 16777216) (hby : (n + m) * bytes ≤ 140737488355328) : AppOK own n c size bytes m (e.row M) o res := by
  subst hs
  subst hres
  subst ho
  have hkm : k * e.s + m * e.s ≤ M.length * e.s := by rw [← Nat.add_mul]; exact Nat.mul_le_mul_right _ hk
  refine ⟨e.row (L.take n), e.row ((M.drop k).take m), ?_, ?_, h1, hb, hby, Elt.row_app _ _, ?_⟩
  · rw [sub_of (by rw [Elt.row_len]; exact hkm), Elt.row_drop, Elt.row_take]
  · exact allB_iff.2 fun c hc => leaf_of_leafG (Elt.row_pl _ c hc)
  · rcases hown with ⟨rfl, rfl⟩ | ⟨rfl, rfl, rfl⟩
    · refine ⟨rfl, ?_, (Elt.row_take L n).symm⟩
      rw [Elt.row_len]; exact Nat.mul_le_mul_right _ hn
    · refine ⟨by simp, by omega, by omega, ?_⟩
      simp [Elt.row]
theorem rowN {L : List α} {n : Nat} (h : n = L.length) : e.Row (e.row L) 0 n := by subst h; exact (Elt.canon0 L).1
theorem rowM {L : List α} {n : Nat} (h : n ≤ L.length) : e.Row (e.row L) 0 n := ((Elt.canon0 L).1.take h).1
theorem listM {L : List α} {n : Nat} (h : n ≤ L.length) : e.list (e.row L) 0 n = L.take n := by rw [((Elt.canon0 L).1.take h).2, (Elt.canon0 L).2]
theorem plain1 {cs : List Value} (h : ∀ x ∈ cs, leafG x = true) : plainR [cs] := by
  intro x hx
  simp at hx
  subst hx
  exact h
end
section
variable {α : Type} {e : Elt α}
theorem appC {L M : List α} {ty : TypeId} {own : Option Blk} {n m c size bytes : Nat} {res : List Value} (hown : own = some (.cells (e.row L) ty)) (hs : size = e.s) (hn : n ≤ c) (hc16 : c ≤ 16777216) (hc : c = L.length) (hres : res = e.row (L.take n ++ M))
    (h1 : 1 ≤ m) (hb : n + m ≤ 16777216) (hby : (n + m) * bytes ≤ 140737488355328) (hm : m = M.length := by rfl) : AppOK own n c size bytes m (e.row M) 0 res := by
  subst hs
  subst hres
  subst hown
  subst hc
  subst hm
  refine ⟨e.row (L.take n), e.row M, ?_, ?_, h1, hb, hby, Elt.row_app _ _, ?_⟩
  · rw [sub_of (by rw [Elt.row_len]; omega), List.drop_zero, List.take_of_length_le (by rw [Elt.row_len]; omega)]
  · exact allB_iff.2 fun c hc => leaf_of_leafG (Elt.row_pl _ c hc)
  · exact ⟨Elt.row_len L, hn, hc16, (Elt.row_take L n).symm⟩
theorem plain2 {cs ds : List Value} (h : ∀ x ∈ cs, leafG x = true) (g : ∀ x ∈ ds, leafG x = true) : plainR [cs, ds] := by
  intro x hx
  simp at hx
  rcases hx with rfl | rfl
  · exact h
  · exact g
end
theorem lsetE {α : Type} {e : Elt α} {l : List α} {k f o : Nat} {x y : α} {vs : List Value} (hk : l[k]? = some y) (h : lset (e.cells y) f vs = some (e.cells x)) (ho : o = k * e.s + f) : lset (e.row l) o vs = some (e.row (l.set k x)) := by
  subst ho; exact lset_row hk h
/-- The rest of a row. -/
theorem slK {i : Int} {α : Type} {e : Elt α} {n h m c : Nat} {L : List α} {ty : TypeId} {nm o size : Nat} (hi : i = (h : Int)) (hh : h + 1 ≤ n) (hm : m = n - h) (hc : c = mk + h) (ho : o = 0 + h * size) (hs : size = e.s) (h1 : 1 ≤ size) (hl : n ≤ L.length := by omega) : SlOK size nm 0 n mk (some i) none (some (.vec (e.row L) ty size)) (.slice (some ⟨nm, o, none⟩) m c) := by
  subst hm
  subst hc
  subst ho
  subst hs
  refine ⟨h, n, hi, rfl, by omega, Nat.le_refl _, Or.inl ⟨Nat.le_refl _, ⟨_, ty, rfl, h1, ?_⟩, Or.inr hh, rfl⟩⟩
  rw [Elt.row_len, Nat.sub_self, Nat.zero_add]
  exact Nat.mul_le_mul_right _ hl
section
variable {α : Type} {e : Elt α}
theorem Elt.Row.eq_row {cs : List Value} {off n : Nat} (h : e.Row cs off n) : (cs.drop off).take (n * e.s) = e.row (e.list cs off n) := by
  induction n with
  | zero => simp [Elt.row, Elt.list]
  | succ n ih =>
    have h1 : e.Row cs off n := (h.take (Nat.le_succ n)).1
    have hn := h.2 n (Nat.lt_succ_self n)
    rw [Nat.succ_mul, List.take_add, ih h1, List.drop_drop, hn]
    simp only [Elt.list, List.range_succ, List.map_append, List.map_cons, List.map_nil, Elt.row_app, Elt.row_one]
theorem repl_row {x : α} {zs : List Value} (h : e.cells x = zs) : ∀ n : Nat, repl zs n = e.row (List.replicate n x)
  | 0 => rfl
  | n + 1 => by simp only [repl, repl_row h n, List.replicate_succ, Elt.row_cons, h]
/-- A copy of a whole list into new memory. -/
theorem copyOK {cs : List Value} {o n m : Nat} {zs : List α} {size : Nat} {res : List Value} (hr : e.Row cs o n) (hs : size = e.s) (hm : n ≤ m) (hz : zs.length = m) (hpl : ∀ c ∈ cs, leafG c = true) (hres : res = e.row (e.list cs o n ++ zs.drop n)) : CopyOK n m size 0 cs o (e.row zs) res := by
  subst hs
  subst hres
  have hmin : Nat.min n m = n := Nat.min_eq_left hm
  have hle : n * e.s ≤ zs.length * e.s := Nat.mul_le_mul_right _ (by omega)
  refine ⟨e.row (e.list cs o n), ?_, allB_iff.2 fun c hc => leaf_of_leafG (Elt.row_pl _ c hc), ?_⟩
  · rw [hmin, sub_of hr.1, hr.eq_row]
  · rw [lset_of (by rw [Elt.row_len, Elt.list_len, Elt.row_len]; omega)]
    rw [Elt.row_len, Elt.list_len, Nat.zero_add, Elt.row_drop, List.take_zero, List.nil_append, Elt.row_app]
end
end Go.Proofs.Ythbaccmhdffjdaa.Ev


set_option linter.unusedVariables false
set_option linter.unusedSimpArgs false
namespace Go.Proofs.Ythbaccmhdffjdaa.Ev
open Go Go.RowKit
def rowsL (rs : List (Option (List Value))) : Heap := fun k => match rs[k]? with
  | some (some x) => some (.ro x)
  | _ => none
/-- What a slice that comes in tells, under its name. -/
def CanQ (W : World) (k : Nat) (r : Option (List Value)) (ad : Nat × Nat) : Prop :=
  ∀ cs, r = some cs → (∀ c ∈ cs, leafG c = true) ∧ ∀ l : List (Nat × Nat), l[k]? = some ad → (Blk.ro cs).Holds (Nm.at l) k W.heap[(Nm.at l).blk k]?
/-- What a call does that only reads rows. -/
theorem calls_rows {P : Program} {f : FuncId} {args : List Value} {rs : List (Option (List Value))} {nx : Nat} {v : Value} (hs : CallSpec P f args (rowsL rs) nx v (assocN [] [])) (hv : gnd v = true) (hlen : rs.length ≤ nx)
    (hnm : ∀ u ∈ args, ∀ j ∈ nms u, j < nx) {W : World} {l : List (Nat × Nat)} (hq : ∀ j r ad, rs[j]? = some r → l[j]? = some ad → CanQ W j r ad) (hl : rs.length ≤ l.length) :
    Calls P f (args.map (ren (Nm.at l))).toArray W fun e w' => e = .returned v ∧ Below W.heap.size W w' := by
  have key : ∀ j b, rowsL rs j = some b → j < rs.length ∧ ∃ cs, b = .ro cs ∧ rs[j]? = some (some cs) := by
    intro j b h
    unfold rowsL at h
    split at h
    · rename_i x hx
      simp at h
      exact ⟨(List.getElem?_eq_some_iff.1 hx).1, x, h.symm, hx⟩
    · simp at h
  refine calls_ro hs hv (fun j b hb => ?_) hnm (fun j cs hj => ?_)
  · obtain ⟨h1, cs, h2, h3⟩ := key j b hb
    exact ⟨by omega, cs, h2, (hq j _ (l[j]'(by omega)) h3 (List.getElem?_eq_getElem (by omega)) cs rfl).1⟩
  · obtain ⟨h1, cs', h2, h3⟩ := key j _ hj
    injection h2 with h2
    subst h2
    exact (hq j _ (l[j]'(by omega)) h3 (List.getElem?_eq_getElem (by omega)) _ rfl).2 l (List.getElem?_eq_getElem (by omega))
theorem canQ_none (W : World) (k : Nat) (ad : Nat × Nat) : CanQ W k none ad := fun _ h => by simp at h
end Go.Proofs.Ythbaccmhdffjdaa.Ev


set_option linter.unusedVariables false
set_option linter.unusedSimpArgs false
namespace Go.Proofs.Ythbaccmhdffjdaa.Within
open Go Go.RowKit Go.Proofs.Ythbaccmhdffjdaa.BitLib

theorem emod_of_tmod {n m : Int} (hm : 0 < m) : (n.tmod m < 0 → n % m = n.tmod m + m) ∧ (0 ≤ n.tmod m → n % m = n.tmod m) ∧ -m < n.tmod m ∧ n.tmod m < m := by
  have h := Int.tmod_eq_emod (a := n) (b := m)
  have h0 := Int.emod_nonneg n (show m ≠ 0 by omega)
  have h1 := Int.emod_lt_of_pos n hm
  have ha : ((m.natAbs : Nat) : Int) = m := by omega
  by_cases hc : 0 ≤ n ∨ m ∣ n
  · rw [if_pos hc] at h; omega
  · rw [if_neg hc] at h; omega
def withinS (n lo hi : Int) : Int := lo + n % (hi - lo + 1)
theorem within_range (n : Int) {lo hi : Int} (h : lo ≤ hi) : lo ≤ withinS n lo hi ∧ withinS n lo hi ≤ hi := by
  have h0 := Int.emod_nonneg n (show hi - lo + 1 ≠ 0 by omega)
  have h1 := Int.emod_lt_of_pos n (show 0 < hi - lo + 1 by omega)
  unfold withinS; omega
set_option maxHeartbeats 1000000 in
theorem within_calls (n lo hi : Int) (n0 : -9223372036854775808 ≤ n) (n1 : n ≤ 9223372036854775807) (h0 : -2305843009213693952 ≤ lo) (h1 : lo ≤ hi) (h2 : hi ≤ 2305843009213693952) (w : World) :
    Calls Try.prog 19 #[.int .i64 n, .int .i64 lo, .int .i64 hi] w fun e w' => e = .returned (.int .i64 (withinS n lo hi)) ∧ w = w' := by
  obtain ⟨t1, t2, t3, t4⟩ := emod_of_tmod (n := n) (m := hi - lo + 1) (by omega)
  have hne : ¬ hi - lo + 1 = 0 := by omega
  by_cases ht : n.tmod (hi - lo + 1) < 0
  · have HR : Hid (withinS n lo hi = lo + (n.tmod (hi - lo + 1) + hi - lo + 1)) := Lib.hid (by unfold withinS; rw [t1 ht]; omega)
    clear t1 t2
    go_enter Try.func19, Try.ntmps19
    go_wp2
    go_ret
    exact ⟨by rw [HR.out]; rfl, rfl⟩
  · have HR : Hid (withinS n lo hi = lo + n.tmod (hi - lo + 1)) := Lib.hid (by unfold withinS; rw [t2 (by omega)])
    clear t1 t2
    go_enter Try.func19, Try.ntmps19
    go_wp2
    go_ret
    exact ⟨by rw [HR.out]; rfl, rfl⟩
end Go.Proofs.Ythbaccmhdffjdaa.Within


set_option linter.unusedVariables false
set_option linter.unusedSimpArgs false
set_option maxRecDepth 100000
namespace Go.Proofs.Ythbaccmhdffjdaa.Tn
open Go Go.RowKit Go.Proofs.Ythbaccmhdffjdaa.Ev Go.Proofs.Ythbaccmhdffjdaa.Within Go.Proofs.Ythbaccmhdffjdaa.PickE Go.Proofs.Ythbaccmhdffjdaa.NodeE
structure Nd where
  leaf : Bool
  v : Int
  f : Int
  a : Int
  x : Int
  y : Int
def eNd : Elt Nd := ⟨fun n => [.bool n.leaf, .int .i64 n.v, .int .i64 n.f, .int .i64 n.a, .int .i64 n.x, .int .i64 n.y], 6, fun cs => match cs with | [.bool l, .int _ v, .int _ f, .int _ a, .int _ x, .int _ y] => ⟨l, v, f, a, x, y⟩ | _ => ⟨false, 0, 0, 0, 0, 0⟩, fun _ => rfl, fun _ => rfl, fun n c hc => by
  simp at hc
  rcases hc with rfl | rfl | rfl | rfl | rfl | rfl <;> rfl⟩
def bring_F : List Value → Option (Value × List Prop)
  | [.int .i64 n, .int .i64 lo, .int .i64 hi] => some (.int .i64 (withinS n lo hi), [I64 n, -2305843009213693952 ≤ lo, lo ≤ hi, hi ≤ 2305843009213693952])
  | _ => none
theorem bring_sum : SumOK Try.prog 19 (sumOf bring_F) := by
  refine sumOf_ok (en Try.func19 rfl) fun args v ob h hob => ?_
  unfold bring_F at h
  split at h
  · rename_i n lo hi
    obtain ⟨rfl, rfl⟩ := Prod.mk.inj (Option.some.inj h)
    clear h
    have h1 := hob (I64 n) (by simp)
    have h2 := hob (-2305843009213693952 ≤ lo) (by simp)
    have h3 := hob (lo ≤ hi) (by simp)
    have h4 := hob (hi ≤ 2305843009213693952) (by simp)
    exact ⟨rfl, rfl, fun w => (within_calls n lo hi h1.1 h1.2 h2 h3 h4 w).mono fun e w' ⟨he, hw⟩ => ⟨he, hw ▸ Below.refl _ _⟩⟩
  · exact absurd h (by simp)
noncomputable def t_bring : Sums := upd t_runpack 19 (some (sumOf bring_F))
theorem t_bring_ok : SumsOK Try.prog t_bring := sums_cons t_runpack_ok bring_sum
noncomputable def t_tn : Sums := upd t_bring 44 (some (roSum pick_F))
theorem t_tn_ok : SumsOK Try.prog t_tn := sums_cons t_bring_ok pick_sum
structure NF where
  i : Nat
  nodes : List Nd
  leaves : List Int
/-- The first loop: what is boxed, which rows stay. -/
def tnL (dim : Int) (vs : List Value) (js : List Nat) (rs : List Blk) (Q : NF → Prop) : LoopF NF where
  ts _ := [1, 2, 5, 6, 7]
  hs _ := 10 :: 11 :: 12 :: js
  tv _ := fun ⟨i, nodes, leaves⟩ => [.int .i64 dim, .pointer (some ⟨10, 0, none⟩), .slice (some ⟨11, 0, none⟩) nodes.length mk, .slice (some ⟨12, 0, none⟩) leaves.length mk, .int .i64 (i : Int)]
  hv _ := fun ⟨i, nodes, leaves⟩ => .cells vs 55 :: .vec (eNd.row nodes) 86 6 :: .vec (eInt.row leaves) 3 1 :: rs
  inv _ := Q
  mu _ := fun ⟨i, nodes, leaves⟩ => 7 - i
  nx := 13
/-- The second loop. -/
def tpL (nodes : List Nd) (Q : Nat × List Int → Prop) : LoopF (Nat × List Int) where
  ts _ := [11, 100, 101, 102]
  hs z := match z with | 0 => [11] | _ => [11, 13]
  tv z := fun ⟨i, out⟩ => [match z with | 0 => .slice none 0 0 | _ => .slice (some ⟨13, 0, none⟩) out.length mk, .slice (some ⟨11, 0, none⟩) nodes.length mk, .int .i64 (nodes.length : Int), .int .i64 (i : Int)]
  hv z := fun ⟨i, out⟩ => match z with | 0 => [.vec (eNd.row nodes) 86 6] | _ => [.vec (eNd.row nodes) 86 6, .vec (eWord.row out) 83 1]
  inv _ := Q
  mu _ := fun ⟨i, out⟩ => nodes.length - i
  nx := 14
end Go.Proofs.Ythbaccmhdffjdaa.Tn


set_option linter.unusedVariables false
set_option linter.unusedSimpArgs false
set_option maxRecDepth 100000
namespace Go.Proofs.Ythbaccmhdffjdaa.Tn
open Go Go.RowKit Go.Proofs.Ythbaccmhdffjdaa.Ev Go.Proofs.Ythbaccmhdffjdaa.Within Go.Proofs.Ythbaccmhdffjdaa.PickE Go.Proofs.Ythbaccmhdffjdaa.NodeE Go.Proofs.Ythbaccmhdffjdaa.Tn
theorem i0 : I64 0 := ⟨by decide, by decide⟩
/-- Where a leaf is parted. -/
def ndK (pz : Int) (leaves : List Int) : Nat := (withinS pz 0 ((leaves.length : Int) - 1)).toNat
def ndPl (pz : Int) (leaves : List Int) : Int := leaves.getD (ndK pz leaves) 0
def ndNodes (bl al vl : List Int) (dim pz : Int) (i : Nat) (nodes : List Nd) (leaves : List Int) : List Nd :=
  nodes.set (ndPl pz leaves).toNat ⟨false, 0, withinS (pickI bl i) 0 (dim - 1), withinS (pickI al i) 0 9, nodes.length, (nodes.length : Int) + 1⟩ ++
    [⟨true, withinS (pickI vl (2 * i + 1)) (-3000) 3000, 0, 0, 0, 0⟩, ⟨true, withinS (pickI vl (2 * i + 2)) (-3000) 3000, 0, 0, 0, 0⟩]
def ndLeaves (pz : Int) (nodes : List Nd) (leaves : List Int) : List Int := leaves.take (ndK pz leaves) ++ leaves.drop (ndK pz leaves + 1) ++ [(nodes.length : Int), (nodes.length : Int) + 1]
def ndGo (bl al vl : List Int) (dim : Int) : List Int → Nat → List Nd → List Int → List Nd
  | [], _, nodes, _ => nodes
  | pz :: ps, i, nodes, leaves => ndGo bl al vl dim ps (i + 1) (ndNodes bl al vl dim pz i nodes leaves) (ndLeaves pz nodes leaves)
def nodesI (pl bl al vl : List Int) (dim : Int) : List Nd := ndGo bl al vl dim (pl.take 7) 0 [⟨true, withinS (pickI vl 0) (-3000) 3000, 0, 0, 0, 0⟩] [0]
/-- What holds of nodes and leaves on the way. -/
structure NdInv (i : Nat) (nodes : List Nd) (leaves : List Int) : Prop where
  nl : nodes.length = 2 * i + 1
  ll : leaves.length = i + 1
  inn : ∀ l ∈ leaves, 0 ≤ l ∧ l < nodes.length
  good : ∀ n ∈ nodes, I64 n.v ∧ I64 n.a
theorem nd_k {pz : Int} {leaves : List Int} (h : leaves ≠ []) : withinS pz 0 ((leaves.length : Int) - 1) = (ndK pz leaves : Int) ∧ ndK pz leaves < leaves.length := by
  have hl : 0 < leaves.length := List.length_pos_iff.2 h
  have := within_range pz (show (0 : Int) ≤ (leaves.length : Int) - 1 by omega)
  unfold ndK
  omega
theorem nd_pl {pz : Int} {leaves : List Int} (h : leaves ≠ []) : leaves[ndK pz leaves]? = some (ndPl pz leaves) := by
  have := (nd_k (pz := pz) h).2
  unfold ndPl
  rw [List.getD_eq_getElem?_getD, List.getElem?_eq_getElem this]
  rfl
theorem within_i64 (n : Int) {lo hi : Int} (h : lo ≤ hi) (h0 : -9223372036854775808 ≤ lo) (h1 : hi ≤ 9223372036854775807) : I64 (withinS n lo hi) := by
  have := within_range n h
  exact ⟨by omega, by omega⟩
theorem nd_inv {bl al vl : List Int} {dim pz : Int} {i : Nat} {nodes : List Nd} {leaves : List Int} (h : NdInv i nodes leaves) : NdInv (i + 1) (ndNodes bl al vl dim pz i nodes leaves) (ndLeaves pz nodes leaves) := by
  have hne : leaves ≠ [] := fun e => by have := h.ll; rw [e] at this; simp at this
  have hk := (nd_k (pz := pz) hne).2
  have h1 := h.nl
  have h2 := h.ll
  have hlen : (ndNodes bl al vl dim pz i nodes leaves).length = nodes.length + 2 := by simp [ndNodes]
  refine ⟨by omega, by simp [ndLeaves]; omega, fun l hl => ?_, fun n hn => ?_⟩
  · rw [hlen]
    simp only [ndLeaves, List.mem_append, List.mem_cons, List.not_mem_nil, or_false] at hl
    rcases hl with (hl | hl) | rfl | rfl
    · have := h.inn l (List.mem_of_mem_take hl); omega
    · have := h.inn l (List.mem_of_mem_drop hl); omega
    · omega
    · omega
  · simp only [ndNodes, List.mem_append, List.mem_cons, List.not_mem_nil, or_false] at hn
    rcases hn with hn | rfl | rfl
    · rcases List.mem_or_eq_of_mem_set hn with hn | rfl
      · exact h.good n hn
      · exact ⟨i0, within_i64 _ (by decide) (by decide) (by decide)⟩
    · exact ⟨within_i64 _ (by decide) (by decide) (by decide), i0⟩
    · exact ⟨within_i64 _ (by decide) (by decide) (by decide), i0⟩
theorem nd0 (z : Int) (h : I64 z) : NdInv 0 [⟨true, z, 0, 0, 0, 0⟩] [0] := by
  refine ⟨rfl, rfl, fun l hl => ?_, fun n hn => ?_⟩
  · simp at hl; subst hl; simp
  · simp at hn; subst hn; exact ⟨h, i0⟩
def packN (n : Nd) : Int := packS n.leaf n.v n.f n.a n.x n.y
theorem within_nil (i d : Int) : withinS (pickI [] i) 0 d = 0 := by
  have : pickI [] i = 0 := rfl
  rw [this]; simp [withinS]
end Go.Proofs.Ythbaccmhdffjdaa.Tn


set_option linter.unusedVariables false
set_option linter.unusedSimpArgs false
set_option maxRecDepth 100000
namespace Go.Proofs.Ythbaccmhdffjdaa.NodeE
open Go Go.RowKit Go.Proofs.Ythbaccmhdffjdaa.Ev Go.Proofs.Ythbaccmhdffjdaa.BitLib Go.Proofs.Ythbaccmhdffjdaa.BitsA Go.Proofs.Ythbaccmhdffjdaa.NodeB Go.Proofs.Ythbaccmhdffjdaa.Within
def bring_F : List Value → Option (Value × List Prop)
  | [.int .i64 n, .int .i64 lo, .int .i64 hi] => some (.int .i64 (withinS n lo hi), [I64 n, -2305843009213693952 ≤ lo, lo ≤ hi, hi ≤ 2305843009213693952])
  | _ => none
theorem bring_sum : SumOK Try.prog 19 (sumOf bring_F) := by
  refine sumOf_ok (en Try.func19 rfl) fun args v ob h hob => ?_
  unfold bring_F at h
  split at h
  · rename_i n lo hi
    obtain ⟨rfl, rfl⟩ := Prod.mk.inj (Option.some.inj h)
    clear h
    have h1 := hob (I64 n) (by simp)
    have h2 := hob (-2305843009213693952 ≤ lo) (by simp)
    have h3 := hob (lo ≤ hi) (by simp)
    have h4 := hob (hi ≤ 2305843009213693952) (by simp)
    exact ⟨rfl, rfl, fun w => (within_calls n lo hi h1.1 h1.2 h2 h3 h4 w).mono fun e w' ⟨he, hw⟩ => ⟨he, hw ▸ Below.refl _ _⟩⟩
  · exact absurd h (by simp)
noncomputable def t_bring : Sums := upd t_runpack 19 (some (sumOf bring_F))
theorem t_bring_ok : SumsOK Try.prog t_bring := sums_cons t_runpack_ok bring_sum
theorem w_rng {n : Int} (h : I64 n) : IntKind.i64.wrap n = n := wrap_id h
end Go.Proofs.Ythbaccmhdffjdaa.NodeE


set_option linter.unusedVariables false
set_option linter.unusedSimpArgs false
set_option maxRecDepth 100000
namespace Go.Proofs.Ythbaccmhdffjdaa.NodeE
open Go Go.RowKit Go.Proofs.Ythbaccmhdffjdaa.Ev Go.Proofs.Ythbaccmhdffjdaa.BitLib Go.Proofs.Ythbaccmhdffjdaa.BitsA Go.Proofs.Ythbaccmhdffjdaa.NodeB
theorem ok_parts {w : Int} (h : okB w = true) : w ≠ 0 ∧ pkB w = w := by
  simpa [okB] using h
theorem ok_back {w : Int} (h : okB w = true) : packS (okB w && lfB w) (sV w) (sF w) (sA w) (sX w) (sY w) = w ∧ rightB (okB w && lfB w) (sV w) (sF w) (sA w) (sX w) (sY w) = true := by
  obtain ⟨h0, hp⟩ := ok_parts h
  have key : packS (okB w && lfB w) (sV w) (sF w) (sA w) (sX w) (sY w) = w := by
    unfold pkB at hp
    simp only [sV, sF, sA, sX, sY, h, Bool.true_and]
    cases hl : lfB w <;> simp only [hl, cond_true, cond_false, Bool.not_true, Bool.not_false] at hp ⊢ <;> exact hp
  refine ⟨key, ?_⟩
  cases hr : rightB (okB w && lfB w) (sV w) (sF w) (sA w) (sX w) (sY w)
  · rw [pack_no hr] at key; omega
  · rfl
/-- What is packed comes back. -/
theorem pack_unp {l : Bool} {v f a x y : Int} (h : rightB l v f a x y = true) : U64 (packS l v f a x y) ∧ okB (packS l v f a x y) = true ∧ unp (packS l v f a x y) = .tuple ⟨[nd l v f a x y, .bool true]⟩ := by
  have hpos := pack_pos h
  cases l
  · have hP : packS false v f a x y = w4 a f x y := by simp only [packS, packI, h, cond_true, cond_false]
    obtain ⟨rfl, f0, f1, a0, ⟨x0, x1⟩, y0, y1⟩ := right_inner h
    have hl : lfB (w4 a f x y) = false := decide_eq_false (by show ¬ 9223372036854775808 ≤ a % 4294967296 + f * 4294967296 + x * 1099511627776 + y * 281474976710656; omega)
    have e1 : low32 (w4 a f x y) = a := by unfold low32; show (a % 4294967296 + f * 4294967296 + x * 1099511627776 + y * 281474976710656 + 2147483648) % 4294967296 - 2147483648 = a; omega
    have e2 : uF (w4 a f x y) = f := by rw [uF_eq]; show (a % 4294967296 + f * 4294967296 + x * 1099511627776 + y * 281474976710656) / 4294967296 % 16 = f; omega
    have e3 : uX (w4 a f x y) = x := by rw [uX_eq]; show (a % 4294967296 + f * 4294967296 + x * 1099511627776 + y * 281474976710656) / 1099511627776 % 256 = x; omega
    have e4 : uY (w4 a f x y) = y := by rw [uY_eq]; show (a % 4294967296 + f * 4294967296 + x * 1099511627776 + y * 281474976710656) / 281474976710656 % 256 = y; omega
    have ho : okB (w4 a f x y) = true := by
      simp only [okB, pkB, hl, cond_false, e1, e2, e3, e4, hP, beq_self_eq_true, Bool.and_true]
      rw [hP] at hpos
      simp only [Bool.not_eq_true', beq_eq_false_iff_ne]
      show a % 4294967296 + f * 4294967296 + x * 1099511627776 + y * 281474976710656 ≠ 0
      have : 0 < a % 4294967296 + f * 4294967296 + x * 1099511627776 + y * 281474976710656 := hpos
      omega
    rw [hP]
    refine ⟨(show 0 ≤ a % 4294967296 + f * 4294967296 + x * 1099511627776 + y * 281474976710656 ∧ a % 4294967296 + f * 4294967296 + x * 1099511627776 + y * 281474976710656 ≤ _ by omega), ho, ?_⟩
    rw [unp_inner ho hl, e1, e2, e3, e4]
  · have hP : packS true v f a x y = 9223372036854775808 + v % 4294967296 := by simp only [packS, packI, h, cond_true]
    obtain ⟨⟨rfl, rfl, rfl, rfl⟩, v0, v1⟩ := right_leaf h
    have hl : lfB (9223372036854775808 + v % 4294967296) = true := decide_eq_true (by omega)
    have e1 : low32 (9223372036854775808 + v % 4294967296) = v := by unfold low32; omega
    have ho : okB (9223372036854775808 + v % 4294967296) = true := by
      simp only [okB, pkB, hl, cond_true, e1, hP, beq_self_eq_true, Bool.and_true]
      simp only [Bool.not_eq_true', beq_eq_false_iff_ne]
      omega
    rw [hP]
    refine ⟨⟨by omega, by omega⟩, ho, ?_⟩
    rw [unp_leaf ho hl, e1]
theorem ok_zero : okB 0 = false := rfl
/-- Where a word that is a node has no bits. -/
theorem ok_gaps {w : Int} (hw : U64 w) (h : okB w = true) : w / 68719476736 % 16 = 0 ∧ w / 72057594037927936 % 128 = 0 ∧ (9223372036854775808 ≤ w → w < 9223372036854775808 + 4294967296) := by
  obtain ⟨h0, hp⟩ := ok_parts h
  have hw0 := hw.1
  have hw1 := hw.2
  unfold pkB at hp
  cases hl : lfB w <;> simp only [hl, cond_true, cond_false] at hp
  · have hl' := of_decide_eq_false hl
    cases hr : rightB false 0 (uF w) (low32 w) (uX w) (uY w)
    · rw [pack_no hr] at hp; omega
    · obtain ⟨_, f0, f1, a0, ⟨x0, x1⟩, y0, y1⟩ := right_inner hr
      simp only [packS, packI, hr, cond_true, cond_false] at hp
      generalize uF w = f at *
      generalize uX w = x at *
      generalize uY w = y at *
      generalize low32 w = a at *
      omega
  · have hl' := of_decide_eq_true hl
    cases hr : rightB true (low32 w) 0 0 0 0
    · rw [pack_no hr] at hp; omega
    · simp only [packS, packI, hr, cond_true] at hp
      generalize low32 w = a at *
      omega
theorem keyEq_two (l : Bool) (v f a x y : Int) (l' : Bool) (v' f' a' x' y' : Int) : keyEq (nd l v f a x y) (nd l' v' f' a' x' y') = true ↔ l = l' ∧ v = v' ∧ f = f' ∧ a = a' ∧ x = x' ∧ y = y' := by
  simp [keyEq, cellsEq, leafEq]
/-- Two right nodes have one word just if they are the same. -/
theorem pack_same {l : Bool} {v f a x y : Int} {l' : Bool} {v' f' a' x' y' : Int} (h : rightB l v f a x y = true) (h' : rightB l' v' f' a' x' y' = true) : (packS l v f a x y == packS l' v' f' a' x' y') = keyEq (nd l v f a x y) (nd l' v' f' a' x' y') := by
  rw [Bool.eq_iff_iff, keyEq_two, beq_iff_eq]
  constructor
  · intro e
    have h1 := (pack_unp h).2.2
    have h2 := (pack_unp h').2.2
    rw [e, h2] at h1
    simp at h1
    obtain ⟨rfl, rfl, rfl, rfl, rfl, rfl⟩ := h1
    exact ⟨rfl, rfl, rfl, rfl, rfl, rfl⟩
  · rintro ⟨rfl, rfl, rfl, rfl, rfl, rfl⟩; rfl
/-- A word that isn't a node's is another one's, or none's. -/
theorem other {l : Bool} {v f a x y m : Int} (hm : m ≠ packS l v f a x y) (ho : okB m = true) : keyEq (nd (okB m && lfB m) (sV m) (sF m) (sA m) (sX m) (sY m)) (nd l v f a x y) = false := by
  cases h : keyEq (nd (okB m && lfB m) (sV m) (sF m) (sA m) (sX m) (sY m)) (nd l v f a x y)
  · rfl
  · rw [keyEq_two] at h
    obtain ⟨e0, e1, e2, e3, e4, e5⟩ := h
    have := (ok_back ho).1
    rw [e0, e1, e2, e3, e4, e5] at this
    exact absurd this.symm hm
/-! ### Bits -/
theorem bit_val (j : Nat) (h : j < 64) : IntKind.u64.wrap (1 * 2 ^ min (Int.ofNat j).toNat 64) = ((2 ^ j : Nat) : Int) := by
  have e : (1 : Int) * 2 ^ min (Int.ofNat j).toNat 64 = ((2 ^ j : Nat) : Int) := by
    rw [show (Int.ofNat j).toNat = j from rfl, Nat.min_eq_left (by omega), Int.one_mul]; simp
  have : (2 : Nat) ^ j ≤ 2 ^ 63 := Nat.pow_le_pow_right (by decide) (by omega)
  have e2 : (2 : Nat) ^ 63 = 9223372036854775808 := rfl
  rw [e]
  rw [e2] at this
  clear e e2
  generalize (2 : Nat) ^ j = t at *
  exact wrapu_id (by omega) (by omega)
theorem pow_lt64 {j : Nat} (h : j < 64) : (2 : Nat) ^ j < 18446744073709551616 := by
  have : (2 : Nat) ^ j < 2 ^ 64 := Nat.pow_lt_pow_right (by decide) h
  exact this
theorem testBit_int (m j : Nat) (h : m.testBit j = true) : (m : Int) / ((2 ^ j : Nat) : Int) % 2 = 1 := by
  have := Nat.testBit_eq_decide_div_mod_eq (x := m) (i := j)
  rw [this] at h
  have := of_decide_eq_true h
  omega
theorem or_bit (P : Int) (hP : U64 P) (j : Nat) (h : j < 64) : ∃ m : Nat, Go.bits .or .u64 P ((2 ^ j : Nat) : Int) = (m : Int) ∧ m < 18446744073709551616 ∧ m.testBit j = true ∧ (9223372036854775808 ≤ P → 9223372036854775808 ≤ m) := by
  obtain ⟨P, rfl⟩ := Int.eq_ofNat_of_zero_le hP.1
  have hP1 : P < 18446744073709551616 := by have := hP.2; omega
  refine ⟨P ||| 2 ^ j, u64_or_nat _ _ hP1 (pow_lt64 h), ?_, ?_, fun hle => ?_⟩
  · exact Nat.or_lt_two_pow (n := 64) hP1 (pow_lt64 h)
  · rw [Nat.testBit_or, Nat.testBit_two_pow_self, Bool.or_true]
  · have : P ≤ P ||| 2 ^ j := Nat.left_le_or
    omega
end Go.Proofs.Ythbaccmhdffjdaa.NodeE


set_option linter.unusedVariables false
set_option linter.unusedSimpArgs false
set_option maxRecDepth 100000
namespace Go.Proofs.Ythbaccmhdffjdaa.Tr
open Go Go.RowKit Go.Proofs.Ythbaccmhdffjdaa.Ev Go.Proofs.Ythbaccmhdffjdaa.Within Go.Proofs.Ythbaccmhdffjdaa.PickE Go.Proofs.Ythbaccmhdffjdaa.NodeE Go.Proofs.Ythbaccmhdffjdaa.Tn
def rightN (n : Nd) : Bool := rightB n.leaf n.v n.f n.a n.x n.y
def namesN (n : Nd) : List Int := bif n.leaf then [] else [n.x, n.y]
def cntN (nodes : List Nd) (k : Int) : Nat := (nodes.flatMap namesN).count k
/-- What the word of a right node tells. -/
theorem pack_tells {n : Nd} (h : rightN n = true) : U64 (packN n) ∧ okB (packN n) = true ∧ lfB (packN n) = n.leaf ∧ (n.leaf = true → low32 (packN n) = n.v) ∧ (n.leaf = false → uF (packN n) = n.f ∧ low32 (packN n) = n.a ∧ uX (packN n) = n.x ∧ uY (packN n) = n.y) := by
  obtain ⟨h1, h2, h3⟩ := pack_unp (l := n.leaf) (v := n.v) (f := n.f) (a := n.a) (x := n.x) (y := n.y) h
  refine ⟨h1, h2, ?_⟩
  show lfB (packN n) = n.leaf ∧ _
  have h3 : unp (packN n) = .tuple ⟨[nd n.leaf n.v n.f n.a n.x n.y, .bool true]⟩ := h3
  have h2 : okB (packN n) = true := h2
  cases hl : lfB (packN n)
  · rw [unp_inner h2 hl] at h3
    simp only [nd, Value.tuple.injEq, Array.mk.injEq, List.cons.injEq, Value.agg.injEq, Value.bool.injEq, Value.int.injEq, true_and, and_true] at h3
    obtain ⟨e0, e1, e2, e3, e4, e5⟩ := h3
    exact ⟨e0, fun h => by rw [← e0] at h; exact absurd h (by simp), fun _ => ⟨e2, e3, e4, e5⟩⟩
  · rw [unp_leaf h2 hl] at h3
    simp only [nd, Value.tuple.injEq, Array.mk.injEq, List.cons.injEq, Value.agg.injEq, Value.bool.injEq, Value.int.injEq, true_and, and_true] at h3
    obtain ⟨e0, e1, e2, e3, e4, e5⟩ := h3
    exact ⟨e0, fun _ => e1, fun h => by rw [← e0] at h; exact absurd h (by simp)⟩
theorem names_pack {n : Nd} (h : rightN n = true) : namesW (packN n) = namesN n := by
  obtain ⟨_, _, h3, _, h5⟩ := pack_tells h
  unfold namesW namesN
  rw [h3]
  cases hl : n.leaf
  · obtain ⟨_, _, e3, e4⟩ := h5 hl
    rw [e3, e4]
  · rfl
theorem named_pack {nodes : List Nd} (h : ∀ n ∈ nodes, rightN n = true) (k : Int) : named (nodes.map packN) k = cntN nodes k := by
  induction nodes with
  | nil => rfl
  | cons n nodes ih =>
    simp only [named, cntN, List.map_cons, List.flatMap_cons, List.count_append] at ih ⊢
    rw [names_pack (h n (by simp)), ih fun m hm => h m (by simp [hm])]
/-- What holds of nodes and leaves, for right trees. -/
structure NdR (dim : Int) (i : Nat) (nodes : List Nd) (leaves : List Int) : Prop where
  nl : nodes.length = 2 * i + 1
  ll : leaves.length = i + 1
  nodup : leaves.Nodup
  leaf : ∀ l ∈ leaves, 0 ≤ l ∧ ∃ n, nodes[l.toNat]? = some n ∧ n.leaf = true
  right : ∀ n ∈ nodes, rightN n = true
  inner : ∀ (j : Nat) (n : Nd), nodes[j]? = some n → n.leaf = false → n.f < dim ∧ n.x ≠ n.y ∧ (j : Int) < n.x ∧ (j : Int) < n.y ∧ n.x < nodes.length ∧ n.y < nodes.length
  once : ∀ k : Nat, 1 ≤ k → k < nodes.length → cntN nodes (k : Int) = 1
  lc : ((nodes.filter fun n => n.leaf).length = i + 1)
theorem cnt_app (l m : List Nd) (k : Int) : cntN (l ++ m) k = cntN l k + cntN m k := by simp [cntN, List.flatMap_append, List.count_append]
theorem set_split {α : Type} {l : List α} {a : Nat} {x y : α} (h : l[a]? = some x) : l = l.take a ++ x :: l.drop (a + 1) ∧ l.set a y = l.take a ++ y :: l.drop (a + 1) := by
  have hlt := (List.getElem?_eq_some_iff.1 h).1
  have he := (List.getElem?_eq_some_iff.1 h).2
  refine ⟨?_, by rw [List.set_eq_take_append_cons_drop, if_pos hlt]⟩
  conv => lhs; rw [← List.take_append_drop a l]
  rw [List.drop_eq_getElem_cons hlt, he]
theorem cnt_set {nodes : List Nd} {a : Nat} {n m : Nd} (h : nodes[a]? = some n) (hl : n.leaf = true) (k : Int) : cntN (nodes.set a m) k = cntN nodes k + (namesN m).count k := by
  obtain ⟨e1, e2⟩ := set_split (y := m) h
  have hn : namesN n = [] := by simp [namesN, hl]
  rw [e2]
  conv => rhs; rw [e1]
  simp only [cntN, List.flatMap_append, List.flatMap_cons, List.count_append, hn, List.count_nil]
  omega
theorem cnt_ge {nodes : List Nd} {N k : Int} (h : ∀ n ∈ nodes, n.leaf = false → n.x < N ∧ n.y < N) (hk : N ≤ k) : cntN nodes k = 0 := by
  unfold cntN
  rw [List.count_eq_zero]
  intro hm
  obtain ⟨n, hn, hm⟩ := List.mem_flatMap.1 hm
  unfold namesN at hm
  cases hl : n.leaf
  · rw [hl] at hm
    have := h n hn hl
    simp at hm
    omega
  · rw [hl] at hm; simp at hm
theorem right_lf {z : Int} (h : -3000 ≤ z ∧ z ≤ 3000) : rightN ⟨true, z, 0, 0, 0, 0⟩ = true := by
  show rightB true z 0 0 0 0 = true
  simp [rightB, fitB]; omega
theorem right_in {f a x y : Int} (hf : 0 ≤ f ∧ f < 4) (ha : 0 ≤ a ∧ a ≤ 9) (hx : 1 ≤ x ∧ x < 31) (hy : 1 ≤ y ∧ y < 31) : rightN ⟨false, 0, f, a, x, y⟩ = true := by
  show rightB false 0 f a x y = true
  simp [rightB, fitB, chB]; omega
theorem ndr0 (dim z : Int) (h : -3000 ≤ z ∧ z ≤ 3000) : NdR dim 0 [⟨true, z, 0, 0, 0, 0⟩] [0] := by
  refine ⟨rfl, rfl, by simp, fun l hl => ?_, fun n hn => ?_, fun j n hj hl => ?_, fun k h1 h2 => ?_, rfl⟩
  · simp at hl; subst hl; exact ⟨Int.le_refl _, ⟨true, z, 0, 0, 0, 0⟩, rfl, rfl⟩
  · simp at hn; subst hn; exact right_lf h
  · cases j with
    | zero => simp at hj; subst hj; exact absurd hl (by simp)
    | succ j => simp at hj
  · simp at h2; omega
theorem ndr_step {bl al vl : List Int} {dim pz : Int} {i : Nat} {nodes : List Nd} {leaves : List Int} (hd : 1 ≤ dim ∧ dim ≤ 4) (hi : i < 7) (h : NdR dim i nodes leaves) : NdR dim (i + 1) (ndNodes bl al vl dim pz i nodes leaves) (ndLeaves pz nodes leaves) := by
  have hne : leaves ≠ [] := fun e => by have := h.ll; rw [e] at this; simp at this
  have hk := (nd_k (pz := pz) hne).2
  have hpl := nd_pl (pz := pz) hne
  have hnl := h.nl
  have hll := h.ll
  have hmem : ndPl pz leaves ∈ leaves := List.mem_of_getElem? hpl
  obtain ⟨p0, n0, hn0, hl0⟩ := h.leaf _ hmem
  have hlt0 := (List.getElem?_eq_some_iff.1 hn0).1
  have hlen : (ndNodes bl al vl dim pz i nodes leaves).length = nodes.length + 2 := by simp [ndNodes]
  have hold : ∀ l ∈ leaves, l < nodes.length := fun l hl => by
    obtain ⟨q0, n, hn, _⟩ := h.leaf l hl
    have := (List.getElem?_eq_some_iff.1 hn).1
    omega
  have hf := within_range (pickI bl i) (show (0 : Int) ≤ dim - 1 by omega)
  have ha := within_range (pickI al i) (show (0 : Int) ≤ 9 by omega)
  have v1 := within_range (pickI vl (2 * i + 1)) (show (-3000 : Int) ≤ 3000 by omega)
  have v2 := within_range (pickI vl (2 * i + 2)) (show (-3000 : Int) ≤ 3000 by omega)
  have hnd : ∀ l ∈ leaves.take (ndK pz leaves) ++ leaves.drop (ndK pz leaves + 1), l ∈ leaves ∧ l ≠ ndPl pz leaves := by
    obtain ⟨e1, _⟩ := set_split (y := (0 : Int)) hpl
    have hd := h.nodup
    rw [e1] at hd
    have hd2 := List.nodup_append.1 hd
    intro l hl
    refine ⟨?_, fun e => ?_⟩
    · rcases List.mem_append.1 hl with hl | hl
      · exact List.mem_of_mem_take hl
      · exact List.mem_of_mem_drop hl
    · subst e
      rcases List.mem_append.1 hl with hl | hl
      · exact hd2.2.2 _ hl _ (List.mem_cons_self ..) rfl
      · exact (List.nodup_cons.1 hd2.2.1).1 hl
  have hnodup : (leaves.take (ndK pz leaves) ++ leaves.drop (ndK pz leaves + 1)).Nodup := by
    obtain ⟨e1, _⟩ := set_split (y := (0 : Int)) hpl
    have hd := h.nodup
    rw [e1] at hd
    have hd2 := List.nodup_append.1 hd
    exact List.nodup_append.2 ⟨hd2.1, (List.nodup_cons.1 hd2.2.1).2, fun a ha b hb => hd2.2.2 a ha b (List.mem_cons_of_mem _ hb)⟩
  refine ⟨by omega, by simp [ndLeaves]; omega, ?_, fun l hl => ?_, fun n hn => ?_, fun j n hj hl => ?_, fun k h1 h2 => ?_, ?_⟩
  · unfold ndLeaves
    refine List.nodup_append.2 ⟨hnodup, by simp; omega, fun a ha b hb => ?_⟩
    have := hold a (hnd a ha).1
    simp at hb
    omega
  · unfold ndLeaves at hl
    rcases List.mem_append.1 hl with hl | hl
    · obtain ⟨m1, m2⟩ := hnd l hl
      obtain ⟨q0, n, hn, hlf⟩ := h.leaf l m1
      have hlt := (List.getElem?_eq_some_iff.1 hn).1
      refine ⟨q0, n, ?_, hlf⟩
      unfold ndNodes
      rw [List.getElem?_append_left (by simpa using hlt), List.getElem?_set_ne (by omega)]
      exact hn
    · simp at hl
      rcases hl with rfl | rfl
      · refine ⟨by omega, ⟨true, withinS (pickI vl (2 * i + 1)) (-3000) 3000, 0, 0, 0, 0⟩, ?_, rfl⟩
        unfold ndNodes
        rw [List.getElem?_append_right (by simp)]
        simp
      · refine ⟨by omega, ⟨true, withinS (pickI vl (2 * i + 2)) (-3000) 3000, 0, 0, 0, 0⟩, ?_, rfl⟩
        unfold ndNodes
        have e : ((nodes.length : Int) + 1).toNat = nodes.length + 1 := by omega
        rw [e, List.getElem?_append_right (by simp)]
        simp
  · simp only [ndNodes, List.mem_append, List.mem_cons, List.not_mem_nil, or_false] at hn
    rcases hn with hn | rfl | rfl
    · rcases List.mem_or_eq_of_mem_set hn with hn | rfl
      · exact h.right n hn
      · exact right_in (by omega) ha (by omega) (by omega)
    · exact right_lf v1
    · exact right_lf v2
  · rw [hlen]
    unfold ndNodes at hj
    by_cases hjl : j < nodes.length
    · rw [List.getElem?_append_left (by simpa using hjl)] at hj
      by_cases e : (ndPl pz leaves).toNat = j
      · rw [← e, List.getElem?_set_self hlt0] at hj
        injection hj with hj
        subst hj
        simp only
        omega
      · rw [List.getElem?_set_ne e] at hj
        have := h.inner j n hj hl
        omega
    · rw [List.getElem?_append_right (by simp; omega)] at hj
      have hm := List.mem_of_getElem? hj
      simp at hm
      rcases hm with rfl | rfl <;> exact absurd hl (by simp)
  · rw [hlen] at h2
    have hold2 : ∀ n ∈ nodes, n.leaf = false → n.x < (nodes.length : Int) ∧ n.y < (nodes.length : Int) := fun n hn hl => by
      obtain ⟨j, hj⟩ := List.mem_iff_getElem?.1 hn
      have := h.inner j n hj hl
      omega
    unfold ndNodes
    rw [cnt_app, cnt_set hn0 hl0]
    have hz : cntN [⟨true, withinS (pickI vl (2 * i + 1)) (-3000) 3000, 0, 0, 0, 0⟩, ⟨true, withinS (pickI vl (2 * i + 2)) (-3000) 3000, 0, 0, 0, 0⟩] (k : Int) = 0 := rfl
    rw [hz]
    simp only [namesN, cond_false, List.count_cons, List.count_nil]
    by_cases hkl : k < nodes.length
    · rw [h.once k h1 hkl]
      have e1 : ((nodes.length : Int) == (k : Int)) = false := by simp; omega
      have e2 : ((nodes.length : Int) + 1 == (k : Int)) = false := by simp; omega
      simp [e1, e2]
    · rw [cnt_ge hold2 (by omega)]
      by_cases e : k = nodes.length
      · subst e
        have e2 : ((nodes.length : Int) + 1 == (nodes.length : Int)) = false := by simp; omega
        simp [e2]
      · have e1 : ((nodes.length : Int) == (k : Int)) = false := by simp; omega
        have e2 : ((nodes.length : Int) + 1 == (k : Int)) = true := by simp; omega
        simp [e1, e2]
  · obtain ⟨e1, e2⟩ := set_split (y := (⟨false, 0, withinS (pickI bl i) 0 (dim - 1), withinS (pickI al i) 0 9, nodes.length, (nodes.length : Int) + 1⟩ : Nd)) hn0
    have hlc := h.lc
    rw [e1] at hlc
    unfold ndNodes
    rw [e2]
    simp only [List.filter_append, List.filter_cons, hl0, List.length_append, if_true, Bool.false_eq_true, if_false, List.filter_nil, List.length_cons, List.length_nil] at hlc ⊢
    omega
theorem ndr_go {bl al vl : List Int} {dim : Int} (hd : 1 ≤ dim ∧ dim ≤ 4) : ∀ {ps : List Int} {i : Nat} {nodes : List Nd} {leaves : List Int}, i + ps.length ≤ 7 → NdR dim i nodes leaves → ∃ leaves', NdR dim (i + ps.length) (ndGo bl al vl dim ps i nodes leaves) leaves'
  | [], i, nodes, leaves, _, h => ⟨leaves, h⟩
  | pz :: ps, i, nodes, leaves, hl, h => by
    simp only [List.length_cons] at hl
    obtain ⟨l', h'⟩ := ndr_go hd (ps := ps) (i := i + 1) (by omega) (ndr_step (bl := bl) (al := al) (vl := vl) (pz := pz) hd (by omega) h)
    refine ⟨l', ?_⟩
    simp only [ndGo, List.length_cons]
    rw [show i + (ps.length + 1) = i + 1 + ps.length by omega]
    exact h'
theorem nodes_ndr (pl bl al vl : List Int) {dim : Int} (hd : 1 ≤ dim ∧ dim ≤ 4) : ∃ i leaves, i ≤ 7 ∧ NdR dim i (nodesI pl bl al vl dim) leaves := by
  obtain ⟨l, h⟩ := ndr_go (bl := bl) (al := al) (vl := vl) hd (ps := pl.take 7) (i := 0) (by rw [List.length_take]; omega) (ndr0 dim _ (within_range (pickI vl 0) (show (-3000 : Int) ≤ 3000 by omega)))
  exact ⟨_, l, by rw [List.length_take]; omega, h⟩
abbrev wordsI (pl bl al vl : List Int) (dim : Int) : List Int := (nodesI pl bl al vl dim).map packN
/-- What Tree.Nodes makes is a right tree. -/
theorem nodes_right (pl bl al vl : List Int) {dim : Int} (hd : 1 ≤ dim ∧ dim ≤ 4) : rightI (wordsI pl bl al vl dim) dim = true ∧ (∀ w ∈ wordsI pl bl al vl dim, U64 w) ∧ (wordsI pl bl al vl dim).length ≤ 15 := by
  obtain ⟨i, leaves, hi, h⟩ := nodes_ndr pl bl al vl hd
  have hnl := h.nl
  refine ⟨right_parts.2 ⟨⟨by simp; omega, by simp; omega⟩, fun j w hw => ?_, fun k h1 h2 => ?_⟩, fun w hw => ?_, by simp; omega⟩
  · rw [List.getElem?_map] at hw
    cases hn : (nodesI pl bl al vl dim)[j]? with
    | none => rw [hn] at hw; simp at hw
    | some n =>
      rw [hn] at hw
      simp at hw
      subst hw
      have hr := h.right n (List.mem_of_getElem? hn)
      obtain ⟨_, t1, t2, _, t4⟩ := pack_tells hr
      cases hl : n.leaf
      · rw [hl] at t2
        obtain ⟨a1, a2, a3, a4⟩ := t4 hl
        obtain ⟨b1, b2, b3, b4, b5, b6⟩ := h.inner j n hn hl
        rw [List.length_map]
        exact good_mk t2 t1 (by omega) (by omega) (by omega) (by omega) (by omega) (by omega)
      · rw [hl] at t2
        exact good_leaf t1 t2
  · rw [named_pack h.right]
    exact h.once k h1 (by simpa using h2)
  · obtain ⟨n, hn, rfl⟩ := List.mem_map.1 hw
    exact (pack_tells (h.right n hn)).1
/-! ### Walks in right trees -/
theorem right_ok {ws : List Int} {dim : Int} (h : rightI ws dim = true) : ∀ w ∈ ws, okB w = true := fun w hw => by
  obtain ⟨j, hj⟩ := List.mem_iff_getElem?.1 hw
  have := (right_parts.1 h).2.1 j w hj
  simp [goodW] at this
  exact this.1
theorem goes_next {ws : List Int} {dim : Int} (h : rightI ws dim = true) {p : Pt} {a : Nat} {w : Int} (hw : ws[a]? = some w) (hl : lfB w = false) : a < (goes p w).toNat ∧ (goes p w).toNat < ws.length := by
  obtain ⟨_, _, _, h3, h4, h5, h6⟩ := good_inner ((right_parts.1 h).2.1 a w hw) hl
  unfold goes
  cases decide (p.at (uF w) ≤ low32 w)
  · simp only [cond_false]; omega
  · simp only [cond_true]; omega
theorem goW_ends {ws : List Int} {dim : Int} (h : rightI ws dim = true) (p : Pt) : ∀ (k a : Nat), a < ws.length → ws.length ≤ k + a → ∃ b, goW ws p k a = some b
  | 0, a, h1, h2 => by omega
  | k + 1, a, h1, h2 => by
    have hw : ws[a]? = some ws[a] := List.getElem?_eq_getElem h1
    have ho := right_ok h _ (List.mem_of_getElem? hw)
    cases hl : lfB ws[a]
    · rw [goW_step hw ho hl]
      obtain ⟨g1, g2⟩ := goes_next h (p := p) hw hl
      exact goW_ends h p k _ g2 (by omega)
    · rw [goW_leaf hw ho hl]; exact ⟨a, rfl⟩
theorem walk_ends {ws : List Int} {dim : Int} (h : rightI ws dim = true) (p : Pt) : ∃ b, goW ws p 31 0 = some b := by
  obtain ⟨⟨h1, h2⟩, _⟩ := right_parts.1 h
  exact goW_ends h p 31 0 (by omega) (by omega)
/-- Points that go the same way at each threshold. -/
theorem goW_same {ws : List Int} {p q : Pt} (h : ∀ w ∈ ws, lfB w = false → decide (p.at (uF w) ≤ low32 w) = decide (q.at (uF w) ≤ low32 w)) : ∀ (k a : Nat), goW ws p k a = goW ws q k a
  | 0, a => rfl
  | k + 1, a => by
    cases hw : ws[a]? with
    | none => simp only [goW, hw]
    | some w =>
      cases ho : okB w with
      | false => rw [goW_bad hw ho, goW_bad hw ho]
      | true =>
        cases hl : lfB w with
        | true => rw [goW_leaf hw ho hl, goW_leaf hw ho hl]
        | false =>
          rw [goW_step hw ho hl, goW_step hw ho hl]
          have : goes p w = goes q w := by unfold goes; rw [h w (List.mem_of_getElem? hw) hl]
          rw [this]
          exact goW_same h k _
theorem walk_same {ws : List Int} {p q : Pt} (h : ∀ w ∈ ws, lfB w = false → decide (p.at (uF w) ≤ low32 w) = decide (q.at (uF w) ≤ low32 w)) : walkI ws p = walkI ws q := by
  unfold walkI; rw [goW_same h]
theorem walk_nn {ws : List Int} {dim : Int} (h : rightI ws dim = true) (p : Pt) : 0 ≤ walkI ws p := by
  obtain ⟨b, hb⟩ := walk_ends h p
  rw [(end_some hb).1]; omega
end Go.Proofs.Ythbaccmhdffjdaa.Tr


set_option linter.unusedVariables false
set_option linter.unusedSimpArgs false
set_option maxRecDepth 100000
namespace Go.Proofs.Ythbaccmhdffjdaa.Tn
open Go Go.RowKit Go.Proofs.Ythbaccmhdffjdaa.Ev Go.Proofs.Ythbaccmhdffjdaa.Within Go.Proofs.Ythbaccmhdffjdaa.PickE Go.Proofs.Ythbaccmhdffjdaa.NodeE Go.Proofs.Ythbaccmhdffjdaa.Tn

/-- A slice of numbers that comes in: is it there, its row, its length, its room. -/
structure Rw where
  z : Bool
  cs : List Value
  n : Nat
  c : Nat
def Rw.v (r : Rw) (k : Nat) : Value := bif r.z then .slice (some ⟨k, 0, none⟩) r.n r.c else .slice none 0 0
def Rw.l (r : Rw) : List Int := bif r.z then intsOf r.cs 0 r.n else []
def Rw.k (r : Rw) : Nat := bif r.z then 1 else 0
def Rw.len (r : Rw) : Nat := bif r.z then r.n else 0
def Rw.js (r : Rw) (k : Nat) : List Nat := bif r.z then [k] else []
def Rw.rs (r : Rw) : List Blk := bif r.z then [.ro r.cs] else []
def Rw.css (r : Rw) (l : List (List Value)) : List (List Value) := bif r.z then r.cs :: l else l
def Rw.ob (r : Rw) (i : Int) : List Prop := bif r.z then [plainR [r.cs], IntRow .i64 r.cs 0 r.n, 0 ≤ i] else [plainR []]
def Rw.good (r : Rw) : Prop := r.z = true → IntRow .i64 r.cs 0 r.n ∧ (∀ z ∈ intsOf r.cs 0 r.n, I64 z) ∧ ∀ x ∈ r.cs, leafG x = true
def vsZ (cl : Int) (r0 r1 r2 r3 : Rw) : List Value := [.int .i64 cl, r0.v 0, r1.v r0.k, r2.v (r0.k + r1.k), r3.v (r0.k + r1.k + r2.k)]
def jsZ (r0 r1 r2 r3 : Rw) : List Nat := r0.js 0 ++ (r1.js r0.k ++ (r2.js (r0.k + r1.k) ++ r3.js (r0.k + r1.k + r2.k)))
def rsZ (r0 r1 r2 r3 : Rw) : List Blk := r0.rs ++ (r1.rs ++ (r2.rs ++ r3.rs))
def cssZ (r0 r1 r2 r3 : Rw) : List (List Value) := r0.css (r1.css (r2.css (r3.css [])))
def nxZ (r0 r1 r2 r3 : Rw) : Nat := (cssZ r0 r1 r2 r3).length
theorem all_app {l m : List Prop} (h1 : all l) (h2 : all m) : all (l ++ m) := by
  rw [all_iff] at h1 h2 ⊢
  intro p hp
  rcases List.mem_append.1 hp with h | h
  · exact h1 p h
  · exact h2 p h
theorem Rw.good.ob {r : Rw} (h : r.good) {i : Int} (hi : 0 ≤ i) : all (r.ob i) := by
  obtain ⟨z, cs, n, c⟩ := r
  cases z
  · exact ⟨fun x hx => by simp at hx, trivial⟩
  · obtain ⟨h1, _, h3⟩ := h rfl
    exact ⟨plain1 h3, h1, hi, trivial⟩
theorem Rw.good.l64 {r : Rw} (h : r.good) : ∀ z ∈ r.l, I64 z := by
  obtain ⟨z, cs, n, c⟩ := r
  cases z
  · intro x hx; simp [Rw.l] at hx
  · exact (h rfl).2.1
theorem pick_i64 {zs : List Int} (h : ∀ z ∈ zs, I64 z) (i : Int) : I64 (pickI zs i) := by
  unfold pickI
  rw [List.getD_eq_getElem?_getD]
  cases hg : zs[(i.tmod zs.length).toNat]? with
  | none => exact i0
  | some z => exact h z (List.mem_of_getElem? hg)
theorem nxZ_le (r0 r1 r2 r3 : Rw) : nxZ r0 r1 r2 r3 ≤ 4 := by
  obtain ⟨z0, _, _, _⟩ := r0
  obtain ⟨z1, _, _, _⟩ := r1
  obtain ⟨z2, _, _, _⟩ := r2
  obtain ⟨z3, _, _, _⟩ := r3
  cases z0 <;> cases z1 <;> cases z2 <;> cases z3 <;> simp [nxZ, cssZ, Rw.css]
theorem rw_k (r : Rw) : r.k ≤ 1 := by unfold Rw.k; cases r.z <;> decide
theorem jsZ_lt (r0 r1 r2 r3 : Rw) : ∀ j ∈ jsZ r0 r1 r2 r3, j < 13 := by
  have k0 := rw_k r0
  have k1 := rw_k r1
  have k2 := rw_k r2
  have js : ∀ (r : Rw) (k j : Nat), j ∈ r.js k → j = k := fun r k j h => by
    unfold Rw.js at h
    cases hz : r.z <;> rw [hz] at h <;> simp at h
    exact h
  intro j hj
  simp only [jsZ, List.mem_append] at hj
  rcases hj with h | h | h | h <;> have := js _ _ _ h <;> omega
theorem vsZ_lt (cl : Int) (r0 r1 r2 r3 : Rw) : ∀ c ∈ vsZ cl r0 r1 r2 r3, ∀ k ∈ nm0 c, k < 13 := by
  have k0 := rw_k r0
  have k1 := rw_k r1
  have k2 := rw_k r2
  have vs : ∀ (r : Rw) (k j : Nat), j ∈ nm0 (r.v k) → j = k := fun r k j h => by
    unfold Rw.v at h
    cases hz : r.z <;> rw [hz] at h <;> simp [nm0] at h
    exact h
  intro c hc k hk
  simp only [vsZ, List.mem_cons, List.not_mem_nil, or_false] at hc
  rcases hc with rfl | rfl | rfl | rfl | rfl
  · simp [nm0] at hk
  · have := vs _ _ _ hk; omega
  · have := vs _ _ _ hk; omega
  · have := vs _ _ _ hk; omega
  · have := vs _ _ _ hk; omega
theorem rsZ_pl {r0 r1 r2 r3 : Rw} (g0 : r0.good) (g1 : r1.good) (g2 : r2.good) (g3 : r3.good) : ∀ x ∈ rsZ r0 r1 r2 r3, x.plain := by
  have rs : ∀ (r : Rw), r.good → ∀ x ∈ r.rs, x.plain := fun r g x h => by
    unfold Rw.rs at h
    cases hz : r.z <;> rw [hz] at h <;> simp at h
    subst h
    exact (g hz).2.2
  intro x hx
  simp only [rsZ, List.mem_append] at hx
  rcases hx with h | h | h | h
  · exact rs _ g0 x h
  · exact rs _ g1 x h
  · exact rs _ g2 x h
  · exact rs _ g3 x h
theorem rsZ_rn {r0 r1 r2 r3 : Rw} (g0 : r0.good) (g1 : r1.good) (g2 : r2.good) (g3 : r3.good) (f : Nat → Nat) : (rsZ r0 r1 r2 r3).map (Blk.rnB f) = rsZ r0 r1 r2 r3 := by
  conv => rhs; rw [← List.map_id (rsZ r0 r1 r2 r3)]
  exact List.map_congr_left fun x hx => Blk.plain.rnB (rsZ_pl g0 g1 g2 g3 x hx) f
end Go.Proofs.Ythbaccmhdffjdaa.Tn


set_option linter.unusedVariables false
set_option linter.unusedSimpArgs false
set_option maxRecDepth 100000
namespace Go.Proofs.Ythbaccmhdffjdaa.Tn
open Go Go.RowKit Go.Proofs.Ythbaccmhdffjdaa.Ev Go.Proofs.Ythbaccmhdffjdaa.Within Go.Proofs.Ythbaccmhdffjdaa.PickE Go.Proofs.Ythbaccmhdffjdaa.NodeE Go.Proofs.Ythbaccmhdffjdaa.Tn
theorem tnz (Q : NF → Prop) (cl dim v0 : Int) (r0 r1 r2 r3 : Rw)  {E : Env} {rv : Value} {rhs : List Nat} {rhv : List Blk} (hE : EnvOK E Try.prog Try.f24 2 (nxZ r0 r1 r2 r3) rv rhs rhv) (hL : (tnL dim (vsZ cl r0 r1 r2 r3) (jsZ r0 r1 r2 r3) (rsZ r0 r1 r2 r3) Q).OK (nxZ r0 r1 r2 r3)) (hob : all ([SameK (atLp (lp Try.f24 0)) (atLp (lp Try.f24 0)), Enter (tnL dim (vsZ cl r0 r1 r2 r3) (jsZ r0 r1 r2 r3) (rsZ r0 r1 r2 r3) Q) 0 none [Value.int IntKind.i64 dim, Value.pointer (some (Addr.mk (nxZ r0 r1 r2 r3) 0 none)), Value.slice (some (Addr.mk (nxZ r0 r1 r2 r3 + 28) 0 none)) 1 1267650600228229401496703205376, Value.slice (some (Addr.mk (nxZ r0 r1 r2 r3 + 36) 0 none)) 1 1267650600228229401496703205376, Value.int IntKind.i64 ((0 : Int))] ([Blk.cells (vsZ cl r0 r1 r2 r3) 55, Blk.vec [Value.bool true, Value.int IntKind.i64 v0, Value.int IntKind.i64 ((0 : Int)), Value.int IntKind.i64 ((0 : Int)), Value.int IntKind.i64 ((0 : Int)), Value.int IntKind.i64 ((0 : Int))] 86 6, Blk.vec [Value.int IntKind.i64 ((0 : Int))] 3 1] ++ rsZ r0 r1 r2 r3) [(10, nxZ r0 r1 r2 r3), (11, nxZ r0 r1 r2 r3 + 28), (12, nxZ r0 r1 r2 r3 + 36)], Value.int IntKind.i64 (withinS (pickI (Rw.l r3) ((0 : Int))) ((-3000 : Int)) ((3000 : Int))) = Value.int IntKind.i64 v0, I64 (pickI (Rw.l r3) ((0 : Int))), (-2305843009213693952 : Int) ≤ (-3000 : Int), (-3000 : Int) ≤ (3000 : Int), (3000 : Int) ≤ (2305843009213693952 : Int)] ++ (Rw.ob r3 ((0 : Int))))) (hK : ∀ zz, (tnL dim (vsZ cl r0 r1 r2 r3) (jsZ r0 r1 r2 r3) (rsZ r0 r1 r2 r3) Q).inv 0 zz → ltO ((tnL dim (vsZ cl r0 r1 r2 r3) (jsZ r0 r1 r2 r3) (rsZ r0 r1 r2 r3) Q).mu 0 zz) none → Sat E (atLp (lp Try.f24 0)) ((tnL dim (vsZ cl r0 r1 r2 r3) (jsZ r0 r1 r2 r3) (rsZ r0 r1 r2 r3) Q).st 0 zz)) : Sat E [.code (bodyOf Try.f24)] (st0 Try.f24 [.agg ⟨(vsZ cl r0 r1 r2 r3)⟩, .int .i64 dim] (roRows (cssZ r0 r1 r2 r3)) (nxZ r0 r1 r2 r3)) :=
  by
  obtain ⟨z0, cs0, n0, c0⟩ := r0
  obtain ⟨z1, cs1, n1, c1⟩ := r1
  obtain ⟨z2, cs2, n2, c2⟩ := r2
  obtain ⟨z3, cs3, n3, c3⟩ := r3
  cases z0 <;> cases z1 <;> cases z2 <;> cases z3 <;> exact by_to (T := auto0 t_tn) (h := hints [(1, 3, {v := some (.int .i64 v0)}), (1, 5, {p := true}), (2, 0, {p := true})]) (ws := [.stop]) (i0 := ⟨0, [⟨true, v0, 0, 0, 0, 0⟩], [0]⟩) hE hm (auto0_ok t_tn_ok) hL (by kernel_rfl) hob hK
theorem tbza (Q : NF → Prop) (cl dim : Int) (r0 r1 r2 r3 : Rw) (hz0 : r0.z = true) (i k k1 : Nat) (nodes nodes2 : List Nd) (leaves leaves2 : List Int) (pz lm lm1 pl nn d1 f a nn1 i2 i21 i22 x1 x2 : Int) (q1 : List Value)  (J : Act → World → Prop) {E : Env} {rv : Value} {rhs : List Nat} {rhv : List Blk} (hE : EnvOK E Try.prog Try.f24 2 (nxZ r0 r1 r2 r3) rv rhs rhv) (hL : ((tnL dim (vsZ cl r0 r1 r2 r3) (jsZ r0 r1 r2 r3) (rsZ r0 r1 r2 r3) Q)).OK (nxZ r0 r1 r2 r3)) (hob : all ([SameK (mkLp (lp Try.f24 0) J) (mkLp (lp Try.f24 0) J), Enter (tnL dim (vsZ cl r0 r1 r2 r3) (jsZ r0 r1 r2 r3) (rsZ r0 r1 r2 r3) Q) 0 (some (7 - i)) [Value.int IntKind.i64 dim, Value.pointer (some (Addr.mk 10 0 none)), Value.slice (some (Addr.mk 273 0 none)) (nodes.length + 2) 1267650600228229401496703205376, Value.slice (some (Addr.mk 337 0 none)) 2 1267650600228229401496703205376, Value.int IntKind.i64 (Int.ofNat i.succ)] ([Blk.cells (vsZ cl r0 r1 r2 r3) 55, Blk.vec (eNd.row nodes2) 86 6, Blk.vec (eInt.row leaves2) 3 1] ++ rsZ r0 r1 r2 r3) [(10, 10), (11, 273), (12, 337)], Value.int IntKind.i64 (IntKind.i64.wrap (Int.ofNat i.succ)) = Value.int IntKind.i64 (Int.ofNat i.succ), AppOK (some (Blk.cells [] 3)) 0 0 1 8 2 [Value.int IntKind.i64 nn, Value.int IntKind.i64 nn1] 0 (eInt.row leaves2), Value.int IntKind.i64 (IntKind.i64.wrap (nn + (1 : Int))) = Value.int IntKind.i64 nn1, ZeroOK 0 (Value.slice (some (Addr.mk 281 0 none)) 0 0) (some (Blk.cells [] 3)), EndOK 1 leaves.length 1267650600228229401496703205376 (some ((k1 : Int))) none (some (Blk.vec (eInt.row leaves) 3 1)), Value.int IntKind.i64 (IntKind.i64.wrap (Int.ofNat k.succ)) = Value.int IntKind.i64 ((k1 : Int)), ZeroOK k (Value.slice (some (Addr.mk 281 0 none)) 0 0) (some (Blk.cells [] 3)), SlOK 1 12 0 leaves.length 1267650600228229401496703205376 none (some ((k : Int))) (some (Blk.vec (eInt.row leaves) 3 1)) (Value.slice (some (Addr.mk 12 0 none)) k 1267650600228229401496703205376), AppOK (some (Blk.vec q1 86 6)) nodes.length 1267650600228229401496703205376 6 48 2 [Value.bool true, Value.int IntKind.i64 x1, Value.int IntKind.i64 ((0 : Int)), Value.int IntKind.i64 ((0 : Int)), Value.int IntKind.i64 ((0 : Int)), Value.int IntKind.i64 ((0 : Int)), Value.bool true, Value.int IntKind.i64 x2, Value.int IntKind.i64 ((0 : Int)), Value.int IntKind.i64 ((0 : Int)), Value.int IntKind.i64 ((0 : Int)), Value.int IntKind.i64 ((0 : Int))] 0 (eNd.row nodes2), Value.int IntKind.i64 (withinS (pickI (Rw.l r3) i22) ((-3000 : Int)) ((3000 : Int))) = Value.int IntKind.i64 x2, I64 (pickI (Rw.l r3) i22), (-2305843009213693952 : Int) ≤ (-3000 : Int), (-3000 : Int) ≤ (3000 : Int), (3000 : Int) ≤ (2305843009213693952 : Int)] ++ (Rw.ob r3 (i22) ++ ([Value.int IntKind.i64 (IntKind.i64.wrap (i2 + (2 : Int))) = Value.int IntKind.i64 i22, Value.int IntKind.i64 (IntKind.i64.wrap (Int.ofNat (2 * i))) = Value.int IntKind.i64 i2, Value.int IntKind.i64 (withinS (pickI (Rw.l r3) i21) ((-3000 : Int)) ((3000 : Int))) = Value.int IntKind.i64 x1, I64 (pickI (Rw.l r3) i21), (-2305843009213693952 : Int) ≤ (-3000 : Int), (-3000 : Int) ≤ (3000 : Int), (3000 : Int) ≤ (2305843009213693952 : Int)] ++ (Rw.ob r3 (i21) ++ ([Value.int IntKind.i64 (IntKind.i64.wrap (i2 + (1 : Int))) = Value.int IntKind.i64 i21, Value.int IntKind.i64 (IntKind.i64.wrap (Int.ofNat (2 * i))) = Value.int IntKind.i64 i2, lset (eNd.row nodes) (0 + pl.toNat * 6) [Value.bool false, Value.int IntKind.i64 0, Value.int IntKind.i64 f, Value.int IntKind.i64 a, Value.int IntKind.i64 nn, Value.int IntKind.i64 nn1] = some q1, (0 : Int) ≤ pl ∧ pl < Int.ofNat nodes.length, Value.int IntKind.i64 (IntKind.i64.wrap (nn + (1 : Int))) = Value.int IntKind.i64 nn1, Value.int IntKind.i64 (withinS (pickI (Rw.l r2) ((i : Int))) ((0 : Int)) ((9 : Int))) = Value.int IntKind.i64 a, I64 (pickI (Rw.l r2) ((i : Int))), (-2305843009213693952 : Int) ≤ (0 : Int), (0 : Int) ≤ (9 : Int), (9 : Int) ≤ (2305843009213693952 : Int)] ++ (Rw.ob r2 ((i : Int)) ++ ([Value.int IntKind.i64 (withinS (pickI (Rw.l r1) ((i : Int))) ((0 : Int)) d1) = Value.int IntKind.i64 f, I64 (pickI (Rw.l r1) ((i : Int))), (-2305843009213693952 : Int) ≤ (0 : Int), (0 : Int) ≤ d1, d1 ≤ (2305843009213693952 : Int), Value.int IntKind.i64 (IntKind.i64.wrap (dim - (1 : Int))) = Value.int IntKind.i64 d1] ++ (Rw.ob r1 ((i : Int)) ++ ([Value.int IntKind.i64 (Int.ofNat nodes.length) = Value.int IntKind.i64 nn, readPart Try.prog 3 (eInt.row leaves) (0 + ((k : Int)).toNat * 1) = some (Value.int IntKind.i64 pl), (0 : Int) ≤ (k : Int) ∧ (k : Int) < Int.ofNat leaves.length, Value.int IntKind.i64 (withinS pz ((0 : Int)) lm1) = Value.int IntKind.i64 ((k : Int)), I64 pz, (-2305843009213693952 : Int) ≤ (0 : Int), (0 : Int) ≤ lm1, lm1 ≤ (2305843009213693952 : Int), Value.int IntKind.i64 (IntKind.i64.wrap (lm - (1 : Int))) = Value.int IntKind.i64 lm1, Value.int IntKind.i64 (Int.ofNat leaves.length) = Value.int IntKind.i64 lm, readPart Try.prog 3 r0.cs (0 + ((i : Int)).toNat * 1) = some (Value.int IntKind.i64 pz), (0 : Int) ≤ (i : Int) ∧ (i : Int) < (r0.n : Int), Value.bool (decide ((↑i : Int) < 7)) = Value.bool true, Value.bool (decide ((↑i : Int) < (↑r0.n : Int))) = Value.bool true])))))))))) (hK : ∀ zz, ((tnL dim (vsZ cl r0 r1 r2 r3) (jsZ r0 r1 r2 r3) (rsZ r0 r1 r2 r3) Q)).inv 0 zz → ltO (((tnL dim (vsZ cl r0 r1 r2 r3) (jsZ r0 r1 r2 r3) (rsZ r0 r1 r2 r3) Q)).mu 0 zz) (some (7 - i)) → Sat E (mkLp (lp Try.f24 0) J) (((tnL dim (vsZ cl r0 r1 r2 r3) (jsZ r0 r1 r2 r3) (rsZ r0 r1 r2 r3) Q)).st 0 zz)) : Sat E (inLp (lp Try.f24 0) J) ((tnL dim (vsZ cl r0 r1 r2 r3) (jsZ r0 r1 r2 r3) (rsZ r0 r1 r2 r3) Q).st 0 ⟨i, nodes, leaves⟩) :=
  by
  obtain ⟨z0, cs0, n0, c0⟩ := r0
  obtain ⟨z1, cs1, n1, c1⟩ := r1
  obtain ⟨z2, cs2, n2, c2⟩ := r2
  obtain ⟨z3, cs3, n3, c3⟩ := r3
  have hz : z0 = true := hz0; subst hz
  cases z1 <;> cases z2 <;> cases z3 <;> exact by_to (T := auto0 t_tn) (h := hints [(4, 4, ht true), (4, 7, ht true), (6, 3, {p := true}), (6, 4, {o := some (.int .i64 pz)}), (6, 6, {v := some (.int .i64 lm)}), (6, 7, {v := some (.int .i64 lm1)}), (6, 8, {v := some (.int .i64 ((k : Nat) : Int))}), (7, 2, {p := true}), (7, 3, {o := some (.int .i64 pl)}), (8, 1, {v := some (.int .i64 nn)}), (9, 7, {v := some (.int .i64 d1)}), (9, 8, {v := some (.int .i64 f)}), (9, 13, {v := some (.int .i64 a)}), (9, 16, {v := some (.int .i64 nn1)}), (9, 18, {p := true}), (9, 19, {c := some q1}), (10, 4, {v := some (.int .i64 i2)}), (10, 5, {v := some (.int .i64 i21)}), (10, 7, {v := some (.int .i64 x1)}), (10, 12, {v := some (.int .i64 i2)}), (10, 13, {v := some (.int .i64 i22)}), (10, 15, {v := some (.int .i64 x2)}), (10, 18, {c := some (eNd.row nodes2)}), (11, 3, {o := some (.slice (some ⟨12, 0, none⟩) k mk)}), (11, 7, {v := some (.int .i64 ((k1 : Nat) : Int))}), (11, 4, {p := true}), (11, 8, {p := true}), (11, 9, {p := true}), (11, 12, {v := some (.int .i64 nn1)}), (11, 14, {c := some (eInt.row leaves2)}), (5, 1, {v := some (.int .i64 ((i + 1 : Nat) : Int))})]) (ws := [.go]) (i0 := ⟨i + 1, nodes2, leaves2⟩) hE hm (auto0_ok t_tn_ok) hL (by kernel_rfl) hob hK
theorem tbzb (Q : NF → Prop) (cl dim : Int) (r0 r1 r2 r3 : Rw) (hz0 : r0.z = true) (i k k1 : Nat) (nodes nodes2 : List Nd) (leaves leaves2 : List Int) (pz lm lm1 pl nn d1 f a nn1 i2 i21 i22 x1 x2 : Int) (q1 : List Value) (n5 c5 o5 : Nat) (r4 : List Value) (J : Act → World → Prop) {E : Env} {rv : Value} {rhs : List Nat} {rhv : List Blk} (hE : EnvOK E Try.prog Try.f24 2 (nxZ r0 r1 r2 r3) rv rhs rhv) (hL : ((tnL dim (vsZ cl r0 r1 r2 r3) (jsZ r0 r1 r2 r3) (rsZ r0 r1 r2 r3) Q)).OK (nxZ r0 r1 r2 r3)) (hob : all ([SameK (mkLp (lp Try.f24 0) J) (mkLp (lp Try.f24 0) J), Enter (tnL dim (vsZ cl r0 r1 r2 r3) (jsZ r0 r1 r2 r3) (rsZ r0 r1 r2 r3) Q) 0 (some (7 - i)) [Value.int IntKind.i64 dim, Value.pointer (some (Addr.mk 10 0 none)), Value.slice (some (Addr.mk 273 0 none)) (nodes.length + 2) 1267650600228229401496703205376, Value.slice (some (Addr.mk 337 0 none)) (0 + n5 + 2) 1267650600228229401496703205376, Value.int IntKind.i64 (Int.ofNat i.succ)] ([Blk.cells (vsZ cl r0 r1 r2 r3) 55, Blk.vec (eNd.row nodes2) 86 6, Blk.vec (eInt.row leaves2) 3 1] ++ rsZ r0 r1 r2 r3) [(10, 10), (11, 273), (12, 337)], Value.int IntKind.i64 (IntKind.i64.wrap (Int.ofNat i.succ)) = Value.int IntKind.i64 (Int.ofNat i.succ), AppOK (some (Blk.vec r4 3 1)) (0 + n5) 1267650600228229401496703205376 1 8 2 [Value.int IntKind.i64 nn, Value.int IntKind.i64 nn1] 0 (eInt.row leaves2), Value.int IntKind.i64 (IntKind.i64.wrap (nn + (1 : Int))) = Value.int IntKind.i64 nn1, AppOK (some (Blk.cells [] 3)) 0 0 1 8 n5 (eInt.row leaves) o5 r4, SlOK 1 12 0 leaves.length 1267650600228229401496703205376 (some ((k1 : Int))) none (some (Blk.vec (eInt.row leaves) 3 1)) (Value.slice (some (Addr.mk 12 o5 none)) n5 c5), Value.int IntKind.i64 (IntKind.i64.wrap (Int.ofNat k.succ)) = Value.int IntKind.i64 ((k1 : Int)), ZeroOK k (Value.slice (some (Addr.mk 281 0 none)) 0 0) (some (Blk.cells [] 3)), SlOK 1 12 0 leaves.length 1267650600228229401496703205376 none (some ((k : Int))) (some (Blk.vec (eInt.row leaves) 3 1)) (Value.slice (some (Addr.mk 12 0 none)) k 1267650600228229401496703205376), AppOK (some (Blk.vec q1 86 6)) nodes.length 1267650600228229401496703205376 6 48 2 [Value.bool true, Value.int IntKind.i64 x1, Value.int IntKind.i64 ((0 : Int)), Value.int IntKind.i64 ((0 : Int)), Value.int IntKind.i64 ((0 : Int)), Value.int IntKind.i64 ((0 : Int)), Value.bool true, Value.int IntKind.i64 x2, Value.int IntKind.i64 ((0 : Int)), Value.int IntKind.i64 ((0 : Int)), Value.int IntKind.i64 ((0 : Int)), Value.int IntKind.i64 ((0 : Int))] 0 (eNd.row nodes2), Value.int IntKind.i64 (withinS (pickI (Rw.l r3) i22) ((-3000 : Int)) ((3000 : Int))) = Value.int IntKind.i64 x2, I64 (pickI (Rw.l r3) i22), (-2305843009213693952 : Int) ≤ (-3000 : Int), (-3000 : Int) ≤ (3000 : Int), (3000 : Int) ≤ (2305843009213693952 : Int)] ++ (Rw.ob r3 (i22) ++ ([Value.int IntKind.i64 (IntKind.i64.wrap (i2 + (2 : Int))) = Value.int IntKind.i64 i22, Value.int IntKind.i64 (IntKind.i64.wrap (Int.ofNat (2 * i))) = Value.int IntKind.i64 i2, Value.int IntKind.i64 (withinS (pickI (Rw.l r3) i21) ((-3000 : Int)) ((3000 : Int))) = Value.int IntKind.i64 x1, I64 (pickI (Rw.l r3) i21), (-2305843009213693952 : Int) ≤ (-3000 : Int), (-3000 : Int) ≤ (3000 : Int), (3000 : Int) ≤ (2305843009213693952 : Int)] ++ (Rw.ob r3 (i21) ++ ([Value.int IntKind.i64 (IntKind.i64.wrap (i2 + (1 : Int))) = Value.int IntKind.i64 i21, Value.int IntKind.i64 (IntKind.i64.wrap (Int.ofNat (2 * i))) = Value.int IntKind.i64 i2, lset (eNd.row nodes) (0 + pl.toNat * 6) [Value.bool false, Value.int IntKind.i64 0, Value.int IntKind.i64 f, Value.int IntKind.i64 a, Value.int IntKind.i64 nn, Value.int IntKind.i64 nn1] = some q1, (0 : Int) ≤ pl ∧ pl < Int.ofNat nodes.length, Value.int IntKind.i64 (IntKind.i64.wrap (nn + (1 : Int))) = Value.int IntKind.i64 nn1, Value.int IntKind.i64 (withinS (pickI (Rw.l r2) ((i : Int))) ((0 : Int)) ((9 : Int))) = Value.int IntKind.i64 a, I64 (pickI (Rw.l r2) ((i : Int))), (-2305843009213693952 : Int) ≤ (0 : Int), (0 : Int) ≤ (9 : Int), (9 : Int) ≤ (2305843009213693952 : Int)] ++ (Rw.ob r2 ((i : Int)) ++ ([Value.int IntKind.i64 (withinS (pickI (Rw.l r1) ((i : Int))) ((0 : Int)) d1) = Value.int IntKind.i64 f, I64 (pickI (Rw.l r1) ((i : Int))), (-2305843009213693952 : Int) ≤ (0 : Int), (0 : Int) ≤ d1, d1 ≤ (2305843009213693952 : Int), Value.int IntKind.i64 (IntKind.i64.wrap (dim - (1 : Int))) = Value.int IntKind.i64 d1] ++ (Rw.ob r1 ((i : Int)) ++ ([Value.int IntKind.i64 (Int.ofNat nodes.length) = Value.int IntKind.i64 nn, readPart Try.prog 3 (eInt.row leaves) (0 + ((k : Int)).toNat * 1) = some (Value.int IntKind.i64 pl), (0 : Int) ≤ (k : Int) ∧ (k : Int) < Int.ofNat leaves.length, Value.int IntKind.i64 (withinS pz ((0 : Int)) lm1) = Value.int IntKind.i64 ((k : Int)), I64 pz, (-2305843009213693952 : Int) ≤ (0 : Int), (0 : Int) ≤ lm1, lm1 ≤ (2305843009213693952 : Int), Value.int IntKind.i64 (IntKind.i64.wrap (lm - (1 : Int))) = Value.int IntKind.i64 lm1, Value.int IntKind.i64 (Int.ofNat leaves.length) = Value.int IntKind.i64 lm, readPart Try.prog 3 r0.cs (0 + ((i : Int)).toNat * 1) = some (Value.int IntKind.i64 pz), (0 : Int) ≤ (i : Int) ∧ (i : Int) < (r0.n : Int), Value.bool (decide ((↑i : Int) < 7)) = Value.bool true, Value.bool (decide ((↑i : Int) < (↑r0.n : Int))) = Value.bool true])))))))))) (hK : ∀ zz, ((tnL dim (vsZ cl r0 r1 r2 r3) (jsZ r0 r1 r2 r3) (rsZ r0 r1 r2 r3) Q)).inv 0 zz → ltO (((tnL dim (vsZ cl r0 r1 r2 r3) (jsZ r0 r1 r2 r3) (rsZ r0 r1 r2 r3) Q)).mu 0 zz) (some (7 - i)) → Sat E (mkLp (lp Try.f24 0) J) (((tnL dim (vsZ cl r0 r1 r2 r3) (jsZ r0 r1 r2 r3) (rsZ r0 r1 r2 r3) Q)).st 0 zz)) : Sat E (inLp (lp Try.f24 0) J) ((tnL dim (vsZ cl r0 r1 r2 r3) (jsZ r0 r1 r2 r3) (rsZ r0 r1 r2 r3) Q).st 0 ⟨i, nodes, leaves⟩) :=
  by
  obtain ⟨z0, cs0, n0, c0⟩ := r0
  obtain ⟨z1, cs1, n1, c1⟩ := r1
  obtain ⟨z2, cs2, n2, c2⟩ := r2
  obtain ⟨z3, cs3, n3, c3⟩ := r3
  have hz : z0 = true := hz0; subst hz
  cases z1 <;> cases z2 <;> cases z3 <;> exact by_to (T := auto0 t_tn) (h := hints [(4, 4, ht true), (4, 7, ht true), (6, 3, {p := true}), (6, 4, {o := some (.int .i64 pz)}), (6, 6, {v := some (.int .i64 lm)}), (6, 7, {v := some (.int .i64 lm1)}), (6, 8, {v := some (.int .i64 ((k : Nat) : Int))}), (7, 2, {p := true}), (7, 3, {o := some (.int .i64 pl)}), (8, 1, {v := some (.int .i64 nn)}), (9, 7, {v := some (.int .i64 d1)}), (9, 8, {v := some (.int .i64 f)}), (9, 13, {v := some (.int .i64 a)}), (9, 16, {v := some (.int .i64 nn1)}), (9, 18, {p := true}), (9, 19, {c := some q1}), (10, 4, {v := some (.int .i64 i2)}), (10, 5, {v := some (.int .i64 i21)}), (10, 7, {v := some (.int .i64 x1)}), (10, 12, {v := some (.int .i64 i2)}), (10, 13, {v := some (.int .i64 i22)}), (10, 15, {v := some (.int .i64 x2)}), (10, 18, {c := some (eNd.row nodes2)}), (11, 3, {o := some (.slice (some ⟨12, 0, none⟩) k mk)}), (11, 7, {v := some (.int .i64 ((k1 : Nat) : Int))}), (11, 4, {p := true}), (11, 8, {o := some (.slice (some ⟨12, o5, none⟩) n5 c5)}), (11, 9, {c := some r4}), (11, 12, {v := some (.int .i64 nn1)}), (11, 14, {c := some (eInt.row leaves2)}), (5, 1, {v := some (.int .i64 ((i + 1 : Nat) : Int))})]) (ws := [.go]) (i0 := ⟨i + 1, nodes2, leaves2⟩) hE hm (auto0_ok t_tn_ok) hL (by kernel_rfl) hob hK
theorem tbzc (Q : NF → Prop) (cl dim : Int) (r0 r1 r2 r3 : Rw) (hz0 : r0.z = true) (i k k1 : Nat) (nodes nodes2 : List Nd) (leaves leaves2 : List Int) (pz lm lm1 pl nn d1 f a nn1 i2 i21 i22 x1 x2 : Int) (q1 : List Value) (n5 c5 o5 : Nat) (r5 r4 : List Value) (J : Act → World → Prop) {E : Env} {rv : Value} {rhs : List Nat} {rhv : List Blk} (hE : EnvOK E Try.prog Try.f24 2 (nxZ r0 r1 r2 r3) rv rhs rhv) (hL : ((tnL dim (vsZ cl r0 r1 r2 r3) (jsZ r0 r1 r2 r3) (rsZ r0 r1 r2 r3) Q)).OK (nxZ r0 r1 r2 r3)) (hob : all ([SameK (mkLp (lp Try.f24 0) J) (mkLp (lp Try.f24 0) J), Enter (tnL dim (vsZ cl r0 r1 r2 r3) (jsZ r0 r1 r2 r3) (rsZ r0 r1 r2 r3) Q) 0 (some (7 - i)) [Value.int IntKind.i64 dim, Value.pointer (some (Addr.mk 10 0 none)), Value.slice (some (Addr.mk 273 0 none)) (nodes.length + 2) 1267650600228229401496703205376, Value.slice (some (Addr.mk 337 0 none)) (0 + k + n5 + 2) 1267650600228229401496703205376, Value.int IntKind.i64 (Int.ofNat i.succ)] ([Blk.cells (vsZ cl r0 r1 r2 r3) 55, Blk.vec (eNd.row nodes2) 86 6, Blk.vec (eInt.row leaves2) 3 1] ++ rsZ r0 r1 r2 r3) [(10, 10), (11, 273), (12, 337)], Value.int IntKind.i64 (IntKind.i64.wrap (Int.ofNat i.succ)) = Value.int IntKind.i64 (Int.ofNat i.succ), AppOK (some (Blk.vec r4 3 1)) (0 + k + n5) 1267650600228229401496703205376 1 8 2 [Value.int IntKind.i64 nn, Value.int IntKind.i64 nn1] 0 (eInt.row leaves2), Value.int IntKind.i64 (IntKind.i64.wrap (nn + (1 : Int))) = Value.int IntKind.i64 nn1, AppOK (some (Blk.vec r5 3 1)) (0 + k) 1267650600228229401496703205376 1 8 n5 (eInt.row leaves) o5 r4, SlOK 1 12 0 leaves.length 1267650600228229401496703205376 (some ((k1 : Int))) none (some (Blk.vec (eInt.row leaves) 3 1)) (Value.slice (some (Addr.mk 12 o5 none)) n5 c5), Value.int IntKind.i64 (IntKind.i64.wrap (Int.ofNat k.succ)) = Value.int IntKind.i64 ((k1 : Int)), AppOK (some (Blk.cells [] 3)) 0 0 1 8 k (eInt.row leaves) 0 r5, SlOK 1 12 0 leaves.length 1267650600228229401496703205376 none (some ((k : Int))) (some (Blk.vec (eInt.row leaves) 3 1)) (Value.slice (some (Addr.mk 12 0 none)) k 1267650600228229401496703205376), AppOK (some (Blk.vec q1 86 6)) nodes.length 1267650600228229401496703205376 6 48 2 [Value.bool true, Value.int IntKind.i64 x1, Value.int IntKind.i64 ((0 : Int)), Value.int IntKind.i64 ((0 : Int)), Value.int IntKind.i64 ((0 : Int)), Value.int IntKind.i64 ((0 : Int)), Value.bool true, Value.int IntKind.i64 x2, Value.int IntKind.i64 ((0 : Int)), Value.int IntKind.i64 ((0 : Int)), Value.int IntKind.i64 ((0 : Int)), Value.int IntKind.i64 ((0 : Int))] 0 (eNd.row nodes2), Value.int IntKind.i64 (withinS (pickI (Rw.l r3) i22) ((-3000 : Int)) ((3000 : Int))) = Value.int IntKind.i64 x2, I64 (pickI (Rw.l r3) i22), (-2305843009213693952 : Int) ≤ (-3000 : Int), (-3000 : Int) ≤ (3000 : Int), (3000 : Int) ≤ (2305843009213693952 : Int)] ++ (Rw.ob r3 (i22) ++ ([Value.int IntKind.i64 (IntKind.i64.wrap (i2 + (2 : Int))) = Value.int IntKind.i64 i22, Value.int IntKind.i64 (IntKind.i64.wrap (Int.ofNat (2 * i))) = Value.int IntKind.i64 i2, Value.int IntKind.i64 (withinS (pickI (Rw.l r3) i21) ((-3000 : Int)) ((3000 : Int))) = Value.int IntKind.i64 x1, I64 (pickI (Rw.l r3) i21), (-2305843009213693952 : Int) ≤ (-3000 : Int), (-3000 : Int) ≤ (3000 : Int), (3000 : Int) ≤ (2305843009213693952 : Int)] ++ (Rw.ob r3 (i21) ++ ([Value.int IntKind.i64 (IntKind.i64.wrap (i2 + (1 : Int))) = Value.int IntKind.i64 i21, Value.int IntKind.i64 (IntKind.i64.wrap (Int.ofNat (2 * i))) = Value.int IntKind.i64 i2, lset (eNd.row nodes) (0 + pl.toNat * 6) [Value.bool false, Value.int IntKind.i64 0, Value.int IntKind.i64 f, Value.int IntKind.i64 a, Value.int IntKind.i64 nn, Value.int IntKind.i64 nn1] = some q1, (0 : Int) ≤ pl ∧ pl < Int.ofNat nodes.length, Value.int IntKind.i64 (IntKind.i64.wrap (nn + (1 : Int))) = Value.int IntKind.i64 nn1, Value.int IntKind.i64 (withinS (pickI (Rw.l r2) ((i : Int))) ((0 : Int)) ((9 : Int))) = Value.int IntKind.i64 a, I64 (pickI (Rw.l r2) ((i : Int))), (-2305843009213693952 : Int) ≤ (0 : Int), (0 : Int) ≤ (9 : Int), (9 : Int) ≤ (2305843009213693952 : Int)] ++ (Rw.ob r2 ((i : Int)) ++ ([Value.int IntKind.i64 (withinS (pickI (Rw.l r1) ((i : Int))) ((0 : Int)) d1) = Value.int IntKind.i64 f, I64 (pickI (Rw.l r1) ((i : Int))), (-2305843009213693952 : Int) ≤ (0 : Int), (0 : Int) ≤ d1, d1 ≤ (2305843009213693952 : Int), Value.int IntKind.i64 (IntKind.i64.wrap (dim - (1 : Int))) = Value.int IntKind.i64 d1] ++ (Rw.ob r1 ((i : Int)) ++ ([Value.int IntKind.i64 (Int.ofNat nodes.length) = Value.int IntKind.i64 nn, readPart Try.prog 3 (eInt.row leaves) (0 + ((k : Int)).toNat * 1) = some (Value.int IntKind.i64 pl), (0 : Int) ≤ (k : Int) ∧ (k : Int) < Int.ofNat leaves.length, Value.int IntKind.i64 (withinS pz ((0 : Int)) lm1) = Value.int IntKind.i64 ((k : Int)), I64 pz, (-2305843009213693952 : Int) ≤ (0 : Int), (0 : Int) ≤ lm1, lm1 ≤ (2305843009213693952 : Int), Value.int IntKind.i64 (IntKind.i64.wrap (lm - (1 : Int))) = Value.int IntKind.i64 lm1, Value.int IntKind.i64 (Int.ofNat leaves.length) = Value.int IntKind.i64 lm, readPart Try.prog 3 r0.cs (0 + ((i : Int)).toNat * 1) = some (Value.int IntKind.i64 pz), (0 : Int) ≤ (i : Int) ∧ (i : Int) < (r0.n : Int), Value.bool (decide ((↑i : Int) < 7)) = Value.bool true, Value.bool (decide ((↑i : Int) < (↑r0.n : Int))) = Value.bool true])))))))))) (hK : ∀ zz, ((tnL dim (vsZ cl r0 r1 r2 r3) (jsZ r0 r1 r2 r3) (rsZ r0 r1 r2 r3) Q)).inv 0 zz → ltO (((tnL dim (vsZ cl r0 r1 r2 r3) (jsZ r0 r1 r2 r3) (rsZ r0 r1 r2 r3) Q)).mu 0 zz) (some (7 - i)) → Sat E (mkLp (lp Try.f24 0) J) (((tnL dim (vsZ cl r0 r1 r2 r3) (jsZ r0 r1 r2 r3) (rsZ r0 r1 r2 r3) Q)).st 0 zz)) : Sat E (inLp (lp Try.f24 0) J) ((tnL dim (vsZ cl r0 r1 r2 r3) (jsZ r0 r1 r2 r3) (rsZ r0 r1 r2 r3) Q).st 0 ⟨i, nodes, leaves⟩) :=
  by
  obtain ⟨z0, cs0, n0, c0⟩ := r0
  obtain ⟨z1, cs1, n1, c1⟩ := r1
  obtain ⟨z2, cs2, n2, c2⟩ := r2
  obtain ⟨z3, cs3, n3, c3⟩ := r3
  have hz : z0 = true := hz0; subst hz
  cases z1 <;> cases z2 <;> cases z3 <;> exact by_to (T := auto0 t_tn) (h := hints [(4, 4, ht true), (4, 7, ht true), (6, 3, {p := true}), (6, 4, {o := some (.int .i64 pz)}), (6, 6, {v := some (.int .i64 lm)}), (6, 7, {v := some (.int .i64 lm1)}), (6, 8, {v := some (.int .i64 ((k : Nat) : Int))}), (7, 2, {p := true}), (7, 3, {o := some (.int .i64 pl)}), (8, 1, {v := some (.int .i64 nn)}), (9, 7, {v := some (.int .i64 d1)}), (9, 8, {v := some (.int .i64 f)}), (9, 13, {v := some (.int .i64 a)}), (9, 16, {v := some (.int .i64 nn1)}), (9, 18, {p := true}), (9, 19, {c := some q1}), (10, 4, {v := some (.int .i64 i2)}), (10, 5, {v := some (.int .i64 i21)}), (10, 7, {v := some (.int .i64 x1)}), (10, 12, {v := some (.int .i64 i2)}), (10, 13, {v := some (.int .i64 i22)}), (10, 15, {v := some (.int .i64 x2)}), (10, 18, {c := some (eNd.row nodes2)}), (11, 3, {o := some (.slice (some ⟨12, 0, none⟩) k mk)}), (11, 7, {v := some (.int .i64 ((k1 : Nat) : Int))}), (11, 4, {c := some r5}), (11, 8, {o := some (.slice (some ⟨12, o5, none⟩) n5 c5)}), (11, 9, {c := some r4}), (11, 12, {v := some (.int .i64 nn1)}), (11, 14, {c := some (eInt.row leaves2)}), (5, 1, {v := some (.int .i64 ((i + 1 : Nat) : Int))})]) (ws := [.go]) (i0 := ⟨i + 1, nodes2, leaves2⟩) hE hm (auto0_ok t_tn_ok) hL (by kernel_rfl) hob hK
theorem tbzd (Q : NF → Prop) (cl dim : Int) (r0 r1 r2 r3 : Rw) (hz0 : r0.z = true) (i k k1 : Nat) (nodes nodes2 : List Nd) (leaves leaves2 : List Int) (pz lm lm1 pl nn d1 f a nn1 i2 i21 i22 x1 x2 : Int) (q1 : List Value) (r5 : List Value) (J : Act → World → Prop) {E : Env} {rv : Value} {rhs : List Nat} {rhv : List Blk} (hE : EnvOK E Try.prog Try.f24 2 (nxZ r0 r1 r2 r3) rv rhs rhv) (hL : ((tnL dim (vsZ cl r0 r1 r2 r3) (jsZ r0 r1 r2 r3) (rsZ r0 r1 r2 r3) Q)).OK (nxZ r0 r1 r2 r3)) (hob : all ([SameK (mkLp (lp Try.f24 0) J) (mkLp (lp Try.f24 0) J), Enter (tnL dim (vsZ cl r0 r1 r2 r3) (jsZ r0 r1 r2 r3) (rsZ r0 r1 r2 r3) Q) 0 (some (7 - i)) [Value.int IntKind.i64 dim, Value.pointer (some (Addr.mk 10 0 none)), Value.slice (some (Addr.mk 273 0 none)) (nodes.length + 2) 1267650600228229401496703205376, Value.slice (some (Addr.mk 337 0 none)) (0 + k + 2) 1267650600228229401496703205376, Value.int IntKind.i64 (Int.ofNat i.succ)] ([Blk.cells (vsZ cl r0 r1 r2 r3) 55, Blk.vec (eNd.row nodes2) 86 6, Blk.vec (eInt.row leaves2) 3 1] ++ rsZ r0 r1 r2 r3) [(10, 10), (11, 273), (12, 337)], Value.int IntKind.i64 (IntKind.i64.wrap (Int.ofNat i.succ)) = Value.int IntKind.i64 (Int.ofNat i.succ), AppOK (some (Blk.vec r5 3 1)) (0 + k) 1267650600228229401496703205376 1 8 2 [Value.int IntKind.i64 nn, Value.int IntKind.i64 nn1] 0 (eInt.row leaves2), Value.int IntKind.i64 (IntKind.i64.wrap (nn + (1 : Int))) = Value.int IntKind.i64 nn1, ZeroOK 0 (Value.slice (some (Addr.mk 297 0 none)) (0 + k) 1267650600228229401496703205376) (some (Blk.vec r5 3 1)), EndOK 1 leaves.length 1267650600228229401496703205376 (some ((k1 : Int))) none (some (Blk.vec (eInt.row leaves) 3 1)), Value.int IntKind.i64 (IntKind.i64.wrap (Int.ofNat k.succ)) = Value.int IntKind.i64 ((k1 : Int)), AppOK (some (Blk.cells [] 3)) 0 0 1 8 k (eInt.row leaves) 0 r5, SlOK 1 12 0 leaves.length 1267650600228229401496703205376 none (some ((k : Int))) (some (Blk.vec (eInt.row leaves) 3 1)) (Value.slice (some (Addr.mk 12 0 none)) k 1267650600228229401496703205376), AppOK (some (Blk.vec q1 86 6)) nodes.length 1267650600228229401496703205376 6 48 2 [Value.bool true, Value.int IntKind.i64 x1, Value.int IntKind.i64 ((0 : Int)), Value.int IntKind.i64 ((0 : Int)), Value.int IntKind.i64 ((0 : Int)), Value.int IntKind.i64 ((0 : Int)), Value.bool true, Value.int IntKind.i64 x2, Value.int IntKind.i64 ((0 : Int)), Value.int IntKind.i64 ((0 : Int)), Value.int IntKind.i64 ((0 : Int)), Value.int IntKind.i64 ((0 : Int))] 0 (eNd.row nodes2), Value.int IntKind.i64 (withinS (pickI (Rw.l r3) i22) ((-3000 : Int)) ((3000 : Int))) = Value.int IntKind.i64 x2, I64 (pickI (Rw.l r3) i22), (-2305843009213693952 : Int) ≤ (-3000 : Int), (-3000 : Int) ≤ (3000 : Int), (3000 : Int) ≤ (2305843009213693952 : Int)] ++ (Rw.ob r3 (i22) ++ ([Value.int IntKind.i64 (IntKind.i64.wrap (i2 + (2 : Int))) = Value.int IntKind.i64 i22, Value.int IntKind.i64 (IntKind.i64.wrap (Int.ofNat (2 * i))) = Value.int IntKind.i64 i2, Value.int IntKind.i64 (withinS (pickI (Rw.l r3) i21) ((-3000 : Int)) ((3000 : Int))) = Value.int IntKind.i64 x1, I64 (pickI (Rw.l r3) i21), (-2305843009213693952 : Int) ≤ (-3000 : Int), (-3000 : Int) ≤ (3000 : Int), (3000 : Int) ≤ (2305843009213693952 : Int)] ++ (Rw.ob r3 (i21) ++ ([Value.int IntKind.i64 (IntKind.i64.wrap (i2 + (1 : Int))) = Value.int IntKind.i64 i21, Value.int IntKind.i64 (IntKind.i64.wrap (Int.ofNat (2 * i))) = Value.int IntKind.i64 i2, lset (eNd.row nodes) (0 + pl.toNat * 6) [Value.bool false, Value.int IntKind.i64 0, Value.int IntKind.i64 f, Value.int IntKind.i64 a, Value.int IntKind.i64 nn, Value.int IntKind.i64 nn1] = some q1, (0 : Int) ≤ pl ∧ pl < Int.ofNat nodes.length, Value.int IntKind.i64 (IntKind.i64.wrap (nn + (1 : Int))) = Value.int IntKind.i64 nn1, Value.int IntKind.i64 (withinS (pickI (Rw.l r2) ((i : Int))) ((0 : Int)) ((9 : Int))) = Value.int IntKind.i64 a, I64 (pickI (Rw.l r2) ((i : Int))), (-2305843009213693952 : Int) ≤ (0 : Int), (0 : Int) ≤ (9 : Int), (9 : Int) ≤ (2305843009213693952 : Int)] ++ (Rw.ob r2 ((i : Int)) ++ ([Value.int IntKind.i64 (withinS (pickI (Rw.l r1) ((i : Int))) ((0 : Int)) d1) = Value.int IntKind.i64 f, I64 (pickI (Rw.l r1) ((i : Int))), (-2305843009213693952 : Int) ≤ (0 : Int), (0 : Int) ≤ d1, d1 ≤ (2305843009213693952 : Int), Value.int IntKind.i64 (IntKind.i64.wrap (dim - (1 : Int))) = Value.int IntKind.i64 d1] ++ (Rw.ob r1 ((i : Int)) ++ ([Value.int IntKind.i64 (Int.ofNat nodes.length) = Value.int IntKind.i64 nn, readPart Try.prog 3 (eInt.row leaves) (0 + ((k : Int)).toNat * 1) = some (Value.int IntKind.i64 pl), (0 : Int) ≤ (k : Int) ∧ (k : Int) < Int.ofNat leaves.length, Value.int IntKind.i64 (withinS pz ((0 : Int)) lm1) = Value.int IntKind.i64 ((k : Int)), I64 pz, (-2305843009213693952 : Int) ≤ (0 : Int), (0 : Int) ≤ lm1, lm1 ≤ (2305843009213693952 : Int), Value.int IntKind.i64 (IntKind.i64.wrap (lm - (1 : Int))) = Value.int IntKind.i64 lm1, Value.int IntKind.i64 (Int.ofNat leaves.length) = Value.int IntKind.i64 lm, readPart Try.prog 3 r0.cs (0 + ((i : Int)).toNat * 1) = some (Value.int IntKind.i64 pz), (0 : Int) ≤ (i : Int) ∧ (i : Int) < (r0.n : Int), Value.bool (decide ((↑i : Int) < 7)) = Value.bool true, Value.bool (decide ((↑i : Int) < (↑r0.n : Int))) = Value.bool true])))))))))) (hK : ∀ zz, ((tnL dim (vsZ cl r0 r1 r2 r3) (jsZ r0 r1 r2 r3) (rsZ r0 r1 r2 r3) Q)).inv 0 zz → ltO (((tnL dim (vsZ cl r0 r1 r2 r3) (jsZ r0 r1 r2 r3) (rsZ r0 r1 r2 r3) Q)).mu 0 zz) (some (7 - i)) → Sat E (mkLp (lp Try.f24 0) J) (((tnL dim (vsZ cl r0 r1 r2 r3) (jsZ r0 r1 r2 r3) (rsZ r0 r1 r2 r3) Q)).st 0 zz)) : Sat E (inLp (lp Try.f24 0) J) ((tnL dim (vsZ cl r0 r1 r2 r3) (jsZ r0 r1 r2 r3) (rsZ r0 r1 r2 r3) Q).st 0 ⟨i, nodes, leaves⟩) :=
  by
  obtain ⟨z0, cs0, n0, c0⟩ := r0
  obtain ⟨z1, cs1, n1, c1⟩ := r1
  obtain ⟨z2, cs2, n2, c2⟩ := r2
  obtain ⟨z3, cs3, n3, c3⟩ := r3
  have hz : z0 = true := hz0; subst hz
  cases z1 <;> cases z2 <;> cases z3 <;> exact by_to (T := auto0 t_tn) (h := hints [(4, 4, ht true), (4, 7, ht true), (6, 3, {p := true}), (6, 4, {o := some (.int .i64 pz)}), (6, 6, {v := some (.int .i64 lm)}), (6, 7, {v := some (.int .i64 lm1)}), (6, 8, {v := some (.int .i64 ((k : Nat) : Int))}), (7, 2, {p := true}), (7, 3, {o := some (.int .i64 pl)}), (8, 1, {v := some (.int .i64 nn)}), (9, 7, {v := some (.int .i64 d1)}), (9, 8, {v := some (.int .i64 f)}), (9, 13, {v := some (.int .i64 a)}), (9, 16, {v := some (.int .i64 nn1)}), (9, 18, {p := true}), (9, 19, {c := some q1}), (10, 4, {v := some (.int .i64 i2)}), (10, 5, {v := some (.int .i64 i21)}), (10, 7, {v := some (.int .i64 x1)}), (10, 12, {v := some (.int .i64 i2)}), (10, 13, {v := some (.int .i64 i22)}), (10, 15, {v := some (.int .i64 x2)}), (10, 18, {c := some (eNd.row nodes2)}), (11, 3, {o := some (.slice (some ⟨12, 0, none⟩) k mk)}), (11, 7, {v := some (.int .i64 ((k1 : Nat) : Int))}), (11, 4, {c := some r5}), (11, 8, {p := true}), (11, 9, {p := true}), (11, 12, {v := some (.int .i64 nn1)}), (11, 14, {c := some (eInt.row leaves2)}), (5, 1, {v := some (.int .i64 ((i + 1 : Nat) : Int))})]) (ws := [.go]) (i0 := ⟨i + 1, nodes2, leaves2⟩) hE hm (auto0_ok t_tn_ok) hL (by kernel_rfl) hob hK
theorem tbzx (Q : NF → Prop) (Q2 : Nat × List Int → Prop) (cl dim : Int) (r0 r1 r2 r3 : Rw)  (i : Nat) (nodes : List Nd) (leaves : List Int) (J : Act → World → Prop) {E : Env} {rv : Value} {rhs : List Nat} {rhv : List Blk} (hE : EnvOK E Try.prog Try.f24 2 (nxZ r0 r1 r2 r3) rv rhs rhv) (hL : (tpL nodes Q2).OK (nxZ r0 r1 r2 r3)) (hob : all ([SameK (atLp (lp Try.f24 1)) (atLp (lp Try.f24 1)), Enter (tpL nodes Q2) 0 none [Value.slice none 0 0, Value.slice (some (Addr.mk 11 0 none)) nodes.length 1267650600228229401496703205376, Value.int IntKind.i64 (Int.ofNat nodes.length), Value.int IntKind.i64 ((0 : Int))] [Blk.vec (eNd.row nodes) 86 6] [(11, 11)], Value.bool (decide ((↑i : Int) < (↑(Rw.len r0) : Int))) = Value.bool false])) (hK : ∀ zz, (tpL nodes Q2).inv 0 zz → ltO ((tpL nodes Q2).mu 0 zz) none → Sat E (atLp (lp Try.f24 1)) ((tpL nodes Q2).st 0 zz)) : Sat E (inLp (lp Try.f24 0) J) ((tnL dim (vsZ cl r0 r1 r2 r3) (jsZ r0 r1 r2 r3) (rsZ r0 r1 r2 r3) Q).st 0 ⟨i, nodes, leaves⟩) :=
  by
  obtain ⟨z0, cs0, n0, c0⟩ := r0
  obtain ⟨z1, cs1, n1, c1⟩ := r1
  obtain ⟨z2, cs2, n2, c2⟩ := r2
  obtain ⟨z3, cs3, n3, c3⟩ := r3
  cases z0 <;> cases z1 <;> cases z2 <;> cases z3 <;> exact by_to (T := auto0 t_tn) (h := hints [(4, 4, ht false)]) (ws := [.go, .stop]) (i0 := (0, [])) hE hm (auto0_ok t_tn_ok) hL (by kernel_rfl) hob hK
theorem tbzy (Q : NF → Prop) (Q2 : Nat × List Int → Prop) (cl dim : Int) (r0 r1 r2 r3 : Rw)  (i : Nat) (nodes : List Nd) (leaves : List Int) (J : Act → World → Prop) {E : Env} {rv : Value} {rhs : List Nat} {rhv : List Blk} (hE : EnvOK E Try.prog Try.f24 2 (nxZ r0 r1 r2 r3) rv rhs rhv) (hL : (tpL nodes Q2).OK (nxZ r0 r1 r2 r3)) (hob : all ([SameK (atLp (lp Try.f24 1)) (atLp (lp Try.f24 1)), Enter (tpL nodes Q2) 0 none [Value.slice none 0 0, Value.slice (some (Addr.mk 11 0 none)) nodes.length 1267650600228229401496703205376, Value.int IntKind.i64 (Int.ofNat nodes.length), Value.int IntKind.i64 ((0 : Int))] [Blk.vec (eNd.row nodes) 86 6] [(11, 11)], Value.bool (decide ((↑i : Int) < 7)) = Value.bool false, Value.bool (decide ((↑i : Int) < (↑(Rw.len r0) : Int))) = Value.bool true])) (hK : ∀ zz, (tpL nodes Q2).inv 0 zz → ltO ((tpL nodes Q2).mu 0 zz) none → Sat E (atLp (lp Try.f24 1)) ((tpL nodes Q2).st 0 zz)) : Sat E (inLp (lp Try.f24 0) J) ((tnL dim (vsZ cl r0 r1 r2 r3) (jsZ r0 r1 r2 r3) (rsZ r0 r1 r2 r3) Q).st 0 ⟨i, nodes, leaves⟩) :=
  by
  obtain ⟨z0, cs0, n0, c0⟩ := r0
  obtain ⟨z1, cs1, n1, c1⟩ := r1
  obtain ⟨z2, cs2, n2, c2⟩ := r2
  obtain ⟨z3, cs3, n3, c3⟩ := r3
  cases z0 <;> cases z1 <;> cases z2 <;> cases z3 <;> exact by_to (T := auto0 t_tn) (h := hints [(4, 4, ht true), (4, 7, ht false)]) (ws := [.go, .stop]) (i0 := (0, [])) hE hm (auto0_ok t_tn_ok) hL (by kernel_rfl) hob hK
theorem tpz0 (nx : Nat) (hnx : nx ≤ 4) (Q : Nat × List Int → Prop) (nodes : List Nd)  (i : Nat) (l : Bool) (v f a x y w : Int) (out2 : List Int) (J : Act → World → Prop) {E : Env} {rv : Value} {rhs : List Nat} {rhv : List Blk} (hE : EnvOK E Try.prog Try.f24 2 nx rv rhs rhv) (hL : (tpL nodes Q).OK nx) (hob : all ([SameK (mkLp (lp Try.f24 1) J) (mkLp (lp Try.f24 1) J), Enter (tpL nodes Q) 1 (some (nodes.length - i)) [Value.slice (some (Addr.mk 50 0 none)) 1 1267650600228229401496703205376, Value.slice (some (Addr.mk 11 0 none)) nodes.length 1267650600228229401496703205376, Value.int IntKind.i64 (Int.ofNat nodes.length), Value.int IntKind.i64 (Int.ofNat i.succ)] [Blk.vec (eNd.row nodes) 86 6, Blk.vec (eWord.row out2) 83 1] [(13, 50), (11, 11)], Value.int IntKind.i64 (IntKind.i64.wrap (Int.ofNat i.succ)) = Value.int IntKind.i64 (Int.ofNat i.succ), AppOK none 0 0 1 8 1 [Value.int IntKind.u64 w] 0 (eWord.row out2), Value.int IntKind.u64 (packS l v f a x y) = Value.int IntKind.u64 w, I64 v, I64 a, readPart Try.prog 86 (eNd.row nodes) (0 + ((i : Int)).toNat * 6) = some (Value.agg (Array.mk [Value.bool l, Value.int IntKind.i64 v, Value.int IntKind.i64 f, Value.int IntKind.i64 a, Value.int IntKind.i64 x, Value.int IntKind.i64 y])), (0 : Int) ≤ (i : Int) ∧ (i : Int) < Int.ofNat nodes.length, decide ((↑i : Int) < (↑nodes.length : Int)) = true])) (hK : ∀ zz, (tpL nodes Q).inv 1 zz → ltO ((tpL nodes Q).mu 1 zz) (some (nodes.length - i)) → Sat E (mkLp (lp Try.f24 1) J) ((tpL nodes Q).st 1 zz)) : Sat E (inLp (lp Try.f24 1) J) ((tpL nodes Q).st 0 (i, [])) :=
  by
  have h5 : nx = 0 ∨ nx = 1 ∨ nx = 2 ∨ nx = 3 ∨ nx = 4 := by omega
  rcases h5 with rfl | rfl | rfl | rfl | rfl <;> exact by_to (T := auto0 t_tn) (h := hints [(15, 0, {p := true}), (15, 1, {o := some (.agg ⟨[.bool l, .int .i64 v, .int .i64 f, .int .i64 a, .int .i64 x, .int .i64 y]⟩)}), (16, 2, {v := some (.int .u64 w)}), (16, 4, {c := some (eWord.row out2)}), (17, 0, {v := some (.int .i64 ((i + 1 : Nat) : Int))})]) (ws := [.b true]) (i0 := (i + 1, out2)) hE hm (auto0_ok t_tn_ok) hL (by kernel_rfl) hob hK
theorem tpz1 (nx : Nat) (hnx : nx ≤ 4) (Q : Nat × List Int → Prop) (nodes : List Nd) (out : List Int) (i : Nat) (l : Bool) (v f a x y w : Int) (out2 : List Int) (J : Act → World → Prop) {E : Env} {rv : Value} {rhs : List Nat} {rhv : List Blk} (hE : EnvOK E Try.prog Try.f24 2 nx rv rhs rhv) (hL : (tpL nodes Q).OK nx) (hob : all ([SameK (mkLp (lp Try.f24 1) J) (mkLp (lp Try.f24 1) J), Enter (tpL nodes Q) 1 (some (nodes.length - i)) [Value.slice (some (Addr.mk 50 0 none)) (out.length + 1) 1267650600228229401496703205376, Value.slice (some (Addr.mk 11 0 none)) nodes.length 1267650600228229401496703205376, Value.int IntKind.i64 (Int.ofNat nodes.length), Value.int IntKind.i64 (Int.ofNat i.succ)] [Blk.vec (eNd.row nodes) 86 6, Blk.vec (eWord.row out2) 83 1] [(13, 50), (11, 11)], Value.int IntKind.i64 (IntKind.i64.wrap (Int.ofNat i.succ)) = Value.int IntKind.i64 (Int.ofNat i.succ), AppOK (some (Blk.vec (eWord.row out) 83 1)) out.length 1267650600228229401496703205376 1 8 1 [Value.int IntKind.u64 w] 0 (eWord.row out2), Value.int IntKind.u64 (packS l v f a x y) = Value.int IntKind.u64 w, I64 v, I64 a, readPart Try.prog 86 (eNd.row nodes) (0 + ((i : Int)).toNat * 6) = some (Value.agg (Array.mk [Value.bool l, Value.int IntKind.i64 v, Value.int IntKind.i64 f, Value.int IntKind.i64 a, Value.int IntKind.i64 x, Value.int IntKind.i64 y])), (0 : Int) ≤ (i : Int) ∧ (i : Int) < Int.ofNat nodes.length, decide ((↑i : Int) < (↑nodes.length : Int)) = true])) (hK : ∀ zz, (tpL nodes Q).inv 1 zz → ltO ((tpL nodes Q).mu 1 zz) (some (nodes.length - i)) → Sat E (mkLp (lp Try.f24 1) J) ((tpL nodes Q).st 1 zz)) : Sat E (inLp (lp Try.f24 1) J) ((tpL nodes Q).st 1 (i, out)) :=
  by
  have h5 : nx = 0 ∨ nx = 1 ∨ nx = 2 ∨ nx = 3 ∨ nx = 4 := by omega
  rcases h5 with rfl | rfl | rfl | rfl | rfl <;> exact by_to (T := auto0 t_tn) (h := hints [(15, 0, {p := true}), (15, 1, {o := some (.agg ⟨[.bool l, .int .i64 v, .int .i64 f, .int .i64 a, .int .i64 x, .int .i64 y]⟩)}), (16, 2, {v := some (.int .u64 w)}), (16, 4, {c := some (eWord.row out2)}), (17, 0, {v := some (.int .i64 ((i + 1 : Nat) : Int))})]) (ws := [.b true]) (i0 := (i + 1, out2)) hE hm (auto0_ok t_tn_ok) hL (by kernel_rfl) hob hK
theorem tpzE (nx : Nat) (hnx : nx ≤ 4) (Q : Nat × List Int → Prop) (nodes : List Nd) (out : List Int) (i : Nat) (J : Act → World → Prop) {E : Env} (hE : EnvOK E Try.prog Try.f24 2 nx (.slice (some ⟨100, 0, none⟩) out.length mk) [100] [.vec (eWord.row out) 83 1]) (hob : all ([Back (Value.slice (some (Addr.mk 13 0 none)) out.length 1267650600228229401496703205376) (Value.slice (some (Addr.mk 100 0 none)) out.length 1267650600228229401496703205376) [Blk.vec (eWord.row out) 83 1] [Blk.vec (eWord.row out) 83 1] [(100, 13)], decide ((↑i : Int) < (↑nodes.length : Int)) = false])) : Sat E (inLp (lp Try.f24 1) J) ((tpL nodes Q).st 1 (i, out)) :=
  by
  have h5 : nx = 0 ∨ nx = 1 ∨ nx = 2 ∨ nx = 3 ∨ nx = 4 := by omega
  rcases h5 with rfl | rfl | rfl | rfl | rfl <;> exact by_ret (T := auto0 t_tn) (h := hints []) (ws := [.b false]) (nx' := 101) hE hm (auto0_ok t_tn_ok) (by omega) (by simp) (by intro x hx; simp at hx; subst hx; exact Blk.plain.namesLt (b := .vec _ _ _) (Elt.row_pl _) _) (by kernel_rfl) hob
end Go.Proofs.Ythbaccmhdffjdaa.Tn


set_option linter.unusedVariables false
set_option linter.unusedSimpArgs false
set_option maxRecDepth 100000
namespace Go.Proofs.Ythbaccmhdffjdaa.Tn
open Go Go.RowKit Go.Proofs.Ythbaccmhdffjdaa.Ev Go.Proofs.Ythbaccmhdffjdaa.Within Go.Proofs.Ythbaccmhdffjdaa.PickE Go.Proofs.Ythbaccmhdffjdaa.NodeE Go.Proofs.Ythbaccmhdffjdaa.Tn

theorem tpL_ok {NX : Nat} (hnx : NX ≤ 14) (nodes : List Nd) (Q : Nat × List Int → Prop) : (tpL nodes Q).OK NX := by
  refine ⟨(hnx : NX ≤ 14), fun z i h k hk => ?_, fun z i h v hv k hk => ?_, fun z i h x hx => ?_⟩
  · show k < 14
    match z with
    | 0 => simp [tpL] at hk; omega
    | z + 1 => simp [tpL] at hk; omega
  · show k < 14
    match z with
    | 0 =>
      simp [tpL] at hv
      rcases hv with rfl | rfl | rfl | rfl <;> simp [nms, nm1, nm0] at hk <;> omega
    | z + 1 =>
      simp [tpL] at hv
      rcases hv with rfl | rfl | rfl | rfl <;> simp [nms, nm1, nm0] at hk <;> omega
  · match z with
    | 0 =>
      simp [tpL] at hx
      subst hx
      exact Blk.plain.namesLt (b := .vec _ _ _) (Elt.row_pl _) _
    | z + 1 =>
      simp [tpL] at hx
      rcases hx with rfl | rfl
      · exact Blk.plain.namesLt (b := .vec _ _ _) (Elt.row_pl _) _
      · exact Blk.plain.namesLt (b := .vec _ _ _) (Elt.row_pl _) _
def tpQ (nodes : List Nd) : Nat × List Int → Prop := fun x => x.1 ≤ nodes.length ∧ x.2 = (nodes.take x.1).map packN
def tpX (nodes : List Nd) : LoopF (Nat × List Int) := { tpL nodes (tpQ nodes) with inv := fun b x => tpQ nodes x ∧ ((b = 0 ∧ x.1 = 0) ∨ b = 1) }

theorem tp_loopz (nx : Nat) (hnx : nx ≤ 4) {nodes : List Nd} (hg : ∀ n ∈ nodes, I64 n.v ∧ I64 n.a) (hne : nodes ≠ []) (hl : nodes.length ≤ 1000) {E : Env} (hE : EnvOK E Try.prog Try.f24 2 nx (.slice (some ⟨100, 0, none⟩) nodes.length mk) [100] [.vec (eWord.row (nodes.map packN)) 83 1]) :
    Sat E (atLp (lp Try.f24 1)) ((tpL nodes (tpQ nodes)).st 0 (0, [])) := by
  have okL := tpL_ok (NX := nx) (by omega) nodes (tpQ nodes)
  have hlen : 0 < nodes.length := List.length_pos_iff.2 hne
  have rnN : ∀ (f : Nat → Nat) (l : List Nd), Blk.rnB f (.vec (eNd.row l) 86 6) = .vec (eNd.row l) 86 6 := fun f l => Blk.plain.rnB (b := .vec (eNd.row l) 86 6) (Elt.row_pl _) f
  have rnW : ∀ (f : Nat → Nat) (l : List Int), Blk.rnB f (.vec (eWord.row l) 83 1) = .vec (eWord.row l) 83 1 := fun f l => Blk.plain.rnB (b := .vec (eWord.row l) 83 1) (Elt.row_pl _) f
  have := loop_sat (E := E) (k := ((lp Try.f24 1)).2) (c := ((lp Try.f24 1)).1) (tpX nodes) (fun b x hb J hJ => by
    obtain ⟨i, out⟩ := x
    obtain ⟨⟨hi, hout⟩, hz⟩ := hb
    have hi : i ≤ nodes.length := hi
    have hout : out = (nodes.take i).map packN := hout
    have hJ1 : ∀ zz, (tpL nodes (tpQ nodes)).inv 1 zz → ltO ((tpL nodes (tpQ nodes)).mu 1 zz) (some (nodes.length - i)) → Sat E (mkLp (lp Try.f24 1) J) ((tpL nodes (tpQ nodes)).st 1 zz) := fun zz h1 h2 => hJ 1 zz ⟨h1, Or.inr rfl⟩ h2
    by_cases hin : i < nodes.length
    · rcases hs : nodes[i] with ⟨l, v, f, a, x, y⟩
      have hget : nodes[i]? = some ⟨l, v, f, a, x, y⟩ := by rw [List.getElem?_eq_getElem hin, hs]
      obtain ⟨gv, ga⟩ := hg _ (List.mem_of_getElem? hget)
      have hrd := read_row (e := eNd) (P := Try.prog) (ty := 86) (by kernel_rfl) (by kernel_rfl) hget
      have hlt : decide ((i : Int) < (nodes.length : Nat)) = true := decide_eq_true (by omega)
      have hout2 : out ++ [packS l v f a x y] = (nodes.take (i + 1)).map packN := by rw [List.take_add_one, hget, hout]; simp [packN]
      have hol : out.length = i := by rw [hout]; simp; omega
      have hQ : tpQ nodes (i + 1, out ++ [packS l v f a x y]) := ⟨hin, hout2⟩
      rcases hz with ⟨rfl, hi0⟩ | rfl
      · have hi0 : i = 0 := hi0
        have ho : out = [] := by rw [hout, hi0]; rfl
        rw [ho] at hQ ⊢
        exact tpz0 nx hnx (tpQ nodes) nodes i l v f a x y (packS l v f a x y) ([] ++ [packS l v f a x y]) J hE okL ⟨rfl, ⟨(i + 1, [] ++ [packS l v f a x y]), hQ, (by show nodes.length - (i + 1) < nodes.length - i; omega), rfl, by simp [tpL, rnN]; exact (rnW _ _).symm⟩, i64_succ (by omega), appOK_nil (e := eWord) (new := [packS l v f a x y]) rfl rfl rfl rfl (by decide) (by decide) (by decide), rfl, gv, ga, hrd, ⟨Int.natCast_nonneg _, Int.ofNat_lt.2 hin⟩, hlt, trivial⟩ hJ1
      · exact tpz1 nx hnx (tpQ nodes) nodes out i l v f a x y (packS l v f a x y) (out ++ [packS l v f a x y]) J hE okL ⟨rfl, ⟨(i + 1, out ++ [packS l v f a x y]), hQ, (by show nodes.length - (i + 1) < nodes.length - i; omega), by simp [tpL]; first | exact ⟨rfl, rfl, rfl, rfl⟩ | exact ⟨rfl, rfl, rfl⟩ | exact ⟨rfl, rfl⟩, by simp [tpL, rnN, rnW]⟩, i64_succ (by omega), appOK (e := eWord) (L := out) (new := [packS l v f a x y]) rfl rfl rfl rfl (Nat.le_refl _) (by simp) (by decide) (by omega) (by omega), rfl, gv, ga, hrd, ⟨Int.natCast_nonneg _, Int.ofNat_lt.2 hin⟩, hlt, trivial⟩ hJ1
    · have hlt : decide ((i : Int) < (nodes.length : Nat)) = false := decide_eq_false (by omega)
      rcases hz with ⟨rfl, hi0⟩ | rfl
      · have hi0 : i = 0 := hi0
        omega
      · have ho : out = nodes.map packN := by rw [hout, List.take_of_length_le (by omega)]
        subst ho
        have hE' := hE
        rw [show nodes.length = (nodes.map packN).length by simp] at hE'
        exact tpzE nx hnx (tpQ nodes) nodes (nodes.map packN) i J hE' ⟨⟨rfl, by simp [rnW]⟩, hlt, trivial⟩)
  exact this 0 (0, []) ⟨⟨Nat.zero_le _, rfl⟩, Or.inl ⟨rfl, rfl⟩⟩

theorem tnL_ok {NX : Nat} (hnx : NX ≤ 13) (dim : Int) (vs : List Value) (js : List Nat) (rs : List Blk) (Q : NF → Prop) (hjs : ∀ j ∈ js, j < 13) (hvs : ∀ c ∈ vs, ∀ k ∈ nm0 c, k < 13) (hrs : ∀ x ∈ rs, Blk.namesLt 13 x) : (tnL dim vs js rs Q).OK NX := by
  refine ⟨(hnx : NX ≤ 13), fun z i h k hk => ?_, fun z i h v hv k hk => ?_, fun z i h x hx => ?_⟩
  · show k < 13
    obtain ⟨i, nodes, leaves⟩ := i
    simp [tnL] at hk
    rcases hk with rfl | rfl | rfl | hk
    · omega
    · omega
    · omega
    · exact hjs k hk
  · show k < 13
    obtain ⟨i, nodes, leaves⟩ := i
    simp [tnL] at hv
    rcases hv with rfl | rfl | rfl | rfl | rfl <;> simp [nms, nm1, nm0] at hk <;> omega
  · obtain ⟨i, nodes, leaves⟩ := i
    simp [tnL] at hx
    rcases hx with rfl | rfl | rfl | hx
    · exact hvs
    · exact Blk.plain.namesLt (b := .vec _ _ _) (Elt.row_pl _) _
    · exact Blk.plain.namesLt (b := .vec _ _ _) (Elt.row_pl _) _
    · exact hrs x hx
def tnQ (pl bl al vl : List Int) (dim : Int) : NF → Prop := fun x => x.i ≤ 7 ∧ x.i ≤ pl.length ∧ NdInv x.i x.nodes x.leaves ∧ ndGo bl al vl dim ((pl.take 7).drop x.i) x.i x.nodes x.leaves = nodesI pl bl al vl dim

def onlyT {ι : Type} (L : LoopF ι) (z : Nat) : LoopF ι := { L with inv := fun b i => b = z ∧ L.inv b i }
theorem rw_z {r : Rw} (h : 0 < r.len) : r.z = true := by
  cases hz : r.z
  · unfold Rw.len at h; rw [hz] at h; simp at h
  · rfl
theorem rw_len {r : Rw} (h : r.z = true) : r.len = r.n := by unfold Rw.len; rw [h]; rfl
theorem rw_l {r : Rw} (h : r.z = true) : r.l = intsOf r.cs 0 r.n := by unfold Rw.l; rw [h]; rfl
theorem rw_ll {r : Rw} (g : r.good) : r.l.length = r.len := by
  cases hz : r.z
  · unfold Rw.l Rw.len; rw [hz]; rfl
  · rw [rw_l hz, rw_len hz]; exact intsOf_len (g hz).1.1

theorem k_lt4 {f : Nat → Nat} (h0 : f 0 = 0) (h1 : f 1 = 1) (h2 : f 2 = 2) (h3 : f 3 = 3) : ∀ k, k < 4 → f k = k := fun k hk => by
  match k, hk with
  | 0, _ => exact h0
  | 1, _ => exact h1
  | 2, _ => exact h2
  | 3, _ => exact h3
theorem blkZ (cl : Int) (r0 r1 r2 r3 : Rw) (g0 : r0.good) (g1 : r1.good) (g2 : r2.good) (g3 : r3.good) (f : Nat → Nat) (nodes : List Nd) (leaves : List Int) (hf : ∀ k, k < 4 → f k = k) :
    ([Blk.cells (vsZ cl r0 r1 r2 r3) 55, Blk.vec (eNd.row nodes) 86 6, Blk.vec (eInt.row leaves) 3 1] ++ rsZ r0 r1 r2 r3) = List.map (Blk.rnB f) (.cells (vsZ cl r0 r1 r2 r3) 55 :: .vec (eNd.row nodes) 86 6 :: .vec (eInt.row leaves) 3 1 :: rsZ r0 r1 r2 r3) := by
  have rnN : Blk.rnB f (.vec (eNd.row nodes) 86 6) = .vec (eNd.row nodes) 86 6 := Blk.plain.rnB (b := .vec (eNd.row nodes) 86 6) (Elt.row_pl _) f
  have rnI : Blk.rnB f (.vec (eInt.row leaves) 3 1) = .vec (eInt.row leaves) 3 1 := Blk.plain.rnB (b := .vec (eInt.row leaves) 3 1) (Elt.row_pl _) f
  have k0 := rw_k r0
  have k1 := rw_k r1
  have k2 := rw_k r2
  have hv : ∀ (r : Rw) (k : Nat), k < 4 → rn0 f (r.v k) = r.v k := fun r k hk => by
    unfold Rw.v
    cases r.z
    · rfl
    · simp only [cond_true, rn0, rnA, hf k hk]
  have hvs : mapL (rn0 f) (vsZ cl r0 r1 r2 r3) = (vsZ cl r0 r1 r2 r3) := by
    simp only [vsZ, mapL]
    rw [hv _ _ (by omega), hv _ _ (by omega), hv _ _ (by omega), hv _ _ (by omega)]
    rfl
  simp only [List.map_cons, rnN, rnI, rsZ_rn g0 g1 g2 g3]
  simp only [Blk.rnB, hvs]
  rfl
theorem tn_loopz (cl dim : Int) (hd : 1 ≤ dim ∧ dim ≤ 1000) (r0 r1 r2 r3 : Rw) (g0 : r0.good) (g1 : r1.good) (g2 : r2.good) (g3 : r3.good) {E : Env} (hE : EnvOK E Try.prog Try.f24 2 (nxZ r0 r1 r2 r3) (.slice (some ⟨100, 0, none⟩) (nodesI r0.l r1.l r2.l r3.l dim).length mk) [100] [.vec (eWord.row ((nodesI r0.l r1.l r2.l r3.l dim).map packN)) 83 1]) :
    ∀ zz, (tnQ r0.l r1.l r2.l r3.l dim) zz → Sat E (atLp (lp Try.f24 0)) ((tnL dim (vsZ cl r0 r1 r2 r3) (jsZ r0 r1 r2 r3) (rsZ r0 r1 r2 r3) (tnQ r0.l r1.l r2.l r3.l dim)).st 0 zz) := by
  have hlen : r0.l.length = r0.len := rw_ll g0
  have rnN : ∀ (f : Nat → Nat) (l : List Nd), Blk.rnB f (.vec (eNd.row l) 86 6) = .vec (eNd.row l) 86 6 := fun f l => Blk.plain.rnB (b := .vec (eNd.row l) 86 6) (Elt.row_pl _) f
  have rnI : ∀ (f : Nat → Nat) (l : List Int), Blk.rnB f (.vec (eInt.row l) 3 1) = .vec (eInt.row l) 3 1 := fun f l => Blk.plain.rnB (b := .vec (eInt.row l) 3 1) (Elt.row_pl _) f
  have okL : (tnL dim (vsZ cl r0 r1 r2 r3) (jsZ r0 r1 r2 r3) (rsZ r0 r1 r2 r3) (tnQ r0.l r1.l r2.l r3.l dim)).OK (nxZ r0 r1 r2 r3) := tnL_ok (Nat.le_trans (nxZ_le r0 r1 r2 r3) (by decide)) _ _ _ _ _ (jsZ_lt r0 r1 r2 r3) (vsZ_lt cl r0 r1 r2 r3) (fun x hx => Blk.plain.namesLt (rsZ_pl g0 g1 g2 g3 x hx) _)
  have hblk := fun f n l hf => blkZ cl r0 r1 r2 r3 g0 g1 g2 g3 f n l hf
  have key : ∀ zz, (tnQ r0.l r1.l r2.l r3.l dim) zz → ∀ J : Act → World → Prop, (∀ b' i', b' = 0 → (tnL dim (vsZ cl r0 r1 r2 r3) (jsZ r0 r1 r2 r3) (rsZ r0 r1 r2 r3) (tnQ r0.l r1.l r2.l r3.l dim)).inv b' i' → (tnL dim (vsZ cl r0 r1 r2 r3) (jsZ r0 r1 r2 r3) (rsZ r0 r1 r2 r3) (tnQ r0.l r1.l r2.l r3.l dim)).mu b' i' < (tnL dim (vsZ cl r0 r1 r2 r3) (jsZ r0 r1 r2 r3) (rsZ r0 r1 r2 r3) (tnQ r0.l r1.l r2.l r3.l dim)).mu 0 zz → Sat E (mkLp (lp Try.f24 0) J) ((tnL dim (vsZ cl r0 r1 r2 r3) (jsZ r0 r1 r2 r3) (rsZ r0 r1 r2 r3) (tnQ r0.l r1.l r2.l r3.l dim)).st b' i')) → Sat E (inLp (lp Try.f24 0) J) ((tnL dim (vsZ cl r0 r1 r2 r3) (jsZ r0 r1 r2 r3) (rsZ r0 r1 r2 r3) (tnQ r0.l r1.l r2.l r3.l dim)).st 0 zz) := by
    rintro ⟨i, nodes, leaves⟩ ⟨q1, q2, q3, q4⟩ J hJ
    have q1 : i ≤ 7 := q1
    have q2 : i ≤ r0.l.length := q2
    have q3 : NdInv i nodes leaves := q3
    have q4 : ndGo r1.l r2.l r3.l dim ((r0.l.take 7).drop i) i nodes leaves = (nodesI r0.l r1.l r2.l r3.l dim) := q4
    have hJ' : ∀ zz, (tnL dim (vsZ cl r0 r1 r2 r3) (jsZ r0 r1 r2 r3) (rsZ r0 r1 r2 r3) (tnQ r0.l r1.l r2.l r3.l dim)).inv 0 zz → ltO ((tnL dim (vsZ cl r0 r1 r2 r3) (jsZ r0 r1 r2 r3) (rsZ r0 r1 r2 r3) (tnQ r0.l r1.l r2.l r3.l dim)).mu 0 zz) (some (7 - i)) → Sat E (mkLp (lp Try.f24 0) J) ((tnL dim (vsZ cl r0 r1 r2 r3) (jsZ r0 r1 r2 r3) (rsZ r0 r1 r2 r3) (tnQ r0.l r1.l r2.l r3.l dim)).st 0 zz) := fun zz h1 h2 => hJ 0 zz rfl h1 h2
    have fin : ((r0.l.take 7).drop i) = [] → Sat E (atLp (lp Try.f24 1)) ((tpL nodes (tpQ nodes)).st 0 (0, [])) := by
      intro h
      rw [h] at q4
      simp only [ndGo] at q4
      have hE' := hE
      rw [← q4] at hE'
      have := q3.nl
      exact tp_loopz _ (nxZ_le r0 r1 r2 r3) q3.good (fun e => by rw [e] at this; simp at this) (by omega) hE'
    by_cases hin0 : i < r0.len
    · have hz0 : r0.z = true := rw_z (by omega)
      have hin : i < r0.n := by rw [rw_len hz0] at hin0; exact hin0
      have hlt : decide ((i : Int) < (r0.n : Int)) = true := decide_eq_true (by omega)
      have hr0 := (g0 hz0).1
      by_cases h77 : i < 7
      · have h7 : decide ((i : Int) < 7) = true := decide_eq_true (by omega)
        obtain ⟨pz, hpz⟩ : ∃ pz, r0.l[i]? = some pz := ⟨_, List.getElem?_eq_getElem (by omega)⟩
        have hpI : I64 pz := g0.l64 pz (List.mem_of_getElem? hpz)
        have hdrop : (r0.l.take 7).drop i = pz :: (r0.l.take 7).drop (i + 1) := by
          have hl : i < (r0.l.take 7).length := by simp; omega
          rw [List.drop_eq_getElem_cons hl]
          congr 1
          rw [List.getElem_take]
          rw [List.getElem?_eq_getElem (by omega)] at hpz
          exact Option.some.inj hpz
        rw [hdrop] at q4
        simp only [ndGo] at q4
        have hne : leaves ≠ [] := fun e => by have := q3.ll; rw [e] at this; simp at this
        obtain ⟨hwk, hkl⟩ := nd_k (pz := pz) hne
        have hpl := nd_pl (pz := pz) hne
        have hnl := q3.nl
        have hll := q3.ll
        have hinn := q3.inn _ (List.mem_of_getElem? hpl)
        have hplr : (0 : Int) ≤ ndPl pz leaves ∧ ndPl pz leaves < Int.ofNat nodes.length := hinn
        have hQ2 : (tnQ r0.l r1.l r2.l r3.l dim) ⟨i + 1, (ndNodes r1.l r2.l r3.l dim pz i nodes leaves), (ndLeaves pz nodes leaves)⟩ := ⟨h77, by show i + 1 ≤ r0.l.length; omega, nd_inv q3, q4⟩
        have hrp : readPart Try.prog 3 r0.cs (0 + ((i : Int)).toNat * 1) = some (.int .i64 pz) := by
          refine readPart_one (by kernel_rfl) ?_ rfl
          show r0.cs[0 + i * 1]? = _
          rw [Nat.mul_one, hr0.2 i hin, List.getD_eq_getElem?_getD]; rw [rw_l hz0] at hpz; rw [hpz]; rfl
        have hrl : readPart Try.prog 3 (eInt.row leaves) (0 + ((ndK pz leaves : Nat) : Int).toNat * 1) = some (.int .i64 (ndPl pz leaves)) := by
          have := (Elt.canon0 (e := eInt) leaves).1.read1 (P := Try.prog) (ty := 3) (by kernel_rfl) rfl (i := ndK pz leaves) (by rw [(Elt.canon0 leaves).2]; exact hpl) rfl rfl
          rw [← Nat.mul_one (ndK pz leaves)] at this
          exact this
        obtain ⟨ny, hny⟩ : ∃ ny, nodes[(ndPl pz leaves).toNat]? = some ny := ⟨_, List.getElem?_eq_getElem (by omega)⟩
        have hlN : nodes.length + 2 = (ndNodes r1.l r2.l r3.l dim pz i nodes leaves).length := by simp [ndNodes]
        have e1 : (leaves.drop (ndK pz leaves + 1)).take (leaves.length - (ndK pz leaves + 1)) = leaves.drop (ndK pz leaves + 1) := List.take_of_length_le (by simp)
        have e2 : ∀ (A : List Int) (n : Nat), n = A.length → A.take n = A := fun A n h => by subst h; exact List.take_length
        have hl2 : (ndLeaves pz nodes leaves) = leaves.take (ndK pz leaves) ++ leaves.drop (ndK pz leaves + 1) ++ [(nodes.length : Int), (nodes.length : Int) + 1] := rfl
        by_cases hk0 : ndK pz leaves = 0
        · by_cases hke0 : ndK pz leaves + 1 = leaves.length
          · have hke : ((ndK pz leaves + 1 : Nat) : Int) = (leaves.length : Int) := congrArg _ hke0
            have hl2 : (ndLeaves pz nodes leaves) = [(nodes.length : Int), (nodes.length : Int) + 1] := by rw [hl2, hk0, List.drop_of_length_le (by omega)]; simp
            have hlL : 0 + 2 = (ndLeaves pz nodes leaves).length := by rw [hl2]; rfl
            exact tbza (tnQ r0.l r1.l r2.l r3.l dim) cl dim r0 r1 r2 r3 hz0 i (ndK pz leaves) (ndK pz leaves + 1) nodes (ndNodes r1.l r2.l r3.l dim pz i nodes leaves) leaves (ndLeaves pz nodes leaves) pz (leaves.length : Int) ((leaves.length : Int) - 1) (ndPl pz leaves) (nodes.length : Int) (dim - 1) (withinS (pickI r1.l i) 0 (dim - 1)) (withinS (pickI r2.l i) 0 9) ((nodes.length : Int) + 1) (2 * (i : Int)) (2 * (i : Int) + 1) (2 * (i : Int) + 2) (withinS (pickI r3.l (2 * (i : Int) + 1)) (-3000) 3000) (withinS (pickI r3.l (2 * (i : Int) + 2)) (-3000) 3000) (eNd.row (nodes.set (ndPl pz leaves).toNat ⟨false, 0, (withinS (pickI r1.l i) 0 (dim - 1)), (withinS (pickI r2.l i) 0 9), nodes.length, (nodes.length : Int) + 1⟩))  J hE okL (all_app ⟨rfl, ⟨⟨i + 1, (ndNodes r1.l r2.l r3.l dim pz i nodes leaves), (ndLeaves pz nodes leaves)⟩, hQ2, (by show 7 - (i + 1) < 7 - i; omega), (by show _ = List.map _ [Value.int .i64 dim, .pointer (some ⟨10, 0, none⟩), .slice (some ⟨11, 0, none⟩) (ndNodes r1.l r2.l r3.l dim pz i nodes leaves).length mk, .slice (some ⟨12, 0, none⟩) (ndLeaves pz nodes leaves).length mk, .int .i64 ((i + 1 : Nat) : Int)]; rw [← hlN, ← hlL]; rfl), hblk _ _ _ (k_lt4 rfl rfl rfl rfl)⟩, (i64_succ (by omega)), (appG (e := eInt) (L := []) (M := [(nodes.length : Int), (nodes.length : Int) + 1]) (Or.inr ⟨rfl, rfl, rfl⟩) rfl (k := 0) rfl (by simp) (by simp) (congrArg eInt.row (hl2.trans (by simp))) (by decide) (by decide) (by decide)), (i64_id rfl (by omega) (by omega)), ⟨rfl, Nat.le_refl _, by decide⟩, ⟨rfl, hke, rfl, _, _, rfl, by decide, by rw [Elt.row_len]; simp [eInt]⟩, (i64_succ (by omega)), ⟨hk0, Nat.le_refl _, by decide⟩, (slOK_pre rfl (by omega) (by decide) (by rw [Elt.row_len]; simp [eInt])), (appOK (e := eNd) (L := (nodes.set (ndPl pz leaves).toNat ⟨false, 0, (withinS (pickI r1.l i) 0 (dim - 1)), (withinS (pickI r2.l i) 0 9), nodes.length, (nodes.length : Int) + 1⟩)) (new := [⟨true, (withinS (pickI r3.l (2 * (i : Int) + 1)) (-3000) 3000), 0, 0, 0, 0⟩, ⟨true, (withinS (pickI r3.l (2 * (i : Int) + 2)) (-3000) 3000), 0, 0, 0, 0⟩]) rfl rfl rfl rfl (by simp) (congrArg eNd.row (by rw [List.take_of_length_le (by simp)]; rfl)) (by decide) (by omega) (by omega)), rfl, (pick_i64 g3.l64 _), (by decide), (by decide), (by decide), trivial⟩ (all_app (g3.ob (by omega)) (all_app ⟨(i64_id (by omega) (by omega) (by omega)), (i64_id (by show ((2 * i : Nat) : Int) = 2 * (i : Int); omega) (by omega) (by omega)), rfl, (pick_i64 g3.l64 _), (by decide), (by decide), (by decide), trivial⟩ (all_app (g3.ob (by omega)) (all_app ⟨(i64_id (by omega) (by omega) (by omega)), (i64_id (by show ((2 * i : Nat) : Int) = 2 * (i : Int); omega) (by omega) (by omega)), (lsetE (e := eNd) (f := 0) hny rfl (by simp [eNd])), hplr, (i64_id rfl (by omega) (by omega)), rfl, (pick_i64 g2.l64 _), (by decide), (by decide), (by decide), trivial⟩ (all_app (g2.ob (by omega)) (all_app ⟨rfl, (pick_i64 g1.l64 _), (by decide), (by omega), (by omega), (i64_id rfl (by omega) (by omega)), trivial⟩ (all_app (g1.ob (by omega)) ⟨rfl, hrl, ⟨Int.natCast_nonneg _, Int.ofNat_lt.2 hkl⟩, (congrArg _ hwk), hpI, (by decide), (by omega), (by omega), (i64_id rfl (by omega) (by omega)), rfl, hrp, ⟨Int.natCast_nonneg _, Int.ofNat_lt.2 hin⟩, (congrArg _ h7), (congrArg _ hlt), trivial⟩)))))))) hJ'
          · have hl2 : (ndLeaves pz nodes leaves) = leaves.drop (ndK pz leaves + 1) ++ [(nodes.length : Int), (nodes.length : Int) + 1] := by rw [hl2, hk0]; simp
            have hlL : 0 + (leaves.length - (ndK pz leaves + 1)) + 2 = (ndLeaves pz nodes leaves).length := by rw [hl2]; simp
            exact tbzb (tnQ r0.l r1.l r2.l r3.l dim) cl dim r0 r1 r2 r3 hz0 i (ndK pz leaves) (ndK pz leaves + 1) nodes (ndNodes r1.l r2.l r3.l dim pz i nodes leaves) leaves (ndLeaves pz nodes leaves) pz (leaves.length : Int) ((leaves.length : Int) - 1) (ndPl pz leaves) (nodes.length : Int) (dim - 1) (withinS (pickI r1.l i) 0 (dim - 1)) (withinS (pickI r2.l i) 0 9) ((nodes.length : Int) + 1) (2 * (i : Int)) (2 * (i : Int) + 1) (2 * (i : Int) + 2) (withinS (pickI r3.l (2 * (i : Int) + 1)) (-3000) 3000) (withinS (pickI r3.l (2 * (i : Int) + 2)) (-3000) 3000) (eNd.row (nodes.set (ndPl pz leaves).toNat ⟨false, 0, (withinS (pickI r1.l i) 0 (dim - 1)), (withinS (pickI r2.l i) 0 9), nodes.length, (nodes.length : Int) + 1⟩)) (leaves.length - (ndK pz leaves + 1)) (mk + (ndK pz leaves + 1)) ((ndK pz leaves + 1) * eInt.s) (eInt.row (leaves.drop (ndK pz leaves + 1))) J hE okL (all_app ⟨rfl, ⟨⟨i + 1, (ndNodes r1.l r2.l r3.l dim pz i nodes leaves), (ndLeaves pz nodes leaves)⟩, hQ2, (by show 7 - (i + 1) < 7 - i; omega), (by show _ = List.map _ [Value.int .i64 dim, .pointer (some ⟨10, 0, none⟩), .slice (some ⟨11, 0, none⟩) (ndNodes r1.l r2.l r3.l dim pz i nodes leaves).length mk, .slice (some ⟨12, 0, none⟩) (ndLeaves pz nodes leaves).length mk, .int .i64 ((i + 1 : Nat) : Int)]; rw [← hlN, ← hlL]; rfl), hblk _ _ _ (k_lt4 rfl rfl rfl rfl)⟩, (i64_succ (by omega)), (appG (L := leaves.drop (ndK pz leaves + 1)) (M := [(nodes.length : Int), (nodes.length : Int) + 1]) (Or.inl ⟨rfl, rfl⟩) rfl (k := 0) rfl (by simp) (by simp) (congrArg eInt.row (hl2.trans (by rw [e2 (leaves.drop (ndK pz leaves + 1)) _ (by simp)]; rfl))) (by decide) (by omega) (by omega)), (i64_id rfl (by omega) (by omega)), (appG (L := []) (M := leaves) (Or.inr ⟨rfl, rfl, rfl⟩) rfl (k := ndK pz leaves + 1) rfl (by omega) (by simp) (congrArg eInt.row (by rw [e1]; rfl)) (by omega) (by omega) (by omega)), (slK (e := eInt) (h := ndK pz leaves + 1) rfl (by omega) rfl rfl (by show (ndK pz leaves + 1) * 1 = 0 + (ndK pz leaves + 1) * 1; omega) rfl (by decide)), (i64_succ (by omega)), ⟨hk0, Nat.le_refl _, by decide⟩, (slOK_pre rfl (by omega) (by decide) (by rw [Elt.row_len]; simp [eInt])), (appOK (e := eNd) (L := (nodes.set (ndPl pz leaves).toNat ⟨false, 0, (withinS (pickI r1.l i) 0 (dim - 1)), (withinS (pickI r2.l i) 0 9), nodes.length, (nodes.length : Int) + 1⟩)) (new := [⟨true, (withinS (pickI r3.l (2 * (i : Int) + 1)) (-3000) 3000), 0, 0, 0, 0⟩, ⟨true, (withinS (pickI r3.l (2 * (i : Int) + 2)) (-3000) 3000), 0, 0, 0, 0⟩]) rfl rfl rfl rfl (by simp) (congrArg eNd.row (by rw [List.take_of_length_le (by simp)]; rfl)) (by decide) (by omega) (by omega)), rfl, (pick_i64 g3.l64 _), (by decide), (by decide), (by decide), trivial⟩ (all_app (g3.ob (by omega)) (all_app ⟨(i64_id (by omega) (by omega) (by omega)), (i64_id (by show ((2 * i : Nat) : Int) = 2 * (i : Int); omega) (by omega) (by omega)), rfl, (pick_i64 g3.l64 _), (by decide), (by decide), (by decide), trivial⟩ (all_app (g3.ob (by omega)) (all_app ⟨(i64_id (by omega) (by omega) (by omega)), (i64_id (by show ((2 * i : Nat) : Int) = 2 * (i : Int); omega) (by omega) (by omega)), (lsetE (e := eNd) (f := 0) hny rfl (by simp [eNd])), hplr, (i64_id rfl (by omega) (by omega)), rfl, (pick_i64 g2.l64 _), (by decide), (by decide), (by decide), trivial⟩ (all_app (g2.ob (by omega)) (all_app ⟨rfl, (pick_i64 g1.l64 _), (by decide), (by omega), (by omega), (i64_id rfl (by omega) (by omega)), trivial⟩ (all_app (g1.ob (by omega)) ⟨rfl, hrl, ⟨Int.natCast_nonneg _, Int.ofNat_lt.2 hkl⟩, (congrArg _ hwk), hpI, (by decide), (by omega), (by omega), (i64_id rfl (by omega) (by omega)), rfl, hrp, ⟨Int.natCast_nonneg _, Int.ofNat_lt.2 hin⟩, (congrArg _ h7), (congrArg _ hlt), trivial⟩)))))))) hJ'
        · by_cases hke0 : ndK pz leaves + 1 = leaves.length
          · have hke : ((ndK pz leaves + 1 : Nat) : Int) = (leaves.length : Int) := congrArg _ hke0
            have hl2 : (ndLeaves pz nodes leaves) = leaves.take (ndK pz leaves) ++ [(nodes.length : Int), (nodes.length : Int) + 1] := by rw [hl2, List.drop_of_length_le (by omega)]; simp
            have hlL : 0 + ndK pz leaves + 2 = (ndLeaves pz nodes leaves).length := by rw [hl2]; simp; omega
            exact tbzd (tnQ r0.l r1.l r2.l r3.l dim) cl dim r0 r1 r2 r3 hz0 i (ndK pz leaves) (ndK pz leaves + 1) nodes (ndNodes r1.l r2.l r3.l dim pz i nodes leaves) leaves (ndLeaves pz nodes leaves) pz (leaves.length : Int) ((leaves.length : Int) - 1) (ndPl pz leaves) (nodes.length : Int) (dim - 1) (withinS (pickI r1.l i) 0 (dim - 1)) (withinS (pickI r2.l i) 0 9) ((nodes.length : Int) + 1) (2 * (i : Int)) (2 * (i : Int) + 1) (2 * (i : Int) + 2) (withinS (pickI r3.l (2 * (i : Int) + 1)) (-3000) 3000) (withinS (pickI r3.l (2 * (i : Int) + 2)) (-3000) 3000) (eNd.row (nodes.set (ndPl pz leaves).toNat ⟨false, 0, (withinS (pickI r1.l i) 0 (dim - 1)), (withinS (pickI r2.l i) 0 9), nodes.length, (nodes.length : Int) + 1⟩)) (eInt.row (leaves.take (ndK pz leaves))) J hE okL (all_app ⟨rfl, ⟨⟨i + 1, (ndNodes r1.l r2.l r3.l dim pz i nodes leaves), (ndLeaves pz nodes leaves)⟩, hQ2, (by show 7 - (i + 1) < 7 - i; omega), (by show _ = List.map _ [Value.int .i64 dim, .pointer (some ⟨10, 0, none⟩), .slice (some ⟨11, 0, none⟩) (ndNodes r1.l r2.l r3.l dim pz i nodes leaves).length mk, .slice (some ⟨12, 0, none⟩) (ndLeaves pz nodes leaves).length mk, .int .i64 ((i + 1 : Nat) : Int)]; rw [← hlN, ← hlL]; rfl), hblk _ _ _ (k_lt4 rfl rfl rfl rfl)⟩, (i64_succ (by omega)), (appG (L := leaves.take (ndK pz leaves)) (M := [(nodes.length : Int), (nodes.length : Int) + 1]) (Or.inl ⟨rfl, rfl⟩) rfl (k := 0) rfl (by simp) (by simp; omega) (congrArg eInt.row (hl2.trans (by rw [e2 (leaves.take (ndK pz leaves)) _ (by simp; omega)]; rfl))) (by decide) (by omega) (by omega)), (i64_id rfl (by omega) (by omega)), ⟨rfl, rfl, by decide, by rw [Elt.row_len]; simp [eInt]; omega⟩, ⟨rfl, hke, rfl, _, _, rfl, by decide, by rw [Elt.row_len]; simp [eInt]⟩, (i64_succ (by omega)), (appG (L := []) (M := leaves) (Or.inr ⟨rfl, rfl, rfl⟩) rfl (k := 0) rfl (by omega) (by simp) (congrArg eInt.row (by simp)) (by omega) (by omega) (by omega)), (slOK_pre rfl (by omega) (by decide) (by rw [Elt.row_len]; simp [eInt])), (appOK (e := eNd) (L := (nodes.set (ndPl pz leaves).toNat ⟨false, 0, (withinS (pickI r1.l i) 0 (dim - 1)), (withinS (pickI r2.l i) 0 9), nodes.length, (nodes.length : Int) + 1⟩)) (new := [⟨true, (withinS (pickI r3.l (2 * (i : Int) + 1)) (-3000) 3000), 0, 0, 0, 0⟩, ⟨true, (withinS (pickI r3.l (2 * (i : Int) + 2)) (-3000) 3000), 0, 0, 0, 0⟩]) rfl rfl rfl rfl (by simp) (congrArg eNd.row (by rw [List.take_of_length_le (by simp)]; rfl)) (by decide) (by omega) (by omega)), rfl, (pick_i64 g3.l64 _), (by decide), (by decide), (by decide), trivial⟩ (all_app (g3.ob (by omega)) (all_app ⟨(i64_id (by omega) (by omega) (by omega)), (i64_id (by show ((2 * i : Nat) : Int) = 2 * (i : Int); omega) (by omega) (by omega)), rfl, (pick_i64 g3.l64 _), (by decide), (by decide), (by decide), trivial⟩ (all_app (g3.ob (by omega)) (all_app ⟨(i64_id (by omega) (by omega) (by omega)), (i64_id (by show ((2 * i : Nat) : Int) = 2 * (i : Int); omega) (by omega) (by omega)), (lsetE (e := eNd) (f := 0) hny rfl (by simp [eNd])), hplr, (i64_id rfl (by omega) (by omega)), rfl, (pick_i64 g2.l64 _), (by decide), (by decide), (by decide), trivial⟩ (all_app (g2.ob (by omega)) (all_app ⟨rfl, (pick_i64 g1.l64 _), (by decide), (by omega), (by omega), (i64_id rfl (by omega) (by omega)), trivial⟩ (all_app (g1.ob (by omega)) ⟨rfl, hrl, ⟨Int.natCast_nonneg _, Int.ofNat_lt.2 hkl⟩, (congrArg _ hwk), hpI, (by decide), (by omega), (by omega), (i64_id rfl (by omega) (by omega)), rfl, hrp, ⟨Int.natCast_nonneg _, Int.ofNat_lt.2 hin⟩, (congrArg _ h7), (congrArg _ hlt), trivial⟩)))))))) hJ'
          · have hlL : 0 + ndK pz leaves + (leaves.length - (ndK pz leaves + 1)) + 2 = (ndLeaves pz nodes leaves).length := by rw [hl2]; simp; omega
            exact tbzc (tnQ r0.l r1.l r2.l r3.l dim) cl dim r0 r1 r2 r3 hz0 i (ndK pz leaves) (ndK pz leaves + 1) nodes (ndNodes r1.l r2.l r3.l dim pz i nodes leaves) leaves (ndLeaves pz nodes leaves) pz (leaves.length : Int) ((leaves.length : Int) - 1) (ndPl pz leaves) (nodes.length : Int) (dim - 1) (withinS (pickI r1.l i) 0 (dim - 1)) (withinS (pickI r2.l i) 0 9) ((nodes.length : Int) + 1) (2 * (i : Int)) (2 * (i : Int) + 1) (2 * (i : Int) + 2) (withinS (pickI r3.l (2 * (i : Int) + 1)) (-3000) 3000) (withinS (pickI r3.l (2 * (i : Int) + 2)) (-3000) 3000) (eNd.row (nodes.set (ndPl pz leaves).toNat ⟨false, 0, (withinS (pickI r1.l i) 0 (dim - 1)), (withinS (pickI r2.l i) 0 9), nodes.length, (nodes.length : Int) + 1⟩)) (leaves.length - (ndK pz leaves + 1)) (mk + (ndK pz leaves + 1)) ((ndK pz leaves + 1) * eInt.s) (eInt.row (leaves.take (ndK pz leaves))) (eInt.row (leaves.take (ndK pz leaves) ++ leaves.drop (ndK pz leaves + 1))) J hE okL (all_app ⟨rfl, ⟨⟨i + 1, (ndNodes r1.l r2.l r3.l dim pz i nodes leaves), (ndLeaves pz nodes leaves)⟩, hQ2, (by show 7 - (i + 1) < 7 - i; omega), (by show _ = List.map _ [Value.int .i64 dim, .pointer (some ⟨10, 0, none⟩), .slice (some ⟨11, 0, none⟩) (ndNodes r1.l r2.l r3.l dim pz i nodes leaves).length mk, .slice (some ⟨12, 0, none⟩) (ndLeaves pz nodes leaves).length mk, .int .i64 ((i + 1 : Nat) : Int)]; rw [← hlN, ← hlL]; rfl), hblk _ _ _ (k_lt4 rfl rfl rfl rfl)⟩, (i64_succ (by omega)), (appG (L := leaves.take (ndK pz leaves) ++ leaves.drop (ndK pz leaves + 1)) (M := [(nodes.length : Int), (nodes.length : Int) + 1]) (Or.inl ⟨rfl, rfl⟩) rfl (k := 0) rfl (by simp) (by simp; omega) (congrArg eInt.row (hl2.trans (by rw [e2 (leaves.take (ndK pz leaves) ++ leaves.drop (ndK pz leaves + 1)) _ (by simp; omega)]; rfl))) (by decide) (by omega) (by omega)), (i64_id rfl (by omega) (by omega)), (appG (L := leaves.take (ndK pz leaves)) (M := leaves) (Or.inl ⟨rfl, rfl⟩) rfl (k := ndK pz leaves + 1) rfl (by omega) (by simp; omega) (congrArg eInt.row (by rw [e1, e2 (leaves.take (ndK pz leaves)) _ (by simp; omega)])) (by omega) (by omega) (by omega)), (slK (e := eInt) (h := ndK pz leaves + 1) rfl (by omega) rfl rfl (by show (ndK pz leaves + 1) * 1 = 0 + (ndK pz leaves + 1) * 1; omega) rfl (by decide)), (i64_succ (by omega)), (appG (L := []) (M := leaves) (Or.inr ⟨rfl, rfl, rfl⟩) rfl (k := 0) rfl (by omega) (by simp) (congrArg eInt.row (by simp)) (by omega) (by omega) (by omega)), (slOK_pre rfl (by omega) (by decide) (by rw [Elt.row_len]; simp [eInt])), (appOK (e := eNd) (L := (nodes.set (ndPl pz leaves).toNat ⟨false, 0, (withinS (pickI r1.l i) 0 (dim - 1)), (withinS (pickI r2.l i) 0 9), nodes.length, (nodes.length : Int) + 1⟩)) (new := [⟨true, (withinS (pickI r3.l (2 * (i : Int) + 1)) (-3000) 3000), 0, 0, 0, 0⟩, ⟨true, (withinS (pickI r3.l (2 * (i : Int) + 2)) (-3000) 3000), 0, 0, 0, 0⟩]) rfl rfl rfl rfl (by simp) (congrArg eNd.row (by rw [List.take_of_length_le (by simp)]; rfl)) (by decide) (by omega) (by omega)), rfl, (pick_i64 g3.l64 _), (by decide), (by decide), (by decide), trivial⟩ (all_app (g3.ob (by omega)) (all_app ⟨(i64_id (by omega) (by omega) (by omega)), (i64_id (by show ((2 * i : Nat) : Int) = 2 * (i : Int); omega) (by omega) (by omega)), rfl, (pick_i64 g3.l64 _), (by decide), (by decide), (by decide), trivial⟩ (all_app (g3.ob (by omega)) (all_app ⟨(i64_id (by omega) (by omega) (by omega)), (i64_id (by show ((2 * i : Nat) : Int) = 2 * (i : Int); omega) (by omega) (by omega)), (lsetE (e := eNd) (f := 0) hny rfl (by simp [eNd])), hplr, (i64_id rfl (by omega) (by omega)), rfl, (pick_i64 g2.l64 _), (by decide), (by decide), (by decide), trivial⟩ (all_app (g2.ob (by omega)) (all_app ⟨rfl, (pick_i64 g1.l64 _), (by decide), (by omega), (by omega), (i64_id rfl (by omega) (by omega)), trivial⟩ (all_app (g1.ob (by omega)) ⟨rfl, hrl, ⟨Int.natCast_nonneg _, Int.ofNat_lt.2 hkl⟩, (congrArg _ hwk), hpI, (by decide), (by omega), (by omega), (i64_id rfl (by omega) (by omega)), rfl, hrp, ⟨Int.natCast_nonneg _, Int.ofNat_lt.2 hin⟩, (congrArg _ h7), (congrArg _ hlt), trivial⟩)))))))) hJ'
      · have h7 : decide ((i : Int) < 7) = false := decide_eq_false (by omega)
        exact tbzy (tnQ r0.l r1.l r2.l r3.l dim) (fun x => x = (0, [])) cl dim r0 r1 r2 r3 i nodes leaves J hE (tpL_ok (Nat.le_trans (nxZ_le r0 r1 r2 r3) (by decide)) _ _) ⟨rfl, ⟨(0, []), rfl, trivial, rfl, by simp [tpL, rnN]⟩, (congrArg _ h7), (congrArg _ (decide_eq_true (by omega))), trivial⟩ fun zz hz _ => by
          have hz0 : zz = (0, []) := hz
          subst hz0
          exact fin (List.drop_of_length_le (by simp; omega))
    · have hlt : decide ((i : Int) < (r0.len : Int)) = false := decide_eq_false (by omega)
      exact tbzx (tnQ r0.l r1.l r2.l r3.l dim) (fun x => x = (0, [])) cl dim r0 r1 r2 r3 i nodes leaves J hE (tpL_ok (Nat.le_trans (nxZ_le r0 r1 r2 r3) (by decide)) _ _) ⟨rfl, ⟨(0, []), rfl, trivial, rfl, by simp [tpL, rnN]⟩, (congrArg _ hlt), trivial⟩ fun zz hz _ => by
          have hz0 : zz = (0, []) := hz
          subst hz0
          exact fin (List.drop_of_length_le (by simp; omega))
  intro zz hz
  have := loop_sat (E := E) (k := ((lp Try.f24 0)).2) (c := ((lp Try.f24 0)).1) (onlyT (tnL dim (vsZ cl r0 r1 r2 r3) (jsZ r0 r1 r2 r3) (rsZ r0 r1 r2 r3) (tnQ r0.l r1.l r2.l r3.l dim)) 0) (fun b i hb J hJ => by
    obtain ⟨rfl, hb⟩ := hb
    exact key i hb J (fun b' i' e h1 h2 => hJ b' i' ⟨e, h1⟩ (by subst e; exact h2)))
  exact this 0 zz ⟨rfl, hz⟩
end Go.Proofs.Ythbaccmhdffjdaa.Tn


set_option linter.unusedVariables false
set_option linter.unusedSimpArgs false
set_option maxRecDepth 100000
namespace Go.Proofs.Ythbaccmhdffjdaa.Tn
open Go Go.RowKit Go.Proofs.Ythbaccmhdffjdaa.Ev Go.Proofs.Ythbaccmhdffjdaa.Within Go.Proofs.Ythbaccmhdffjdaa.PickE Go.Proofs.Ythbaccmhdffjdaa.NodeE Go.Proofs.Ythbaccmhdffjdaa.Tn

def rowAt (k : Nat) (v : Value) (css : List (List Value)) : Option (List Int × List (List Value) × Nat × List Prop) :=
  match v with
  | .slice none 0 0 => some ([], css, k, [])
  | .slice (some ⟨j, 0, none⟩) n _ => match css with
    | cs :: rest => bif Nat.beq j k then some (intsOf cs 0 n, rest, k + 1, [IntRow .i64 cs 0 n, ∀ z ∈ intsOf cs 0 n, I64 z]) else none
    | [] => none
  | _ => none
theorem rowAt_cases {k : Nat} {v : Value} {css : List (List Value)} {l : List Int} {css' : List (List Value)} {k' : Nat} {o : List Prop} (h : rowAt k v css = some (l, css', k', o)) :
    (v = .slice none 0 0 ∧ l = [] ∧ css' = css ∧ k' = k ∧ o = []) ∨ ∃ n c cs, v = .slice (some ⟨k, 0, none⟩) n c ∧ css = cs :: css' ∧ l = intsOf cs 0 n ∧ k' = k + 1 ∧ o = [IntRow .i64 cs 0 n, ∀ z ∈ intsOf cs 0 n, I64 z] := by
  unfold rowAt at h
  split at h
  · simp only [Option.some.injEq, Prod.mk.injEq] at h
    obtain ⟨rfl, rfl, rfl, rfl⟩ := h
    exact Or.inl ⟨rfl, rfl, rfl, rfl, rfl⟩
  · rename_i j n c
    split at h
    · rename_i cs rest
      cases hb : Nat.beq j k with
      | false => rw [hb] at h; simp at h
      | true =>
        rw [hb] at h
        simp only [cond_true, Option.some.injEq, Prod.mk.injEq] at h
        obtain ⟨rfl, rfl, rfl, rfl⟩ := h
        have := Nat.eq_of_beq_eq_true hb
        subst this
        exact Or.inr ⟨n, c, cs, rfl, rfl, rfl, rfl, rfl⟩
    · simp at h
  · simp at h
def nodes_G (NI : List Int → List Int → List Int → List Int → Int → List Nd) (a b c d : Value) (dim : Int) (css : List (List Value)) : Option (Value × List Blk × List Prop) :=
  match rowAt 0 a css with
  | none => none
  | some (pl, css1, k1, o1) => match rowAt k1 b css1 with
    | none => none
    | some (bl, css2, k2, o2) => match rowAt k2 c css2 with
      | none => none
      | some (al, css3, k3, o3) => match rowAt k3 d css3 with
        | none => none
        | some (vl, css4, _, o4) => match css4 with
          | [] => some (.slice (some ⟨100, 0, none⟩) (NI pl bl al vl dim).length mk, [.vec (eWord.row ((NI pl bl al vl dim).map packN)) 83 1], (NI = nodesI) :: (1 ≤ dim ∧ dim ≤ 1000) :: (o1 ++ (o2 ++ (o3 ++ o4))))
          | _ => none
def nodes_F (NI : List Int → List Int → List Int → List Int → Int → List Nd) : RoF := fun xs css => match xs with
  | [.agg ⟨[.int .i64 _, a, b, c, d]⟩, .int .i64 dim] => nodes_G NI a b c d dim css
  | _ => none

theorem rowAt_fam {k : Nat} {v : Value} {css : List (List Value)} {l : List Int} {css' : List (List Value)} {k' : Nat} {o : List Prop} (h : rowAt k v css = some (l, css', k', o)) :
    ∃ r : Rw, v = r.v k ∧ css = r.css css' ∧ l = r.l ∧ k' = k + r.k ∧ ((∀ p ∈ o, p) → plainR css → r.good) := by
  rcases rowAt_cases h with ⟨rfl, rfl, rfl, rfl, rfl⟩ | ⟨n, c, cs, rfl, rfl, rfl, rfl, rfl⟩
  · exact ⟨⟨false, [], 0, 0⟩, rfl, rfl, rfl, rfl, fun _ _ h => absurd h (by simp)⟩
  · exact ⟨⟨true, cs, n, c⟩, rfl, rfl, rfl, rfl, fun ho hp _ => ⟨ho _ (by simp), ho _ (by simp), hp cs (by simp)⟩⟩
theorem plain_css {r : Rw} {l : List (List Value)} (h : plainR (r.css l)) : plainR l := by
  unfold Rw.css at h
  cases hz : r.z <;> rw [hz] at h
  · exact h
  · exact fun x hx => h x (List.mem_cons_of_mem _ hx)
theorem nodes_sum (NI : List Int → List Int → List Int → List Int → Int → List Nd) : SumOK Try.prog 24 (roSum (nodes_F NI)) := by
  refine roSum_ok (en Try.func24 rfl) ?_ (fun xs css r h => ?_)
  · intro xs css v blks ob h hob hpl hl
    unfold nodes_F at h
    split at h
    · rename_i cl a b c d dim
      unfold nodes_G at h
      split at h
      · simp at h
      rename_i pl css1 k1 o1 q0
      split at h
      · simp at h
      rename_i bl css2 k2 o2 q1
      split at h
      · simp at h
      rename_i al css3 k3 o3 q2
      split at h
      · simp at h
      rename_i vl css4 k4 o4 q3
      split at h
      · simp only [Option.some.injEq, Prod.mk.injEq] at h
        obtain ⟨rfl, rfl, rfl⟩ := h
        obtain ⟨r0, rfl, rfl, rfl, hk1, h0⟩ := rowAt_fam q0
        rw [Nat.zero_add] at hk1
        subst hk1
        obtain ⟨r1, rfl, rfl, rfl, rfl, h1⟩ := rowAt_fam q1
        obtain ⟨r2, rfl, rfl, rfl, rfl, h2⟩ := rowAt_fam q2
        obtain ⟨r3, rfl, rfl, rfl, rfl, h3⟩ := rowAt_fam q3
        obtain rfl : NI = nodesI := hob _ (List.mem_cons_self ..)
        have hd : 1 ≤ dim ∧ dim ≤ 1000 := hob _ (List.mem_cons_of_mem _ (List.mem_cons_self ..))
        have g0 := h0 (fun p hp => hob p (List.mem_cons_of_mem _ (List.mem_cons_of_mem _ (List.mem_append_left _ hp)))) hpl
        have g1 := h1 (fun p hp => hob p (List.mem_cons_of_mem _ (List.mem_cons_of_mem _ (List.mem_append_right _ (List.mem_append_left _ hp))))) (plain_css hpl)
        have g2 := h2 (fun p hp => hob p (List.mem_cons_of_mem _ (List.mem_cons_of_mem _ (List.mem_append_right _ (List.mem_append_right _ (List.mem_append_left _ hp)))))) (plain_css (plain_css hpl))
        have g3 := h3 (fun p hp => hob p (List.mem_cons_of_mem _ (List.mem_cons_of_mem _ (List.mem_append_right _ (List.mem_append_right _ (List.mem_append_right _ hp)))))) (plain_css (plain_css (plain_css hpl)))
        refine ⟨by simp, fun x hx => by simp at hx; subst hx; exact ⟨Elt.row_pl _, rfl⟩, fun j hj => by simp [nms, nm1, nm0] at hj; subst hj; simp, ?_⟩
        refine spec_of_sat Try.func24 rfl fun E hE => ?_
        have hv0 : I64 (withinS (pickI r3.l 0) (-3000) 3000) := within_i64 _ (by decide) (by decide) (by decide)
        exact tnz (tnQ r0.l r1.l r2.l r3.l dim) cl dim (withinS (pickI r3.l 0) (-3000) 3000) r0 r1 r2 r3 hE (tnL_ok (Nat.le_trans (nxZ_le r0 r1 r2 r3) (by decide)) _ _ _ _ _ (jsZ_lt r0 r1 r2 r3) (vsZ_lt cl r0 r1 r2 r3) (fun x hx => Blk.plain.namesLt (rsZ_pl g0 g1 g2 g3 x hx) _))
          (all_app ⟨rfl, ⟨⟨0, [⟨true, (withinS (pickI r3.l 0) (-3000) 3000), 0, 0, 0, 0⟩], [0]⟩, ⟨Nat.zero_le _, Nat.zero_le _, nd0 _ hv0, rfl⟩, trivial, rfl, blkZ cl r0 r1 r2 r3 g0 g1 g2 g3 _ [⟨true, (withinS (pickI r3.l 0) (-3000) 3000), 0, 0, 0, 0⟩] [0] (k_lt4 rfl rfl rfl rfl)⟩, rfl, pick_i64 g3.l64 _, by decide, by decide, by decide, trivial⟩ (g3.ob (by decide)))
          fun zz hz _ => tn_loopz cl dim hd r0 r1 r2 r3 g0 g1 g2 g3 hE zz hz
      · simp at h
    · simp at h
  · unfold nodes_F at h
    split at h
    · unfold nodes_G at h
      have hlen : ∀ k v cs l cs' k' o, rowAt k v cs = some (l, cs', k', o) → cs.length ≤ cs'.length + 1 := by
        intro k v cs l cs' k' o hq
        rcases rowAt_cases hq with ⟨_, _, rfl, _⟩ | ⟨_, _, _, _, rfl, _⟩ <;> simp
      split at h
      · simp at h
      rename_i q0
      split at h
      · simp at h
      rename_i q1
      split at h
      · simp at h
      rename_i q2
      split at h
      · simp at h
      rename_i q3
      split at h
      · have h0 := hlen _ _ _ _ _ _ _ q0
        have h1 := hlen _ _ _ _ _ _ _ q1
        have h2 := hlen _ _ _ _ _ _ _ q2
        have h3 := hlen _ _ _ _ _ _ _ q3
        simp at h3
        omega
      · simp at h
    · simp at h
noncomputable def t_nodes (NI : List Int → List Int → List Int → List Int → Int → List Nd) : Sums := upd t_tn 24 (some (roSum (nodes_F NI)))
theorem t_nodes_ok (NI : List Int → List Int → List Int → List Int → Int → List Nd) : SumsOK Try.prog (t_nodes NI) := sums_cons t_tn_ok (nodes_sum NI)
end Go.Proofs.Ythbaccmhdffjdaa.Tn


set_option linter.unusedVariables false
set_option linter.unusedSimpArgs false
set_option maxRecDepth 100000
namespace Go.Proofs.Ythbaccmhdffjdaa.Tn
open Go Go.RowKit Go.Proofs.Ythbaccmhdffjdaa.Ev Go.Proofs.Ythbaccmhdffjdaa.NodeE Go.Proofs.Ythbaccmhdffjdaa.Within Go.Proofs.Ythbaccmhdffjdaa.PickE Go.Proofs.Ythbaccmhdffjdaa.Tn Go.Proofs.Ythbaccmhdffjdaa.Tr

def Rw.o (r : Rw) : Option (List Value) := bif r.z then some r.cs else none
def Rw.ob2 (r : Rw) : List Prop := bif r.z then [IntRow .i64 r.cs 0 r.n, ∀ z ∈ intsOf r.cs 0 r.n, I64 z] else []
/-- A tree under names from b on. -/
def vsP (b : Nat) (cl : Int) (r0 r1 r2 r3 : Rw) : List Value := [.int .i64 cl, r0.v b, r1.v (b + 1), r2.v (b + 2), r3.v (b + 3)]
theorem Rw.good.ob2 {r : Rw} (h : r.good) : all r.ob2 := by
  obtain ⟨z, cs, n, c⟩ := r
  cases z
  · trivial
  · obtain ⟨h1, h2, _⟩ := h rfl
    exact ⟨h1, h2, trivial⟩
theorem cssZ_pl {r0 r1 r2 r3 : Rw} (g0 : r0.good) (g1 : r1.good) (g2 : r2.good) (g3 : r3.good) : plainR (cssZ r0 r1 r2 r3) := by
  have key : ∀ (r : Rw) (l : List (List Value)), r.good → plainR l → plainR (r.css l) := fun r l g h => by
    unfold Rw.css
    cases hz : r.z
    · exact h
    · intro x hx
      rcases List.mem_cons.1 hx with rfl | hx
      · exact (g hz).2.2
      · exact h x hx
  exact key _ _ g0 (key _ _ g1 (key _ _ g2 (key _ _ g3 (fun x hx => by simp at hx))))
theorem can_fam {k : Nat} {u : Value} {r : Option (List Value)} (h : CanAt eInt I64 k u r) : ∃ w : Rw, u = w.v k ∧ r = w.o ∧ w.good := by
  rcases h with ⟨rfl, rfl⟩ | ⟨l, c, rfl, rfl, ha, hb, hg⟩
  · exact ⟨⟨false, [], 0, 0⟩, rfl, rfl, fun h => absurd h (by simp)⟩
  · exact ⟨⟨true, eInt.row l, l.length, c⟩, rfl, rfl, fun _ => ⟨(int_row hg).1, (int_row hg).2, Elt.row_pl l⟩⟩
theorem vsP_nm {b : Nat} {cl : Int} {r0 r1 r2 r3 : Rw} : ∀ j ∈ nms (.agg ⟨vsP b cl r0 r1 r2 r3⟩), b ≤ j ∧ j < b + 4 := by
  have vs : ∀ (r : Rw) (k j : Nat), j ∈ nm0 (r.v k) → j = k := fun r k j h => by
    unfold Rw.v at h
    cases hz : r.z <;> rw [hz] at h <;> simp [nm0] at h
    exact h
  intro j hj
  simp only [nms, nm1, nmL, vsP, List.mem_append] at hj
  rcases hj with h | h | h | h | h | h
  · simp [nm0] at h
  · have := vs _ _ _ h; omega
  · have := vs _ _ _ h; omega
  · have := vs _ _ _ h; omega
  · have := vs _ _ _ h; omega
  · simp at h
theorem rwv_ren (r : Rw) (k : Nat) (g : Nm) : ren g (r.v k) = ren0 g (r.v k) := by
  unfold Rw.v
  cases r.z <;> rfl
end Go.Proofs.Ythbaccmhdffjdaa.Tn


set_option linter.unusedVariables false
set_option linter.unusedSimpArgs false
set_option maxRecDepth 100000
namespace Go.Proofs.Ythbaccmhdffjdaa.Tr
open Go Go.RowKit Go.Proofs.Ythbaccmhdffjdaa.Ev Go.Proofs.Ythbaccmhdffjdaa.NodeE

def fEn (cs : List Value) (o n c : Nat) (p : Pt) (Q : Nat × Nat → Prop) : LoopF (Nat × Nat) where
  ts _ := [0, 3, 5, 6, 9]
  hs _ := [0, 10, 11]
  tv _ := fun ⟨k, a⟩ => [.slice (some ⟨0, o, none⟩) n c, .pointer (some ⟨10, 0, none⟩), .pointer (some ⟨11, 0, none⟩), .int .i64 (a : Int), .int .i64 (k : Int)]
  hv _ _ := [.ro cs, .cells p.cs 72, .cells [.bool false, .int .i64 0, .int .i64 0, .int .i64 0, .int .i64 0, .int .i64 0] 86]
  inv _ := Q
  mu _ := fun ⟨k, a⟩ => 31 - k
  nx := 12
theorem pt_pl (p : Pt) : ∀ x ∈ p.cs, leafG x = true := by
  intro x hx
  simp [Pt.cs] at hx
  rcases hx with rfl | rfl | rfl | rfl <;> rfl
theorem nd_pl (l : Bool) (v f a x y : Int) : ∀ q ∈ [Value.bool l, .int .i64 v, .int .i64 f, .int .i64 a, .int .i64 x, .int .i64 y], leafG q = true := by
  intro q hq
  simp at hq
  rcases hq with rfl | rfl | rfl | rfl | rfl | rfl <;> rfl

theorem fEn_ok (cs : List Value) (o n c : Nat) (p : Pt) (Q : Nat × Nat → Prop) (hpl : ∀ x ∈ cs, leafG x = true) : (fEn cs o n c p Q).OK 1 := by
  refine ⟨(by decide : 1 ≤ 12), fun z i h k hk => ?_, fun z i h v hv k hk => ?_, fun z i h x hx => ?_⟩
  · show k < 12
    simp [fEn] at hk; omega
  · show k < 12
    simp [fEn] at hv
    rcases hv with rfl | rfl | rfl | rfl | rfl <;> simp [nms, nm1, nm0] at hk <;> omega
  · simp [fEn] at hx
    rcases hx with rfl | rfl | rfl
    · exact Blk.plain.namesLt (b := .ro cs) hpl _
    · exact Blk.plain.namesLt (b := .cells p.cs 72) (pt_pl p) _
    · exact Blk.plain.namesLt (b := .cells _ 86) (nd_pl _ _ _ _ _ _) _

def fRw (cs : List Value) (o n c : Nat) (p : Pt) (Q : Nat × Nat → Prop) : LoopF (Nat × Nat) where
  ts _ := [0, 3, 5, 8]
  hs _ := [0, 10]
  tv _ := fun ⟨k, a⟩ => [.slice (some ⟨0, o, none⟩) n c, .pointer (some ⟨10, 0, none⟩), .int .i64 (a : Int), .int .i64 (k : Int)]
  hv _ _ := [.ro cs, .cells p.cs 72]
  inv _ := Q
  mu _ := fun ⟨k, a⟩ => 31 - k
  nx := 12

theorem fRw_ok (cs : List Value) (o n c : Nat) (p : Pt) (Q : Nat × Nat → Prop) (hpl : ∀ x ∈ cs, leafG x = true) : (fRw cs o n c p Q).OK 1 := by
  refine ⟨(by decide : 1 ≤ 12), fun z i h k hk => ?_, fun z i h v hv k hk => ?_, fun z i h x hx => ?_⟩
  · show k < 12
    simp [fRw] at hk; omega
  · show k < 12
    simp [fRw] at hv
    rcases hv with rfl | rfl | rfl | rfl <;> simp [nms, nm1, nm0] at hk <;> omega
  · simp [fRw] at hx
    rcases hx with rfl | rfl
    · exact Blk.plain.namesLt (b := .ro cs) hpl _
    · exact Blk.plain.namesLt (b := .cells p.cs 72) (pt_pl p) _

/-- tree.Right's first loop: the counts so far. -/
def fRt (cs : List Value) (o n c : Nat) (dim : Int) (Q : Nat × List Int → Prop) : LoopF (Nat × List Int) where
  ts _ := [0, 1, 5, 23, 24, 25]
  hs _ := [0, 10]
  tv _ := fun ⟨i, r⟩ => [.slice (some ⟨0, o, none⟩) n c, .int .i64 dim, .slice (some ⟨10, 0, none⟩) n n, .slice (some ⟨0, o, none⟩) n c, .int .i64 (n : Int), .int .i64 (i : Int)]
  hv _ := fun ⟨i, r⟩ => [.ro cs, .cells (eInt.row r) 3]
  inv _ := Q
  mu _ := fun ⟨i, r⟩ => n - i
  nx := 12

theorem fRt_ok (cs : List Value) (o n c : Nat) (dim : Int) (Q : Nat × List Int → Prop) (hpl : ∀ x ∈ cs, leafG x = true) : (fRt cs o n c dim Q).OK 1 := by
  refine ⟨(by decide : 1 ≤ 12), fun z i h k hk => ?_, fun z i h v hv k hk => ?_, fun z i h x hx => ?_⟩
  · show k < 12
    simp [fRt] at hk; omega
  · show k < 12
    simp [fRt] at hv
    rcases hv with rfl | rfl | rfl | rfl | rfl | rfl <;> simp [nms, nm1, nm0] at hk <;> omega
  · simp [fRt] at hx
    rcases hx with rfl | rfl
    · exact Blk.plain.namesLt (b := .ro cs) hpl _
    · exact Blk.plain.namesLt (b := .cells _ 3) (Elt.row_pl _) _

/-- tree.Right's second loop. -/
def fRn (m q : Nat) (r : List Int) (Q : Nat → Prop) : LoopF Nat where
  ts _ := [85, 86, 87]
  hs _ := [10]
  tv _ := fun i => [.slice (some ⟨10, q, none⟩) m m, .int .i64 (m : Int), .int .i64 (i : Int)]
  hv _ := fun i => [.cells (eInt.row r) 3]
  inv _ := Q
  mu _ := fun i => m - i
  nx := 12

theorem fRn_ok (m q : Nat) (r : List Int) (Q : Nat → Prop) : (fRn m q r Q).OK 1 := by
  refine ⟨(by decide : 1 ≤ 12), fun z i h k hk => ?_, fun z i h v hv k hk => ?_, fun z i h x hx => ?_⟩
  · show k < 12
    simp [fRn] at hk; omega
  · show k < 12
    simp [fRn] at hv
    rcases hv with rfl | rfl | rfl <;> simp [nms, nm1, nm0] at hk <;> omega
  · simp [fRn] at hx
    subst hx
    exact Blk.plain.namesLt (b := .cells _ 3) (Elt.row_pl _) _

end Go.Proofs.Ythbaccmhdffjdaa.Tr


set_option linter.unusedVariables false
set_option linter.unusedSimpArgs false
set_option maxRecDepth 100000
namespace Go.Proofs.Ythbaccmhdffjdaa.Tr
open Go Go.RowKit Go.Proofs.Ythbaccmhdffjdaa.Ev Go.Proofs.Ythbaccmhdffjdaa.NodeE Go.Proofs.Ythbaccmhdffjdaa.Tr

theorem rtNil (dim : Int)  {E : Env} (hE : EnvOK E Try.prog Try.f42 2 0 (.bool false) [] []) (hob : all ([Back (Value.bool false) (Value.bool false) [] [] []])) : Sat E [.code (bodyOf Try.f42)] (st0 Try.f42 [.slice none 0 0, .int .i64 dim] (roRows []) 0) :=
  by_ret (T := auto0 t_runpack) (h := hints []) (ws := []) (nx' := 0) hE hm (auto0_ok t_runpack_ok) (by omega) (by simp) (by simp) (by kernel_rfl) hob
theorem rtShort (cs : List Value) (o n c : Nat) (dim : Int)  {E : Env} (hE : EnvOK E Try.prog Try.f42 2 1 (.bool false) [] []) (hob : all ([Back (Value.bool false) (Value.bool false) [] [] [], Value.bool (decide ((↑n : Int) < 1)) = Value.bool true])) : Sat E [.code (bodyOf Try.f42)] (st0 Try.f42 [.slice (some ⟨0, o, none⟩) n c, .int .i64 dim] (roRows [cs]) 1) :=
  by_ret (T := auto0 t_runpack) (h := hints [(1, 2, ht true)]) (ws := []) (nx' := 1) hE hm (auto0_ok t_runpack_ok) (by omega) (by simp) (by simp) (by kernel_rfl) hob
theorem rtLong (cs : List Value) (o n c : Nat) (dim : Int)  {E : Env} (hE : EnvOK E Try.prog Try.f42 2 1 (.bool false) [] []) (hob : all ([Back (Value.bool false) (Value.bool false) [] [] [], Value.bool (decide ((↑n : Int) > 31)) = Value.bool true, Value.bool (decide ((↑n : Int) < 1)) = Value.bool false])) : Sat E [.code (bodyOf Try.f42)] (st0 Try.f42 [.slice (some ⟨0, o, none⟩) n c, .int .i64 dim] (roRows [cs]) 1) :=
  by_ret (T := auto0 t_runpack) (h := hints [(1, 2, ht false), (1, 6, ht true)]) (ws := []) (nx' := 1) hE hm (auto0_ok t_runpack_ok) (by omega) (by simp) (by simp) (by kernel_rfl) hob
theorem rtIn (cs : List Value) (o n c : Nat) (dim : Int) (Q : Nat × List Int → Prop) (r : List Int)  {E : Env} {rv : Value} {rhs : List Nat} {rhv : List Blk} (hE : EnvOK E Try.prog Try.f42 2 1 rv rhs rhv) (hL : (fRt cs o n c dim Q).OK 1) (hob : all ([SameK (atLp (lp Try.f42 0)) (atLp (lp Try.f42 0)), Enter (fRt cs o n c dim Q) 0 none [Value.slice (some (Addr.mk 0 o none)) n c, Value.int IntKind.i64 dim, Value.slice (some (Addr.mk 45 0 none)) ((n : Int)).toNat ((n : Int)).toNat, Value.slice (some (Addr.mk 0 o none)) n c, Value.int IntKind.i64 ((n : Int)), Value.int IntKind.i64 ((0 : Int))] [Blk.ro cs, Blk.cells (eInt.row r) 3] [(0, 0), (10, 45), (0, 0)], MkOK ((n : Int)) ((n : Int)) 8 [Value.int IntKind.i64 ((0 : Int))] (eInt.row r), Value.bool (decide ((↑n : Int) > 31)) = Value.bool false, Value.bool (decide ((↑n : Int) < 1)) = Value.bool false])) (hK : ∀ zz, (fRt cs o n c dim Q).inv 0 zz → ltO ((fRt cs o n c dim Q).mu 0 zz) none → Sat E (atLp (lp Try.f42 0)) ((fRt cs o n c dim Q).st 0 zz)) : Sat E [.code (bodyOf Try.f42)] (st0 Try.f42 [.slice (some ⟨0, o, none⟩) n c, .int .i64 dim] (roRows [cs]) 1) :=
  by_to (T := auto0 t_runpack) (h := hints [(1, 2, ht false), (1, 6, ht false), (3, 2, {c := some (eInt.row r)})]) (ws := [.go, .stop]) (i0 := (0, r)) hE hm (auto0_ok t_runpack_ok) hL (by kernel_rfl) hob hK
theorem rtN (cs : List Value) (o n c : Nat) (dim : Int) (Q : Nat × List Int → Prop) (i : Nat) (r : List Int) (w : Int) (J : Act → World → Prop) {E : Env} (hE : EnvOK E Try.prog Try.f42 2 1 (.bool false) [] []) (hob : all ([Back (Value.bool false) (Value.bool false) [] [] [], Value.tuple (Array.mk [Value.agg (Array.mk [Value.bool (okB w && lfB w), Value.int IntKind.i64 (sV w), Value.int IntKind.i64 (sF w), Value.int IntKind.i64 (sA w), Value.int IntKind.i64 (sX w), Value.int IntKind.i64 (sY w)]), Value.bool (okB w)]) = Value.tuple (Array.mk [Value.agg (Array.mk [Value.bool false, Value.int IntKind.i64 ((0 : Int)), Value.int IntKind.i64 ((0 : Int)), Value.int IntKind.i64 ((0 : Int)), Value.int IntKind.i64 ((0 : Int)), Value.int IntKind.i64 ((0 : Int))]), Value.bool false]), U64 w, readPart Try.prog 83 cs (o + ((i : Int)).toNat * 1) = some (Value.int IntKind.u64 w), (0 : Int) ≤ (i : Int) ∧ (i : Int) < (n : Int), decide ((↑i : Int) < (↑n : Int)) = true])) : Sat E (inLp (lp Try.f42 0) J) ((fRt cs o n c dim Q).st 0 (i, r)) :=
  by_ret (T := auto0 t_runpack) (h := hints [(6, 1, {p := true}), (6, 2, {o := some (.int .u64 w)}), (7, 1, {v := some (.tuple ⟨[nd false 0 0 0 0 0, .bool false]⟩)})]) (ws := [.b true]) (nx' := 1) hE hm (auto0_ok t_runpack_ok) (by omega) (by simp) (by simp) (by kernel_rfl) hob
theorem rtF (cs : List Value) (o n c : Nat) (dim : Int) (Q : Nat × List Int → Prop) (i : Nat) (r : List Int) (w v : Int) (J : Act → World → Prop) {E : Env} {rv : Value} {rhs : List Nat} {rhv : List Blk} (hE : EnvOK E Try.prog Try.f42 2 1 rv rhs rhv) (hL : (fRt cs o n c dim Q).OK 1) (hob : all ([SameK (mkLp (lp Try.f42 0) J) (mkLp (lp Try.f42 0) J), Enter (fRt cs o n c dim Q) 0 (some (n - i)) [Value.slice (some (Addr.mk 0 o none)) n c, Value.int IntKind.i64 dim, Value.slice (some (Addr.mk 10 0 none)) n n, Value.slice (some (Addr.mk 0 o none)) n c, Value.int IntKind.i64 ((n : Int)), Value.int IntKind.i64 (Int.ofNat i.succ)] [Blk.ro cs, Blk.cells (eInt.row r) 3] [(0, 0), (10, 10), (0, 0)], Value.int IntKind.i64 (IntKind.i64.wrap (Int.ofNat i.succ)) = Value.int IntKind.i64 (Int.ofNat i.succ), Value.tuple (Array.mk [Value.agg (Array.mk [Value.bool (okB w && lfB w), Value.int IntKind.i64 (sV w), Value.int IntKind.i64 (sF w), Value.int IntKind.i64 (sA w), Value.int IntKind.i64 (sX w), Value.int IntKind.i64 (sY w)]), Value.bool (okB w)]) = Value.tuple (Array.mk [Value.agg (Array.mk [Value.bool true, Value.int IntKind.i64 v, Value.int IntKind.i64 ((0 : Int)), Value.int IntKind.i64 ((0 : Int)), Value.int IntKind.i64 ((0 : Int)), Value.int IntKind.i64 ((0 : Int))]), Value.bool true]), U64 w, readPart Try.prog 83 cs (o + ((i : Int)).toNat * 1) = some (Value.int IntKind.u64 w), (0 : Int) ≤ (i : Int) ∧ (i : Int) < (n : Int), decide ((↑i : Int) < (↑n : Int)) = true])) (hK : ∀ zz, (fRt cs o n c dim Q).inv 0 zz → ltO ((fRt cs o n c dim Q).mu 0 zz) (some (n - i)) → Sat E (mkLp (lp Try.f42 0) J) ((fRt cs o n c dim Q).st 0 zz)) : Sat E (inLp (lp Try.f42 0) J) ((fRt cs o n c dim Q).st 0 (i, r)) :=
  by_to (T := auto0 t_runpack) (h := hints [(6, 1, {p := true}), (6, 2, {o := some (.int .u64 w)}), (7, 1, {v := some (.tuple ⟨[nd true v 0 0 0 0, .bool true]⟩)}), (15, 0, {v := some (.int .i64 ((i + 1 : Nat) : Int))})]) (ws := [.b true]) (i0 := (i + 1, r)) hE hm (auto0_ok t_runpack_ok) hL (by kernel_rfl) hob hK
theorem rtD (cs : List Value) (o n c : Nat) (dim : Int) (Q : Nat × List Int → Prop) (i : Nat) (r : List Int) (w f a x y : Int) (J : Act → World → Prop) {E : Env} (hE : EnvOK E Try.prog Try.f42 2 1 (.bool false) [] []) (hob : all ([Back (Value.bool false) (Value.bool false) [] [] [], Value.bool (decide (f ≥ dim)) = Value.bool true, Value.tuple (Array.mk [Value.agg (Array.mk [Value.bool (okB w && lfB w), Value.int IntKind.i64 (sV w), Value.int IntKind.i64 (sF w), Value.int IntKind.i64 (sA w), Value.int IntKind.i64 (sX w), Value.int IntKind.i64 (sY w)]), Value.bool (okB w)]) = Value.tuple (Array.mk [Value.agg (Array.mk [Value.bool false, Value.int IntKind.i64 ((0 : Int)), Value.int IntKind.i64 f, Value.int IntKind.i64 a, Value.int IntKind.i64 x, Value.int IntKind.i64 y]), Value.bool true]), U64 w, readPart Try.prog 83 cs (o + ((i : Int)).toNat * 1) = some (Value.int IntKind.u64 w), (0 : Int) ≤ (i : Int) ∧ (i : Int) < (n : Int), decide ((↑i : Int) < (↑n : Int)) = true])) : Sat E (inLp (lp Try.f42 0) J) ((fRt cs o n c dim Q).st 0 (i, r)) :=
  by_ret (T := auto0 t_runpack) (h := hints [(6, 1, {p := true}), (6, 2, {o := some (.int .u64 w)}), (7, 1, {v := some (.tuple ⟨[nd false 0 f a x y, .bool true]⟩)}), (11, 3, ht true)]) (ws := [.b true]) (nx' := 1) hE hm (auto0_ok t_runpack_ok) (by omega) (by simp) (by simp) (by kernel_rfl) hob
theorem rtE (cs : List Value) (o n c : Nat) (dim : Int) (Q : Nat × List Int → Prop) (i : Nat) (r : List Int) (w f a x y : Int) (J : Act → World → Prop) {E : Env} (hE : EnvOK E Try.prog Try.f42 2 1 (.bool false) [] []) (hob : all ([Back (Value.bool false) (Value.bool false) [] [] [], Value.bool (x == y) = Value.bool true, Value.bool (decide (f ≥ dim)) = Value.bool false, Value.tuple (Array.mk [Value.agg (Array.mk [Value.bool (okB w && lfB w), Value.int IntKind.i64 (sV w), Value.int IntKind.i64 (sF w), Value.int IntKind.i64 (sA w), Value.int IntKind.i64 (sX w), Value.int IntKind.i64 (sY w)]), Value.bool (okB w)]) = Value.tuple (Array.mk [Value.agg (Array.mk [Value.bool false, Value.int IntKind.i64 ((0 : Int)), Value.int IntKind.i64 f, Value.int IntKind.i64 a, Value.int IntKind.i64 x, Value.int IntKind.i64 y]), Value.bool true]), U64 w, readPart Try.prog 83 cs (o + ((i : Int)).toNat * 1) = some (Value.int IntKind.u64 w), (0 : Int) ≤ (i : Int) ∧ (i : Int) < (n : Int), decide ((↑i : Int) < (↑n : Int)) = true])) : Sat E (inLp (lp Try.f42 0) J) ((fRt cs o n c dim Q).st 0 (i, r)) :=
  by_ret (T := auto0 t_runpack) (h := hints [(6, 1, {p := true}), (6, 2, {o := some (.int .u64 w)}), (7, 1, {v := some (.tuple ⟨[nd false 0 f a x y, .bool true]⟩)}), (11, 3, ht false), (11, 9, ht true)]) (ws := [.b true]) (nx' := 1) hE hm (auto0_ok t_runpack_ok) (by omega) (by simp) (by simp) (by kernel_rfl) hob
theorem rtM (cs : List Value) (o n c : Nat) (dim : Int) (Q : Nat × List Int → Prop) (i : Nat) (r : List Int) (w f a x y : Int) (J : Act → World → Prop) {E : Env} (hE : EnvOK E Try.prog Try.f42 2 1 (.bool false) [] []) (hob : all ([Back (Value.bool false) (Value.bool false) [] [] [], Value.bool (decide (minI x y ≤ (↑i : Int))) = Value.bool true, Value.bool (x == y) = Value.bool false, Value.bool (decide (f ≥ dim)) = Value.bool false, Value.tuple (Array.mk [Value.agg (Array.mk [Value.bool (okB w && lfB w), Value.int IntKind.i64 (sV w), Value.int IntKind.i64 (sF w), Value.int IntKind.i64 (sA w), Value.int IntKind.i64 (sX w), Value.int IntKind.i64 (sY w)]), Value.bool (okB w)]) = Value.tuple (Array.mk [Value.agg (Array.mk [Value.bool false, Value.int IntKind.i64 ((0 : Int)), Value.int IntKind.i64 f, Value.int IntKind.i64 a, Value.int IntKind.i64 x, Value.int IntKind.i64 y]), Value.bool true]), U64 w, readPart Try.prog 83 cs (o + ((i : Int)).toNat * 1) = some (Value.int IntKind.u64 w), (0 : Int) ≤ (i : Int) ∧ (i : Int) < (n : Int), decide ((↑i : Int) < (↑n : Int)) = true])) : Sat E (inLp (lp Try.f42 0) J) ((fRt cs o n c dim Q).st 0 (i, r)) :=
  by_ret (T := auto0 t_runpack) (h := hints [(6, 1, {p := true}), (6, 2, {o := some (.int .u64 w)}), (7, 1, {v := some (.tuple ⟨[nd false 0 f a x y, .bool true]⟩)}), (11, 3, ht false), (11, 9, ht false), (11, 18, ht true)]) (ws := [.b true]) (nx' := 1) hE hm (auto0_ok t_runpack_ok) (by omega) (by simp) (by simp) (by kernel_rfl) hob
theorem rtX (cs : List Value) (o n c : Nat) (dim : Int) (Q : Nat × List Int → Prop) (i : Nat) (r : List Int) (w f a x y : Int) (J : Act → World → Prop) {E : Env} (hE : EnvOK E Try.prog Try.f42 2 1 (.bool false) [] []) (hob : all ([Back (Value.bool false) (Value.bool false) [] [] [], Value.bool (decide (maxI x y ≥ (↑n : Int))) = Value.bool true, Value.bool (decide (minI x y ≤ (↑i : Int))) = Value.bool false, Value.bool (x == y) = Value.bool false, Value.bool (decide (f ≥ dim)) = Value.bool false, Value.tuple (Array.mk [Value.agg (Array.mk [Value.bool (okB w && lfB w), Value.int IntKind.i64 (sV w), Value.int IntKind.i64 (sF w), Value.int IntKind.i64 (sA w), Value.int IntKind.i64 (sX w), Value.int IntKind.i64 (sY w)]), Value.bool (okB w)]) = Value.tuple (Array.mk [Value.agg (Array.mk [Value.bool false, Value.int IntKind.i64 ((0 : Int)), Value.int IntKind.i64 f, Value.int IntKind.i64 a, Value.int IntKind.i64 x, Value.int IntKind.i64 y]), Value.bool true]), U64 w, readPart Try.prog 83 cs (o + ((i : Int)).toNat * 1) = some (Value.int IntKind.u64 w), (0 : Int) ≤ (i : Int) ∧ (i : Int) < (n : Int), decide ((↑i : Int) < (↑n : Int)) = true])) : Sat E (inLp (lp Try.f42 0) J) ((fRt cs o n c dim Q).st 0 (i, r)) :=
  by_ret (T := auto0 t_runpack) (h := hints [(6, 1, {p := true}), (6, 2, {o := some (.int .u64 w)}), (7, 1, {v := some (.tuple ⟨[nd false 0 f a x y, .bool true]⟩)}), (11, 3, ht false), (11, 9, ht false), (11, 18, ht false), (11, 28, ht true)]) (ws := [.b true]) (nx' := 1) hE hm (auto0_ok t_runpack_ok) (by omega) (by simp) (by simp) (by kernel_rfl) hob
theorem rtG (cs : List Value) (o n c : Nat) (dim : Int) (Q : Nat × List Int → Prop) (i : Nat) (r r1 r2 : List Int) (w f a x y g1 g2 h1 h2 : Int) (J : Act → World → Prop) {E : Env} {rv : Value} {rhs : List Nat} {rhv : List Blk} (hE : EnvOK E Try.prog Try.f42 2 1 rv rhs rhv) (hL : (fRt cs o n c dim Q).OK 1) (hob : all ([SameK (mkLp (lp Try.f42 0) J) (mkLp (lp Try.f42 0) J), Enter (fRt cs o n c dim Q) 0 (some (n - i)) [Value.slice (some (Addr.mk 0 o none)) n c, Value.int IntKind.i64 dim, Value.slice (some (Addr.mk 10 0 none)) n n, Value.slice (some (Addr.mk 0 o none)) n c, Value.int IntKind.i64 ((n : Int)), Value.int IntKind.i64 (Int.ofNat i.succ)] [Blk.ro cs, Blk.cells (eInt.row r2) 3] [(0, 0), (10, 10), (0, 0)], Value.int IntKind.i64 (IntKind.i64.wrap (Int.ofNat i.succ)) = Value.int IntKind.i64 (Int.ofNat i.succ), lset (eInt.row r1) (0 + y.toNat * 1) [Value.int IntKind.i64 h2] = some (eInt.row r2), (0 : Int) ≤ y ∧ y < (n : Int), Value.int IntKind.i64 (IntKind.i64.wrap (g2 + (1 : Int))) = Value.int IntKind.i64 h2, readPart Try.prog 3 (eInt.row r1) (0 + y.toNat * 1) = some (Value.int IntKind.i64 g2), (0 : Int) ≤ y ∧ y < (n : Int), lset (eInt.row r) (0 + x.toNat * 1) [Value.int IntKind.i64 h1] = some (eInt.row r1), (0 : Int) ≤ x ∧ x < (n : Int), Value.int IntKind.i64 (IntKind.i64.wrap (g1 + (1 : Int))) = Value.int IntKind.i64 h1, readPart Try.prog 3 (eInt.row r) (0 + x.toNat * 1) = some (Value.int IntKind.i64 g1), (0 : Int) ≤ x ∧ x < (n : Int), Value.bool (decide (maxI x y ≥ (↑n : Int))) = Value.bool false, Value.bool (decide (minI x y ≤ (↑i : Int))) = Value.bool false, Value.bool (x == y) = Value.bool false, Value.bool (decide (f ≥ dim)) = Value.bool false, Value.tuple (Array.mk [Value.agg (Array.mk [Value.bool (okB w && lfB w), Value.int IntKind.i64 (sV w), Value.int IntKind.i64 (sF w), Value.int IntKind.i64 (sA w), Value.int IntKind.i64 (sX w), Value.int IntKind.i64 (sY w)]), Value.bool (okB w)]) = Value.tuple (Array.mk [Value.agg (Array.mk [Value.bool false, Value.int IntKind.i64 ((0 : Int)), Value.int IntKind.i64 f, Value.int IntKind.i64 a, Value.int IntKind.i64 x, Value.int IntKind.i64 y]), Value.bool true]), U64 w, readPart Try.prog 83 cs (o + ((i : Int)).toNat * 1) = some (Value.int IntKind.u64 w), (0 : Int) ≤ (i : Int) ∧ (i : Int) < (n : Int), decide ((↑i : Int) < (↑n : Int)) = true])) (hK : ∀ zz, (fRt cs o n c dim Q).inv 0 zz → ltO ((fRt cs o n c dim Q).mu 0 zz) (some (n - i)) → Sat E (mkLp (lp Try.f42 0) J) ((fRt cs o n c dim Q).st 0 zz)) : Sat E (inLp (lp Try.f42 0) J) ((fRt cs o n c dim Q).st 0 (i, r)) :=
  by_to (T := auto0 t_runpack) (h := hints [(6, 1, {p := true}), (6, 2, {o := some (.int .u64 w)}), (7, 1, {v := some (.tuple ⟨[nd false 0 f a x y, .bool true]⟩)}), (11, 3, ht false), (11, 9, ht false), (11, 18, ht false), (11, 28, ht false), (13, 3, {p := true}), (13, 4, {o := some (.int .i64 g1)}), (13, 5, {v := some (.int .i64 h1)}), (13, 6, {p := true}), (13, 7, {c := some (eInt.row r1)}), (14, 3, {p := true}), (14, 4, {o := some (.int .i64 g2)}), (14, 5, {v := some (.int .i64 h2)}), (14, 6, {p := true}), (14, 7, {c := some (eInt.row r2)}), (15, 0, {v := some (.int .i64 ((i + 1 : Nat) : Int))})]) (ws := [.b true]) (i0 := (i + 1, r2)) hE hm (auto0_ok t_runpack_ok) hL (by kernel_rfl) hob hK
theorem rtZ (cs : List Value) (o n c m q : Nat) (dim : Int) (Q : Nat × List Int → Prop) (Q2 : Nat → Prop) (i : Nat) (r : List Int) (J : Act → World → Prop) {E : Env} {rv : Value} {rhs : List Nat} {rhv : List Blk} (hE : EnvOK E Try.prog Try.f42 2 1 rv rhs rhv) (hL : (fRn m q r Q2).OK 1) (hob : all ([SameK (atLp (lp Try.f42 1)) (atLp (lp Try.f42 1)), Enter (fRn m q r Q2) 0 none [Value.slice (some (Addr.mk 10 q none)) m m, Value.int IntKind.i64 ((m : Int)), Value.int IntKind.i64 ((0 : Int))] [Blk.cells (eInt.row r) 3] [(10, 10)], SlOK 1 10 0 n n (some ((1 : Int))) none (some (Blk.cells (eInt.row r) 3)) (Value.slice (some (Addr.mk 10 q none)) m m), decide ((↑i : Int) < (↑n : Int)) = false])) (hK : ∀ zz, (fRn m q r Q2).inv 0 zz → ltO ((fRn m q r Q2).mu 0 zz) none → Sat E (atLp (lp Try.f42 1)) ((fRn m q r Q2).st 0 zz)) : Sat E (inLp (lp Try.f42 0) J) ((fRt cs o n c dim Q).st 0 (i, r)) :=
  by_to (T := auto0 t_runpack) (h := hints [(16, 1, {o := some (.slice (some ⟨10, q, none⟩) m m)})]) (ws := [.b false, .stop]) (i0 := 0) hE hm (auto0_ok t_runpack_ok) hL (by kernel_rfl) hob hK
theorem rnY (m q : Nat) (r : List Int) (Q : Nat → Prop) (i : Nat) (g : Int) (J : Act → World → Prop) {E : Env} {rv : Value} {rhs : List Nat} {rhv : List Blk} (hE : EnvOK E Try.prog Try.f42 2 1 rv rhs rhv) (hL : (fRn m q r Q).OK 1) (hob : all ([SameK (mkLp (lp Try.f42 1) J) (mkLp (lp Try.f42 1) J), Enter (fRn m q r Q) 0 (some (m - i)) [Value.slice (some (Addr.mk 10 q none)) m m, Value.int IntKind.i64 ((m : Int)), Value.int IntKind.i64 (Int.ofNat i.succ)] [Blk.cells (eInt.row r) 3] [(10, 10)], Value.int IntKind.i64 (IntKind.i64.wrap (Int.ofNat i.succ)) = Value.int IntKind.i64 (Int.ofNat i.succ), (g != (1 : Int)) = false, readPart Try.prog 3 (eInt.row r) (q + ((i : Int)).toNat * 1) = some (Value.int IntKind.i64 g), (0 : Int) ≤ (i : Int) ∧ (i : Int) < (m : Int), decide ((↑i : Int) < (↑m : Int)) = true])) (hK : ∀ zz, (fRn m q r Q).inv 0 zz → ltO ((fRn m q r Q).mu 0 zz) (some (m - i)) → Sat E (mkLp (lp Try.f42 1) J) ((fRn m q r Q).st 0 zz)) : Sat E (inLp (lp Try.f42 1) J) ((fRn m q r Q).st 0 i) :=
  by_to (T := auto0 t_runpack) (h := hints [(18, 0, {p := true}), (18, 1, {o := some (.int .i64 g)}), (21, 0, {v := some (.int .i64 ((i + 1 : Nat) : Int))})]) (ws := [.b true, .b false]) (i0 := (i + 1)) hE hm (auto0_ok t_runpack_ok) hL (by kernel_rfl) hob hK
theorem rnN (m q : Nat) (r : List Int) (Q : Nat → Prop) (i : Nat) (g : Int) (J : Act → World → Prop) {E : Env} (hE : EnvOK E Try.prog Try.f42 2 1 (.bool false) [] []) (hob : all ([Back (Value.bool false) (Value.bool false) [] [] [], (g != (1 : Int)) = true, readPart Try.prog 3 (eInt.row r) (q + ((i : Int)).toNat * 1) = some (Value.int IntKind.i64 g), (0 : Int) ≤ (i : Int) ∧ (i : Int) < (m : Int), decide ((↑i : Int) < (↑m : Int)) = true])) : Sat E (inLp (lp Try.f42 1) J) ((fRn m q r Q).st 0 i) :=
  by_ret (T := auto0 t_runpack) (h := hints [(18, 0, {p := true}), (18, 1, {o := some (.int .i64 g)})]) (ws := [.b true, .b true]) (nx' := 1) hE hm (auto0_ok t_runpack_ok) (by omega) (by simp) (by simp) (by kernel_rfl) hob
theorem rnE (m q : Nat) (r : List Int) (Q : Nat → Prop) (i : Nat) (J : Act → World → Prop) {E : Env} (hE : EnvOK E Try.prog Try.f42 2 1 (.bool true) [] []) (hob : all ([Back (Value.bool true) (Value.bool true) [] [] [], decide ((↑i : Int) < (↑m : Int)) = false])) : Sat E (inLp (lp Try.f42 1) J) ((fRn m q r Q).st 0 i) :=
  by_ret (T := auto0 t_runpack) (h := hints []) (ws := [.b false]) (nx' := 1) hE hm (auto0_ok t_runpack_ok) (by omega) (by simp) (by simp) (by kernel_rfl) hob
end Go.Proofs.Ythbaccmhdffjdaa.Tr

