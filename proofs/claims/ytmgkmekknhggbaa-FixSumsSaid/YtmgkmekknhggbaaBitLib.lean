/-
  Plain laws on Go's shifts and bit operations as the print tells them ('shl', 'shr', 'Go.bits'): no program, no memory. Conditions: each law names the bounds that it asks.
-/
import Derived.RowKit
import Derived.RowKit3
import Derived.Laws.BitsAllLaws
import Derived.Laws.BitsLemmas
import Derived.Laws.Bits64
set_option linter.unusedVariables false
set_option linter.unusedSimpArgs false
namespace Go.Proofs.Ytmgkmekknhggbaa.BitLib
open Go Go.RowKit

theorem wrap64_id {n : Int} (h0 : -9223372036854775808 ≤ n) (h1 : n ≤ 9223372036854775807) : wrap64 n = n := by unfold wrap64; omega
theorem wrap64_eq (n : Int) : wrap64 n = IntKind.i64.wrap n := by rw [IntKind.wrap_i64]; unfold wrap64; rfl
theorem wf_i64 {n : Int} (h : (Lit.int .i64 n).wf = true) : -9223372036854775808 ≤ n ∧ n ≤ 9223372036854775807 := by
  simpa [Lit.wf, IntKind.min, IntKind.max, IntKind.signed, IntKind.bits] using h
theorem wf_u64 {n : Int} (h : (Lit.int .u64 n).wf = true) : 0 ≤ n ∧ n ≤ 18446744073709551615 := by
  simpa [Lit.wf, IntKind.min, IntKind.max, IntKind.signed, IntKind.bits] using h
theorem wrapu_id {n : Int} (h0 : 0 ≤ n) (h1 : n ≤ 18446744073709551615) : IntKind.u64.wrap n = n := by rw [IntKind.wrap_u64]; omega
theorem wrap64_range (n : Int) : -9223372036854775808 ≤ wrap64 n ∧ wrap64 n ≤ 9223372036854775807 := by unfold wrap64; omega

/-! ### 64 bits with a sign -/
theorem toInt_of (x : Int) (h0 : -9223372036854775808 ≤ x) (h1 : x ≤ 9223372036854775807) : (BitVec.ofInt 64 x).toInt = x := by
  rw [BitVec.toInt_ofInt, Int.bmod_eq_of_le] <;> omega
theorem i64_toNat (b : BitVec 64) : IntKind.i64.wrap (b.toNat : Int) = b.toInt := by
  have := b.isLt
  rw [IntKind.wrap_i64, BitVec.toInt_eq_toNat_cond]
  split <;> omega
theorem toNat_of (x : Int) : ((BitVec.ofInt 64 x).toNat : Int) = x % 18446744073709551616 := by
  rw [BitVec.toNat_ofInt]
  exact Int.toNat_of_nonneg (Int.emod_nonneg _ (by decide))
theorem neg_iff (x : Int) (h0 : -9223372036854775808 ≤ x) (h1 : x ≤ 9223372036854775807) : (BitVec.ofInt 64 x).msb = decide (x < 0) := by
  rw [BitVec.msb_eq_toInt, toInt_of x h0 h1]
theorem bits_and_i (x y : Int) : Go.bits .and .i64 x y = (BitVec.ofInt 64 x &&& BitVec.ofInt 64 y).toInt := i64_toNat _
theorem bits_or_i (x y : Int) : Go.bits .or .i64 x y = (BitVec.ofInt 64 x ||| BitVec.ofInt 64 y).toInt := i64_toNat _
theorem bits_xor_i (x y : Int) : Go.bits .xor .i64 x y = (BitVec.ofInt 64 x ^^^ BitVec.ofInt 64 y).toInt := i64_toNat _
theorem toInt_range (b : BitVec 64) : -9223372036854775808 ≤ b.toInt ∧ b.toInt ≤ 9223372036854775807 := by
  have := b.isLt
  rw [BitVec.toInt_eq_toNat_cond]
  split <;> omega
theorem and_neg {x y : Int} (hx0 : -9223372036854775808 ≤ x) (hx1 : x ≤ 9223372036854775807) (hy0 : -9223372036854775808 ≤ y) (hy1 : y ≤ 9223372036854775807) :
    Go.bits .and .i64 x y < 0 ↔ (x < 0 ∧ y < 0) := by
  rw [bits_and_i]
  have h := BitVec.msb_eq_toInt (x := BitVec.ofInt 64 x &&& BitVec.ofInt 64 y)
  rw [BitVec.msb_and, neg_iff x hx0 hx1, neg_iff y hy0 hy1] at h
  have h2 : decide ((BitVec.ofInt 64 x &&& BitVec.ofInt 64 y).toInt < 0) = true ↔ (decide (x < 0) && decide (y < 0)) = true := by rw [h]
  simpa using h2
theorem xor_neg {x y : Int} (hx0 : -9223372036854775808 ≤ x) (hx1 : x ≤ 9223372036854775807) (hy0 : -9223372036854775808 ≤ y) (hy1 : y ≤ 9223372036854775807) :
    Go.bits .xor .i64 x y < 0 ↔ ¬ (x < 0 ↔ y < 0) := by
  rw [bits_xor_i]
  have h := BitVec.msb_eq_toInt (x := BitVec.ofInt 64 x ^^^ BitVec.ofInt 64 y)
  rw [BitVec.msb_xor, neg_iff x hx0 hx1, neg_iff y hy0 hy1] at h
  have h2 : decide ((BitVec.ofInt 64 x ^^^ BitVec.ofInt 64 y).toInt < 0) = true ↔ (decide (x < 0) ^^ decide (y < 0)) = true := by rw [h]
  by_cases a : x < 0 <;> by_cases b : y < 0 <;> simpa [a, b] using h2
theorem xor_range (x y : Int) : -9223372036854775808 ≤ Go.bits .xor .i64 x y ∧ Go.bits .xor .i64 x y ≤ 9223372036854775807 := by
  rw [bits_xor_i]; exact toInt_range _
theorem pow_le {a b : Nat} (h : a ≤ b) : (2 : Int) ^ a ≤ 2 ^ b := by
  have := Nat.pow_le_pow_right (show 0 < 2 by decide) h
  exact_mod_cast this
/-- The lowest bits of a number with a sign. -/
theorem i64_low (x : Int) (w : Nat) (hw : w ≤ 63) : Go.bits .and .i64 x (2 ^ w - 1) = x % 2 ^ w := by
  have hp : (0 : Int) < 2 ^ w := Int.pow_pos (by decide)
  have hle : (2 : Int) ^ w ≤ 2 ^ 63 := pow_le hw
  have hd : (2 : Int) ^ w ∣ 18446744073709551616 := by
    have : (2 : Int) ^ 64 = 2 ^ w * 2 ^ (64 - w) := by rw [← Int.pow_add]; congr 1; omega
    exact ⟨2 ^ (64 - w), by rw [← this]; rfl⟩
  have h63 : (2 : Int) ^ 63 = 9223372036854775808 := rfl
  unfold Go.bits
  simp only
  have e1 : (BitVec.ofInt IntKind.i64.bits (2 ^ w - 1 : Int)).toNat = 2 ^ w - 1 := by
    have h := toNat_of (2 ^ w - 1)
    have e : (2 ^ w - 1 : Int) % 18446744073709551616 = 2 ^ w - 1 := Int.emod_eq_of_lt (by omega) (by omega)
    rw [e] at h
    have h' : ((BitVec.ofInt IntKind.i64.bits (2 ^ w - 1 : Int)).toNat : Int) = (2 : Int) ^ w - 1 := h
    have hn : (1 : Nat) ≤ 2 ^ w := Nat.one_le_two_pow
    have hc : ((2 ^ w - 1 : Nat) : Int) = (2 : Int) ^ w - 1 := by rw [Int.natCast_sub hn]; simp
    exact Int.ofNat.inj (h'.trans hc.symm)
  rw [BitVec.toNat_and, e1, Nat.and_two_pow_sub_one_eq_mod]
  have h2 : (((BitVec.ofInt IntKind.i64.bits x).toNat % 2 ^ w : Nat) : Int) = x % 2 ^ w := by
    rw [Int.natCast_emod]
    have := toNat_of x
    have h' : ((BitVec.ofInt IntKind.i64.bits x).toNat : Int) = x % 18446744073709551616 := this
    rw [h']
    simp only [Int.natCast_pow, Int.cast_ofNat_Int]
    exact Int.emod_emod_of_dvd _ hd
  rw [h2]
  have a0 := Int.emod_nonneg x (show (2 : Int) ^ w ≠ 0 by omega)
  have a1 := Int.emod_lt_of_pos x hp
  rw [IntKind.wrap_i64]
  omega
theorem i64_low32 (x : Int) : Go.bits .and .i64 x 4294967295 = x % 4294967296 := i64_low x 32 (by decide)
theorem i64_low1 (x : Int) : Go.bits .and .i64 x 1 = x % 2 := i64_low x 1 (by decide)
/-- An upper half and a lower one, put together. -/
theorem or_halves (h l : Int) (h0 : -2147483648 ≤ h) (h1 : h < 2147483648) (l0 : 0 ≤ l) (l1 : l < 4294967296) :
    Go.bits .or .i64 (h * 4294967296) l = h * 4294967296 + l := by
  unfold Go.bits
  simp only
  rw [BitVec.toNat_or]
  have eh : ((BitVec.ofInt IntKind.i64.bits (h * 4294967296)).toNat : Int) = (h * 4294967296) % 18446744073709551616 := toNat_of _
  have el : ((BitVec.ofInt IntKind.i64.bits l).toNat : Int) = l % 18446744073709551616 := toNat_of _
  generalize (BitVec.ofInt IntKind.i64.bits (h * 4294967296)).toNat = a at *
  generalize (BitVec.ofInt IntKind.i64.bits l).toNat = b at *
  have hb : b < 2 ^ 32 := by have : (2 : Nat) ^ 32 = 4294967296 := rfl; omega
  have ha : a % 2 ^ 32 = 0 := by have : (2 : Nat) ^ 32 = 4294967296 := rfl; rw [this]; omega
  rw [nat_join 32 a b ha hb, IntKind.wrap_i64]
  push_cast
  omega
end Go.Proofs.Ytmgkmekknhggbaa.BitLib

