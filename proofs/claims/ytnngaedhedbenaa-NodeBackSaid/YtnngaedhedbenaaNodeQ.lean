/-
  The document's Pack, by the evaluator.
-/
import Derived.Test.YtnngaedhedbenaaNodeP
set_option linter.unusedVariables false
set_option linter.unusedSimpArgs false
set_option maxRecDepth 100000
namespace Go.Proofs.Ytnngaedhedbenaa.NodeE
open Go Go.RowKit Go.Proofs.Ytnngaedhedbenaa.Ev Go.Proofs.Ytnngaedhedbenaa.BitLib Go.Proofs.Ytnngaedhedbenaa.BitsA Go.Proofs.Ytnngaedhedbenaa.NodeB
theorem and_low (x : Int) (k : Nat) (m n : Int) (h0 : 0 ≤ x) (h1 : x ≤ 18446744073709551615) (hk : k ≤ 64) (hm : ((2 ^ k - 1 : Nat) : Int) = m) (hn : ((2 ^ k : Nat) : Int) = n) : Go.bits .and .u64 x m = x % n := by
  obtain ⟨x, rfl⟩ := Int.eq_ofNat_of_zero_le h0
  rw [← hm, ← hn, and_low_u64 x k (by omega) hk]
  simp
theorem or_add (x y : Int) (k : Nat) (n : Int) (hn : ((2 ^ k : Nat) : Int) = n) (h0 : 0 ≤ x) (h1 : x < n) (h2 : 0 ≤ y) (h3 : y * n ≤ 18446744073709551615) (h4 : x ≤ 18446744073709551615) : Go.bits .or .u64 x (y * n) = x + y * n := by
  obtain ⟨x, rfl⟩ := Int.eq_ofNat_of_zero_le h0
  obtain ⟨y, rfl⟩ := Int.eq_ofNat_of_zero_le h2
  rw [← hn] at h1 h3 ⊢
  have e : (y : Int) * ((2 ^ k : Nat) : Int) = ((2 ^ k * y : Nat) : Int) := by rw [Int.natCast_mul, Int.mul_comm]
  rw [e] at h3 ⊢
  rw [u64_or_nat _ _ (by omega) (by omega), Nat.or_comm, ← Nat.two_pow_add_eq_or_of_lt (by omega)]
  omega
theorem or_top (x : Int) (h0 : 0 ≤ x) (h1 : x < 4294967296) : Go.bits .or .u64 9223372036854775808 x = 9223372036854775808 + x := by
  obtain ⟨x, rfl⟩ := Int.eq_ofNat_of_zero_le h0
  have e : (9223372036854775808 : Int) = ((2 ^ 32 * 2147483648 : Nat) : Int) := rfl
  rw [e, u64_or_nat _ _ (by decide) (by omega), ← Nat.two_pow_add_eq_or_of_lt (by omega)]
  omega
def rpack_F : List Value → Option (Value × List Prop)
  | [.agg ⟨[.bool l, .int .i64 v, .int .i64 f, .int .i64 a, .int .i64 x, .int .i64 y]⟩] => some (.int .u64 (packS l v f a x y), [I64 v, I64 a])
  | _ => none
theorem rpack_sum : SumOK Try.prog 18 (sumOf rpack_F) := by
  refine sumOf_ok (en Try.func18 rfl) fun args v ob h hob => ?_
  unfold rpack_F at h
  split at h
  · rename_i l v f a x y
    obtain ⟨rfl, rfl⟩ := Prod.mk.inj (Option.some.inj h)
    clear h
    have hv := hob (I64 v) (by simp)
    have ha := hob (I64 a) (by simp)
    cases hr : rightB l v f a x y
    · rw [show packS l v f a x y = 0 from by simp only [packS, hr, cond_false]]
      exact calls_runO hm (auto0_ok t_pack_ok) (hints [(1, 1, ht false)]) [] [bb (rightB l v f a x y) false, I64 v, I64 a] (by kernel_rfl) ⟨bb_of hr, hv, ha, trivial⟩
    cases l
    · rw [show packS false v f a x y = w4 a f x y from by simp only [packS, packI, hr, cond_true, cond_false]]
      obtain ⟨rfl, f0, f1, a0, ⟨x0, x1⟩, y0, y1⟩ := right_inner hr
      have c1 : IntKind.u64.wrap a = a % 18446744073709551616 := by rw [IntKind.wrap_u64]
      have q1 : Go.bits .and .u64 (a % 18446744073709551616) 4294967295 = w1 a := by rw [and_low (a % 18446744073709551616) 32 4294967295 4294967296 (by omega) (by omega) (by decide) rfl rfl]; show _ = a % 4294967296; omega
      have q2 : Go.bits .or .u64 (w1 a) (f * 4294967296) = w2 a f := or_add (w1 a) f 32 4294967296 rfl (show 0 ≤ a % 4294967296 by omega) (show a % 4294967296 < _ by omega) f0 (by omega) (show a % 4294967296 ≤ _ by omega)
      have q3 : Go.bits .or .u64 (w2 a f) (x * 1099511627776) = w3 a f x := or_add (w2 a f) x 40 1099511627776 rfl (show 0 ≤ a % 4294967296 + f * 4294967296 by omega) (show a % 4294967296 + f * 4294967296 < _ by omega) (by omega) (by omega) (show a % 4294967296 + f * 4294967296 ≤ _ by omega)
      have q4 : Go.bits .or .u64 (w3 a f x) (y * 281474976710656) = w4 a f x y := or_add (w3 a f x) y 48 281474976710656 rfl (show 0 ≤ a % 4294967296 + f * 4294967296 + x * 1099511627776 by omega) (show a % 4294967296 + f * 4294967296 + x * 1099511627776 < _ by omega) (by omega) (by omega) (show a % 4294967296 + f * 4294967296 + x * 1099511627776 ≤ _ by omega)
      exact calls_runO hm (auto0_ok t_pack_ok) (hints [(1, 1, ht true), (5, 2, { v := some (u64 (a % 18446744073709551616)) }), (5, 3, { v := some (u64 (w1 a)) }), (5, 6, { v := some (u64 f) }), (5, 7, { v := some (u64 (f * 4294967296)) }), (5, 8, { v := some (u64 (w2 a f)) }),
          (5, 11, { v := some (u64 x) }), (5, 12, { v := some (u64 (x * 1099511627776)) }), (5, 13, { v := some (u64 (w3 a f x)) }), (5, 16, { v := some (u64 y) }), (5, 17, { v := some (u64 (y * 281474976710656)) }), (5, 18, { v := some (u64 (w4 a f x y)) })]) []
        [u64 (Go.bits .or .u64 (w3 a f x) (y * 281474976710656)) = u64 (w4 a f x y), u64 (IntKind.u64.wrap (y * 2 ^ 48)) = u64 (y * 281474976710656), u64 (IntKind.u64.wrap y) = u64 y,
         u64 (Go.bits .or .u64 (w2 a f) (x * 1099511627776)) = u64 (w3 a f x), u64 (IntKind.u64.wrap (x * 2 ^ 40)) = u64 (x * 1099511627776), u64 (IntKind.u64.wrap x) = u64 x,
         u64 (Go.bits .or .u64 (w1 a) (f * 4294967296)) = u64 (w2 a f), u64 (IntKind.u64.wrap (f * 2 ^ 32)) = u64 (f * 4294967296), u64 (IntKind.u64.wrap f) = u64 f,
         u64 (Go.bits .and .u64 (a % 18446744073709551616) 4294967295) = u64 (w1 a), u64 (IntKind.u64.wrap a) = u64 (a % 18446744073709551616),
         bb (rightB false 0 f a x y) true, I64 0, I64 a] (by kernel_rfl)
        ⟨u_eq q4, u_eq (by rw [show (2 : Int) ^ 48 = 281474976710656 from rfl]; exact wrapu_id (by omega) (by omega)), u_eq (wrapu_id (by omega) (by omega)),
         u_eq q3, u_eq (by rw [show (2 : Int) ^ 40 = 1099511627776 from rfl]; exact wrapu_id (by omega) (by omega)), u_eq (wrapu_id (by omega) (by omega)),
         u_eq q2, u_eq (by rw [show (2 : Int) ^ 32 = 4294967296 from rfl]; exact wrapu_id (by omega) (by omega)), u_eq (wrapu_id (by omega) (by omega)),
         u_eq q1, u_eq c1, bb_of hr, (by decide), ha, trivial⟩
    · rw [show packS true v f a x y = 9223372036854775808 + v % 4294967296 from by simp only [packS, packI, hr, cond_true]]
      have c1 : IntKind.u64.wrap v = v % 18446744073709551616 := by rw [IntKind.wrap_u64]
      have q1 : Go.bits .and .u64 (v % 18446744073709551616) 4294967295 = v % 4294967296 := by rw [and_low (v % 18446744073709551616) 32 4294967295 4294967296 (by omega) (by omega) (by decide) rfl rfl]; omega
      have q2 : Go.bits .or .u64 9223372036854775808 (v % 4294967296) = 9223372036854775808 + v % 4294967296 := or_top _ (by omega) (by omega)
      exact calls_runO hm (auto0_ok t_pack_ok) (hints [(1, 1, ht true), (4, 2, { v := some (u64 (v % 18446744073709551616)) }), (4, 3, { v := some (u64 (v % 4294967296)) }), (4, 4, { v := some (u64 (9223372036854775808 + v % 4294967296)) })]) []
        [u64 (Go.bits .or .u64 9223372036854775808 (v % 4294967296)) = u64 (9223372036854775808 + v % 4294967296), u64 (Go.bits .and .u64 (v % 18446744073709551616) 4294967295) = u64 (v % 4294967296), u64 (IntKind.u64.wrap v) = u64 (v % 18446744073709551616), bb (rightB true v f a x y) true, I64 v, I64 a] (by kernel_rfl)
        ⟨u_eq q2, u_eq q1, u_eq c1, bb_of hr, hv, ha, trivial⟩
  · exact absurd h (by simp)
noncomputable def t_rpack : Sums := upd t_pack 18 (some (sumOf rpack_F))
theorem t_rpack_ok : SumsOK Try.prog t_rpack := sums_cons t_pack_ok rpack_sum
end Go.Proofs.Ytnngaedhedbenaa.NodeE

