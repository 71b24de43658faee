/-
  Pack: the program's answer and the document's, by the evaluator.
-/
import Derived.Test.YtnngaedhedbenaaNodeR
set_option linter.unusedVariables false
set_option linter.unusedSimpArgs false
set_option maxRecDepth 100000
namespace Go.Proofs.Ytnngaedhedbenaa.NodeE
open Go Go.RowKit Go.Proofs.Ytnngaedhedbenaa.Ev Go.Proofs.Ytnngaedhedbenaa.BitLib Go.Proofs.Ytnngaedhedbenaa.BitsA Go.Proofs.Ytnngaedhedbenaa.NodeB
theorem putN_low {x a k y : Nat} (h : a + k ≤ 64) (ha : x < 2 ^ a) : putN x a k y = 2 ^ a * (y % 2 ^ k) + x := by
  have hx : x < 18446744073709551616 := Nat.lt_of_lt_of_le ha (Nat.pow_le_pow_right (by decide) (show a ≤ 64 by omega))
  refine Nat.eq_of_testBit_eq fun i => ?_
  rw [Nat.two_pow_add_eq_or_of_lt ha, Nat.testBit_or, putN_testBit x a k y i h hx, Nat.testBit_two_pow_mul, Nat.testBit_mod_two_pow]
  by_cases h1 : a ≤ i
  · have : x.testBit i = false := Nat.testBit_lt_two_pow (Nat.lt_of_lt_of_le ha (Nat.pow_le_pow_right (by decide) h1))
    by_cases h2 : i < a + k
    · simp [h1, h2, this, show i - a < k by omega]
    · simp [h1, h2, this, show ¬ i - a < k by omega]
  · simp [h1]
theorem putN_top (x y : Nat) (hx : 2 ^ 32 * x < 18446744073709551616) : putN (2 ^ 32 * x) 0 32 y = 2 ^ 32 * x + y % 2 ^ 32 := by
  refine Nat.eq_of_testBit_eq fun i => ?_
  rw [Nat.two_pow_add_eq_or_of_lt (Nat.mod_lt _ (by decide)), Nat.testBit_or, putN_testBit _ 0 32 y i (by decide) hx, Nat.testBit_two_pow_mul, Nat.testBit_mod_two_pow]
  by_cases h : i < 32
  · simp [h, show ¬ (32 ≤ i) by omega]
  · simp [h, show 32 ≤ i by omega]
theorem putI_leaf (y : Int) (hy : 0 ≤ y) : putI 9223372036854775808 0 32 y = 9223372036854775808 + y % 4294967296 := by
  obtain ⟨y, rfl⟩ := Int.eq_ofNat_of_zero_le hy
  have := putN_top 2147483648 y (by decide)
  unfold putI
  have e1 : (9223372036854775808 : Int).toNat = 2 ^ 32 * 2147483648 := rfl
  have e2 : (0 : Int).toNat = 0 := rfl
  have e3 : (32 : Int).toNat = 32 := rfl
  rw [e1, e2, e3, Int.toNat_natCast, this]
  have e4 : (2 : Nat) ^ 32 = 4294967296 := rfl
  rw [e4]; omega
theorem putI_low (x a k y m n : Int) (hx : 0 ≤ x) (hy : 0 ≤ y) (h : a.toNat + k.toNat ≤ 64) (hm : (2 ^ a.toNat : Nat) = m) (hn : (2 ^ k.toNat : Nat) = n) (hxm : x < m) : putI x a k y = x + (y % n) * m := by
  obtain ⟨x, rfl⟩ := Int.eq_ofNat_of_zero_le hx
  obtain ⟨y, rfl⟩ := Int.eq_ofNat_of_zero_le hy
  have := putN_low (x := x) (a := a.toNat) (k := k.toNat) (y := y) h (by omega)
  unfold putI
  rw [Int.toNat_natCast, Int.toNat_natCast, this, ← hm, ← hn, Int.mul_comm]
  simp only [Int.natCast_add, Int.natCast_mul, Int.natCast_emod]
  omega
def packI (l : Bool) (v f a x y : Int) : Int := bif l then 9223372036854775808 + v % 4294967296 else a % 4294967296 + f * 4294967296 + x * 1099511627776 + y * 281474976710656
def packS (l : Bool) (v f a x y : Int) : Int := bif rightB l v f a x y then packI l v f a x y else 0
theorem u_eq {a b : Int} (h : a = b) : u64 a = u64 b := by rw [h]
theorem right_inner {v f a x y : Int} (h : rightB false v f a x y = true) : v = 0 ∧ 0 ≤ f ∧ f < 4 ∧ (-2147483648 ≤ a ∧ a ≤ 2147483647) ∧ (1 ≤ x ∧ x < 31) ∧ 1 ≤ y ∧ y < 31 := by
  simpa [rightB, fitB, chB] using h
theorem right_leaf {v f a x y : Int} (h : rightB true v f a x y = true) : (f = 0 ∧ a = 0 ∧ x = 0 ∧ y = 0) ∧ -2147483648 ≤ v ∧ v ≤ 2147483647 := by
  simpa [rightB, fitB] using h
abbrev w1 (a : Int) : Int := a % 4294967296
abbrev w2 (a f : Int) : Int := a % 4294967296 + f * 4294967296
abbrev w3 (a f x : Int) : Int := a % 4294967296 + f * 4294967296 + x * 1099511627776
abbrev w4 (a f x y : Int) : Int := a % 4294967296 + f * 4294967296 + x * 1099511627776 + y * 281474976710656
def pack_F : List Value → Option (Value × List Prop)
  | [.agg ⟨[.bool l, .int .i64 v, .int .i64 f, .int .i64 a, .int .i64 x, .int .i64 y]⟩] => some (.int .u64 (packS l v f a x y), [I64 v, I64 a])
  | _ => none
theorem pack_sum : SumOK Try.prog 14 (sumOf pack_F) := by
  refine sumOf_ok (en Try.func14 rfl) fun args v ob h hob => ?_
  unfold pack_F at h
  split at h
  · rename_i l v f a x y
    obtain ⟨rfl, rfl⟩ := Prod.mk.inj (Option.some.inj h)
    clear h
    have hv := hob (I64 v) (by simp)
    have ha := hob (I64 a) (by simp)
    cases hr : rightB l v f a x y
    · rw [show packS l v f a x y = 0 from by simp only [packS, hr, cond_false]]
      exact calls_runO hm (auto0_ok t_rright_ok) (hints [(1, 1, ht false)]) [] [bb (rightB l v f a x y) false, I64 v, I64 a] (by kernel_rfl) ⟨bb_of hr, hv, ha, trivial⟩
    cases l
    · rw [show packS false v f a x y = w4 a f x y from by simp only [packS, packI, hr, cond_true, cond_false]]
      obtain ⟨rfl, f0, f1, a0, ⟨x0, x1⟩, y0, y1⟩ := right_inner hr
      have c1 : IntKind.u64.wrap a = a % 18446744073709551616 := by rw [IntKind.wrap_u64]
      have q1 : putI 0 0 32 (a % 18446744073709551616) = w1 a := by rw [putI_low 0 0 32 _ 1 4294967296 (by decide) (by omega) (by decide) rfl rfl (by decide)]; show _ = a % 4294967296; omega
      have q2 : putI (w1 a) 32 4 f = w2 a f := by rw [putI_low (w1 a) 32 4 f 4294967296 16 (show 0 ≤ a % 4294967296 by omega) f0 (by decide) rfl rfl (show a % 4294967296 < _ by omega)]; show a % 4294967296 + _ = a % 4294967296 + _; omega
      have q3 : putI (w2 a f) 40 8 x = w3 a f x := by rw [putI_low (w2 a f) 40 8 x 1099511627776 256 (show 0 ≤ a % 4294967296 + f * 4294967296 by omega) (by omega) (by decide) rfl rfl (show a % 4294967296 + f * 4294967296 < _ by omega)]; show a % 4294967296 + f * 4294967296 + _ = a % 4294967296 + f * 4294967296 + _; omega
      have q4 : putI (w3 a f x) 48 8 y = w4 a f x y := by rw [putI_low (w3 a f x) 48 8 y 281474976710656 256 (show 0 ≤ a % 4294967296 + f * 4294967296 + x * 1099511627776 by omega) (by omega) (by decide) rfl rfl (show a % 4294967296 + f * 4294967296 + x * 1099511627776 < _ by omega)]; show a % 4294967296 + f * 4294967296 + x * 1099511627776 + _ = a % 4294967296 + f * 4294967296 + x * 1099511627776 + _; omega
      exact calls_runO hm (auto0_ok t_rright_ok) (hints [(1, 1, ht true), (5, 2, { v := some (u64 (a % 18446744073709551616)) }), (5, 3, { v := some (u64 (w1 a)) }), (6, 3, { v := some (u64 f) }), (6, 4, { v := some (u64 (w2 a f)) }), (7, 3, { v := some (u64 x) }), (7, 4, { v := some (u64 (w3 a f x)) }), (8, 3, { v := some (u64 y) }), (8, 4, { v := some (u64 (w4 a f x y)) })]) []
        [u64 (putI (w3 a f x) 48 8 y) = u64 (w4 a f x y), U64 (w3 a f x), fld 48 8, U64 y, u64 (IntKind.u64.wrap y) = u64 y,
         u64 (putI (w2 a f) 40 8 x) = u64 (w3 a f x), U64 (w2 a f), fld 40 8, U64 x, u64 (IntKind.u64.wrap x) = u64 x,
         u64 (putI (w1 a) 32 4 f) = u64 (w2 a f), U64 (w1 a), fld 32 4, U64 f, u64 (IntKind.u64.wrap f) = u64 f,
         u64 (putI 0 0 32 (a % 18446744073709551616)) = u64 (w1 a), U64 0, fld 0 32, U64 (a % 18446744073709551616), u64 (IntKind.u64.wrap a) = u64 (a % 18446744073709551616),
         bb (rightB false 0 f a x y) true, I64 0, I64 a] (by kernel_rfl)
        ⟨u_eq q4, (show 0 ≤ a % 4294967296 + f * 4294967296 + x * 1099511627776 ∧ a % 4294967296 + f * 4294967296 + x * 1099511627776 ≤ _ by omega), (by unfold fld; decide), (by show 0 ≤ y ∧ y ≤ _; omega), u_eq (wrapu_id (by omega) (by omega)),
         u_eq q3, (show 0 ≤ a % 4294967296 + f * 4294967296 ∧ a % 4294967296 + f * 4294967296 ≤ _ by omega), (by unfold fld; decide), (by show 0 ≤ x ∧ x ≤ _; omega), u_eq (wrapu_id (by omega) (by omega)),
         u_eq q2, (show 0 ≤ a % 4294967296 ∧ a % 4294967296 ≤ _ by omega), (by unfold fld; decide), (by show 0 ≤ f ∧ f ≤ _; omega), u_eq (wrapu_id (by omega) (by omega)),
         u_eq q1, (by decide), (by unfold fld; decide), (show 0 ≤ a % 18446744073709551616 ∧ a % 18446744073709551616 ≤ _ by omega), u_eq c1, bb_of hr, (by decide), ha, trivial⟩
    · rw [show packS true v f a x y = 9223372036854775808 + v % 4294967296 from by simp only [packS, packI, hr, cond_true]]
      have c1 : IntKind.u64.wrap v = v % 18446744073709551616 := by rw [IntKind.wrap_u64]
      have q1 : putI 9223372036854775808 0 32 (v % 18446744073709551616) = 9223372036854775808 + v % 4294967296 := by rw [putI_leaf _ (by omega)]; omega
      exact calls_runO hm (auto0_ok t_rright_ok) (hints [(1, 1, ht true), (4, 2, { v := some (u64 (v % 18446744073709551616)) }), (4, 3, { v := some (u64 (9223372036854775808 + v % 4294967296)) })]) []
        [u64 (putI 9223372036854775808 0 32 (v % 18446744073709551616)) = u64 (9223372036854775808 + v % 4294967296), U64 9223372036854775808, fld 0 32, U64 (v % 18446744073709551616), u64 (IntKind.u64.wrap v) = u64 (v % 18446744073709551616), bb (rightB true v f a x y) true, I64 v, I64 a] (by kernel_rfl)
        ⟨u_eq q1, by decide, (by unfold fld; decide), (show 0 ≤ v % 18446744073709551616 ∧ v % 18446744073709551616 ≤ _ by omega), u_eq c1, bb_of hr, hv, ha, trivial⟩
  · exact absurd h (by simp)
noncomputable def t_pack : Sums := upd t_rright 14 (some (sumOf pack_F))
theorem t_pack_ok : SumsOK Try.prog t_pack := sums_cons t_rright_ok pack_sum
end Go.Proofs.Ytnngaedhedbenaa.NodeE

