/-
  Forest.Model, as the evaluator runs it. No condition.
-/
import Derived.Test.YthbaccmhdffjdaaRows
import Derived.WalkKit
import Derived.ProofKit
import Derived.OpenShut
import Derived.Deep.Slices
import Derived.WalkLawsBesides
import Derived.KernelRfl
import Derived.Lib.Hide
import Derived.Test.YthbaccmhdffjdaaCliqueOrderP1
set_option linter.unusedVariables false
set_option linter.unusedSimpArgs false
set_option maxRecDepth 100000
namespace Go.Proofs.Ythbaccmhdffjdaa.NodeE
open Go Go.RowKit Ev BitLib BitsA NodeB
abbrev nd (l : Bool) (v f a x y : Int) : Value := .agg ⟨[.bool l, .int .i64 v, .int .i64 f, .int .i64 a, .int .i64 x, .int .i64 y]⟩
def chB (n : Int) : Bool := decide (n ≥ 1) && decide (n < 31)
def rightB (l : Bool) (v f a x y : Int) : Bool := bif l then ((f == 0) && ((a == 0) && ((x == 0) && (y == 0)))) && fitB v
 else (v == 0) && (decide (f ≥ 0) && (decide (f < 4) && (fitB a && (chB x && chB y))))
theorem key_nd (v f a x y : Int) : keyEq (nd true v f a x y) (nd true v 0 0 0 0) = ((f == 0) && ((a == 0) && ((x == 0) && (y == 0)))) := by
 simp [keyEq, cellsEq, leafEq]
def child_F : List Value → Option (Value × List Prop)
 | [.int .i64 n] => some (.bool (chB n), [])
 | _ => none
theorem child_sum : SumOK Try.prog 70 (sumOf child_F) := by
 refine sumOf_ok (en Try.func70 rfl) fun args v ob h hob => ?_
 unfold child_F at h
 split at h
 ·rename_i n
  obtain ⟨rfl, rfl⟩ := Prod.mk.inj (Option.some.inj h)
  clear h
  cases h : decide (n ≥ 1)
  ·rw [show chB n = false from by simp only [chB, h, Bool.false_and]]
   exact calls_runO hm (auto0_ok t_bsigned_ok) (hints [(1, 1, ht false)]) [] [bb (decide (n ≥ 1)) false] (by kernel_rfl) ⟨bb_of h, trivial⟩
  ·rw [show chB n = decide (n < 31) from by simp only [chB, h, Bool.true_and]]
   exact calls_runO hm (auto0_ok t_bsigned_ok) (hints [(1, 1, ht true)]) [] [bb (decide (n ≥ 1)) true] (by kernel_rfl) ⟨bb_of h, trivial⟩
 ·exact absurd h (by simp)
noncomputable def t_child : Sums := upd t_bsigned 70 (some (sumOf child_F))
theorem t_child_ok : SumsOK Try.prog t_child := sums_cons t_bsigned_ok child_sum
def right_F : List Value → Option (Value × List Prop)
 | [.agg ⟨[.bool l, .int .i64 v, .int .i64 f, .int .i64 a, .int .i64 x, .int .i64 y]⟩] => some (.bool (rightB l v f a x y), [I64 v, I64 a])
 | _ => none
theorem right_sum : SumOK Try.prog 67 (sumOf right_F) := by
 refine sumOf_ok (en Try.func67 rfl) fun args v ob h hob => ?_
 unfold right_F at h
 split at h
 ·rename_i l v f a x y
  obtain ⟨rfl, rfl⟩ := Prod.mk.inj (Option.some.inj h)
  clear h
  have hv := hob (I64 v) (by simp)
  have ha := hob (I64 a) (by simp)
  cases l
  ·cases d0 : v == 0
   ·rw [show rightB false v f a x y = false from by simp [rightB, d0]]
    exact calls_runO hm (auto0_ok t_child_ok) (hints [(3, 2, ht false)]) [] [bb (v == 0) false] (by kernel_rfl) ⟨bb_of d0, trivial⟩
   cases d1 : decide (f ≥ 0)
   ·rw [show rightB false v f a x y = false from by simp [rightB, d0, d1]]
    exact calls_runO hm (auto0_ok t_child_ok) (hints [(3, 2, ht true), (3, 6, ht false)]) [] [bb (decide (f ≥ 0)) false, bb (v == 0) true] (by kernel_rfl) ⟨bb_of d1, bb_of d0, trivial⟩
   cases d2 : decide (f < 4)
   ·rw [show rightB false v f a x y = false from by simp [rightB, d0, d1, d2]]
    exact calls_runO hm (auto0_ok t_child_ok) (hints [(3, 2, ht true), (3, 6, ht true), (3, 11, ht false)]) [] [bb (decide (f < 4)) false, bb (decide (f ≥ 0)) true, bb (v == 0) true] (by kernel_rfl) ⟨bb_of d2, bb_of d1, bb_of d0, trivial⟩
   cases d3 : fitB a
   ·rw [show rightB false v f a x y = false from by simp [rightB, d0, d1, d2, d3]]
    exact calls_runO hm (auto0_ok t_child_ok) (hints [(3, 2, ht true), (3, 6, ht true), (3, 11, ht true), (3, 16, ht false)]) [] [bb (fitB a) false, I64 a, bb (decide (f < 4)) true, bb (decide (f ≥ 0)) true, bb (v == 0) true] (by kernel_rfl) ⟨bb_of d3, ha, bb_of d2, bb_of d1, bb_of d0, trivial⟩
   cases d4 : chB x
   ·rw [show rightB false v f a x y = false from by simp [rightB, d0, d1, d2, d3, d4]]
    exact calls_runO hm (auto0_ok t_child_ok) (hints [(3, 2, ht true), (3, 6, ht true), (3, 11, ht true), (3, 16, ht true), (3, 21, ht false)]) [] [bb (chB x) false, bb (fitB a) true, I64 a, bb (decide (f < 4)) true, bb (decide (f ≥ 0)) true, bb (v == 0) true] (by kernel_rfl) ⟨bb_of d4, bb_of d3, ha, bb_of d2, bb_of d1, bb_of d0, trivial⟩
   cases d5 : chB y
   ·rw [show rightB false v f a x y = false from by simp [rightB, d0, d1, d2, d3, d4, d5]]
    exact calls_runO hm (auto0_ok t_child_ok) (hints [(3, 2, ht true), (3, 6, ht true), (3, 11, ht true), (3, 16, ht true), (3, 21, ht true), (3, 26, ht false)]) [] [bb (chB y) false, bb (chB x) true, bb (fitB a) true, I64 a, bb (decide (f < 4)) true, bb (decide (f ≥ 0)) true, bb (v == 0) true] (by kernel_rfl) ⟨bb_of d5, bb_of d4, bb_of d3, ha, bb_of d2, bb_of d1, bb_of d0, trivial⟩
   rw [show rightB false v f a x y = true from by simp [rightB, d0, d1, d2, d3, d4, d5]]
   exact calls_runO hm (auto0_ok t_child_ok) (hints [(3, 2, ht true), (3, 6, ht true), (3, 11, ht true), (3, 16, ht true), (3, 21, ht true), (3, 26, ht true)]) [] [bb (chB y) true, bb (chB x) true, bb (fitB a) true, I64 a, bb (decide (f < 4)) true, bb (decide (f ≥ 0)) true, bb (v == 0) true] (by kernel_rfl) ⟨bb_of d5, bb_of d4, bb_of d3, ha, bb_of d2, bb_of d1, bb_of d0, trivial⟩
  ·cases d0 : keyEq (nd true v f a x y) (nd true v 0 0 0 0)
   ·rw [show rightB true v f a x y = false from by simp only [rightB, cond_true, ← key_nd v f a x y, d0, Bool.false_and]]
    exact calls_runO hm (auto0_ok t_child_ok) (hints [(2, 4, ht false)]) [] [bb (keyEq (nd true v f a x y) (nd true v 0 0 0 0)) false] (by kernel_rfl) ⟨bb_of d0, trivial⟩
   cases d1 : fitB v
   ·rw [show rightB true v f a x y = false from by simp only [rightB, cond_true, ← key_nd v f a x y, d0, d1, Bool.and_true, Bool.and_false, Bool.true_and, Bool.false_and]]
    exact calls_runO hm (auto0_ok t_child_ok) (hints [(2, 4, ht true), (2, 8, ht false)]) [] [bb (fitB v) false, I64 v, bb (keyEq (nd true v f a x y) (nd true v 0 0 0 0)) true] (by kernel_rfl) ⟨bb_of d1, hv, bb_of d0, trivial⟩
   rw [show rightB true v f a x y = true from by simp only [rightB, cond_true, ← key_nd v f a x y, d0, d1, Bool.and_true, Bool.and_false, Bool.true_and, Bool.false_and]]
   exact calls_runO hm (auto0_ok t_child_ok) (hints [(2, 4, ht true), (2, 8, ht true)]) [] [bb (fitB v) true, I64 v, bb (keyEq (nd true v f a x y) (nd true v 0 0 0 0)) true] (by kernel_rfl) ⟨bb_of d1, hv, bb_of d0, trivial⟩
 ·exact absurd h (by simp)
noncomputable def t_right : Sums := upd t_child 67 (some (sumOf right_F))
theorem t_right_ok : SumsOK Try.prog t_right := sums_cons t_child_ok right_sum
def rright_F : List Value → Option (Value × List Prop)
 | [.agg ⟨[.bool l, .int .i64 v, .int .i64 f, .int .i64 a, .int .i64 x, .int .i64 y]⟩] => some (.bool (rightB l v f a x y), [I64 v, I64 a])
 | _ => none
theorem rright_sum : SumOK Try.prog 55 (sumOf rright_F) := by
 refine sumOf_ok (en Try.func55 rfl) fun args v ob h hob => ?_
 unfold rright_F at h
 split at h
 ·rename_i l v f a x y
  obtain ⟨rfl, rfl⟩ := Prod.mk.inj (Option.some.inj h)
  clear h
  have hv := hob (I64 v) (by simp)
  have ha := hob (I64 a) (by simp)
  cases l
  ·cases d0 : v == 0
   ·rw [show rightB false v f a x y = false from by simp [rightB, chB, d0]]
    exact calls_runO hm (auto0_ok t_right_ok) (hints [(3, 2, ht false)]) [] [bb (v == 0) false] (by kernel_rfl) ⟨bb_of d0, trivial⟩
   cases d1 : decide (f ≥ 0)
   ·rw [show rightB false v f a x y = false from by simp [rightB, chB, d0, d1]]
    exact calls_runO hm (auto0_ok t_right_ok) (hints [(3, 2, ht true), (3, 6, ht false)]) [] [bb (decide (f ≥ 0)) false, bb (v == 0) true] (by kernel_rfl) ⟨bb_of d1, bb_of d0, trivial⟩
   cases d2 : decide (f < 4)
   ·rw [show rightB false v f a x y = false from by simp [rightB, chB, d0, d1, d2]]
    exact calls_runO hm (auto0_ok t_right_ok) (hints [(3, 2, ht true), (3, 6, ht true), (3, 11, ht false)]) [] [bb (decide (f < 4)) false, bb (decide (f ≥ 0)) true, bb (v == 0) true] (by kernel_rfl) ⟨bb_of d2, bb_of d1, bb_of d0, trivial⟩
   cases d3 : fitB a
   ·rw [show rightB false v f a x y = false from by simp [rightB, chB, d0, d1, d2, d3]]
    exact calls_runO hm (auto0_ok t_right_ok) (hints [(3, 2, ht true), (3, 6, ht true), (3, 11, ht true), (3, 16, ht false)]) [] [bb (fitB a) false, I64 a, bb (decide (f < 4)) true, bb (decide (f ≥ 0)) true, bb (v == 0) true] (by kernel_rfl) ⟨bb_of d3, ha, bb_of d2, bb_of d1, bb_of d0, trivial⟩
   cases d4 : decide (x ≥ 1)
   ·rw [show rightB false v f a x y = false from by simp [rightB, chB, d0, d1, d2, d3, d4]]
    exact calls_runO hm (auto0_ok t_right_ok) (hints [(3, 2, ht true), (3, 6, ht true), (3, 11, ht true), (3, 16, ht true), (3, 21, ht false)]) [] [bb (decide (x ≥ 1)) false, bb (fitB a) true, I64 a, bb (decide (f < 4)) true, bb (decide (f ≥ 0)) true, bb (v == 0) true] (by kernel_rfl) ⟨bb_of d4, bb_of d3, ha, bb_of d2, bb_of d1, bb_of d0, trivial⟩
   cases d5 : decide (x < 31)
   ·rw [show rightB false v f a x y = false from by simp [rightB, chB, d0, d1, d2, d3, d4, d5]]
    exact calls_runO hm (auto0_ok t_right_ok) (hints [(3, 2, ht true), (3, 6, ht true), (3, 11, ht true), (3, 16, ht true), (3, 21, ht true), (3, 26, ht false)]) [] [bb (decide (x < 31)) false, bb (decide (x ≥ 1)) true, bb (fitB a) true, I64 a, bb (decide (f < 4)) true, bb (decide (f ≥ 0)) true, bb (v == 0) true] (by kernel_rfl) ⟨bb_of d5, bb_of d4, bb_of d3, ha, bb_of d2, bb_of d1, bb_of d0, trivial⟩
   cases d6 : decide (y ≥ 1)
   ·rw [show rightB false v f a x y = false from by simp [rightB, chB, d0, d1, d2, d3, d4, d5, d6]]
    exact calls_runO hm (auto0_ok t_right_ok) (hints [(3, 2, ht true), (3, 6, ht true), (3, 11, ht true), (3, 16, ht true), (3, 21, ht true), (3, 26, ht true), (3, 31, ht false)]) [] [bb (decide (y ≥ 1)) false, bb (decide (x < 31)) true, bb (decide (x ≥ 1)) true, bb (fitB a) true, I64 a, bb (decide (f < 4)) true, bb (decide (f ≥ 0)) true, bb (v == 0) true] (by kernel_rfl) ⟨bb_of d6, bb_of d5, bb_of d4, bb_of d3, ha, bb_of d2, bb_of d1, bb_of d0, trivial⟩
   cases d7 : decide (y < 31)
   ·rw [show rightB false v f a x y = false from by simp [rightB, chB, d0, d1, d2, d3, d4, d5, d6, d7]]
    exact calls_runO hm (auto0_ok t_right_ok) (hints [(3, 2, ht true), (3, 6, ht true), (3, 11, ht true), (3, 16, ht true), (3, 21, ht true), (3, 26, ht true), (3, 31, ht true), (3, 36, ht false)]) [] [bb (decide (y < 31)) false, bb (decide (y ≥ 1)) true, bb (decide (x < 31)) true, bb (decide (x ≥ 1)) true, bb (fitB a) true, I64 a, bb (decide (f < 4)) true, bb (decide (f ≥ 0)) true, bb (v == 0) true] (by kernel_rfl) ⟨bb_of d7, bb_of d6, bb_of d5, bb_of d4, bb_of d3, ha, bb_of d2, bb_of d1, bb_of d0, trivial⟩
   rw [show rightB false v f a x y = true from by simp [rightB, chB, d0, d1, d2, d3, d4, d5, d6, d7]]
   exact calls_runO hm (auto0_ok t_right_ok) (hints [(3, 2, ht true), (3, 6, ht true), (3, 11, ht true), (3, 16, ht true), (3, 21, ht true), (3, 26, ht true), (3, 31, ht true), (3, 36, ht true)]) [] [bb (decide (y < 31)) true, bb (decide (y ≥ 1)) true, bb (decide (x < 31)) true, bb (decide (x ≥ 1)) true, bb (fitB a) true, I64 a, bb (decide (f < 4)) true, bb (decide (f ≥ 0)) true, bb (v == 0) true] (by kernel_rfl) ⟨bb_of d7, bb_of d6, bb_of d5, bb_of d4, bb_of d3, ha, bb_of d2, bb_of d1, bb_of d0, trivial⟩
  ·cases d0 : fitB v
   ·rw [show rightB true v f a x y = false from by simp [rightB, d0]]
    exact calls_runO hm (auto0_ok t_right_ok) (hints [(2, 2, ht false)]) [] [bb (fitB v) false, I64 v] (by kernel_rfl) ⟨bb_of d0, hv, trivial⟩
   cases d1 : f == 0
   ·rw [show rightB true v f a x y = false from by simp [rightB, d0, d1]]
    exact calls_runO hm (auto0_ok t_right_ok) (hints [(2, 2, ht true), (2, 6, ht false)]) [] [bb (f == 0) false, bb (fitB v) true, I64 v] (by kernel_rfl) ⟨bb_of d1, bb_of d0, hv, trivial⟩
   cases d2 : a == 0
   ·rw [show rightB true v f a x y = false from by simp [rightB, d0, d1, d2]]
    exact calls_runO hm (auto0_ok t_right_ok) (hints [(2, 2, ht true), (2, 6, ht true), (2, 11, ht false)]) [] [bb (a == 0) false, bb (f == 0) true, bb (fitB v) true, I64 v] (by kernel_rfl) ⟨bb_of d2, bb_of d1, bb_of d0, hv, trivial⟩
   cases d3 : x == 0
   ·rw [show rightB true v f a x y = false from by simp [rightB, d0, d1, d2, d3]]
    exact calls_runO hm (auto0_ok t_right_ok) (hints [(2, 2, ht true), (2, 6, ht true), (2, 11, ht true), (2, 16, ht false)]) [] [bb (x == 0) false, bb (a == 0) true, bb (f == 0) true, bb (fitB v) true, I64 v] (by kernel_rfl) ⟨bb_of d3, bb_of d2, bb_of d1, bb_of d0, hv, trivial⟩
   cases d4 : y == 0
   ·rw [show rightB true v f a x y = false from by simp [rightB, d0, d1, d2, d3, d4]]
    exact calls_runO hm (auto0_ok t_right_ok) (hints [(2, 2, ht true), (2, 6, ht true), (2, 11, ht true), (2, 16, ht true), (2, 21, ht false)]) [] [bb (y == 0) false, bb (x == 0) true, bb (a == 0) true, bb (f == 0) true, bb (fitB v) true, I64 v] (by kernel_rfl) ⟨bb_of d4, bb_of d3, bb_of d2, bb_of d1, bb_of d0, hv, trivial⟩
   rw [show rightB true v f a x y = true from by simp [rightB, d0, d1, d2, d3, d4]]
   exact calls_runO hm (auto0_ok t_right_ok) (hints [(2, 2, ht true), (2, 6, ht true), (2, 11, ht true), (2, 16, ht true), (2, 21, ht true)]) [] [bb (y == 0) true, bb (x == 0) true, bb (a == 0) true, bb (f == 0) true, bb (fitB v) true, I64 v] (by kernel_rfl) ⟨bb_of d4, bb_of d3, bb_of d2, bb_of d1, bb_of d0, hv, trivial⟩
 ·exact absurd h (by simp)
noncomputable def t_rright : Sums := upd t_right 55 (some (sumOf rright_F))
theorem t_rright_ok : SumsOK Try.prog t_rright := sums_cons t_right_ok rright_sum
end Go.Proofs.Ythbaccmhdffjdaa.NodeE
namespace Go.Proofs.Ythbaccmhdffjdaa.NodeE
open Go Go.RowKit Ev BitLib BitsA NodeB
theorem putN_low {x a k y : Nat} (h : a + k ≤ 64) (ha : x < 2 ^ a) : putN x a k y = 2 ^ a * (y % 2 ^ k) + x := by
  have hx : x < 18446744073709551616 := Nat.lt_of_lt_of_le ha (Nat.pow_le_pow_right (by decide) (show a ≤ 64 by omega))
  refine Nat.eq_of_testBit_eq fun i => ?_
  rw [Nat.two_pow_add_eq_or_of_lt ha, Nat.testBit_or, putN_testBit x a k y i h hx, Nat.testBit_two_pow_mul, Nat.testBit_mod_two_pow]
  by_cases h1 : a ≤ i
  · have : x.testBit i = false := Nat.testBit_lt_two_pow (Nat.lt_of_lt_of_le ha (Nat.pow_le_pow_right (by decide) h1))
    by_cases h2 : i < a + k
    · simp [h1, h2, this, show i - a < k by omega]
    · simp [h1, h2, this, show ¬ i - a < k by omega]
  · simp [h1]
theorem putN_top (x y : Nat) (hx : 2 ^ 32 * x < 18446744073709551616) : putN (2 ^ 32 * x) 0 32 y = 2 ^ 32 * x + y % 2 ^ 32 := by
  refine Nat.eq_of_testBit_eq fun i => ?_
  rw [Nat.two_pow_add_eq_or_of_lt (Nat.mod_lt _ (by decide)), Nat.testBit_or, putN_testBit _ 0 32 y i (by decide) hx, Nat.testBit_two_pow_mul, Nat.testBit_mod_two_pow]
  by_cases h : i < 32
  · simp [h, show ¬ (32 ≤ i) by omega]
  · simp [h, show 32 ≤ i by omega]
theorem putI_leaf (y : Int) (hy : 0 ≤ y) : putI 9223372036854775808 0 32 y = 9223372036854775808 + y % 4294967296 := by
  obtain ⟨y, rfl⟩ := Int.eq_ofNat_of_zero_le hy
  have := putN_top 2147483648 y (by decide)
  unfold putI
  have e1 : (9223372036854775808 : Int).toNat = 2 ^ 32 * 2147483648 := rfl
  have e2 : (0 : Int).toNat = 0 := rfl
  have e3 : (32 : Int).toNat = 32 := rfl
  rw [e1, e2, e3, Int.toNat_natCast, this]
  have e4 : (2 : Nat) ^ 32 = 4294967296 := rfl
  rw [e4]; omega
theorem putI_low (x a k y m n : Int) (hx : 0 ≤ x) (hy : 0 ≤ y) (h : a.toNat + k.toNat ≤ 64) (hm : (2 ^ a.toNat : Nat) = m) (hn : (2 ^ k.toNat : Nat) = n) (hxm : x < m) : putI x a k y = x + (y % n) * m := by
  obtain ⟨x, rfl⟩ := Int.eq_ofNat_of_zero_le hx
  obtain ⟨y, rfl⟩ := Int.eq_ofNat_of_zero_le hy
  have := putN_low (x := x) (a := a.toNat) (k := k.toNat) (y := y) h (by omega)
  unfold putI
  rw [Int.toNat_natCast, Int.toNat_natCast, this, ← hm, ← hn, Int.mul_comm]
  simp only [Int.natCast_add, Int.natCast_mul, Int.natCast_emod]
  omega
def packI (l : Bool) (v f a x y : Int) : Int := bif l then 9223372036854775808 + v % 4294967296 else a % 4294967296 + f * 4294967296 + x * 1099511627776 + y * 281474976710656
def packS (l : Bool) (v f a x y : Int) : Int := bif rightB l v f a x y then packI l v f a x y else 0
theorem u_eq {a b : Int} (h : a = b) : u64 a = u64 b := by rw [h]
theorem right_inner {v f a x y : Int} (h : rightB false v f a x y = true) : v = 0 ∧ 0 ≤ f ∧ f < 4 ∧ (-2147483648 ≤ a ∧ a ≤ 2147483647) ∧ (1 ≤ x ∧ x < 31) ∧ 1 ≤ y ∧ y < 31 := by
  simpa [rightB, fitB, chB] using h
theorem right_leaf {v f a x y : Int} (h : rightB true v f a x y = true) : (f = 0 ∧ a = 0 ∧ x = 0 ∧ y = 0) ∧ -2147483648 ≤ v ∧ v ≤ 2147483647 := by
  simpa [rightB, fitB] using h
abbrev w1 (a : Int) : Int := a % 4294967296
abbrev w2 (a f : Int) : Int := a % 4294967296 + f * 4294967296
abbrev w3 (a f x : Int) : Int := a % 4294967296 + f * 4294967296 + x * 1099511627776
abbrev w4 (a f x y : Int) : Int := a % 4294967296 + f * 4294967296 + x * 1099511627776 + y * 281474976710656
def pack_F : List Value → Option (Value × List Prop)
  | [.agg ⟨[.bool l, .int .i64 v, .int .i64 f, .int .i64 a, .int .i64 x, .int .i64 y]⟩] => some (.int .u64 (packS l v f a x y), [I64 v, I64 a])
  | _ => none
theorem pack_sum : SumOK Try.prog 59 (sumOf pack_F) := by
  refine sumOf_ok (en Try.func59 rfl) fun args v ob h hob => ?_
  unfold pack_F at h
  split at h
  · rename_i l v f a x y
    obtain ⟨rfl, rfl⟩ := Prod.mk.inj (Option.some.inj h)
    clear h
    have hv := hob (I64 v) (by simp)
    have ha := hob (I64 a) (by simp)
    cases hr : rightB l v f a x y
    · rw [show packS l v f a x y = 0 from by simp only [packS, hr, cond_false]]
      exact calls_runO hm (auto0_ok t_rright_ok) (hints [(1, 1, ht false)]) [] [bb (rightB l v f a x y) false, I64 v, I64 a] (by kernel_rfl) ⟨bb_of hr, hv, ha, trivial⟩
    cases l
    · rw [show packS false v f a x y = w4 a f x y from by simp only [packS, packI, hr, cond_true, cond_false]]
      obtain ⟨rfl, f0, f1, a0, ⟨x0, x1⟩, y0, y1⟩ := right_inner hr
      have c1 : IntKind.u64.wrap a = a % 18446744073709551616 := by rw [IntKind.wrap_u64]
      have q1 : putI 0 0 32 (a % 18446744073709551616) = w1 a := by rw [putI_low 0 0 32 _ 1 4294967296 (by decide) (by omega) (by decide) rfl rfl (by decide)]; show _ = a % 4294967296; omega
      have q2 : putI (w1 a) 32 4 f = w2 a f := by rw [putI_low (w1 a) 32 4 f 4294967296 16 (show 0 ≤ a % 4294967296 by omega) f0 (by decide) rfl rfl (show a % 4294967296 < _ by omega)]; show a % 4294967296 + _ = a % 4294967296 + _; omega
      have q3 : putI (w2 a f) 40 8 x = w3 a f x := by rw [putI_low (w2 a f) 40 8 x 1099511627776 256 (show 0 ≤ a % 4294967296 + f * 4294967296 by omega) (by omega) (by decide) rfl rfl (show a % 4294967296 + f * 4294967296 < _ by omega)]; show a % 4294967296 + f * 4294967296 + _ = a % 4294967296 + f * 4294967296 + _; omega
      have q4 : putI (w3 a f x) 48 8 y = w4 a f x y := by rw [putI_low (w3 a f x) 48 8 y 281474976710656 256 (show 0 ≤ a % 4294967296 + f * 4294967296 + x * 1099511627776 by omega) (by omega) (by decide) rfl rfl (show a % 4294967296 + f * 4294967296 + x * 1099511627776 < _ by omega)]; show a % 4294967296 + f * 4294967296 + x * 1099511627776 + _ = a % 4294967296 + f * 4294967296 + x * 1099511627776 + _; omega
      exact calls_runO hm (auto0_ok t_rright_ok) (hints [(1, 1, ht true), (5, 2, { v := some (u64 (a % 18446744073709551616)) }), (5, 3, { v := some (u64 (w1 a)) }), (6, 3, { v := some (u64 f) }), (6, 4, { v := some (u64 (w2 a f)) }), (7, 3, { v := some (u64 x) }), (7, 4, { v := some (u64 (w3 a f x)) }), (8, 3, { v := some (u64 y) }), (8, 4, { v := some (u64 (w4 a f x y)) })]) []
        [u64 (putI (w3 a f x) 48 8 y) = u64 (w4 a f x y), U64 (w3 a f x), fld 48 8, U64 y, u64 (IntKind.u64.wrap y) = u64 y,
         u64 (putI (w2 a f) 40 8 x) = u64 (w3 a f x), U64 (w2 a f), fld 40 8, U64 x, u64 (IntKind.u64.wrap x) = u64 x,
         u64 (putI (w1 a) 32 4 f) = u64 (w2 a f), U64 (w1 a), fld 32 4, U64 f, u64 (IntKind.u64.wrap f) = u64 f,
         u64 (putI 0 0 32 (a % 18446744073709551616)) = u64 (w1 a), U64 0, fld 0 32, U64 (a % 18446744073709551616), u64 (IntKind.u64.wrap a) = u64 (a % 18446744073709551616),
         bb (rightB false 0 f a x y) true, I64 0, I64 a] (by kernel_rfl)
        ⟨u_eq q4, (show 0 ≤ a % 4294967296 + f * 4294967296 + x * 1099511627776 ∧ a % 4294967296 + f * 4294967296 + x * 1099511627776 ≤ _ by omega), (by unfold fld; decide), (by show 0 ≤ y ∧ y ≤ _; omega), u_eq (wrapu_id (by omega) (by omega)),
         u_eq q3, (show 0 ≤ a % 4294967296 + f * 4294967296 ∧ a % 4294967296 + f * 4294967296 ≤ _ by omega), (by unfold fld; decide), (by show 0 ≤ x ∧ x ≤ _; omega), u_eq (wrapu_id (by omega) (by omega)),
         u_eq q2, (show 0 ≤ a % 4294967296 ∧ a % 4294967296 ≤ _ by omega), (by unfold fld; decide), (by show 0 ≤ f ∧ f ≤ _; omega), u_eq (wrapu_id (by omega) (by omega)),
         u_eq q1, (by decide), (by unfold fld; decide), (show 0 ≤ a % 18446744073709551616 ∧ a % 18446744073709551616 ≤ _ by omega), u_eq c1, bb_of hr, (by decide), ha, trivial⟩
    · rw [show packS true v f a x y = 9223372036854775808 + v % 4294967296 from by simp only [packS, packI, hr, cond_true]]
      have c1 : IntKind.u64.wrap v = v % 18446744073709551616 := by rw [IntKind.wrap_u64]
      have q1 : putI 9223372036854775808 0 32 (v % 18446744073709551616) = 9223372036854775808 + v % 4294967296 := by rw [putI_leaf _ (by omega)]; omega
      exact calls_runO hm (auto0_ok t_rright_ok) (hints [(1, 1, ht true), (4, 2, { v := some (u64 (v % 18446744073709551616)) }), (4, 3, { v := some (u64 (9223372036854775808 + v % 4294967296)) })]) []
        [u64 (putI 9223372036854775808 0 32 (v % 18446744073709551616)) = u64 (9223372036854775808 + v % 4294967296), U64 9223372036854775808, fld 0 32, U64 (v % 18446744073709551616), u64 (IntKind.u64.wrap v) = u64 (v % 18446744073709551616), bb (rightB true v f a x y) true, I64 v, I64 a] (by kernel_rfl)
        ⟨u_eq q1, by decide, (by unfold fld; decide), (show 0 ≤ v % 18446744073709551616 ∧ v % 18446744073709551616 ≤ _ by omega), u_eq c1, bb_of hr, hv, ha, trivial⟩
  · exact absurd h (by simp)
noncomputable def t_pack : Sums := upd t_rright 59 (some (sumOf pack_F))
theorem t_pack_ok : SumsOK Try.prog t_pack := sums_cons t_rright_ok pack_sum
end Go.Proofs.Ythbaccmhdffjdaa.NodeE
namespace Go.Proofs.Ythbaccmhdffjdaa.NodeE
open Go Go.RowKit Ev BitLib BitsA NodeB
theorem and_low (x : Int) (k : Nat) (m n : Int) (h0 : 0 ≤ x) (h1 : x ≤ 18446744073709551615) (hk : k ≤ 64) (hm : ((2 ^ k - 1 : Nat) : Int) = m) (hn : ((2 ^ k : Nat) : Int) = n) : Go.bits .and .u64 x m = x % n := by
  obtain ⟨x, rfl⟩ := Int.eq_ofNat_of_zero_le h0
  rw [← hm, ← hn, and_low_u64 x k (by omega) hk]
  simp
theorem or_add (x y : Int) (k : Nat) (n : Int) (hn : ((2 ^ k : Nat) : Int) = n) (h0 : 0 ≤ x) (h1 : x < n) (h2 : 0 ≤ y) (h3 : y * n ≤ 18446744073709551615) (h4 : x ≤ 18446744073709551615) : Go.bits .or .u64 x (y * n) = x + y * n := by
  obtain ⟨x, rfl⟩ := Int.eq_ofNat_of_zero_le h0
  obtain ⟨y, rfl⟩ := Int.eq_ofNat_of_zero_le h2
  rw [← hn] at h1 h3 ⊢
  have e : (y : Int) * ((2 ^ k : Nat) : Int) = ((2 ^ k * y : Nat) : Int) := by rw [Int.natCast_mul, Int.mul_comm]
  rw [e] at h3 ⊢
  rw [u64_or_nat _ _ (by omega) (by omega), Nat.or_comm, ← Nat.two_pow_add_eq_or_of_lt (by omega)]
  omega
theorem or_top (x : Int) (h0 : 0 ≤ x) (h1 : x < 4294967296) : Go.bits .or .u64 9223372036854775808 x = 9223372036854775808 + x := by
  obtain ⟨x, rfl⟩ := Int.eq_ofNat_of_zero_le h0
  have e : (9223372036854775808 : Int) = ((2 ^ 32 * 2147483648 : Nat) : Int) := rfl
  rw [e, u64_or_nat _ _ (by decide) (by omega), ← Nat.two_pow_add_eq_or_of_lt (by omega)]
  omega
def rpack_F : List Value → Option (Value × List Prop)
  | [.agg ⟨[.bool l, .int .i64 v, .int .i64 f, .int .i64 a, .int .i64 x, .int .i64 y]⟩] => some (.int .u64 (packS l v f a x y), [I64 v, I64 a])
  | _ => none
theorem rpack_sum : SumOK Try.prog 41 (sumOf rpack_F) := by
  refine sumOf_ok (en Try.func41 rfl) fun args v ob h hob => ?_
  unfold rpack_F at h
  split at h
  · rename_i l v f a x y
    obtain ⟨rfl, rfl⟩ := Prod.mk.inj (Option.some.inj h)
    clear h
    have hv := hob (I64 v) (by simp)
    have ha := hob (I64 a) (by simp)
    cases hr : rightB l v f a x y
    · rw [show packS l v f a x y = 0 from by simp only [packS, hr, cond_false]]
      exact calls_runO hm (auto0_ok t_pack_ok) (hints [(1, 1, ht false)]) [] [bb (rightB l v f a x y) false, I64 v, I64 a] (by kernel_rfl) ⟨bb_of hr, hv, ha, trivial⟩
    cases l
    · rw [show packS false v f a x y = w4 a f x y from by simp only [packS, packI, hr, cond_true, cond_false]]
      obtain ⟨rfl, f0, f1, a0, ⟨x0, x1⟩, y0, y1⟩ := right_inner hr
      have c1 : IntKind.u64.wrap a = a % 18446744073709551616 := by rw [IntKind.wrap_u64]
      have q1 : Go.bits .and .u64 (a % 18446744073709551616) 4294967295 = w1 a := by rw [and_low (a % 18446744073709551616) 32 4294967295 4294967296 (by omega) (by omega) (by decide) rfl rfl]; show _ = a % 4294967296; omega
      have q2 : Go.bits .or .u64 (w1 a) (f * 4294967296) = w2 a f := or_add (w1 a) f 32 4294967296 rfl (show 0 ≤ a % 4294967296 by omega) (show a % 4294967296 < _ by omega) f0 (by omega) (show a % 4294967296 ≤ _ by omega)
      have q3 : Go.bits .or .u64 (w2 a f) (x * 1099511627776) = w3 a f x := or_add (w2 a f) x 40 1099511627776 rfl (show 0 ≤ a % 4294967296 + f * 4294967296 by omega) (show a % 4294967296 + f * 4294967296 < _ by omega) (by omega) (by omega) (show a % 4294967296 + f * 4294967296 ≤ _ by omega)
      have q4 : Go.bits .or .u64 (w3 a f x) (y * 281474976710656) = w4 a f x y := or_add (w3 a f x) y 48 281474976710656 rfl (show 0 ≤ a % 4294967296 + f * 4294967296 + x * 1099511627776 by omega) (show a % 4294967296 + f * 4294967296 + x * 1099511627776 < _ by omega) (by omega) (by omega) (show a % 4294967296 + f * 4294967296 + x * 1099511627776 ≤ _ by omega)
      exact calls_runO hm (auto0_ok t_pack_ok) (hints [(1, 1, ht true), (5, 2, { v := some (u64 (a % 18446744073709551616)) }), (5, 3, { v := some (u64 (w1 a)) }), (5, 6, { v := some (u64 f) }), (5, 7, { v := some (u64 (f * 4294967296)) }), (5, 8, { v := some (u64 (w2 a f)) }),
          (5, 11, { v := some (u64 x) }), (5, 12, { v := some (u64 (x * 1099511627776)) }), (5, 13, { v := some (u64 (w3 a f x)) }), (5, 16, { v := some (u64 y) }), (5, 17, { v := some (u64 (y * 281474976710656)) }), (5, 18, { v := some (u64 (w4 a f x y)) })]) []
        [u64 (Go.bits .or .u64 (w3 a f x) (y * 281474976710656)) = u64 (w4 a f x y), u64 (IntKind.u64.wrap (y * 2 ^ 48)) = u64 (y * 281474976710656), u64 (IntKind.u64.wrap y) = u64 y,
         u64 (Go.bits .or .u64 (w2 a f) (x * 1099511627776)) = u64 (w3 a f x), u64 (IntKind.u64.wrap (x * 2 ^ 40)) = u64 (x * 1099511627776), u64 (IntKind.u64.wrap x) = u64 x,
         u64 (Go.bits .or .u64 (w1 a) (f * 4294967296)) = u64 (w2 a f), u64 (IntKind.u64.wrap (f * 2 ^ 32)) = u64 (f * 4294967296), u64 (IntKind.u64.wrap f) = u64 f,
         u64 (Go.bits .and .u64 (a % 18446744073709551616) 4294967295) = u64 (w1 a), u64 (IntKind.u64.wrap a) = u64 (a % 18446744073709551616),
         bb (rightB false 0 f a x y) true, I64 0, I64 a] (by kernel_rfl)
        ⟨u_eq q4, u_eq (by rw [show (2 : Int) ^ 48 = 281474976710656 from rfl]; exact wrapu_id (by omega) (by omega)), u_eq (wrapu_id (by omega) (by omega)),
         u_eq q3, u_eq (by rw [show (2 : Int) ^ 40 = 1099511627776 from rfl]; exact wrapu_id (by omega) (by omega)), u_eq (wrapu_id (by omega) (by omega)),
         u_eq q2, u_eq (by rw [show (2 : Int) ^ 32 = 4294967296 from rfl]; exact wrapu_id (by omega) (by omega)), u_eq (wrapu_id (by omega) (by omega)),
         u_eq q1, u_eq c1, bb_of hr, (by decide), ha, trivial⟩
    · rw [show packS true v f a x y = 9223372036854775808 + v % 4294967296 from by simp only [packS, packI, hr, cond_true]]
      have c1 : IntKind.u64.wrap v = v % 18446744073709551616 := by rw [IntKind.wrap_u64]
      have q1 : Go.bits .and .u64 (v % 18446744073709551616) 4294967295 = v % 4294967296 := by rw [and_low (v % 18446744073709551616) 32 4294967295 4294967296 (by omega) (by omega) (by decide) rfl rfl]; omega
      have q2 : Go.bits .or .u64 9223372036854775808 (v % 4294967296) = 9223372036854775808 + v % 4294967296 := or_top _ (by omega) (by omega)
      exact calls_runO hm (auto0_ok t_pack_ok) (hints [(1, 1, ht true), (4, 2, { v := some (u64 (v % 18446744073709551616)) }), (4, 3, { v := some (u64 (v % 4294967296)) }), (4, 4, { v := some (u64 (9223372036854775808 + v % 4294967296)) })]) []
        [u64 (Go.bits .or .u64 9223372036854775808 (v % 4294967296)) = u64 (9223372036854775808 + v % 4294967296), u64 (Go.bits .and .u64 (v % 18446744073709551616) 4294967295) = u64 (v % 4294967296), u64 (IntKind.u64.wrap v) = u64 (v % 18446744073709551616), bb (rightB true v f a x y) true, I64 v, I64 a] (by kernel_rfl)
        ⟨u_eq q2, u_eq q1, u_eq c1, bb_of hr, hv, ha, trivial⟩
  · exact absurd h (by simp)
noncomputable def t_rpack : Sums := upd t_pack 41 (some (sumOf rpack_F))
theorem t_rpack_ok : SumsOK Try.prog t_rpack := sums_cons t_pack_ok rpack_sum
end Go.Proofs.Ythbaccmhdffjdaa.NodeE
namespace Go.Proofs.Ythbaccmhdffjdaa.NodeE
open Go Go.RowKit Ev BitLib BitsA NodeB
abbrev HB (b : Blk) : Heap := upd (fun _ => none) 0 (some b)
noncomputable def getS : List Value → Heap → Nat → Option Res := fun args H nm =>
 match args with
 | [.int .i64 a, .int .i64 k, .pointer (some ⟨b, 0, none⟩)] =>
  match H b with
  | some (.cells [.int .u64 w] ty) => some ⟨i64 (getI w a k), [], [b], [U64 w, fld a k, getI w a k ≤ 9223372036854775807]⟩
  | _ => none
 | _ => none
theorem getI_nn (w a k : Int) : 0 ≤ getI w a k := Int.emod_nonneg _ (by have : (0 : Int) < 2 ^ k.toNat := Int.pow_pos (by decide); omega)
theorem get_spec (w a k : Int) (ty : TypeId) (hw : U64 w) (hk : fld a k) (hr : getI w a k ≤ 9223372036854775807) :
  ∃ H', CallSpec Try.prog 58 [i64 a, i64 k, .pointer (some ⟨0, 0, none⟩)] (HB (.cells [u64 w] ty)) 1 (i64 (getI w a k)) H' ∧ H' 0 = some (.cells [u64 w] ty) := by
 let ob : List Prop := [i64 (IntKind.i64.wrap (getI w a k)) = i64 (getI w a k), U64 w, fld a k]
 have hob : all ob := by
  refine ⟨?_, hw, hk, trivial⟩
  have := getI_nn w a k
  rw [wrap_id (show I64 _ from ⟨by omega, hr⟩)]
 have hspec := spec_run (f := 58) (fn := Try.f58) (args := [i64 a, i64 k, .pointer (some ⟨0, 0, none⟩)]) (H0 := HB (.cells [u64 w] ty)) (nx := 1) hm (auto0_ok t_rpack_ok)
  (hint := hints [(1, 4, { v := some (i64 (getI w a k)) })]) (ws := []) Try.func58 rfl (v := i64 (getI w a k)) (by kernel_rfl)
  (cast (by kernel_rfl : all ob = all (oOb (runH Try.prog (auto0 t_rpack) (hints [(1, 4, { v := some (i64 (getI w a k)) })]) [] Try.f58 _ [i64 a, i64 k, .pointer (some ⟨0, 0, none⟩)] (HB (.cells [u64 w] ty)) 1))) hob)
 refine ⟨_, hspec, ?_⟩
 kernel_rfl
theorem get_sum : SumOK Try.prog 58 getS := by
 refine ⟨en Try.func58 rfl, ?_, ?_⟩
 ·intro args H nm r hr hob M w0 g B W hH hargs hn
  unfold getS at hr
  split at hr
  ·rename_i a k b
   split at hr
   ·rename_i w ty hb
    simp only [Option.some.injEq] at hr
    subst hr
    obtain ⟨H', hs, h0⟩ := get_spec w a k ty (hob _ (by simp)) (hob _ (by simp)) (hob _ (by simp))
    have := spec_calls (old := [(0, b)]) (new := []) (nm := nm) hs (by simp) (by simp) (fun j k' h => by
      simp at h; obtain ⟨rfl, rfl⟩ := h
      exact ⟨by omega, _, hb, by simp [HB, upd_self], fun c hc => by simp at hc; subst hc; rfl⟩)
     (fun j b' h => by
      by_cases e : j = 0
      ·subst e; exact ⟨b, by simp⟩
      ·simp [HB, upd_ne _ _ e] at h)
     (fun m k h => by simp at h)
     (fun j k' h b' hb' => by
      simp at h; obtain ⟨rfl, rfl⟩ := h
      rw [h0] at hb'; simp at hb'; subst hb'
      exact ⟨fun c hc => by simp at hc; subst hc; rfl, fun _ => ⟨.cells [u64 w] ty, by simp [HB, upd_self], rfl⟩⟩)
     (fun g1 g2 _ => rfl)
     (fun u hu g1 g2 hg => by
      rcases List.mem_cons.1 hu with rfl | hu
      ·exact (ren_gnd g1 rfl).trans (ren_gnd g2 rfl).symm
      rcases List.mem_cons.1 hu with rfl | hu
      ·exact (ren_gnd g1 rfl).trans (ren_gnd g2 rfl).symm
      ·simp at hu; subst hu
       have := hg 0 b (by simp)
       show Value.pointer (some ⟨g1.blk 0, g1.base 0 + 0, none⟩) = Value.pointer (some ⟨g2.blk 0, g2.base 0 + 0, none⟩)
       rw [this.1, this.2.1])
     hH hn
    refine this.mono ?_
    rintro e w' ⟨g', h1, h2, h3, h4⟩
    refine ⟨g', h1, ?_, h3, h4⟩
    have e1 : apU (usOf ([(0, b)] ++ []) H') H = H := by
     simp only [List.append_nil, usOf, List.map_cons, List.map_nil, h0, apU]
     funext i
     by_cases e : i = b
     ·subst e; rw [upd_self, hb]
     ·rw [upd_ne _ _ e]
    rw [e1] at h2; exact h2
   ·simp at hr
  ·simp at hr
 ·intro args H nm r hr H' hH'
  unfold getS at hr ⊢
  split at hr
  ·rename_i a k b
   split at hr
   ·rename_i w ty hb
    simp only [Option.some.injEq] at hr
    subst hr
    have : H' b = H b := hH' b (by simp)
    simp only [this, hb]
   ·simp at hr
  ·simp at hr
noncomputable def t_get : Sums := upd t_rpack 58 (some getS)
theorem t_get_ok : SumsOK Try.prog t_get := sums_cons t_rpack_ok get_sum
end Go.Proofs.Ythbaccmhdffjdaa.NodeE
namespace Go.Proofs.Ythbaccmhdffjdaa.NodeE
open Go Go.RowKit Ev BitLib BitsA NodeB
def lfB (w : Int) : Bool := decide (9223372036854775808 ≤ w)
abbrev uF (w : Int) : Int := getI w 32 4
abbrev uX (w : Int) : Int := getI w 40 8
abbrev uY (w : Int) : Int := getI w 48 8
def pkB (w : Int) : Int := bif lfB w then packS true (low32 w) 0 0 0 0 else packS false 0 (uF w) (low32 w) (uX w) (uY w)
def okB (w : Int) : Bool := !(w == 0) && (pkB w == w)
def sV (w : Int) : Int := bif okB w && lfB w then low32 w else 0
def sF (w : Int) : Int := bif okB w && !lfB w then uF w else 0
def sA (w : Int) : Int := bif okB w && !lfB w then low32 w else 0
def sX (w : Int) : Int := bif okB w && !lfB w then uX w else 0
def sY (w : Int) : Int := bif okB w && !lfB w then uY w else 0
abbrev unp (w : Int) : Value := .tuple ⟨[nd (okB w && lfB w) (sV w) (sF w) (sA w) (sX w) (sY w), .bool (okB w)]⟩
theorem unp_no {w : Int} (h : okB w = false) : unp w = .tuple ⟨[nd false 0 0 0 0 0, .bool false]⟩ := by
  simp only [unp, sV, sF, sA, sX, sY, h, Bool.false_and, cond_false]
theorem unp_leaf {w : Int} (h : okB w = true) (hl : lfB w = true) : unp w = .tuple ⟨[nd true (low32 w) 0 0 0 0, .bool true]⟩ := by
  simp only [unp, sV, sF, sA, sX, sY, h, hl, Bool.and_self, Bool.not_true, Bool.and_false, cond_false, cond_true]
theorem unp_inner {w : Int} (h : okB w = true) (hl : lfB w = false) : unp w = .tuple ⟨[nd false 0 (uF w) (low32 w) (uX w) (uY w), .bool true]⟩ := by
  simp only [unp, sV, sF, sA, sX, sY, h, hl, Bool.and_self, Bool.not_false, Bool.and_false, cond_false, cond_true]
theorem get_63 {w : Int} (h : U64 w) : (getI w 63 1 == 0) = !lfB w := by
  have e : getI w 63 1 = w / 9223372036854775808 % 2 := rfl
  rw [e]
  have := h.1
  have := h.2
  cases hl : lfB w
  · have := of_decide_eq_false hl
    simp only [Bool.not_false, beq_iff_eq]; omega
  · have := of_decide_eq_true hl
    simp only [Bool.not_true, beq_eq_false_iff_ne]; omega
theorem low32_r (w : Int) : -2147483648 ≤ low32 w ∧ low32 w ≤ 2147483647 := by unfold low32; omega
theorem low32_i (w : Int) : I64 (low32 w) := by have := low32_r w; exact ⟨by omega, by omega⟩
theorem low32_mod (w : Int) : low32 (w % 4294967296) = low32 w := by unfold low32; omega
theorem uF_eq (w : Int) : uF w = w / 4294967296 % 16 := rfl
theorem uX_eq (w : Int) : uX w = w / 1099511627776 % 256 := rfl
theorem uY_eq (w : Int) : uY w = w / 281474976710656 % 256 := rfl
theorem pack_pos {l : Bool} {v f a x y : Int} (h : rightB l v f a x y = true) : 0 < packS l v f a x y := by
  unfold packS packI
  cases l
  · obtain ⟨rfl, f0, f1, a0, ⟨x0, x1⟩, y0, y1⟩ := right_inner h
    simp only [h, cond_true, cond_false]; omega
  · simp only [h, cond_true]; omega
theorem pack_no {l : Bool} {v f a x y : Int} (h : rightB l v f a x y = false) : packS l v f a x y = 0 := by
  simp only [packS, h, cond_false]
theorem fl (a k : Int) (h : (decide (0 ≤ a) && (decide (1 ≤ k) && decide (a + k ≤ 64))) = true) : fld a k := by
  simpa [fld] using h
theorem get_le (w a : Int) (k : Int) (m : Int) (hm : ((2 : Int) ^ k.toNat) = m) (h0 : 0 < m) (h : m ≤ 9223372036854775808) : getI w a k ≤ 9223372036854775807 := by
  have : getI w a k < m := by unfold getI; rw [hm]; exact Int.emod_lt_of_pos _ h0
  omega
abbrev z : Int := 0
def unpack_F : List Value → Option (Value × List Prop)
  | [.int .u64 w] => some (unp w, [U64 w])
  | _ => none
theorem unpack_sum : SumOK Try.prog 43 (sumOf unpack_F) := by
  refine sumOf_ok (en Try.func43 rfl) fun args v ob h hob => ?_
  unfold unpack_F at h
  split at h
  · rename_i w
    obtain ⟨rfl, rfl⟩ := Prod.mk.inj (Option.some.inj h)
    clear h
    have hw := hob (U64 w) (by simp)
    have h63 := get_63 hw
    have hi := low32_i w
    have g1 := get_le w 32 4 16 rfl (by decide) (by decide)
    have g2 := get_le w 40 8 256 rfl (by decide) (by decide)
    have g3 := get_le w 48 8 256 rfl (by decide) (by decide)
    have f0 : fld 63 1 := fl 63 1 rfl
    have f1 : fld 32 4 := fl 32 4 rfl
    have f2 : fld 40 8 := fl 40 8 rfl
    have f3 : fld 48 8 := fl 48 8 rfl
    cases hl : lfB w <;> rw [hl] at h63 <;> cases hz : w == 0
    · have hp : pkB w = packS false 0 (uF w) (low32 w) (uX w) (uY w) := by simp only [pkB, hl, cond_false]
      cases hk : packS false 0 (uF w) (low32 w) (uX w) (uY w) != w
      · have ho : okB w = true := by simp only [okB, hp, hz, Bool.not_false, Bool.true_and]; simpa using hk
        rw [unp_inner ho hl]
        exact calls_runO hm (auto0_ok t_get_ok) (hints [(3, 2, ht true), (6, 1, ht false), (6, 6, ht false)]) []
          [bb (packS false 0 (uF w) (low32 w) (uX w) (uY w) != w) false, I64 0, I64 (low32 w), bb (w == 0) false, U64 w, fld 48 8, getI w 48 8 ≤ 9223372036854775807, U64 w, fld 40 8, getI w 40 8 ≤ 9223372036854775807, U64 w, fld 32 4, getI w 32 4 ≤ 9223372036854775807,
           bb (getI w 63 1 == 0) true, U64 w, fld 63 1, U64 w] (by kernel_rfl) ⟨bb_of hk, by decide, hi, bb_of hz, hw, f3, g3, hw, f2, g2, hw, f1, g1, bb_of h63, hw, f0, hw, trivial⟩
      · have ho : okB w = false := by simp only [okB, hp, hz, Bool.not_false, Bool.true_and]; simpa using hk
        rw [unp_no ho]
        exact calls_runO hm (auto0_ok t_get_ok) (hints [(3, 2, ht true), (6, 1, ht false), (6, 6, ht true)]) []
          [bb (packS false 0 (uF w) (low32 w) (uX w) (uY w) != w) true, I64 0, I64 (low32 w), bb (w == 0) false, U64 w, fld 48 8, getI w 48 8 ≤ 9223372036854775807, U64 w, fld 40 8, getI w 40 8 ≤ 9223372036854775807, U64 w, fld 32 4, getI w 32 4 ≤ 9223372036854775807,
           bb (getI w 63 1 == 0) true, U64 w, fld 63 1, U64 w] (by kernel_rfl) ⟨bb_of hk, by decide, hi, bb_of hz, hw, f3, g3, hw, f2, g2, hw, f1, g1, bb_of h63, hw, f0, hw, trivial⟩
    · have ho : okB w = false := by simp only [okB, hz, Bool.not_true, Bool.false_and]
      rw [unp_no ho]
      exact calls_runO hm (auto0_ok t_get_ok) (hints [(3, 2, ht true), (6, 1, ht true)]) []
        [bb (w == 0) true, U64 w, fld 48 8, getI w 48 8 ≤ 9223372036854775807, U64 w, fld 40 8, getI w 40 8 ≤ 9223372036854775807, U64 w, fld 32 4, getI w 32 4 ≤ 9223372036854775807,
         bb (getI w 63 1 == 0) true, U64 w, fld 63 1, U64 w] (by kernel_rfl) ⟨bb_of hz, hw, f3, g3, hw, f2, g2, hw, f1, g1, bb_of h63, hw, f0, hw, trivial⟩
    · have hp : pkB w = packS true (low32 w) 0 0 0 0 := by simp only [pkB, hl, cond_true]
      cases hk : packS true (low32 w) 0 0 0 0 != w
      · have ho : okB w = true := by simp only [okB, hp, hz, Bool.not_false, Bool.true_and]; simpa using hk
        rw [unp_leaf ho hl]
        exact calls_runO hm (auto0_ok t_get_ok) (hints [(3, 2, ht false), (6, 1, ht false), (6, 6, ht false)]) []
          [bb (packS true (low32 w) 0 0 0 0 != w) false, I64 (low32 w), I64 0, bb (w == 0) false, bb (getI w 63 1 == 0) false, U64 w, fld 63 1, U64 w] (by kernel_rfl) ⟨bb_of hk, hi, by decide, bb_of hz, bb_of h63, hw, f0, hw, trivial⟩
      · have ho : okB w = false := by simp only [okB, hp, hz, Bool.not_false, Bool.true_and]; simpa using hk
        rw [unp_no ho]
        exact calls_runO hm (auto0_ok t_get_ok) (hints [(3, 2, ht false), (6, 1, ht false), (6, 6, ht true)]) []
          [bb (packS true (low32 w) 0 0 0 0 != w) true, I64 (low32 w), I64 0, bb (w == 0) false, bb (getI w 63 1 == 0) false, U64 w, fld 63 1, U64 w] (by kernel_rfl) ⟨bb_of hk, hi, by decide, bb_of hz, bb_of h63, hw, f0, hw, trivial⟩
    · have h1 := of_decide_eq_true hl
      have h2 := eq_of_beq hz
      omega
  · exact absurd h (by simp)
noncomputable def t_unpack : Sums := upd t_get 43 (some (sumOf unpack_F))
theorem t_unpack_ok : SumsOK Try.prog t_unpack := sums_cons t_get_ok unpack_sum
end Go.Proofs.Ythbaccmhdffjdaa.NodeE
namespace Go.Proofs.Ythbaccmhdffjdaa.NodeE
open Go Go.RowKit Ev BitLib BitsA NodeB
theorem shr63 {w : Int} (h : U64 w) : (w.fdiv (2 ^ 63) == 1) = lfB w := by
  have e : (2 : Int) ^ 63 = 9223372036854775808 := rfl
  have := h.1
  have := h.2
  rw [e, Int.fdiv_eq_ediv_of_nonneg _ (by decide)]
  cases hl : lfB w
  · have := of_decide_eq_false hl
    simp only [beq_eq_false_iff_ne]; omega
  · have := of_decide_eq_true hl
    simp only [beq_iff_eq]; omega
theorem i_eq {a b : Int} (h : a = b) : i64 a = i64 b := by rw [h]
theorem getI_le' (w a k m : Int) (hm : ((2 : Int) ^ k.toNat) = m) (h0 : 0 < m) (h : m ≤ 9223372036854775808) : IntKind.i64.wrap (getI w a k) = getI w a k :=
  wrap_id ⟨by have := getI_nn w a k; omega, get_le w a k m hm h0 h⟩
def runpack_F : List Value → Option (Value × List Prop)
  | [.int .u64 w] => some (unp w, [U64 w])
  | _ => none
theorem runpack_sum : SumOK Try.prog 46 (sumOf runpack_F) := by
  refine sumOf_ok (en Try.func46 rfl) fun args v ob h hob => ?_
  unfold runpack_F at h
  split at h
  · rename_i w
    obtain ⟨rfl, rfl⟩ := Prod.mk.inj (Option.some.inj h)
    clear h
    have hw := hob (U64 w) (by simp)
    have h63 := shr63 hw
    have hi := low32_i w
    have w0 := hw.1
    have w1' := hw.2
    have m0 : 0 ≤ w % 4294967296 ∧ w % 4294967296 < 4294967296 := by omega
    have a1 : u64 (Go.bits .and .u64 w 4294967295) = u64 (w % 4294967296) := u_eq (and_low w 32 4294967295 4294967296 hw.1 hw.2 (by decide) rfl rfl)
    have a2 : i64 (IntKind.i64.wrap (w % 4294967296)) = i64 (w % 4294967296) := i_eq (wrap_id ⟨by omega, by omega⟩)
    have a3 : i64 (low32 (w % 4294967296)) = i64 (low32 w) := i_eq (low32_mod w)
    have a4 : I64 (w % 4294967296) := ⟨by omega, by omega⟩
    have e1 : (2 : Int) ^ 32 = 4294967296 := rfl
    have e2 : (2 : Int) ^ 40 = 1099511627776 := rfl
    have e3 : (2 : Int) ^ 48 = 281474976710656 := rfl
    have b1 : u64 (Go.bits .and .u64 (w.fdiv (2 ^ 32)) 15) = u64 (uF w) := u_eq (by rw [e1, Int.fdiv_eq_ediv_of_nonneg _ (by decide), and_low _ 4 15 16 (by omega) (by omega) (by decide) rfl rfl]; rfl)
    have b2 : u64 (Go.bits .and .u64 (w.fdiv (2 ^ 40)) 255) = u64 (uX w) := u_eq (by rw [e2, Int.fdiv_eq_ediv_of_nonneg _ (by decide), and_low _ 8 255 256 (by omega) (by omega) (by decide) rfl rfl]; rfl)
    have b3 : u64 (Go.bits .and .u64 (w.fdiv (2 ^ 48)) 255) = u64 (uY w) := u_eq (by rw [e3, Int.fdiv_eq_ediv_of_nonneg _ (by decide), and_low _ 8 255 256 (by omega) (by omega) (by decide) rfl rfl]; rfl)
    have c1 : i64 (IntKind.i64.wrap (uF w)) = i64 (uF w) := i_eq (getI_le' w 32 4 16 rfl (by decide) (by decide))
    have c2 : i64 (IntKind.i64.wrap (uX w)) = i64 (uX w) := i_eq (getI_le' w 40 8 256 rfl (by decide) (by decide))
    have c3 : i64 (IntKind.i64.wrap (uY w)) = i64 (uY w) := i_eq (getI_le' w 48 8 256 rfl (by decide) (by decide))
    cases hl : lfB w <;> rw [hl] at h63
    · have hp : pkB w = packS false 0 (uF w) (low32 w) (uX w) (uY w) := by simp only [pkB, hl, cond_false]
      cases hr : rightB false 0 (uF w) (low32 w) (uX w) (uY w)
      · have ho : okB w = false := by
          simp only [okB, hp, pack_no hr]
          cases hz : w == 0
          · have := ne_of_beq_false hz
            simp; omega
          · rfl
        rw [unp_no ho]
        exact calls_runO hm (auto0_ok t_unpack_ok) (hints [(2, 2, ht false), (4, 1, { v := some (u64 (w % 4294967296)) }), (4, 2, { v := some (i64 (w % 4294967296)) }), (4, 3, { v := some (i64 (low32 w)) }), (4, 6, { v := some (u64 (uF w)) }), (4, 7, { v := some (i64 (uF w)) }), (4, 10, { v := some (u64 (uX w)) }), (4, 11, { v := some (i64 (uX w)) }), (4, 14, { v := some (u64 (uY w)) }), (4, 15, { v := some (i64 (uY w)) }), (5, 1, ht false)]) []
          [bb (rightB false 0 (uF w) (low32 w) (uX w) (uY w)) false, I64 0, I64 (low32 w), i64 (IntKind.i64.wrap (uY w)) = i64 (uY w), u64 (Go.bits .and .u64 (w.fdiv (2 ^ 48)) 255) = u64 (uY w), i64 (IntKind.i64.wrap (uX w)) = i64 (uX w), u64 (Go.bits .and .u64 (w.fdiv (2 ^ 40)) 255) = u64 (uX w), i64 (IntKind.i64.wrap (uF w)) = i64 (uF w), u64 (Go.bits .and .u64 (w.fdiv (2 ^ 32)) 15) = u64 (uF w),
           i64 (low32 (w % 4294967296)) = i64 (low32 w), I64 (w % 4294967296), i64 (IntKind.i64.wrap (w % 4294967296)) = i64 (w % 4294967296), u64 (Go.bits .and .u64 w 4294967295) = u64 (w % 4294967296), bb (w.fdiv (2 ^ 63) == 1) false] (by kernel_rfl) ⟨bb_of hr, by decide, hi, c3, b3, c2, b2, c1, b1, a3, a4, a2, a1, bb_of h63, trivial⟩
      · have hpos := pack_pos hr
        cases hk : packS false 0 (uF w) (low32 w) (uX w) (uY w) != w
        · have hk' : packS false 0 (uF w) (low32 w) (uX w) (uY w) = w := by simpa using hk
          have ho : okB w = true := by
            simp only [okB, hp, hk', beq_self_eq_true, Bool.and_true]
            simp; omega
          rw [unp_inner ho hl]
          exact calls_runO hm (auto0_ok t_unpack_ok) (hints [(2, 2, ht false), (4, 1, { v := some (u64 (w % 4294967296)) }), (4, 2, { v := some (i64 (w % 4294967296)) }), (4, 3, { v := some (i64 (low32 w)) }), (4, 6, { v := some (u64 (uF w)) }), (4, 7, { v := some (i64 (uF w)) }), (4, 10, { v := some (u64 (uX w)) }), (4, 11, { v := some (i64 (uX w)) }), (4, 14, { v := some (u64 (uY w)) }), (4, 15, { v := some (i64 (uY w)) }), (5, 1, ht true), (5, 7, ht false)]) []
            [bb (packS false 0 (uF w) (low32 w) (uX w) (uY w) != w) false, I64 0, I64 (low32 w), bb (rightB false 0 (uF w) (low32 w) (uX w) (uY w)) true, I64 0, I64 (low32 w), i64 (IntKind.i64.wrap (uY w)) = i64 (uY w), u64 (Go.bits .and .u64 (w.fdiv (2 ^ 48)) 255) = u64 (uY w), i64 (IntKind.i64.wrap (uX w)) = i64 (uX w), u64 (Go.bits .and .u64 (w.fdiv (2 ^ 40)) 255) = u64 (uX w), i64 (IntKind.i64.wrap (uF w)) = i64 (uF w), u64 (Go.bits .and .u64 (w.fdiv (2 ^ 32)) 15) = u64 (uF w),
             i64 (low32 (w % 4294967296)) = i64 (low32 w), I64 (w % 4294967296), i64 (IntKind.i64.wrap (w % 4294967296)) = i64 (w % 4294967296), u64 (Go.bits .and .u64 w 4294967295) = u64 (w % 4294967296), bb (w.fdiv (2 ^ 63) == 1) false] (by kernel_rfl) ⟨bb_of hk, by decide, hi, bb_of hr, by decide, hi, c3, b3, c2, b2, c1, b1, a3, a4, a2, a1, bb_of h63, trivial⟩
        · have ho : okB w = false := by
            simp only [okB, hp]
            have : packS false 0 (uF w) (low32 w) (uX w) (uY w) ≠ w := by simpa using hk
            simp [this]
          rw [unp_no ho]
          exact calls_runO hm (auto0_ok t_unpack_ok) (hints [(2, 2, ht false), (4, 1, { v := some (u64 (w % 4294967296)) }), (4, 2, { v := some (i64 (w % 4294967296)) }), (4, 3, { v := some (i64 (low32 w)) }), (4, 6, { v := some (u64 (uF w)) }), (4, 7, { v := some (i64 (uF w)) }), (4, 10, { v := some (u64 (uX w)) }), (4, 11, { v := some (i64 (uX w)) }), (4, 14, { v := some (u64 (uY w)) }), (4, 15, { v := some (i64 (uY w)) }), (5, 1, ht true), (5, 7, ht true)]) []
            [bb (packS false 0 (uF w) (low32 w) (uX w) (uY w) != w) true, I64 0, I64 (low32 w), bb (rightB false 0 (uF w) (low32 w) (uX w) (uY w)) true, I64 0, I64 (low32 w), i64 (IntKind.i64.wrap (uY w)) = i64 (uY w), u64 (Go.bits .and .u64 (w.fdiv (2 ^ 48)) 255) = u64 (uY w), i64 (IntKind.i64.wrap (uX w)) = i64 (uX w), u64 (Go.bits .and .u64 (w.fdiv (2 ^ 40)) 255) = u64 (uX w), i64 (IntKind.i64.wrap (uF w)) = i64 (uF w), u64 (Go.bits .and .u64 (w.fdiv (2 ^ 32)) 15) = u64 (uF w),
             i64 (low32 (w % 4294967296)) = i64 (low32 w), I64 (w % 4294967296), i64 (IntKind.i64.wrap (w % 4294967296)) = i64 (w % 4294967296), u64 (Go.bits .and .u64 w 4294967295) = u64 (w % 4294967296), bb (w.fdiv (2 ^ 63) == 1) false] (by kernel_rfl) ⟨bb_of hk, by decide, hi, bb_of hr, by decide, hi, c3, b3, c2, b2, c1, b1, a3, a4, a2, a1, bb_of h63, trivial⟩
    · have hp : pkB w = packS true (low32 w) 0 0 0 0 := by simp only [pkB, hl, cond_true]
      have hr : rightB true (low32 w) 0 0 0 0 = true := by
        have := low32_r w
        simp [rightB, fitB, this]
      have h1 := of_decide_eq_true hl
      cases hk : packS true (low32 w) 0 0 0 0 != w
      · have hk' : packS true (low32 w) 0 0 0 0 = w := by simpa using hk
        have ho : okB w = true := by
          simp only [okB, hp, hk', beq_self_eq_true, Bool.and_true]
          simp; omega
        rw [unp_leaf ho hl]
        exact calls_runO hm (auto0_ok t_unpack_ok) (hints [(2, 2, ht true), (3, 1, { v := some (u64 (w % 4294967296)) }), (3, 2, { v := some (i64 (w % 4294967296)) }), (3, 3, { v := some (i64 (low32 w)) }), (5, 1, ht true), (5, 7, ht false)]) []
          [bb (packS true (low32 w) 0 0 0 0 != w) false, I64 (low32 w), I64 0, bb (rightB true (low32 w) 0 0 0 0) true, I64 (low32 w), I64 0, i64 (low32 (w % 4294967296)) = i64 (low32 w), I64 (w % 4294967296), i64 (IntKind.i64.wrap (w % 4294967296)) = i64 (w % 4294967296), u64 (Go.bits .and .u64 w 4294967295) = u64 (w % 4294967296), bb (w.fdiv (2 ^ 63) == 1) true] (by kernel_rfl)
          ⟨bb_of hk, hi, by decide, bb_of hr, hi, by decide, a3, a4, a2, a1, bb_of h63, trivial⟩
      · have ho : okB w = false := by
          simp only [okB, hp]
          have : packS true (low32 w) 0 0 0 0 ≠ w := by simpa using hk
          simp [this]
        rw [unp_no ho]
        exact calls_runO hm (auto0_ok t_unpack_ok) (hints [(2, 2, ht true), (3, 1, { v := some (u64 (w % 4294967296)) }), (3, 2, { v := some (i64 (w % 4294967296)) }), (3, 3, { v := some (i64 (low32 w)) }), (5, 1, ht true), (5, 7, ht true)]) []
          [bb (packS true (low32 w) 0 0 0 0 != w) true, I64 (low32 w), I64 0, bb (rightB true (low32 w) 0 0 0 0) true, I64 (low32 w), I64 0, i64 (low32 (w % 4294967296)) = i64 (low32 w), I64 (w % 4294967296), i64 (IntKind.i64.wrap (w % 4294967296)) = i64 (w % 4294967296), u64 (Go.bits .and .u64 w 4294967295) = u64 (w % 4294967296), bb (w.fdiv (2 ^ 63) == 1) true] (by kernel_rfl)
          ⟨bb_of hk, hi, by decide, bb_of hr, hi, by decide, a3, a4, a2, a1, bb_of h63, trivial⟩
  · exact absurd h (by simp)
noncomputable def t_runpack : Sums := upd t_unpack 46 (some (sumOf runpack_F))
theorem t_runpack_ok : SumsOK Try.prog t_runpack := sums_cons t_unpack_ok runpack_sum
end Go.Proofs.Ythbaccmhdffjdaa.NodeE
namespace Go.Proofs.Ythbaccmhdffjdaa.Ev
open Go Go.RowKit
abbrev mk : Nat := Ev.mark
def intsOf (cs : List Value) (off n : Nat) : List Int := ((cs.drop off).take n).map intV
def IntRow (k : IntKind) (cs : List Value) (off n : Nat) : Prop := off + n ≤ cs.length ∧ ∀ j, j < n → cs[off + j]? = some (.int k ((intsOf cs off n).getD j 0))
theorem intsOf_len {cs : List Value} {off n : Nat} (h : off + n ≤ cs.length) : (intsOf cs off n).length = n := by simp [intsOf]; omega
theorem intRow_of (k : IntKind) (zs : List Int) : IntRow k (zs.map (Value.int k)) 0 zs.length ∧ intsOf (zs.map (Value.int k)) 0 zs.length = zs := by
 have h : intsOf (zs.map (Value.int k)) 0 zs.length = zs := by
  simp only [intsOf, List.drop_zero]
  rw [List.take_of_length_le (by simp), List.map_map]
  conv => rhs; rw [← List.map_id zs]
  exact List.map_congr_left fun x _ => rfl
 refine ⟨⟨by simp, fun j hj => ?_⟩, h⟩
 rw [h]
 simp [List.getD, List.getElem?_eq_getElem hj]
theorem readPart_one {P : Program} {ty : TypeId} (ha : aggT P ty = some false) {cs : List Value} {off : Nat} {v : Value} (h : cs[off]? = some v) (hl : leaf v = true) : readPart P ty cs off = some v := by
 have hlt : off < cs.length := (List.getElem?_eq_some_iff.1 h).1
 have he : cs[off] = v := (List.getElem?_eq_some_iff.1 h).2
 have : sub cs off 1 = some [v] := by
  rw [sub_of (by omega)]
  simp [List.drop_eq_getElem_cons hlt, he]
 simp [readPart, ha, this, hl]
theorem i64_id {z w : Int} (h : z = w) (h1 : -9223372036854775808 ≤ w) (h2 : w ≤ 9223372036854775807) : Value.int .i64 (IntKind.i64.wrap z) = Value.int .i64 w := by
 subst h; rw [wrap_id ⟨h1, h2⟩]
theorem i64_succ {i : Nat} (h : i < 9223372036854775807) : Value.int .i64 (IntKind.i64.wrap (Int.ofNat i.succ)) = Value.int .i64 (Int.ofNat i.succ) := by
 refine i64_id rfl ?_ ?_
 ·exact Int.le_trans (by decide) (Int.natCast_nonneg (i + 1))
 ·show ((i + 1 : Nat) : Int) ≤ _
  omega
end Go.Proofs.Ythbaccmhdffjdaa.Ev
namespace Go.Proofs.Ythbaccmhdffjdaa.Ev
open Go Go.RowKit
structure Elt (α : Type) where
 cells : α → List Value
 s : Nat
 of : List Value → α
 len : ∀ x, (cells x).length = s
 ofc : ∀ x, of (cells x) = x
 pl : ∀ x, ∀ c ∈ cells x, leafG c = true
namespace Elt
variable {α : Type} (e : Elt α)
def row (l : List α) : List Value := l.flatMap e.cells
def list (cs : List Value) (off n : Nat) : List α := (List.range n).map fun i => e.of ((cs.drop (off + i * e.s)).take e.s)
def Row (cs : List Value) (off n : Nat) : Prop := off + n * e.s ≤ cs.length ∧ ∀ i, i < n → (cs.drop (off + i * e.s)).take e.s = e.cells (e.of ((cs.drop (off + i * e.s)).take e.s))
variable {e}
theorem row_cons (x : α) (l : List α) : e.row (x :: l) = e.cells x ++ e.row l := by simp [row]
theorem row_app (l m : List α) : e.row (l ++ m) = e.row l ++ e.row m := by simp [row]
theorem row_len (l : List α) : (e.row l).length = l.length * e.s := by
 induction l with
 | nil => simp [row]
 | cons x l ih => rw [row_cons, List.length_append, ih, e.len]; simp [Nat.succ_mul]; omega
theorem row_pl (l : List α) : ∀ c ∈ e.row l, leafG c = true := by
 intro c hc
 obtain ⟨x, _, hx⟩ := List.mem_flatMap.1 hc
 exact e.pl x c hx
theorem row_drop (l : List α) (i : Nat) : (e.row l).drop (i * e.s) = e.row (l.drop i) := by
 induction l generalizing i with
 | nil => simp [row]
 | cons x l ih =>
  cases i with
  | zero => simp
  | succ i =>
   rw [row_cons, Nat.succ_mul, Nat.add_comm, ← List.drop_drop, List.drop_left' (e.len x), ih]
   simp
theorem row_take (l : List α) (i : Nat) : (e.row l).take (i * e.s) = e.row (l.take i) := by
 induction l generalizing i with
 | nil => simp [row]
 | cons x l ih =>
  cases i with
  | zero => simp [row]
  | succ i =>
   rw [row_cons, Nat.succ_mul, List.take_append, e.len, List.take_of_length_le (by rw [e.len]; omega), show i * e.s + e.s - e.s = i * e.s by omega, ih]
   rw [List.take_succ_cons, row_cons]
theorem row_at (l : List α) (tail : List Value) {i : Nat} {x : α} (h : l[i]? = some x) : ((e.row l ++ tail).drop (i * e.s)).take e.s = e.cells x := by
 have hlt := (List.getElem?_eq_some_iff.1 h).1
 have he := (List.getElem?_eq_some_iff.1 h).2
 have h1 : (i + 1) * e.s ≤ l.length * e.s := Nat.mul_le_mul_right _ hlt
 rw [Nat.succ_mul] at h1
 rw [List.drop_append_of_le_length (by rw [row_len]; omega), row_drop, List.drop_eq_getElem_cons hlt, he, row_cons, List.append_assoc, List.take_left' (e.len x)]
theorem canon (l : List α) (tail : List Value) : e.Row (e.row l ++ tail) 0 l.length ∧ e.list (e.row l ++ tail) 0 l.length = l := by
 refine ⟨⟨by rw [List.length_append, row_len]; omega, fun i hi => ?_⟩, ?_⟩
 ·rw [Nat.zero_add, row_at l tail (List.getElem?_eq_getElem hi), e.ofc]
 ·apply List.ext_getElem
  ·simp [list]
  ·intro i h1 h2
   simp only [list, List.getElem_map, List.getElem_range, Nat.zero_add]
   rw [row_at l tail (List.getElem?_eq_getElem h2), e.ofc]
theorem canon0 (l : List α) : e.Row (e.row l) 0 l.length ∧ e.list (e.row l) 0 l.length = l := by have := canon (e := e) l []; simpa using this
theorem list_len (cs : List Value) (off n : Nat) : (e.list cs off n).length = n := by simp [list]
theorem Row.get {cs : List Value} {off n : Nat} (h : e.Row cs off n) {i : Nat} {x : α} (hx : (e.list cs off n)[i]? = some x) : sub cs (off + i * e.s) e.s = some (e.cells x) := by
 have hlt := (List.getElem?_eq_some_iff.1 hx).1
 have he := (List.getElem?_eq_some_iff.1 hx).2
 rw [list_len] at hlt
 have h1 : (i + 1) * e.s ≤ n * e.s := Nat.mul_le_mul_right _ hlt
 rw [Nat.succ_mul] at h1
 have h0 := h.1
 rw [sub_of (by omega), h.2 i hlt]
 simp [list] at he
 rw [he]
theorem Row.read {P : Program} {ty : TypeId} (ha : aggT P ty = some true) (hs : sizeOfT P ty = some e.s) {cs : List Value} {off n : Nat} (h : e.Row cs off n) {i : Nat} {x : α} (hx : (e.list cs off n)[i]? = some x) : readPart P ty cs (off + i * e.s) = some (.agg ⟨e.cells x⟩) := by
 simp only [readPart, ha, hs, h.get hx]
theorem Row.read1 {P : Program} {ty : TypeId} (ha : aggT P ty = some false) (hs : e.s = 1) {cs : List Value} {off n : Nat} (h : e.Row cs off n) {i : Nat} {x : α} (hx : (e.list cs off n)[i]? = some x) {v : Value} (hv : e.cells x = [v]) (hl : leaf v = true) : readPart P ty cs (off + i) = some v := by
 have := h.get hx
 rw [hs, Nat.mul_one, hv] at this
 simp [readPart, ha, this, hl]
theorem Row.take {cs : List Value} {off n m : Nat} (h : e.Row cs off n) (hm : m ≤ n) : e.Row cs off m ∧ e.list cs off m = (e.list cs off n).take m := by
 have h1 : m * e.s ≤ n * e.s := Nat.mul_le_mul_right _ hm
 refine ⟨⟨by have := h.1; omega, fun i hi => h.2 i (by omega)⟩, ?_⟩
 simp only [list, ← List.map_take, List.take_range, Nat.min_eq_left hm]
end Elt
section
variable {α : Type} {e : Elt α}
theorem appOK {L new : List α} {ty : TypeId} {own : Option Blk} {n m size bytes : Nat} {src res : List Value} (hown : own = some (.vec (e.row L) ty size)) (hs : size = e.s) (hm : m = new.length) (hsrc : src = e.row new) (hn : n ≤ L.length) (hres : res = e.row (L.take n ++ new))
  (h1 : 1 ≤ m) (hb : n + m ≤ 16777216) (hby : (n + m) * bytes ≤ 140737488355328) : AppOK own n mk size bytes m src 0 res := by
 subst hown
 subst hs
 subst hm
 subst hsrc
 subst hres
 refine ⟨e.row (L.take n), e.row new, ?_, ?_, h1, hb, hby, Elt.row_app _ _, rfl, ?_, (Elt.row_take L n).symm⟩
 ·rw [sub_of (by rw [Elt.row_len]; omega), List.drop_zero, List.take_of_length_le (by rw [Elt.row_len]; omega)]
 ·exact allB_iff.2 fun c hc => leaf_of_leafG (Elt.row_pl _ c hc)
 ·rw [Elt.row_len]; exact Nat.mul_le_mul_right _ hn
theorem appOK_nil {new : List α} {m size bytes : Nat} {src res : List Value} (hs : size = e.s) (hm : m = new.length) (hsrc : src = e.row new) (hres : res = e.row new)
  (h1 : 1 ≤ m) (hb : m ≤ 16777216) (hby : m * bytes ≤ 140737488355328) : AppOK none 0 0 size bytes m src 0 res := by
 subst hs
 subst hm
 subst hsrc
 subst hres
 refine ⟨[], e.row new, ?_, ?_, h1, by omega, by rw [Nat.zero_add]; exact hby, rfl, rfl, rfl, rfl⟩
 ·rw [sub_of (by rw [Elt.row_len]; omega), List.drop_zero, List.take_of_length_le (by rw [Elt.row_len]; omega)]
 ·exact allB_iff.2 fun c hc => leaf_of_leafG (Elt.row_pl _ c hc)
theorem slOK_pre {size k n h : Nat} {i : Int} {cs : List Value} {ty : TypeId} (hi : i = (h : Int)) (hh : h ≤ n) (hs : 1 ≤ size) (hc : n * size ≤ cs.length) :
  SlOK size k 0 n mk none (some i) (some (.vec cs ty size)) (.slice (some ⟨k, 0, none⟩) h mk) :=
 ⟨0, h, rfl, hi, Nat.zero_le _, hh, Or.inl ⟨Nat.le_refl _, ⟨cs, ty, rfl, hs, by rw [Nat.sub_self, Nat.zero_add]; exact hc⟩, Or.inl rfl, by simp⟩⟩
theorem read_row {P : Program} {ty : TypeId} (ha : aggT P ty = some true) (hs : sizeOfT P ty = some e.s) {L : List α} {i : Nat} {x : α} (h : L[i]? = some x) : readPart P ty (e.row L) (0 + (Int.ofNat i).toNat * e.s) = some (.agg ⟨e.cells x⟩) := by
 have := (Elt.canon0 (e := e) L).1.read (P := P) (ty := ty) ha hs (i := i) (x := x) (by rw [(Elt.canon0 L).2]; exact h)
 exact this
end
def eInt : Elt Int := ⟨fun z => [.int .i64 z], 1, fun cs => match cs with | [.int _ z] => z | _ => 0, fun _ => rfl, fun _ => rfl, fun x c hc => by simp at hc; subst hc; rfl⟩
def eWord : Elt Int := ⟨fun z => [.int .u64 z], 1, fun cs => match cs with | [.int _ z] => z | _ => 0, fun _ => rfl, fun _ => rfl, fun x c hc => by simp at hc; subst hc; rfl⟩
structure Bx where
 a0 : Int
 b0 : Int
 a1 : Int
 b1 : Int
 a2 : Int
 b2 : Int
 a3 : Int
 b3 : Int
 a4 : Int
 b4 : Int
deriving DecidableEq
def Bx.cs (x : Bx) : List Value := [.int .i64 x.a0, .int .i64 x.b0, .int .i64 x.a1, .int .i64 x.b1, .int .i64 x.a2, .int .i64 x.b2, .int .i64 x.a3, .int .i64 x.b3, .int .i64 x.a4, .int .i64 x.b4]
def eBox : Elt Bx := ⟨Bx.cs, 10, fun cs => match cs with | [.int _ a0, .int _ b0, .int _ a1, .int _ b1, .int _ a2, .int _ b2, .int _ a3, .int _ b3, .int _ a4, .int _ b4] => ⟨a0, b0, a1, b1, a2, b2, a3, b3, a4, b4⟩ | _ => ⟨0, 0, 0, 0, 0, 0, 0, 0, 0, 0⟩, fun _ => rfl, fun _ => rfl, fun x c hc => by
 simp [Bx.cs] at hc
 rcases hc with rfl | rfl | rfl | rfl | rfl | rfl | rfl | rfl | rfl | rfl <;> rfl⟩
structure Pc where
 box : Bx
 val : Int
deriving DecidableEq
def ePc : Elt Pc := ⟨fun x => x.box.cs ++ [.int .i64 x.val], 11, fun cs => match cs with | [.int _ a0, .int _ b0, .int _ a1, .int _ b1, .int _ a2, .int _ b2, .int _ a3, .int _ b3, .int _ a4, .int _ b4, .int _ v] => ⟨⟨a0, b0, a1, b1, a2, b2, a3, b3, a4, b4⟩, v⟩ | _ => ⟨⟨0, 0, 0, 0, 0, 0, 0, 0, 0, 0⟩, 0⟩, fun _ => rfl, fun _ => rfl, fun x c hc => by
 simp [Bx.cs] at hc
 rcases hc with rfl | rfl | rfl | rfl | rfl | rfl | rfl | rfl | rfl | rfl | rfl <;> rfl⟩
end Go.Proofs.Ythbaccmhdffjdaa.Ev
namespace Go.Proofs.Ythbaccmhdffjdaa.PickE
open Go Go.RowKit Ev
theorem pick0 (cs : List Value) (off n c : Nat) (i : Int)  {E : Env} (hE : EnvOK E Try.prog Try.f44 2 1 (.int .i64 0) [] []) (hob : all ([Back (Value.int IntKind.i64 ((0 : Int))) (Value.int IntKind.i64 ((0 : Int))) [] [] [], ((n : Int) == (0 : Int)) = true])) : Sat E [.code (bodyOf Try.f44)] (st0 Try.f44 [.slice (some ⟨0, off, none⟩) n c, .int .i64 i] (roRows [cs]) 1) :=
 by_ret (T := auto0 t_none) (h := hints []) (ws := [.b true]) (nx' := 1) hE hm (auto0_ok t_none_ok) (by omega) (by simp) (by simp) (by kernel_rfl) hob
theorem pick1 (cs : List Value) (off n c : Nat) (i z : Int)  {E : Env} (hE : EnvOK E Try.prog Try.f44 2 1 (.int .i64 z) [] []) (hob : all ([Back (Value.int IntKind.i64 z) (Value.int IntKind.i64 z) [] [] [], readPart Try.prog 3 cs (off + (i.tmod ((n : Int))).toNat * 1) = some (Value.int IntKind.i64 z), (0 : Int) ≤ i.tmod ((n : Int)) ∧ i.tmod ((n : Int)) < (n : Int), (n : Int) ≠ (0 : Int), ((n : Int) == (0 : Int)) = false])) : Sat E [.code (bodyOf Try.f44)] (st0 Try.f44 [.slice (some ⟨0, off, none⟩) n c, .int .i64 i] (roRows [cs]) 1) :=
 by_ret (T := auto0 t_none) (h := hints [(3, 4, { p := true }), (3, 5, { p := true }), (3, 6, { o := some (.int .i64 z) })]) (ws := [.b false]) (nx' := 1) hE hm (auto0_ok t_none_ok) (by omega) (by simp) (by simp) (by kernel_rfl) hob
theorem pickN (i : Int)  {E : Env} (hE : EnvOK E Try.prog Try.f44 2 0 (.int .i64 0) [] []) (hob : all ([Back (Value.int IntKind.i64 ((0 : Int))) (Value.int IntKind.i64 ((0 : Int))) [] [] []])) : Sat E [.code (bodyOf Try.f44)] (st0 Try.f44 [.slice none 0 0, .int .i64 i] (roRows []) 0) :=
 by_ret (T := auto0 t_none) (h := hints []) (ws := []) (nx' := 0) hE hm (auto0_ok t_none_ok) (by omega) (by simp) (by simp) (by kernel_rfl) hob
def pickI (zs : List Int) (i : Int) : Int := zs.getD (Int.tmod i zs.length).toNat 0
def pick_F : RoF := fun xs css =>
 match xs, css with
 | [.slice none 0 0, .int .i64 i], [] => some (.int .i64 (pickI [] i), [], [])
 | [.slice (some ⟨0, off, none⟩) n c, .int .i64 i], [cs] => some (.int .i64 (pickI (intsOf cs off n) i), [], [IntRow .i64 cs off n, 0 ≤ i])
 | _, _ => none
theorem pick_sum : SumOK Try.prog 44 (roSum pick_F) := by
 refine roSum_ok (en Try.func44 rfl) ?_ (fun xs css r h => ?_)
 ·intro xs css v blks ob h hob hpl hl
  unfold pick_F at h
  split at h
  ·rename_i i
   simp only [Option.some.injEq, Prod.mk.injEq] at h
   obtain ⟨rfl, rfl, rfl⟩ := h
   refine ⟨by simp, by simp, fun j hj => by simp [nms, nm1, nm0] at hj, ?_⟩
   refine spec_of_sat Try.func44 rfl fun E hE => ?_
   exact pickN i hE ⟨⟨rfl, rfl⟩, trivial⟩
  ·rename_i off n c i cs
   simp only [Option.some.injEq, Prod.mk.injEq] at h
   obtain ⟨rfl, rfl, rfl⟩ := h
   refine ⟨by simp, by simp, fun j hj => by simp [nms, nm1, nm0] at hj, ?_⟩
   obtain ⟨h1, h2⟩ := hob _ (List.mem_cons_self ..)
   have h0 : 0 ≤ i := hob _ (by simp)
   refine spec_of_sat Try.func44 rfl fun E hE => ?_
   have hlen := intsOf_len h1
   by_cases hn : n = 0
   ·subst hn
    have e : pickI (intsOf cs off 0) i = 0 := by simp [pickI, intsOf]
    rw [e] at hE
    exact pick0 cs off 0 c i hE ⟨⟨rfl, rfl⟩, rfl, trivial⟩
   ·have hm0 : 0 ≤ i.tmod (n : Int) := Int.tmod_nonneg _ h0
    have hm1 : i.tmod (n : Int) < (n : Int) := by have := Int.tmod_lt_of_pos i (b := (n : Int)) (by omega); omega
    refine pick1 cs off n c i _ hE ⟨⟨rfl, rfl⟩, ?_, ⟨hm0, hm1⟩, by omega, ?_, trivial⟩
    ·refine readPart_one (by kernel_rfl) ?_ rfl
     rw [Nat.mul_one, h2 _ (by omega)]
     simp only [pickI, hlen]
    ·have : ((n : Int) == 0) = false := by rw [beq_eq_false_iff_ne]; omega
     exact this
  ·simp at h
 ·unfold pick_F at h
  split at h <;> simp at h <;> simp
noncomputable def t_pick : Sums := upd t_none 44 (some (roSum pick_F))
theorem t_pick_ok : SumsOK Try.prog t_pick := sums_cons t_none_ok pick_sum
end Go.Proofs.Ythbaccmhdffjdaa.PickE
namespace Go.Proofs.Ythbaccmhdffjdaa.Ev
open Go Go.RowKit Go.Deep
def Opened {α : Type} (W : World) (e : Elt α) (good : α → Prop) (v : Value) : Prop :=
 v = .slice none 0 0 ∨ ∃ (b off cap : Nat) (l : List α), v = .slice (some ⟨b, off, none⟩) l.length cap ∧ l.length ≤ cap ∧ cap ≤ maxLen ∧ (∀ x ∈ l, good x) ∧ ∃ c ty fz, W.heap[b]? = some (.cells c ty fz) ∧ ∀ i u, (e.row l)[i]? = some u → c[off + i]? = some u
theorem row_get {α : Type} (e : Elt α) : ∀ (l : List α) (i : Nat) (u : Value), (e.row l)[i]? = some u → ∃ (j r : Nat) (x : α), l[j]? = some x ∧ (e.cells x)[r]? = some u ∧ i = j * e.s + r ∧ r < e.s
 | [], i, u, h => by simp [Elt.row] at h
 | x :: l, i, u, h => by
  rw [Elt.row_cons] at h
  by_cases hi : i < e.s
  ·rw [List.getElem?_append_left (by rw [e.len]; exact hi)] at h
   exact ⟨0, i, x, rfl, h, by omega, hi⟩
  ·rw [List.getElem?_append_right (by rw [e.len]; omega), e.len] at h
   obtain ⟨j, r, y, h1, h2, h3, h4⟩ := row_get e l _ u h
   exact ⟨j + 1, r, y, by simpa using h1, h2, by rw [Nat.succ_mul]; omega, h4⟩
theorem choose_list {α : Type} (p : Nat → α → Prop) : ∀ n, (∀ i, i < n → ∃ x, p i x) → ∃ l : List α, l.length = n ∧ ∀ i x, l[i]? = some x → p i x
 | 0, _ => ⟨[], rfl, by simp⟩
 | n + 1, h => by
  obtain ⟨l, h1, h2⟩ := choose_list p n (fun i hi => h i (by omega))
  obtain ⟨x, hx⟩ := h n (by omega)
  refine ⟨l ++ [x], by simp [h1], fun i y hy => ?_⟩
  by_cases hi : i < l.length
  ·rw [List.getElem?_append_left hi] at hy; exact h2 i y hy
  ·rw [List.getElem?_append_right (by omega)] at hy
   have : i - l.length = 0 := by
    rcases Nat.eq_zero_or_pos (i - l.length) with h0 | h0
    ·exact h0
    ·rw [List.getElem?_eq_none (by simp; omega)] at hy; simp at hy
   rw [this] at hy
   simp at hy
   subst hy
   have : i = n := by omega
   subst this
   exact hx
section
variable {H : Type} {enc : TypeId × Value → H} {P : Program} {W : World} {base : Nat} {spare : Nat → Bool} {held : Bool} {r : Reach} {b0 : Nat}
theorem open_row {α : Type} {e : Elt α} {good : α → Prop} {t et : TypeId} {fuel : Nat} {v : Value} {y : DataW H × List MemPlace} (ht : P.underlying t = some (.slice et)) (hc : P.cellsOf et = e.s)
  (elem : ∀ n cs z, DataW.trod enc P W base spare held n et cs = some z → ∃ x, cs = e.cells x ∧ good x) (hv : Cell.okWide P W r b0 t v) (h : DataW.trod enc P W base spare held fuel t [v] = some y) : Opened W e good v := by
 rcases open_slice ht h with ⟨h0, _⟩ | ⟨a, len, cap, m, n, D, Pl, hcs, _, hl, hm, hmm, _, hx⟩
 ·left; simpa using h0
 right
 have hcs : v = .slice (some a) len cap := by simpa using hcs
 subst hcs
 have hok : W.has P r b0 a et cap := by
  simp only [Cell.okWide, ht, Cell.ok] at hv
  exact hv.2.2
 obtain ⟨_, hsp, row, cells, hsh, _⟩ := hok
 obtain ⟨blk, off, spot⟩ := a
 simp only at hsp hsh
 subst hsp
 have hlm : len ≤ m := by rw [hmm]; split <;> omega
 obtain ⟨c, ty, fz, hblk⟩ : ∃ c ty fz, W.heap[blk]? = some (.cells c ty fz) := by
  unfold World.shape? at hsh
  split at hsh
  ·rename_i c ty fz hb; exact ⟨c, ty, fz, hb⟩
  ·simp at hsh
 obtain ⟨l, hl1, hl2⟩ := choose_list (fun i x => good x ∧ ∀ j u, (e.cells x)[j]? = some u → c[off + (i * e.s + j)]? = some u) len (fun i hi => by
  obtain ⟨cs', h1, h2⟩ := hx i (by omega)
  obtain ⟨x, rfl, hg⟩ := elem _ _ _ h2
  obtain ⟨_, hlen, hcell⟩ := World.cells?_some h1
  refine ⟨x, hg, fun j u hj => ?_⟩
  have hjl : j < P.cellsOf et := by
   have := (List.getElem?_eq_some_iff.1 hj).1
   omega
  have := hcell j hjl
  rw [add_add, hj, plain_add, hc] at this
  simpa [World.cell?, hblk] using this)
 refine ⟨blk, off, cap, l, by rw [hl1], by rw [hl1]; exact hl, hm, fun x hx' => ?_, c, ty, fz, hblk, fun i u hu => ?_⟩
 ·obtain ⟨j, hj⟩ := List.getElem?_of_mem hx'
  exact (hl2 j x hj).1
 ·obtain ⟨j, q, x, h1, h2, h3, _⟩ := row_get e l i u hu
  rw [h3]
  exact (hl2 j x h1).2 q u h2
theorem elem_int {k : IntKind} {t : TypeId} (ht : P.underlying t = some (.int k)) (n : Nat) (cs : List Value) (z : DataW H × List MemPlace) (h : DataW.trod enc P W base spare held n t cs = some z) : ∃ x : Int, cs = [.int k x] ∧ (Lit.int k x).wf = true := by
 obtain ⟨m, h1, _, h2⟩ := DataW.trod_int ht h
 exact ⟨m, h1, h2⟩
theorem wf64 {n : Int} (h : (Lit.int .i64 n).wf = true) : I64 n := by
 simp [Lit.wf, IntKind.has, IntKind.min, IntKind.max, IntKind.signed, IntKind.bits] at h
 exact ⟨by omega, by omega⟩
end
def Nm.at (l : List (Nat × Nat)) : Nm := ⟨fun k => match l[k]? with | some p => p.1 | none => 0, fun k => match l[k]? with | some p => p.2 | none => 0, fun _ => 0⟩
end Go.Proofs.Ythbaccmhdffjdaa.Ev
namespace Go.Proofs.Ythbaccmhdffjdaa.Ev
open Go Go.RowKit
def CanAt {α : Type} (e : Elt α) (good : α → Prop) (k : Nat) (u : Value) (r : Option (List Value)) : Prop :=
 (u = .slice none 0 0 ∧ r = none) ∨ ∃ (l : List α) (cap : Nat), u = .slice (some ⟨k, 0, none⟩) l.length cap ∧ r = some (e.row l) ∧ l.length ≤ cap ∧ cap ≤ maxLen ∧ ∀ x ∈ l, good x
section
variable {α : Type} {e : Elt α} {good : α → Prop} {k : Nat} {u : Value} {r : Option (List Value)}
theorem CanAt.nm0 (h : CanAt e good k u r) : ∀ j ∈ nm0 u, j = k := by
 rcases h with ⟨rfl, _⟩ | ⟨l, cap, rfl, _⟩
 ·simp [Ev.nm0]
 ·simp [Ev.nm0]
theorem CanAt.nms (h : CanAt e good k u r) : ∀ j ∈ nms u, j = k := by
 rcases h with ⟨rfl, _⟩ | ⟨l, cap, rfl, _⟩
 ·simp [Ev.nms, nm1, Ev.nm0]
 ·simp [Ev.nms, nm1, Ev.nm0]
theorem CanAt.ren (h : CanAt e good k u r) (g : Nm) : ren g u = ren0 g u := by
 rcases h with ⟨rfl, _⟩ | ⟨l, cap, rfl, _⟩ <;> rfl
theorem small_cap {c : Nat} (h : c ≤ maxLen) : Nat.ble mark c = false := by
 cases hb : Nat.ble mark c with
 | false => rfl
 | true =>
  have := Nat.le_of_ble_eq_true hb
  unfold mark maxLen at *
  omega
theorem Opened.can {W : World} {v : Value} (h : Opened W e good v) (k : Nat) : ∃ (u : Value) (r : Option (List Value)) (ad : Nat × Nat), CanAt e good k u r ∧ (∀ l : List (Nat × Nat), l[k]? = some ad → ren0 (Nm.at l) u = v) ∧ (∀ j ∈ Ev.nms u, j = k) ∧
  ∀ cs, r = some cs → (∀ c ∈ cs, leafG c = true) ∧ ∀ l : List (Nat × Nat), l[k]? = some ad → (Blk.ro cs).Holds (Nm.at l) k W.heap[(Nm.at l).blk k]? := by
 rcases h with rfl | ⟨b, off, cap, l, rfl, hl, hm, hg, c, ty, fz, hb, hc⟩
 ·exact ⟨.slice none 0 0, none, (0, 0), Or.inl ⟨rfl, rfl⟩, fun _ _ => rfl, by simp [Ev.nms, nm1, Ev.nm0], fun _ h => by simp at h⟩
 ·have hca : CanAt e good k (.slice (some ⟨k, 0, none⟩) l.length cap) (some (e.row l)) := Or.inr ⟨l, cap, rfl, rfl, hl, hm, hg⟩
  refine ⟨_, _, (b, off), hca, fun m hk => ?_, hca.nms, fun cs hcs => ?_⟩
  ·simp only [ren0, renA, Nm.at, hk, capOf, small_cap hm, cond_false, Nat.add_zero]
  ·simp at hcs; subst hcs
   refine ⟨Elt.row_pl _, fun m hk => ?_⟩
   have e1 : (Nm.at m).blk k = b := by simp [Nm.at, hk]
   have e2 : (Nm.at m).base k = off := by simp [Nm.at, hk]
   rw [e1]
   refine ⟨c, ty, fz, hb, fun i v hv => ?_⟩
   rw [e2, hc i v hv, ren0_leafG _ (Elt.row_pl _ v (List.mem_of_getElem? hv))]
end
theorem eInt_row (l : List Int) : eInt.row l = l.map (Value.int .i64) := by
 induction l with
 | nil => rfl
 | cons x l ih => rw [Elt.row_cons, ih]; rfl
theorem int_row {l : List Int} (h : ∀ x ∈ l, I64 x) : IntRow .i64 (eInt.row l) 0 l.length ∧ ∀ z ∈ intsOf (eInt.row l) 0 l.length, I64 z := by
 obtain ⟨h1, h2⟩ := intRow_of .i64 l
 rw [eInt_row]
 exact ⟨h1, by rw [h2]; exact h⟩
end Go.Proofs.Ythbaccmhdffjdaa.Ev
namespace Go.Proofs.Ythbaccmhdffjdaa.Ev
open Go Go.RowKit
theorem lset_of : ∀ {cs : List Value} {o : Nat} {vs : List Value}, o + vs.length ≤ cs.length → lset cs o vs = some (cs.take o ++ vs ++ cs.drop (o + vs.length))
 | cs, 0, [], _ => by cases cs <;> simp [lset]
 | [], 0, v :: vs, h => by simp at h
 | [], o + 1, vs, h => by simp at h
 | c :: cs, 0, v :: vs, h => by
  have := lset_of (cs := cs) (o := 0) (vs := vs) (by simp at h ⊢; omega)
  simp only [lset, this]
  simp
 | c :: cs, o + 1, vs, h => by
  have := lset_of (cs := cs) (o := o) (vs := vs) (by simp at h; omega)
  simp only [lset, this]
  rw [show o + 1 + vs.length = (o + vs.length) + 1 by omega]
  simp
theorem lset_mid {a b c vs r : List Value} {f : Nat} (h : lset b f vs = some r) : lset (a ++ (b ++ c)) (a.length + f) vs = some (a ++ (r ++ c)) := by
 obtain ⟨h1, h2⟩ := lset_spec h
 rw [lset_of (by simp; omega), h1]
 congr 1
 rw [List.take_length_add_append, List.take_append_of_le_length (by omega), show a.length + f + vs.length = a.length + (f + vs.length) by omega, List.drop_length_add_append, List.drop_append_of_le_length (by omega)]
 simp
theorem lset_row {α : Type} {e : Elt α} {l : List α} {k f : Nat} {x y : α} {vs : List Value} (hk : l[k]? = some y) (h : lset (e.cells y) f vs = some (e.cells x)) : lset (e.row l) (k * e.s + f) vs = some (e.row (l.set k x)) := by
 have hlt := (List.getElem?_eq_some_iff.1 hk).1
 have he := (List.getElem?_eq_some_iff.1 hk).2
 have e1 : l = l.take k ++ y :: l.drop (k + 1) := by
  conv => lhs; rw [← List.take_append_drop k l]
  rw [List.drop_eq_getElem_cons hlt, he]
 have e2 : l.set k x = l.take k ++ x :: l.drop (k + 1) := by
  rw [List.set_eq_take_append_cons_drop, if_pos hlt]
 have e3 : e.row l = e.row (l.take k) ++ (e.cells y ++ e.row (l.drop (k + 1))) := by
  conv => lhs; rw [e1]
  rw [Elt.row_app, Elt.row_cons]
 rw [e2, e3, Elt.row_app, Elt.row_cons]
 have hl : (e.row (l.take k)).length = k * e.s := by rw [Elt.row_len, List.length_take, Nat.min_eq_left (by omega)]
 rw [← hl]
 exact lset_mid h
section
variable {α : Type} {e : Elt α}
theorem appG {L M : List α} {ty : TypeId} {own : Option Blk} {n m c size bytes o : Nat} {res : List Value} (hown : (own = some (.vec (e.row L) ty size) ∧ c = mk) ∨ (own = some (.cells [] ty) ∧ n = 0 ∧ c = 0)) (hs : size = e.s) {k : Nat} (ho : o = k * e.s) (hk : k + m ≤ M.length) (hn : n ≤ L.length) (hres : res = e.row (L.take n ++ (M.drop k).take m))
  (h1 : 1 ≤ m) (hb : n + m ≤ 16777216) (hby : (n + m) * bytes ≤ 140737488355328) : AppOK own n c size bytes m (e.row M) o res := by
 subst hs
 subst hres
 subst ho
 have hkm : k * e.s + m * e.s ≤ M.length * e.s := by rw [← Nat.add_mul]; exact Nat.mul_le_mul_right _ hk
 refine ⟨e.row (L.take n), e.row ((M.drop k).take m), ?_, ?_, h1, hb, hby, Elt.row_app _ _, ?_⟩
 ·rw [sub_of (by rw [Elt.row_len]; exact hkm), Elt.row_drop, Elt.row_take]
 ·exact allB_iff.2 fun c hc => leaf_of_leafG (Elt.row_pl _ c hc)
 ·rcases hown with ⟨rfl, rfl⟩ | ⟨rfl, rfl, rfl⟩
  ·refine ⟨rfl, ?_, (Elt.row_take L n).symm⟩
   rw [Elt.row_len]; exact Nat.mul_le_mul_right _ hn
  ·refine ⟨by simp, by omega, by omega, ?_⟩
   simp [Elt.row]
theorem plain1 {cs : List Value} (h : ∀ x ∈ cs, leafG x = true) : plainR [cs] := by
 intro x hx
 simp at hx
 subst hx
 exact h
end
section
variable {α : Type} {e : Elt α}
theorem plain2 {cs ds : List Value} (h : ∀ x ∈ cs, leafG x = true) (g : ∀ x ∈ ds, leafG x = true) : plainR [cs, ds] := by
 intro x hx
 simp at hx
 rcases hx with rfl | rfl
 ·exact h
 ·exact g
end
theorem lsetE {α : Type} {e : Elt α} {l : List α} {k f o : Nat} {x y : α} {vs : List Value} (hk : l[k]? = some y) (h : lset (e.cells y) f vs = some (e.cells x)) (ho : o = k * e.s + f) : lset (e.row l) o vs = some (e.row (l.set k x)) := by
 subst ho; exact lset_row hk h
theorem slK {i : Int} {α : Type} {e : Elt α} {n h m c : Nat} {L : List α} {ty : TypeId} {nm o size : Nat} (hi : i = (h : Int)) (hh : h + 1 ≤ n) (hm : m = n - h) (hc : c = mk + h) (ho : o = 0 + h * size) (hs : size = e.s) (h1 : 1 ≤ size) (hl : n ≤ L.length := by omega) : SlOK size nm 0 n mk (some i) none (some (.vec (e.row L) ty size)) (.slice (some ⟨nm, o, none⟩) m c) := by
 subst hm
 subst hc
 subst ho
 subst hs
 refine ⟨h, n, hi, rfl, by omega, Nat.le_refl _, Or.inl ⟨Nat.le_refl _, ⟨_, ty, rfl, h1, ?_⟩, Or.inr hh, rfl⟩⟩
 rw [Elt.row_len, Nat.sub_self, Nat.zero_add]
 exact Nat.mul_le_mul_right _ hl
section
variable {α : Type} {e : Elt α}
theorem repl_row {x : α} {zs : List Value} (h : e.cells x = zs) : ∀ n : Nat, repl zs n = e.row (List.replicate n x)
 | 0 => rfl
 | n + 1 => by simp only [repl, repl_row h n, List.replicate_succ, Elt.row_cons, h]
end
end Go.Proofs.Ythbaccmhdffjdaa.Ev
namespace Go.Proofs.Ythbaccmhdffjdaa.Ev
end Go.Proofs.Ythbaccmhdffjdaa.Ev
namespace Go.Proofs.Ythbaccmhdffjdaa.Within
open Go Go.RowKit BitLib
theorem emod_of_tmod {n m : Int} (hm : 0 < m) : (n.tmod m < 0 → n % m = n.tmod m + m) ∧ (0 ≤ n.tmod m → n % m = n.tmod m) ∧ -m < n.tmod m ∧ n.tmod m < m := by
 have h := Int.tmod_eq_emod (a := n) (b := m)
 have h0 := Int.emod_nonneg n (show m ≠ 0 by omega)
 have h1 := Int.emod_lt_of_pos n hm
 have ha : ((m.natAbs : Nat) : Int) = m := by omega
 by_cases hc : 0 ≤ n ∨ m ∣ n
 ·rw [if_pos hc] at h; omega
 ·rw [if_neg hc] at h; omega
def withinS (n lo hi : Int) : Int := lo + n % (hi - lo + 1)
theorem within_range (n : Int) {lo hi : Int} (h : lo ≤ hi) : lo ≤ withinS n lo hi ∧ withinS n lo hi ≤ hi := by
 have h0 := Int.emod_nonneg n (show hi - lo + 1 ≠ 0 by omega)
 have h1 := Int.emod_lt_of_pos n (show 0 < hi - lo + 1 by omega)
 unfold withinS; omega
set_option maxHeartbeats 1000000 in
theorem within_calls (n lo hi : Int) (n0 : -9223372036854775808 ≤ n) (n1 : n ≤ 9223372036854775807) (h0 : -2305843009213693952 ≤ lo) (h1 : lo ≤ hi) (h2 : hi ≤ 2305843009213693952) (w : World) :
  Calls Try.prog 19 #[.int .i64 n, .int .i64 lo, .int .i64 hi] w fun e w' => e = .returned (.int .i64 (withinS n lo hi)) ∧ w = w' := by
 obtain ⟨t1, t2, t3, t4⟩ := emod_of_tmod (n := n) (m := hi - lo + 1) (by omega)
 have hne : ¬ hi - lo + 1 = 0 := by omega
 by_cases ht : n.tmod (hi - lo + 1) < 0
 ·have HR : Hid (withinS n lo hi = lo + (n.tmod (hi - lo + 1) + hi - lo + 1)) := Lib.hid (by unfold withinS; rw [t1 ht]; omega)
  clear t1 t2
  go_enter Try.func19, Try.ntmps19
  go_wp2
  go_ret
  exact ⟨by rw [HR.out]; rfl, rfl⟩
 ·have HR : Hid (withinS n lo hi = lo + n.tmod (hi - lo + 1)) := Lib.hid (by unfold withinS; rw [t2 (by omega)])
  clear t1 t2
  go_enter Try.func19, Try.ntmps19
  go_wp2
  go_ret
  exact ⟨by rw [HR.out]; rfl, rfl⟩
end Go.Proofs.Ythbaccmhdffjdaa.Within
namespace Go.Proofs.Ythbaccmhdffjdaa.Tn
open Go Go.RowKit Ev Within PickE NodeE
structure Nd where
 leaf : Bool
 v : Int
 f : Int
 a : Int
 x : Int
 y : Int
def eNd : Elt Nd := ⟨fun n => [.bool n.leaf, .int .i64 n.v, .int .i64 n.f, .int .i64 n.a, .int .i64 n.x, .int .i64 n.y], 6, fun cs => match cs with | [.bool l, .int _ v, .int _ f, .int _ a, .int _ x, .int _ y] => ⟨l, v, f, a, x, y⟩ | _ => ⟨false, 0, 0, 0, 0, 0⟩, fun _ => rfl, fun _ => rfl, fun n c hc => by
 simp at hc
 rcases hc with rfl | rfl | rfl | rfl | rfl | rfl <;> rfl⟩
def bring_F : List Value → Option (Value × List Prop)
 | [.int .i64 n, .int .i64 lo, .int .i64 hi] => some (.int .i64 (withinS n lo hi), [I64 n, -2305843009213693952 ≤ lo, lo ≤ hi, hi ≤ 2305843009213693952])
 | _ => none
theorem bring_sum : SumOK Try.prog 19 (sumOf bring_F) := by
 refine sumOf_ok (en Try.func19 rfl) fun args v ob h hob => ?_
 unfold bring_F at h
 split at h
 ·rename_i n lo hi
  obtain ⟨rfl, rfl⟩ := Prod.mk.inj (Option.some.inj h)
  clear h
  have h1 := hob (I64 n) (by simp)
  have h2 := hob (-2305843009213693952 ≤ lo) (by simp)
  have h3 := hob (lo ≤ hi) (by simp)
  have h4 := hob (hi ≤ 2305843009213693952) (by simp)
  exact ⟨rfl, rfl, fun w => (within_calls n lo hi h1.1 h1.2 h2 h3 h4 w).mono fun e w' ⟨he, hw⟩ => ⟨he, hw ▸ Below.refl _ _⟩⟩
 ·exact absurd h (by simp)
noncomputable def t_bring : Sums := upd t_runpack 19 (some (sumOf bring_F))
theorem t_bring_ok : SumsOK Try.prog t_bring := sums_cons t_runpack_ok bring_sum
structure NF where
 i : Nat
 nodes : List Nd
 leaves : List Int
def tnL (dim : Int) (vs : List Value) (js : List Nat) (rs : List Blk) (Q : NF → Prop) : LoopF NF where
 ts _ := [1, 2, 5, 6, 7]
 hs _ := 10 :: 11 :: 12 :: js
 tv _ := fun ⟨i, nodes, leaves⟩ => [.int .i64 dim, .pointer (some ⟨10, 0, none⟩), .slice (some ⟨11, 0, none⟩) nodes.length mk, .slice (some ⟨12, 0, none⟩) leaves.length mk, .int .i64 (i : Int)]
 hv _ := fun ⟨i, nodes, leaves⟩ => .cells vs 55 :: .vec (eNd.row nodes) 86 6 :: .vec (eInt.row leaves) 3 1 :: rs
 inv _ := Q
 mu _ := fun ⟨i, nodes, leaves⟩ => 7 - i
 nx := 13
def tpL (nodes : List Nd) (Q : Nat × List Int → Prop) : LoopF (Nat × List Int) where
 ts _ := [11, 100, 101, 102]
 hs z := match z with | 0 => [11] | _ => [11, 13]
 tv z := fun ⟨i, out⟩ => [match z with | 0 => .slice none 0 0 | _ => .slice (some ⟨13, 0, none⟩) out.length mk, .slice (some ⟨11, 0, none⟩) nodes.length mk, .int .i64 (nodes.length : Int), .int .i64 (i : Int)]
 hv z := fun ⟨i, out⟩ => match z with | 0 => [.vec (eNd.row nodes) 86 6] | _ => [.vec (eNd.row nodes) 86 6, .vec (eWord.row out) 83 1]
 inv _ := Q
 mu _ := fun ⟨i, out⟩ => nodes.length - i
 nx := 14
end Go.Proofs.Ythbaccmhdffjdaa.Tn
namespace Go.Proofs.Ythbaccmhdffjdaa.Tn
open Go Go.RowKit Ev Within PickE NodeE Tn
theorem i0 : I64 0 := ⟨by decide, by decide⟩
def ndK (pz : Int) (leaves : List Int) : Nat := (withinS pz 0 ((leaves.length : Int) - 1)).toNat
def ndPl (pz : Int) (leaves : List Int) : Int := leaves.getD (ndK pz leaves) 0
def ndNodes (bl al vl : List Int) (dim pz : Int) (i : Nat) (nodes : List Nd) (leaves : List Int) : List Nd :=
 nodes.set (ndPl pz leaves).toNat ⟨false, 0, withinS (pickI bl i) 0 (dim - 1), withinS (pickI al i) 0 9, nodes.length, (nodes.length : Int) + 1⟩ ++
  [⟨true, withinS (pickI vl (2 * i + 1)) (-3000) 3000, 0, 0, 0, 0⟩, ⟨true, withinS (pickI vl (2 * i + 2)) (-3000) 3000, 0, 0, 0, 0⟩]
def ndLeaves (pz : Int) (nodes : List Nd) (leaves : List Int) : List Int := leaves.take (ndK pz leaves) ++ leaves.drop (ndK pz leaves + 1) ++ [(nodes.length : Int), (nodes.length : Int) + 1]
def ndGo (bl al vl : List Int) (dim : Int) : List Int → Nat → List Nd → List Int → List Nd
 | [], _, nodes, _ => nodes
 | pz :: ps, i, nodes, leaves => ndGo bl al vl dim ps (i + 1) (ndNodes bl al vl dim pz i nodes leaves) (ndLeaves pz nodes leaves)
def nodesI (pl bl al vl : List Int) (dim : Int) : List Nd := ndGo bl al vl dim (pl.take 7) 0 [⟨true, withinS (pickI vl 0) (-3000) 3000, 0, 0, 0, 0⟩] [0]
structure NdInv (i : Nat) (nodes : List Nd) (leaves : List Int) : Prop where
 nl : nodes.length = 2 * i + 1
 ll : leaves.length = i + 1
 inn : ∀ l ∈ leaves, 0 ≤ l ∧ l < nodes.length
 good : ∀ n ∈ nodes, I64 n.v ∧ I64 n.a
theorem nd_k {pz : Int} {leaves : List Int} (h : leaves ≠ []) : withinS pz 0 ((leaves.length : Int) - 1) = (ndK pz leaves : Int) ∧ ndK pz leaves < leaves.length := by
 have hl : 0 < leaves.length := List.length_pos_iff.2 h
 have := within_range pz (show (0 : Int) ≤ (leaves.length : Int) - 1 by omega)
 unfold ndK
 omega
theorem nd_pl {pz : Int} {leaves : List Int} (h : leaves ≠ []) : leaves[ndK pz leaves]? = some (ndPl pz leaves) := by
 have := (nd_k (pz := pz) h).2
 unfold ndPl
 rw [List.getD_eq_getElem?_getD, List.getElem?_eq_getElem this]
 rfl
theorem within_i64 (n : Int) {lo hi : Int} (h : lo ≤ hi) (h0 : -9223372036854775808 ≤ lo) (h1 : hi ≤ 9223372036854775807) : I64 (withinS n lo hi) := by
 have := within_range n h
 exact ⟨by omega, by omega⟩
theorem nd_inv {bl al vl : List Int} {dim pz : Int} {i : Nat} {nodes : List Nd} {leaves : List Int} (h : NdInv i nodes leaves) : NdInv (i + 1) (ndNodes bl al vl dim pz i nodes leaves) (ndLeaves pz nodes leaves) := by
 have hne : leaves ≠ [] := fun e => by have := h.ll; rw [e] at this; simp at this
 have hk := (nd_k (pz := pz) hne).2
 have h1 := h.nl
 have h2 := h.ll
 have hlen : (ndNodes bl al vl dim pz i nodes leaves).length = nodes.length + 2 := by simp [ndNodes]
 refine ⟨by omega, by simp [ndLeaves]; omega, fun l hl => ?_, fun n hn => ?_⟩
 ·rw [hlen]
  simp only [ndLeaves, List.mem_append, List.mem_cons, List.not_mem_nil, or_false] at hl
  rcases hl with (hl | hl) | rfl | rfl
  ·have := h.inn l (List.mem_of_mem_take hl); omega
  ·have := h.inn l (List.mem_of_mem_drop hl); omega
  ·omega
  ·omega
 ·simp only [ndNodes, List.mem_append, List.mem_cons, List.not_mem_nil, or_false] at hn
  rcases hn with hn | rfl | rfl
  ·rcases List.mem_or_eq_of_mem_set hn with hn | rfl
   ·exact h.good n hn
   ·exact ⟨i0, within_i64 _ (by decide) (by decide) (by decide)⟩
  ·exact ⟨within_i64 _ (by decide) (by decide) (by decide), i0⟩
  ·exact ⟨within_i64 _ (by decide) (by decide) (by decide), i0⟩
theorem nd0 (z : Int) (h : I64 z) : NdInv 0 [⟨true, z, 0, 0, 0, 0⟩] [0] := by
 refine ⟨rfl, rfl, fun l hl => ?_, fun n hn => ?_⟩
 ·simp at hl; subst hl; simp
 ·simp at hn; subst hn; exact ⟨h, i0⟩
def packN (n : Nd) : Int := packS n.leaf n.v n.f n.a n.x n.y
end Go.Proofs.Ythbaccmhdffjdaa.Tn
namespace Go.Proofs.Ythbaccmhdffjdaa.Tn
open Go Go.RowKit Ev Within PickE NodeE Tn
structure Rw where
 z : Bool
 cs : List Value
 n : Nat
 c : Nat
def Rw.v (r : Rw) (k : Nat) : Value := bif r.z then .slice (some ⟨k, 0, none⟩) r.n r.c else .slice none 0 0
def Rw.l (r : Rw) : List Int := bif r.z then intsOf r.cs 0 r.n else []
def Rw.k (r : Rw) : Nat := bif r.z then 1 else 0
def Rw.len (r : Rw) : Nat := bif r.z then r.n else 0
def Rw.js (r : Rw) (k : Nat) : List Nat := bif r.z then [k] else []
def Rw.rs (r : Rw) : List Blk := bif r.z then [.ro r.cs] else []
def Rw.css (r : Rw) (l : List (List Value)) : List (List Value) := bif r.z then r.cs :: l else l
def Rw.ob (r : Rw) (i : Int) : List Prop := bif r.z then [plainR [r.cs], IntRow .i64 r.cs 0 r.n, 0 ≤ i] else [plainR []]
def Rw.good (r : Rw) : Prop := r.z = true → IntRow .i64 r.cs 0 r.n ∧ (∀ z ∈ intsOf r.cs 0 r.n, I64 z) ∧ ∀ x ∈ r.cs, leafG x = true
theorem Rw.good.ob {r : Rw} (h : r.good) {i : Int} (hi : 0 ≤ i) : all (r.ob i) := by
 obtain ⟨z, cs, n, c⟩ := r
 cases z
 ·exact ⟨fun x hx => by simp at hx, trivial⟩
 ·obtain ⟨h1, _, h3⟩ := h rfl
  exact ⟨plain1 h3, h1, hi, trivial⟩
theorem Rw.good.l64 {r : Rw} (h : r.good) : ∀ z ∈ r.l, I64 z := by
 obtain ⟨z, cs, n, c⟩ := r
 cases z
 ·intro x hx; simp [Rw.l] at hx
 ·exact (h rfl).2.1
theorem pick_i64 {zs : List Int} (h : ∀ z ∈ zs, I64 z) (i : Int) : I64 (pickI zs i) := by
 unfold pickI
 rw [List.getD_eq_getElem?_getD]
 cases hg : zs[(i.tmod zs.length).toNat]? with
 | none => exact i0
 | some z => exact h z (List.mem_of_getElem? hg)
end Go.Proofs.Ythbaccmhdffjdaa.Tn
namespace Go.Proofs.Ythbaccmhdffjdaa.Ev
open Go Go.RowKit
def Blk.le (b' b : Blk) : Prop := b' = b ∨ ∃ cs, b.row = some cs ∧ b' = .ro cs
theorem sat_weak {E : Env} {K : List Ctl} {T T' : Tm} {H H' : Heap} {nx c c' : Nat} {ob ob' : List Prop} (hT : ∀ i v, T' i = some v → T i = some v) (hH : ∀ k b, H' k = some b → ∃ b0, H k = some b0 ∧ b.le b0)
  (h : Sat E K ⟨T', H', nx, c', ob'⟩) : Sat E K ⟨T, H, nx, c, ob⟩ := by
 intro g a w hc
 refine h g a w ?_
 obtain ⟨B, hB, hrc⟩ := hc
 refine ⟨B, hB, ⟨⟨hrc.hc.below, fun k b hb => ?_, fun k b hb => ?_, fun k b hb => ?_, fun k b hb hw => ?_, fun k l b x hb hx hw he => ?_⟩, hrc.size, hrc.defers, fun t v hv => hrc.tm t v (hT t v hv), hrc.anch, hrc.sub⟩⟩
 ·obtain ⟨b0, h0, _⟩ := hH k b hb
  exact hrc.hc.dom k b0 h0
 ·obtain ⟨b0, h0, hl⟩ := hH k b hb
  rcases hl with rfl | ⟨cs, hr, rfl⟩
  ·exact hrc.hc.scope k _ h0
  ·have := hrc.hc.scope k b0 h0
   cases b0 <;> simp only [Blk.row, Option.some.injEq, reduceCtorEq] at hr <;> subst hr <;> exact this
 ·obtain ⟨b0, h0, hl⟩ := hH k b hb
  rcases hl with rfl | ⟨cs, hr, rfl⟩
  ·exact hrc.hc.holds k _ h0
  ·exact ro_of_row (hrc.hc.holds k b0 h0) hr
 ·obtain ⟨b0, h0, hl⟩ := hH k b hb
  rcases hl with rfl | ⟨cs, hr, rfl⟩
  ·exact hrc.hc.own k _ h0 hw
  ·simp [Blk.wr] at hw
 ·obtain ⟨b0, h0, hl⟩ := hH k b hb
  obtain ⟨x0, h1, _⟩ := hH l x hx
  rcases hl with rfl | ⟨cs, hr, rfl⟩
  ·exact hrc.hc.inj k l _ x0 h0 h1 hw he
  ·simp [Blk.wr] at hw
theorem assoc_le : ∀ {hs : List Nat} {hv hv' : List Blk}, hv.length = hv'.length → (∀ (i : Nat) b b', hv[i]? = some b → hv'[i]? = some b' → b'.le b) → ∀ k b', assocN hs hv' k = some b' → ∃ b, assocN hs hv k = some b ∧ b'.le b
 | [], hv, hv', _, _, k, b', h => by simp [assocN] at h
 | t :: ts, [], [], _, _, k, b', h => by simp [assocN] at h
 | t :: ts, [], x :: l, hl, _, k, b', h => by simp at hl
 | t :: ts, x :: l, [], hl, _, k, b', h => by simp at hl
 | t :: ts, x :: l, y :: m, hl, hle, k, b', h => by
  simp only [assocN] at h ⊢
  cases e : Nat.beq k t <;> rw [e] at h
  ·simp only [cond_false] at h ⊢
   exact assoc_le (by simpa using hl) (fun i b b' h1 h2 => hle (i + 1) b b' (by simpa using h1) (by simpa using h2)) k b' h
  ·simp only [cond_true, Option.some.injEq] at h ⊢
   subst h
   exact ⟨x, rfl, hle 0 x y rfl rfl⟩
theorem sat_ro {E : Env} {K : List Ctl} {ts hs : List Nat} {tv : List Value} {hv hv' : List Blk} {nx c c' : Nat} {ob ob' : List Prop} (hl : hv.length = hv'.length) (hle : ∀ (i : Nat) b b', hv[i]? = some b → hv'[i]? = some b' → b'.le b)
  (h : Sat E K ⟨assocN ts tv, assocN hs hv', nx, c', ob'⟩) : Sat E K ⟨assocN ts tv, assocN hs hv, nx, c, ob⟩ :=
 sat_weak (fun _ _ h => h) (assoc_le hl hle) h
end Go.Proofs.Ythbaccmhdffjdaa.Ev
namespace Go.Proofs.Ythbaccmhdffjdaa.Ev
open Go Go.RowKit
theorem ren0_blk {g g' : Nm} {v : Value} (h : ren0 g v = ren0 g' v) : ∀ k ∈ nm0 v, g.blk k = g'.blk k := by
 intro k hk
 cases v with
 | pointer a => cases a with
  | none => simp [nm0] at hk
  | some a => simp [nm0] at hk; subst hk; simp [ren0, renA] at h; exact h.1
 | slice a l c => cases a with
  | none => simp [nm0] at hk
  | some a => simp [nm0] at hk; subst hk; simp [ren0, renA] at h; exact h.1.1
 | map r => cases r with
  | none => simp [nm0] at hk
  | some r => simp [nm0] at hk; subst hk; simpa [ren0] using h
 | _ => simp [nm0] at hk
theorem map_blk {r : Nm → Value → Value} {nn : Value → List Nat} {g g' : Nm} (hr : ∀ v, r g v = r g' v → ∀ k ∈ nn v, g.blk k = g'.blk k) : ∀ {l : List Value}, l.map (r g) = l.map (r g') → ∀ k ∈ nmL nn l, g.blk k = g'.blk k
 | [], _, k, hk => by simp [nmL] at hk
 | v :: l, h, k, hk => by
  simp only [List.map_cons, List.cons.injEq] at h
  simp only [nmL, List.mem_append] at hk
  rcases hk with hk | hk
  ·exact hr v h.1 k hk
  ·exact map_blk hr h.2 k hk
theorem ren1_blk {g g' : Nm} {v : Value} (h : ren1 g v = ren1 g' v) : ∀ k ∈ nm1 v, g.blk k = g'.blk k := by
 intro k hk
 cases v with
 | agg cs =>
  obtain ⟨cs⟩ := cs
  simp only [ren1, Value.agg.injEq] at h
  exact map_blk (fun v hv => ren0_blk hv) (by simpa using h) k hk
 | func f x c =>
  obtain ⟨x⟩ := x
  obtain ⟨c⟩ := c
  simp only [ren1, Value.func.injEq] at h
  simp only [nm1, List.mem_append] at hk
  rcases hk with hk | hk
  ·exact map_blk (fun v hv => ren0_blk hv) (by simpa using h.2.1) k hk
  ·exact map_blk (fun v hv => ren0_blk hv) (by simpa using h.2.2) k hk
 | bool b => exact ren0_blk (v := .bool b) h k hk
 | int a b => exact ren0_blk (v := .int a b) h k hk
 | float a b => exact ren0_blk (v := .float a b) h k hk
 | complex a b c => exact ren0_blk (v := .complex a b c) h k hk
 | string a => exact ren0_blk (v := .string a) h k hk
 | pointer a => exact ren0_blk (v := .pointer a) h k hk
 | slice a b c => exact ren0_blk (v := .slice a b c) h k hk
 | map a => exact ren0_blk (v := .map a) h k hk
 | _ => simp [nm1, nm0] at hk
theorem ren_blk {g g' : Nm} {v : Value} (h : ren g v = ren g' v) : ∀ k ∈ nms v, g.blk k = g'.blk k := by
 intro k hk
 cases v with
 | tuple vs =>
  obtain ⟨vs⟩ := vs
  simp only [ren, Value.tuple.injEq] at h
  exact map_blk (fun v hv => ren1_blk hv) (by simpa using h) k hk
 | bool b => exact ren1_blk (v := .bool b) h k hk
 | int a b => exact ren1_blk (v := .int a b) h k hk
 | float a b => exact ren1_blk (v := .float a b) h k hk
 | complex a b c => exact ren1_blk (v := .complex a b c) h k hk
 | string a => exact ren1_blk (v := .string a) h k hk
 | pointer a => exact ren1_blk (v := .pointer a) h k hk
 | slice a b c => exact ren1_blk (v := .slice a b c) h k hk
 | map a => exact ren1_blk (v := .map a) h k hk
 | agg a => exact ren1_blk (v := .agg a) h k hk
 | func a b c => exact ren1_blk (v := .func a b c) h k hk
 | _ => simp [nms, nm1, nm0] at hk
theorem inB_names {B : Nat → Prop} {v : Value} (h : InB B v) : ∀ k ∈ nms v, B k := by
 intro k hk
 apply Classical.byContradiction
 intro hb
 have := ren_blk (h ⟨fun _ => 0, fun _ => 0, fun _ => 0⟩ ⟨fun j => if j = k then 1 else 0, fun _ => 0, fun _ => 0⟩ (fun j hj => by
  have : j ≠ k := fun e => hb (e ▸ hj)
  simp [this])) k hk
 simp at this
def Blk.nmB : Blk → List Nat
 | .cells cs _ | .vec cs _ _ | .ro cs => nmL nm0 cs
 | .map _ _ _ _ _ => []
 | .it m _ _ _ => [m]
theorem inB_of {B : Nat → Prop} {v : Value} (h : ∀ k ∈ nms v, B k) : InB B v := fun g g' a => ren_names fun k hk => a k (h k hk)
theorem in0_of {B : Nat → Prop} {v : Value} (h : ∀ k ∈ nm0 v, B k) : In0 B v := fun g g' a => ren0_names fun k hk => a k (h k hk)
theorem in0_names {B : Nat → Prop} {v : Value} (h : In0 B v) : ∀ k ∈ nm0 v, B k := by
 intro k hk
 apply Classical.byContradiction
 intro hb
 have := ren0_blk (h ⟨fun _ => 0, fun _ => 0, fun _ => 0⟩ ⟨fun j => if j = k then 1 else 0, fun _ => 0, fun _ => 0⟩ (fun j hj => by
  have : j ≠ k := fun e => hb (e ▸ hj)
  simp [this])) k hk
 simp at this
theorem blk_inB {B B0 : Nat → Prop} {b : Blk} (h0 : b.InB B0) (h : ∀ k ∈ b.nmB, B k) : b.InB B := by
 have key : ∀ cs : List Value, (∀ k ∈ nmL nm0 cs, B k) → ∀ c ∈ cs, In0 B c := fun cs h c hc => in0_of fun k hk => h k (mem_nmL hc hk)
 cases b with
 | cells cs ty => exact key cs h
 | vec cs ty s => exact key cs h
 | ro cs => exact key cs h
 | map => exact h0
 | it m s l c => exact h m (List.mem_cons_self ..)
theorem blk_names {B : Nat → Prop} {b : Blk} (h : b.InB B) : ∀ k ∈ b.nmB, B k := by
 have key : ∀ cs : List Value, (∀ c ∈ cs, In0 B c) → ∀ k ∈ nmL nm0 cs, B k := fun cs h k hk => by
  obtain ⟨c, hc, hk⟩ := mem_nmL' (f := nm0) hk
  exact in0_names (h c hc) k hk
 cases b with
 | cells cs ty => exact key cs h
 | vec cs ty s => exact key cs h
 | ro cs => exact key cs h
 | map => intro k hk; simp [Blk.nmB] at hk
 | it m s l c => intro k hk; simp [Blk.nmB] at hk; subst hk; exact h
section
open Classical
variable {P : Program} {f : FuncId} {args : List Value} {H H0 H1 : Heap} {nm nx : Nat} {v : Value} {old new : List (Nat × Nat)}
theorem ro_calls2 (hs : CallSpec P f args H0 nx v H1) (hn1 : ((old ++ new).map (·.1)).Nodup) (hn2 : (new.map (·.2)).Nodup)
  (hold : ∀ j k, (j, k) ∈ old → j < nx ∧ ∀ b0, H0 j = some b0 → ∃ b cs, H k = some b ∧ b.row = some (mapL (rn0 (look old)) cs) ∧ b0 = .ro cs ∧ ∀ c ∈ cs, ∀ i ∈ nm0 c, ∃ k', (i, k') ∈ old) (h0 : ∀ j b, H0 j = some b → ∃ k, (j, k) ∈ old)
  (hnew : ∀ m k, (m, k) ∈ new → Fresh nm k ∧ ∃ b, H1 m = some b ∧ b.wr = true ∧ b.noIt ∧ ∀ cs, b.row = some cs → ∀ c ∈ cs, ∀ j ∈ nm0 c, ∃ k, (j, k) ∈ old ++ new)
  (hv : ∀ j ∈ nms v, ∃ k, (j, k) ∈ old ++ new) (hargs : ∀ u ∈ args, ∀ j ∈ nms u, ∃ k, (j, k) ∈ old)
  {M : Nat → Prop} {w0 w : World} {g : Nm} {B : Nat → Prop} (hkB : ∀ j k, (j, k) ∈ old → B k) (hH : HC M w0 g B H w) (hn : ∀ k, B k → ¬ Fresh nm k) :
  Calls P f ((args.map (rn (look old))).map (ren g)).toArray w fun e w' => ∃ g', Agree B g g' ∧ HC M w0 g' (Plus B nm) (apU (usR (look (old ++ new)) new H1) H) w' ∧ InB (Plus B nm) (rn (look (old ++ new)) v) ∧ e = .returned (ren g' (rn (look (old ++ new)) v)) := by
 have hn1o : (old.map (·.1)).Nodup := by rw [List.map_append] at hn1; exact (List.nodup_append.1 hn1).1
 have hn1n : (new.map (·.1)).Nodup := by rw [List.map_append] at hn1; exact (List.nodup_append.1 hn1).2.1
 let g0 : Nm := g.comp (look old)
 have hg0 : ∀ j k, (j, k) ∈ old → g0.blk j = g.blk k ∧ g0.base j = g.base k ∧ g0.cap j = g.cap k := fun j k hjk => by
  simp [g0, Nm.comp, look_spec hn1o hjk]
 have hro : ∀ j b, H0 j = some b → b.wr = false := fun j b hb => by
  obtain ⟨k, hk⟩ := h0 j b hb
  obtain ⟨_, cs, _, _, rfl, _⟩ := (hold j k hk).2 b hb
  rfl
 have hc0 : HC (fun _ => False) w g0 (fun j => ∃ k, (j, k) ∈ old) H0 w := by
  refine ⟨BelowBut.refl _ _, fun j b hb => h0 j b hb, fun j b hb => ?_, fun j b hb => ?_, fun j b hb hw => by rw [hro j b hb] at hw; simp at hw, fun i j b c hb hc hw he => by rw [hro i b hb] at hw; simp at hw⟩
  ·obtain ⟨k, hk⟩ := h0 j b hb
   obtain ⟨b', cs, hb1, hr, rfl, hpl⟩ := (hold j k hk).2 b hb
   exact fun c hc g1 g2 ag => ren0_names fun i hi => ag i (hpl c hc i hi)
  ·obtain ⟨k, hk⟩ := h0 j b hb
   obtain ⟨b', cs, hb1, hr, rfl, hpl⟩ := (hold j k hk).2 b hb
   obtain ⟨e1, e2, e3⟩ := hg0 j k hk
   have hl := look_spec hn1o hk
   have h1 := ro_of_row (hH.holds k b' hb1) hr
   rw [e1]
   have h2 : (Blk.rnB (look old) (.ro cs)).Holds g (look old j) w.heap[g.blk k]? := by rw [hl]; exact h1
   exact holds_rnB h2
 have hcall := ro_own hs hro (g := g0) (B := fun j => ∃ k, (j, k) ∈ old) (w := w) (fun j ⟨k, hk⟩ => (hold j k hk).1) hc0 (fun u hu g1 g2 ag => ren_names fun j hj => ag j (hargs u hu j hj))
 have hargs' : (args.map (rn (look old))).map (ren g) = args.map (ren g0) := by
  rw [List.map_map]
  exact List.map_congr_left fun u _ => ren_rn g (look old) u
 rw [hargs']
 refine hcall.mono ?_
 rintro e w' ⟨g1, B1, hag, hc, rfl⟩
 have hg1 : ∀ j k, (j, k) ∈ old → g1.blk j = g.blk k ∧ g1.base j = g.base k ∧ g1.cap j = g.cap k := fun j k hjk => by
  obtain ⟨h1, h2, h3⟩ := hag j ⟨k, hjk⟩
  obtain ⟨h4, h5, h6⟩ := hg0 j k hjk
  exact ⟨h1.symm.trans h4, h2.symm.trans h5, h3.symm.trans h6⟩
 have hH' : HC M w0 g B H w' := hH.grow hc.below.below
 have hnewB : ∀ m k, (m, k) ∈ new → ¬ B k := fun m k hmk hb => hn k hb (hnew m k hmk).1
 let pick : Nat → Option Nat := fun k => if h : ∃ m, (m, k) ∈ new then some (Classical.choose h) else none
 have hpick : ∀ m k, (m, k) ∈ new → pick k = some m := fun m k hmk => by
  have h : ∃ m, (m, k) ∈ new := ⟨m, hmk⟩
  simp only [pick, dif_pos h]
  have := Classical.choose_spec h
  rw [pair_snd hn2 this hmk]
 have hpickn : ∀ k, (∀ m, (m, k) ∉ new) → pick k = none := fun k hk => by
  simp only [pick]
  rw [dif_neg fun ⟨m, hm⟩ => hk m hm]
 let g2 : Nm := ⟨fun k => match pick k with | some m => g1.blk m | none => g.blk k, fun k => match pick k with | some m => g1.base m | none => g.base k, fun k => match pick k with | some m => g1.cap m | none => g.cap k⟩
 have hg2B : ∀ k, B k → g2.blk k = g.blk k ∧ g2.base k = g.base k ∧ g2.cap k = g.cap k := fun k hb => by
  have := hpickn k fun m hm => hnewB m k hm hb
  simp [g2, this]
 have hg2n : ∀ m k, (m, k) ∈ new → g2.blk k = g1.blk m ∧ g2.base k = g1.base m ∧ g2.cap k = g1.cap m := fun m k hmk => by
  simp [g2, hpick m k hmk]
 have hagree : Agree B g g2 := fun k hb => by obtain ⟨h1, h2, h3⟩ := hg2B k hb; exact ⟨h1.symm, h2.symm, h3.symm⟩
 have hg2 : ∀ j k, (j, k) ∈ old ++ new → g2.blk k = g1.blk j ∧ g2.base k = g1.base j ∧ g2.cap k = g1.cap j := fun j k hjk => by
  rcases List.mem_append.1 hjk with h | h
  ·obtain ⟨h1, h2, h3⟩ := hg2B k (hkB j k h)
   obtain ⟨h4, h5, h6⟩ := hg1 j k h
   exact ⟨h1.trans h4.symm, h2.trans h5.symm, h3.trans h6.symm⟩
  ·exact hg2n j k h
 have hat : ∀ j k, (j, k) ∈ old ++ new → AgreeAt g1 (g2.comp (look (old ++ new))) j := fun j k hjk => by
  obtain ⟨h1, h2, h3⟩ := hg2 j k hjk
  show g1.blk j = (g2.comp _).blk j ∧ _
  simp only [Nm.comp, look_spec hn1 hjk]
  exact ⟨h1.symm, h2.symm, h3.symm⟩
 have hPB : ∀ j k, (j, k) ∈ old ++ new → Plus B nm k := fun j k hjk => by
  rcases List.mem_append.1 hjk with h | h
  ·exact Or.inl (hkB j k h)
  ·exact Or.inr (hnew j k h).1
 have hget : ∀ k b, apU (usR (look (old ++ new)) new H1) H k = some b → (∃ j b1, (j, k) ∈ new ∧ H1 j = some b1 ∧ b = b1.rnB (look (old ++ new))) ∨ ((∀ j, (j, k) ∉ new) ∧ H k = some b) := by
  intro k b hb
  change apU (usOf new (fun j => match H1 j with | some b => some (b.rnB (look (old ++ new))) | none => none)) H k = some b at hb
  obtain ⟨h1, h2⟩ := apU_usOf (H1 := fun j => match H1 j with | some b => some (b.rnB (look (old ++ new))) | none => none) (H := H) (k := k) hn2
  rcases find_caller new k with ⟨j, hj⟩ | hno
  ·rw [h1 j hj] at hb
   split at hb
   ·rename_i b1 hb1
    simp at hb
    exact Or.inl ⟨j, b1, hj, hb1, hb.symm⟩
   ·simp at hb
  ·exact Or.inr ⟨hno, by rw [← h2 hno]; exact hb⟩
 have hni : ∀ j k b, (j, k) ∈ new → H1 j = some b → b.noIt := fun j k b hjk hb => by
  obtain ⟨_, b', hb', _, hn, _⟩ := hnew j k hjk
  rw [hb] at hb'; simp at hb'; subst hb'
  exact hn
 have hpl : ∀ j k b, (j, k) ∈ new → H1 j = some b → b.wr = true ∧ ∀ cs, b.row = some cs → ∀ c ∈ cs, ∀ i ∈ nm0 c, ∃ k, (i, k) ∈ old ++ new := fun j k b hjk hb => by
  obtain ⟨_, b', hb', hw, _, hns⟩ := hnew j k hjk
  rw [hb] at hb'; simp at hb'; subst hb'
  exact ⟨hw, hns⟩
 have hge : ∀ j k b, (j, k) ∈ new → H1 j = some b → w.heap.size ≤ g1.blk j := fun j k b hjk hb => by
  rcases hc.own j b hb (hpl j k b hjk hb).1 with h | h
  ·exact h
  ·exact h.elim
 have hlk : ∀ j k, (j, k) ∈ new → look (old ++ new) j = k := fun j k hjk => look_spec hn1 (List.mem_append_right _ hjk)
 refine ⟨g2, hagree, ⟨hH'.below, fun k b hb => ?_, fun k b hb => ?_, fun k b hb => ?_, fun k b hb hw => ?_, fun k l b c hb hcl hw he => ?_⟩, ?_, ?_⟩
 ·rcases hget k b hb with ⟨j, b1, hjk, _⟩ | ⟨_, hHk⟩
  ·exact Or.inr (hnew j k hjk).1
  ·exact Or.inl (hH.dom k b hHk)
 ·rcases hget k b hb with ⟨j, b1, hjk, hb1, rfl⟩ | ⟨hno, hHk⟩
  ·refine rnB_inB (g := g1) (hni j k b1 hjk hb1) (hc.scope j b1 hb1) fun cs hcs c hcc i hi => ?_
   obtain ⟨k', hk'⟩ := (hpl j k b1 hjk hb1).2 cs hcs c hcc i hi
   rw [look_spec hn1 hk']
   exact hPB i k' hk'
  ·exact (hH.scope k b hHk).mono plus_mono
 ·rcases hget k b hb with ⟨j, b1, hjk, hb1, rfl⟩ | ⟨hno, hHk⟩
  ·obtain ⟨e1, e2, e3⟩ := hg2n j k hjk
   rw [e1]
   have := rnB_holds (g' := g2) (f := look (old ++ new)) (hni j k b1 hjk hb1) (hc.holds j b1 hb1) (hat j k (List.mem_append_right _ hjk)) (fun cs hcs c hcc i hi => by
    obtain ⟨k', hk'⟩ := (hpl j k b1 hjk hb1).2 cs hcs c hcc i hi
    exact hat i k' hk')
   rw [hlk j k hjk] at this
   exact this
  ·rw [(hg2B k (hH.dom k b hHk)).1]
   exact (hH'.holds k b hHk).congr hagree (hH.dom k b hHk) (hH.scope k b hHk)
 ·rcases hget k b hb with ⟨j, b1, hjk, hb1, rfl⟩ | ⟨hno, hHk⟩
  ·rw [(hg2n j k hjk).1]
   exact Or.inl (Nat.le_trans hH.below.size (hge j k b1 hjk hb1))
  ·rw [(hg2B k (hH.dom k b hHk)).1]
   exact hH.own k b hHk hw
 ·rcases hget k b hb with ⟨j, b1, hjk, hb1, rfl⟩ | ⟨hno, hHk⟩
  ·rcases hget l c hcl with ⟨j', c1, hjl, hc1, rfl⟩ | ⟨hno', hHl⟩
   ·rw [(hg2n j k hjk).1, (hg2n j' l hjl).1] at he
    have := hc.inj j j' b1 c1 hb1 hc1 (by rw [wr_rnB] at hw; exact hw) he
    subst this
    exact pair_fst hn1n hjk hjl
   ·rw [(hg2n j k hjk).1, (hg2B l (hH.dom l c hHl)).1] at he
    have h1 := hge j k b1 hjk hb1
    have h2 := hH.lt hHl
    omega
  ·rcases hget l c hcl with ⟨j', c1, hjl, hc1, rfl⟩ | ⟨hno', hHl⟩
   ·rw [(hg2n j' l hjl).1, (hg2B k (hH.dom k b hHk)).1] at he
    have h1 := hge j' l c1 hjl hc1
    have h2 := hH.lt hHk
    omega
   ·rw [(hg2B k (hH.dom k b hHk)).1, (hg2B l (hH.dom l c hHl)).1] at he
    exact hH.inj k l b c hHk hHl hw he
 ·intro g3 g4 ag
  rw [ren_rn, ren_rn]
  refine ren_names fun j hj => ?_
  obtain ⟨k, hjk⟩ := hv j hj
  show (g3.comp _).blk j = (g4.comp _).blk j ∧ _
  simp only [Nm.comp, look_spec hn1 hjk]
  exact ag k (hPB j k hjk)
 ·rw [ren_rn]
  refine congrArg Ending.returned (ren_names fun j hj => ?_)
  obtain ⟨k, hjk⟩ := hv j hj
  exact hat j k hjk
end
structure GS (P : Program) (f : FuncId) (args : List Value) (H : Heap) (nm : Nat) (r : Res) where
 ar : List Value
 H0 : Heap
 nx : Nat
 v : Value
 H1 : Heap
 old : List (Nat × Nat)
 new : List (Nat × Nat)
 spec : CallSpec P f ar H0 nx v H1
 n1 : ((old ++ new).map (·.1)).Nodup
 n2 : (new.map (·.2)).Nodup
 hold : ∀ j k, (j, k) ∈ old → j < nx ∧ ∀ b0, H0 j = some b0 → ∃ b cs, H k = some b ∧ b.row = some (mapL (rn0 (look old)) cs) ∧ b0 = .ro cs ∧ ∀ c ∈ cs, ∀ i ∈ nm0 c, ∃ k', (i, k') ∈ old
 inB : ∀ j k, (j, k) ∈ old → (∃ b, H k = some b) ∨ (∃ u ∈ args, k ∈ nms u) ∨ ∃ j' b, H j' = some b ∧ k ∈ b.nmB
 h0 : ∀ j b, H0 j = some b → ∃ k, (j, k) ∈ old
 hnew : ∀ m k, (m, k) ∈ new → Fresh nm k ∧ ∃ b, H1 m = some b ∧ b.wr = true ∧ b.noIt ∧ ∀ cs, b.row = some cs → ∀ c ∈ cs, ∀ j ∈ nm0 c, ∃ k, (j, k) ∈ old ++ new
 hv : ∀ j ∈ nms v, ∃ k, (j, k) ∈ old ++ new
 hargs : ∀ u ∈ ar, ∀ j ∈ nms u, ∃ k, (j, k) ∈ old
 ha : args = ar.map (rn (look old))
 rv : r.v = rn (look (old ++ new)) v
 us : r.us = usR (look (old ++ new)) new H1
theorem gen_sum {P : Program} {f : FuncId} (he : Enters P f) {S : List Value → Heap → Nat → Option Res} (h : ∀ args H nm r, S args H nm = some r → (∀ p ∈ r.ob, p) → Nonempty (GS P f args H nm r))
  (hc : ∀ args H nm r, S args H nm = some r → ∀ H', (∀ k ∈ r.rs, H' k = H k) → S args H' nm = some r) : SumOK P f S := by
 refine ⟨he, fun args H nm r hr hob M w0 g B w hH hargs hn => ?_, hc⟩
 obtain ⟨G⟩ := h args H nm r hr hob
 have := ro_calls2 G.spec G.n1 G.n2 G.hold G.h0 G.hnew G.hv G.hargs (fun j k hjk => by
  rcases G.inB j k hjk with ⟨b, hb⟩ | ⟨u, hu, hk⟩ | ⟨j', b, hb, hk⟩
  ·exact hH.dom k b hb
  ·exact inB_names (hargs u hu) k hk
  ·exact blk_names (hH.scope j' b hb) k hk) hH hn
 rw [← G.ha, ← G.us, ← G.rv] at this
 exact this
theorem sum_imp {P : Program} {f : FuncId} {S S' : List Value → Heap → Nat → Option Res} (hS : SumOK P f S) (h : ∀ args H nm r, S' args H nm = some r → (∀ p ∈ r.ob, p) → ∃ r0, S args H nm = some r0 ∧ (∀ p ∈ r0.ob, p) ∧ r.v = r0.v ∧ r.us = r0.us)
  (hc : ∀ args H nm r, S' args H nm = some r → ∀ H', (∀ k ∈ r.rs, H' k = H k) → S' args H' nm = some r) : SumOK P f S' := by
 refine ⟨hS.1, fun args H nm r hr hob M w0 g B w hH hargs hn => ?_, hc⟩
 obtain ⟨r0, h1, h2, h3, h4⟩ := h args H nm r hr hob
 rw [h3, h4]
 exact hS.2.1 args H nm r0 h1 h2 M w0 g B w hH hargs hn
noncomputable def pathToR {ι : Type} (C : Ctx) (ws : List W) (k : List Ctl) (S : St) (K : List Ctl) (nx0 : Nat) (L : LoopF ι) (b : Nat) (m : Option Nat) (i0 : ι) (r : List (Nat × Nat)) : Option (List Prop) :=
 match run C 1000000 ws k S with
 | .atK k' S' => match getTs S'.T (L.ts b) with
  | some vals => match getHs S'.H (look r) (L.hs b) with
   | some blks => bif nodupB (mapN (look r) (L.hs b)) then bif keepsB nx0 r then some (SameK k' K :: Enter L b m vals blks r :: S'.ob) else none else none
   | none => none
  | none => none
 | _ => none
noncomputable def pathRetR (C : Ctx) (fn : Func) (ws : List W) (k : List Ctl) (S : St) (nx0 : Nat) (v : Value) (hs : List Nat) (hv : List Blk) (r : List (Nat × Nat)) : Option (List Prop) :=
 match run C 1000000 ws k S with
 | .ret S' => match resOf C.P fn S' with
  | some u => match getHs S'.H (look r) hs with
   | some blks => bif nodupB (mapN (look r) hs) then bif keepsB nx0 r then some (Back u v blks hv r :: S'.ob) else none else none
   | none => none
  | none => none
 | _ => none
section
variable {E : Env} {C : Ctx} {ws : List W} {k K : List Ctl} {S : St} {nx0 : Nat} {obs : List Prop}
theorem path_toR {ι : Type} {L : LoopF ι} {b : Nat} {m : Option Nat} {i0 : ι} {r : List (Nat × Nat)} (hm : E.P.follows .mixedOrders = true) (hS : SumsOK E.P C.sums) (hP : C.P = E.P) (hn : C.n = E.n) (hA : ∀ k, E.An.2 k → k < nx0) (hL : L.OK nx0)
  (h : pathToR C ws k S K nx0 L b m i0 r = some obs) (hob : all obs) (hK : ∀ i, L.inv b i → ltO (L.mu b i) m → Sat E K (L.st b i)) : Sat E k S := by
 unfold pathToR at h
 split at h
 ·rename_i k' S' hrun
  split at h
  ·rename_i vals hvals
   split at h
   ·rename_i blks hblks
    have p1 := bifB h
    have p2 := bifB p1.2
    have hr := p2.2
    simp only [Option.some.injEq] at hr
    subst hr
    obtain ⟨hk, ⟨i, hi, hlt, hv1, hb1⟩, hobs⟩ := hob
    have hk : k' = K := hk
    subst hk
    have := run_sound (C := C) (E := E) hP hn hm hS 1000000 ws k S (by
     rw [hrun]
     refine ⟨all_iff.1 hobs, fun g a w hc => ?_⟩
     refine hK i hi hlt (g.comp (look r)) a w ?_
     obtain ⟨l1, h1⟩ := getTs_spec hvals
     obtain ⟨l2, h2⟩ := getHs_spec hblks
     refine conc_move hc (fun t v hv => ?_) (fun k x hx => ?_) (fun j l x y hx hy he => ?_) (fun j hj => ?_)
     ·obtain ⟨j, hj1, hj2⟩ := assocN_mem hv
      obtain ⟨u, hu1, hu2⟩ := h1 j t hj1
      refine ⟨?_, hL.tv b i hi v (List.mem_of_getElem? hj2)⟩
      rw [hu2]
      rw [hv1, List.getElem?_map, hj2] at hu1
      simpa using hu1.symm
     ·obtain ⟨j, hj1, hj2⟩ := assocN_mem hx
      obtain ⟨u, hu1, hu2⟩ := h2 j k hj1
      refine ⟨hL.hs b i hi k (List.mem_of_getElem? hj1), hL.hv b i hi x (List.mem_of_getElem? hj2), ?_⟩
      rw [hu2]
      rw [hb1, List.getElem?_map, hj2] at hu1
      simpa using hu1.symm
     ·obtain ⟨a1, ha1, _⟩ := assocN_mem hx
      obtain ⟨a2, ha2, _⟩ := assocN_mem hy
      exact nodup_inj p1.1 j (List.mem_of_getElem? ha1) l (List.mem_of_getElem? ha2) he
     ·exact ⟨keepsB_ok p2.1 j (hA j hj), Nat.lt_of_lt_of_le (hA j hj) hL.nx⟩)
    exact this.2
   ·simp at h
  ·simp at h
 ·simp at h
theorem path_retR {fn : Func} {v : Value} {hs : List Nat} {hv : List Blk} {nx : Nat} {r : List (Nat × Nat)} (hm : E.P.follows .mixedOrders = true) (hS : SumsOK E.P C.sums) (hP : C.P = E.P) (hn : C.n = E.n) (hA : ∀ k, E.An.2 k → k < nx0) (hnx : nx0 ≤ nx)
  (hR : E.R = bodyPost E.P fn fun e w' => ∃ g' B', Agree E.An.2 E.An.1 g' ∧ HC E.M E.w0 g' B' (assocN hs hv) w' ∧ e = .returned (ren g' v)) (hhs : ∀ k ∈ hs, k < nx) (hhv : ∀ x ∈ hv, x.namesLt nx)
  (h : pathRetR C fn ws k S nx0 v hs hv r = some obs) (hob : all obs) : Sat E k S := by
 unfold pathRetR at h
 split at h
 ·rename_i S' hrun
  split at h
  ·rename_i u hu
   split at h
   ·rename_i blks hblks
    have p1 := bifB h
    have p2 := bifB p1.2
    have hr := p2.2
    simp only [Option.some.injEq] at hr
    subst hr
    obtain ⟨⟨hu1, hb1⟩, hobs⟩ := hob
    obtain ⟨P, An, M, w0, n, R⟩ := E
    simp only at hP hn hA hR hm hS
    subst hP
    subst hn
    subst hR
    have := run_sound (C := C) (E := ⟨C.P, An, M, w0, C.n, _⟩) rfl rfl hm hS 1000000 ws k S (by
     rw [hrun]
     refine ⟨all_iff.1 hobs, satRet_of (fn := fn) (M := M) (R := fun e w' => ∃ g' B', Agree An.2 An.1 g' ∧ HC M w0 g' B' (assocN hs hv) w' ∧ e = .returned (ren g' v)) fun g B a w hB hrc => ?_⟩
     refine ⟨ren g u, (resOf_ok hrc hu).1, g.comp (look r), (· < nx), fun j hj => ?_, ?_, (by conv => lhs; rw [hu1, ren_rn])⟩
     ·obtain ⟨h1, h2, h3⟩ := hrc.anch j hj
      simp only [Nm.comp, keepsB_ok p2.1 j (hA j hj)]
      exact ⟨h1, h2, h3⟩
     ·obtain ⟨l2, h2⟩ := getHs_spec hblks
      refine hc_move hrc.hc (fun k x hx => ?_) (fun j l x y hx hy he => ?_)
      ·obtain ⟨j, hj1, hj2⟩ := assocN_mem hx
       obtain ⟨u', hu1', hu2⟩ := h2 j k hj1
       refine ⟨hhs k (List.mem_of_getElem? hj1), hhv x (List.mem_of_getElem? hj2), ?_⟩
       rw [hu2]
       rw [hb1, List.getElem?_map, hj2] at hu1'
       simpa using hu1'.symm
      ·obtain ⟨a1, ha1, _⟩ := assocN_mem hx
       obtain ⟨a2, ha2, _⟩ := assocN_mem hy
       exact nodup_inj p1.1 j (List.mem_of_getElem? ha1) l (List.mem_of_getElem? ha2) he)
    exact this.2
   ·simp at h
  ·simp at h
 ·simp at h
end
section
variable {E : Env} {P : Program} {fn : Func} {na nx : Nat} {v : Value} {hs : List Nat} {hv : List Blk} {T : Sums} {h : Nat → Nat → Nat → Hint} {ws : List W} {k K : List Ctl} {S : St} {obs : List Prop} {r : List (Nat × Nat)}
theorem by_retR (hE : EnvOK E P fn na nx v hs hv) (hm : P.follows .mixedOrders = true) (hT : SumsOK P T) {nx' : Nat} (hnx : nx ≤ nx') (hhs : ∀ k ∈ hs, k < nx') (hhv : ∀ x ∈ hv, x.namesLt nx')
  (h0 : pathRetR (cx P fn na T h) fn ws k S nx v hs hv r = some obs) (hob : all obs) : Sat E k S :=
 path_retR (C := cx P fn na T h) (by rw [hE.P]; exact hm) (by rw [hE.P]; exact hT) hE.P.symm hE.n.symm hE.A hnx hE.R hhs hhv h0 hob
theorem by_toR {ι : Type} {L : LoopF ι} {b : Nat} {m : Option Nat} {i0 : ι} (hE : EnvOK E P fn na nx v hs hv) (hm : P.follows .mixedOrders = true) (hT : SumsOK P T) (hL : L.OK nx)
  (h0 : pathToR (cx P fn na T h) ws k S K nx L b m i0 r = some obs) (hob : all obs) (hK : ∀ i, L.inv b i → ltO (L.mu b i) m → Sat E K (L.st b i)) : Sat E k S :=
 path_toR (C := cx P fn na T h) (by rw [hE.P]; exact hm) (by rw [hE.P]; exact hT) hE.P.symm hE.n.symm hE.A hL h0 hob hK
end
end Go.Proofs.Ythbaccmhdffjdaa.Ev
namespace Go.Proofs.Ythbaccmhdffjdaa.Tn
open Go Go.RowKit Ev Within PickE NodeE Tn
def Rw.w (r : Rw) (a : Option Addr) (k : Nat) : Value := bif r.z then .slice (some ⟨k, 0, none⟩) r.n r.c else .slice a 0 0
def Rw.wz (r : Rw) (a : Option Addr) (k : Nat) : Option Addr := bif r.z then some ⟨k, 0, none⟩ else a
def Rw.wn (r : Rw) : Nat := bif r.z then r.n else 0
def Rw.wc (r : Rw) : Nat := bif r.z then r.c else 0
theorem Rw.w_eq (r : Rw) (a : Option Addr) (k : Nat) : Value.slice (r.wz a k) r.wn r.wc = r.w a k := by
 unfold Rw.wz Rw.wn Rw.wc Rw.w
 cases r.z <;> rfl
def hat (a : Option Addr) (h : Nat) : Prop := a = none ∨ ∃ sp, a = some ⟨h, 0, sp⟩
theorem Rw.w_nm {r : Rw} {a : Option Addr} {k h : Nat} (ha : hat a h) : ∀ j ∈ nm0 (r.w a k), j = k ∨ j = h := by
 intro j hj
 unfold Rw.w at hj
 cases hz : r.z <;> rw [hz] at hj
 ·rcases ha with rfl | ⟨sp, rfl⟩
  ·simp [nm0] at hj
  ·simp [nm0] at hj; exact Or.inr hj
 ·simp [nm0] at hj; exact Or.inl hj
def RwIn (r : Rw) (x : Option Blk) : Prop := r.good ∧ (r.z = false → r.cs = []) ∧ ∃ b, x = some b ∧ b.row = some r.cs
theorem RwIn.pl {r : Rw} {x : Option Blk} (h : RwIn r x) : ∀ c ∈ r.cs, leafG c = true := by
 cases hz : r.z with
 | false => rw [h.2.1 hz]; intro c hc; simp at hc
 | true => exact (h.1 hz).2.2
theorem sum_or {P : Program} {f : FuncId} {S S' : List Value → Heap → Nat → Option Res} (hS : SumOK P f S) (h : ∀ args H nm r, S' args H nm = some r → (∀ p ∈ r.ob, p) → (∃ r0, S args H nm = some r0 ∧ (∀ p ∈ r0.ob, p) ∧ r.v = r0.v ∧ r.us = r0.us) ∨ Nonempty (GS P f args H nm r))
  (hc : ∀ args H nm r, S' args H nm = some r → ∀ H', (∀ k ∈ r.rs, H' k = H k) → S' args H' nm = some r) : SumOK P f S' := by
 refine ⟨hS.1, fun args H nm r hr hob M w0 g B w hH hargs hn => ?_, hc⟩
 rcases h args H nm r hr hob with ⟨r0, h1, h2, h3, h4⟩ | ⟨⟨G⟩⟩
 ·rw [h3, h4]
  exact hS.2.1 args H nm r0 h1 h2 M w0 g B w hH hargs hn
 ·have := ro_calls2 G.spec G.n1 G.n2 G.hold G.h0 G.hnew G.hv G.hargs (fun j k hjk => by
   rcases G.inB j k hjk with ⟨b, hb⟩ | ⟨u, hu, hk⟩ | ⟨j', b, hb, hk⟩
   ·exact hH.dom k b hb
   ·exact inB_names (hargs u hu) k hk
   ·exact blk_names (hH.scope j' b hb) k hk) hH hn
  rw [← G.ha, ← G.us, ← G.rv] at this
  exact this
theorem pickO (a : Option Addr) (i : Int)  {E : Env} (hE : EnvOK E Try.prog Try.f44 2 2 (.int .i64 0) [] []) (hob : all ([Back (Value.int IntKind.i64 ((0 : Int))) (Value.int IntKind.i64 ((0 : Int))) [] [] []])) : Sat E [.code (bodyOf Try.f44)] (st0 Try.f44 [.slice a 0 0, .int .i64 i] (roRows []) 2) :=
 by_ret (T := auto0 t_none) (h := hints []) (ws := []) (nx' := 2) hE hm (auto0_ok t_none_ok) (by omega) (by simp) (by simp) (by kernel_rfl) hob
def PickQ (PV : Value → Int → Int) (v : Value) (i : Int) (vw : List (Option Blk)) : Prop := ∃ (k h : Nat) (r : Rw) (a : Option Addr), k < 4 ∧ hat a h ∧ v = r.w a k ∧ RwIn r (vw.getD k none) ∧ PV v i = pickI r.l i ∧ 0 ≤ i
def pickQ_F (PV : Value → Int → Int) : List Value → Heap → Nat → Option Res := fun xs H nm => match xs with
 | [v, .int .i64 i] => some ⟨.int .i64 (PV v i), [], [0, 1, 2, 3], [PickQ PV v i [H 0, H 1, H 2, H 3]]⟩
 | _ => none
theorem pickQ_sum (PV : Value → Int → Int) : SumOK Try.prog 44 (pickQ_F PV) := by
 refine sum_or pick_sum (fun xs H nm r h hob => ?_) (fun xs H nm r h H' hH => ?_)
 ·unfold pickQ_F at h
  split at h
  ·rename_i v i
   simp only [Option.some.injEq] at h
   subst h
   obtain ⟨k, h, ⟨z, cs, n, c⟩, a, hk, ha, rfl, ⟨hg, _, hb⟩, hp, hi⟩ := hob _ (List.mem_cons_self ..)
   have hv : ([H 0, H 1, H 2, H 3] : List (Option Blk)).getD k none = H k := by
    match k, hk with
    | 0, _ | 1, _ | 2, _ | 3, _ => rfl
    | k + 4, h => omega
   rw [hv] at hb
   cases z
   ·right
    have hz : pickI (Rw.l ⟨false, cs, n, c⟩) i = 0 := by simp [Rw.l, pickI]
    rw [hz] at hp
    rcases ha with rfl | ⟨sp, rfl⟩
    ·exact ⟨⟨[.slice none 0 0, .int .i64 i], roRows [], 2, .int .i64 0, assocN [] [], [], [], spec_of_sat Try.func44 rfl fun E hE => pickO none i hE ⟨⟨rfl, rfl⟩, trivial⟩, by simp, by simp, fun j k h => by simp at h, fun j k h => by simp at h, fun j b h => by simp [roRows] at h, fun m k h => by simp at h, fun j h => by simp [nms, nm1, nm0] at h, fun u hu j hj => by
      simp only [List.mem_cons, List.not_mem_nil, or_false] at hu
      rcases hu with rfl | rfl <;> simp [nms, nm1, nm0] at hj, rfl, (by show Value.int .i64 _ = .int .i64 0; rw [hp]), rfl⟩⟩
    ·exact ⟨⟨[.slice (some ⟨1, 0, sp⟩) 0 0, .int .i64 i], roRows [], 2, .int .i64 0, assocN [] [], [(1, h)], [], spec_of_sat Try.func44 rfl fun E hE => pickO _ i hE ⟨⟨rfl, rfl⟩, trivial⟩, by simp, by simp, fun j k h => by
      simp at h
      exact ⟨by omega, fun b0 hb0 => by simp [roRows] at hb0⟩, fun j k h => by
      simp at h
      obtain ⟨rfl, rfl⟩ := h
      exact Or.inr (Or.inl ⟨_, List.mem_cons_self .., by simp [Rw.w, nms, nm1, nm0]⟩), fun j b h => by simp [roRows] at h, fun m k h => by simp at h, fun j h => by simp [nms, nm1, nm0] at h, fun u hu j hj => by
      simp only [List.mem_cons, List.not_mem_nil, or_false] at hu
      rcases hu with rfl | rfl
      ·simp [nms, nm1, nm0] at hj
       subst hj
       exact ⟨h, by simp⟩
      ·simp [nms, nm1, nm0] at hj, rfl, (by show Value.int .i64 _ = .int .i64 0; rw [hp]), rfl⟩⟩
   ·left
    obtain ⟨b, hb1, hb2⟩ := hb
    obtain ⟨h1, h2, h3⟩ := hg rfl
    refine ⟨⟨.int .i64 (pickI (intsOf cs 0 n) i), [], [k], [plainR [cs], IntRow .i64 cs 0 n, 0 ≤ i]⟩, ?_, ?_, ?_, rfl⟩
    ·simp only [roSum, Rw.w, cond_true, canL, can1, can0, leafG, List.append_nil, rowsOf]
     rw [hb1]
     simp only [hb2]
     rfl
    ·exact all_iff.1 ⟨plain1 h3, h1, hi, trivial⟩
    ·show Value.int .i64 _ = _; rw [hp]; rfl
  ·simp at h
 ·unfold pickQ_F at h ⊢
  split at h
  ·rename_i v i
   simp only [Option.some.injEq] at h
   subst h
   have hq := fun k (hk : k ∈ [0, 1, 2, 3]) => hH k hk
   simp only [hq 0 (by simp), hq 1 (by simp), hq 2 (by simp), hq 3 (by simp)]
  ·simp at h
noncomputable def t_nh (PV : Value → Int → Int) : Sums := upd t_bring 44 (some (pickQ_F PV))
theorem t_nh_ok (PV : Value → Int → Int) : SumsOK Try.prog (t_nh PV) := sums_cons t_bring_ok (pickQ_sum PV)
end Go.Proofs.Ythbaccmhdffjdaa.Tn
namespace Go.Proofs.Ythbaccmhdffjdaa.Tn
open Go Go.RowKit Ev Within PickE NodeE Tn
theorem tnh (PV : Value → Int → Int) (Q : NF → Prop) (cl dim v0 : Int) (a0 a1 a2 a3 : Option Addr) (n0 c0 n1 c1 n2 c2 n3 c3 : Nat) (R0 R1 R2 R3 : List Value)  {E rv rhs rhv} (hE : EnvOK E Try.prog Try.f24 2 8 rv rhs rhv) (hL : (tnL dim [.int .i64 cl, .slice a0 n0 c0, .slice a1 n1 c1, .slice a2 n2 c2, .slice a3 n3 c3] [0, 1, 2, 3] [.ro R0, .ro R1, .ro R2, .ro R3] Q).OK 8) (hob : all ([SameK (atLp (lp Try.f24 0)) (atLp (lp Try.f24 0)), Enter (tnL dim [.int .i64 cl, .slice a0 n0 c0, .slice a1 n1 c1, .slice a2 n2 c2, .slice a3 n3 c3] [0, 1, 2, 3] [Blk.ro R0, Blk.ro R1, Blk.ro R2, Blk.ro R3] Q) 0 none [.int .i64 dim, .pointer (some (Addr.mk 8 0 none)), .slice (some (Addr.mk 64 0 none)) 1 Ev.mark, .slice (some (Addr.mk 80 0 none)) 1 Ev.mark, .int .i64 ((0 : Int))] [Blk.cells [.int .i64 cl, .slice a0 n0 c0, .slice a1 n1 c1, .slice a2 n2 c2, .slice a3 n3 c3] 55, Blk.vec [.bool true, .int .i64 v0, .int .i64 ((0 : Int)), .int .i64 ((0 : Int)), .int .i64 ((0 : Int)), .int .i64 ((0 : Int))] 86 6, Blk.vec [.int .i64 ((0 : Int))] 3 1, Blk.ro R0, Blk.ro R1, Blk.ro R2, Blk.ro R3] [(10, 8), (11, 64), (12, 80)], Value.int IntKind.i64 (withinS (PV (Value.slice a3 n3 c3) 0) ((-3000 : Int)) ((3000 : Int))) = .int .i64 v0, I64 (PV (Value.slice a3 n3 c3) 0), (-2305843009213693952 : Int) ≤ (-3000 : Int), (-3000 : Int) ≤ (3000 : Int), (3000 : Int) ≤ (2305843009213693952 : Int), PickQ PV (Value.slice a3 n3 c3) ((0 : Int)) [some (Blk.ro R0), some (Blk.ro R1), some (Blk.ro R2), some (Blk.ro R3)]])) (hK : ∀ zz, (tnL dim [.int .i64 cl, .slice a0 n0 c0, .slice a1 n1 c1, .slice a2 n2 c2, .slice a3 n3 c3] [0, 1, 2, 3] [.ro R0, .ro R1, .ro R2, .ro R3] Q).inv 0 zz → ltO ((tnL dim [.int .i64 cl, .slice a0 n0 c0, .slice a1 n1 c1, .slice a2 n2 c2, .slice a3 n3 c3] [0, 1, 2, 3] [.ro R0, .ro R1, .ro R2, .ro R3] Q).mu 0 zz) none → Sat E (atLp (lp Try.f24 0)) ((tnL dim [.int .i64 cl, .slice a0 n0 c0, .slice a1 n1 c1, .slice a2 n2 c2, .slice a3 n3 c3] [0, 1, 2, 3] [.ro R0, .ro R1, .ro R2, .ro R3] Q).st 0 zz)) : Sat E [.code (bodyOf Try.f24)] (st0 Try.f24 [.agg ⟨[.int .i64 cl, .slice a0 n0 c0, .slice a1 n1 c1, .slice a2 n2 c2, .slice a3 n3 c3]⟩, .int .i64 dim] (roRows [R0, R1, R2, R3]) 8) :=
 by_to (T := auto0 (t_nh PV)) (h := hints [(1, 3, {v := some (.int .i64 v0)}), (1, 5, {p := true}), (2, 0, {p := true})]) (ws := [.stop]) (i0 := ⟨0, [⟨true, v0, 0, 0, 0, 0⟩], [0]⟩) hE hm (auto0_ok (t_nh_ok PV)) hL (by kernel_rfl) hob hK
theorem tbha (PV : Value → Int → Int) (Q : NF → Prop) (cl dim : Int) (a1 a2 a3 : Option Addr) (n0 c0 n1 c1 n2 c2 n3 c3 : Nat) (R0 R1 R2 R3 : List Value) (i k k1 : Nat) (nodes nodes2 : List Nd) (leaves leaves2 : List Int) (pz lm lm1 pl nn d1 f a nn1 i2 i21 i22 x1 x2 : Int) (q1 : List Value)  (J : _) {E rv rhs rhv} (hE : EnvOK E Try.prog Try.f24 2 8 rv rhs rhv) (hL : ((tnL dim [.int .i64 cl, .slice (some ⟨0, 0, none⟩) n0 c0, .slice a1 n1 c1, .slice a2 n2 c2, .slice a3 n3 c3] [0, 1, 2, 3] [.ro R0, .ro R1, .ro R2, .ro R3] Q)).OK 8) (hob : all ([SameK (mkLp (lp Try.f24 0) J) (mkLp (lp Try.f24 0) J), Enter (tnL dim [.int .i64 cl, .slice (some (Addr.mk 0 0 none)) n0 c0, .slice a1 n1 c1, .slice a2 n2 c2, .slice a3 n3 c3] [0, 1, 2, 3] [Blk.ro R0, Blk.ro R1, Blk.ro R2, Blk.ro R3] Q) 0 (some (7 - i)) [.int .i64 dim, .pointer (some (Addr.mk 10 0 none)), .slice (some (Addr.mk 533 0 none)) (nodes.length + 2) Ev.mark, .slice (some (Addr.mk 661 0 none)) 2 Ev.mark, .int .i64 (Int.ofNat i.succ)] [Blk.cells [.int .i64 cl, .slice (some (Addr.mk 0 0 none)) n0 c0, .slice a1 n1 c1, .slice a2 n2 c2, .slice a3 n3 c3] 55, Blk.vec (eNd.row nodes2) 86 6, Blk.vec (eInt.row leaves2) 3 1, Blk.ro R0, Blk.ro R1, Blk.ro R2, Blk.ro R3] [(10, 10), (11, 533), (12, 661)], Value.int IntKind.i64 (IntKind.i64.wrap (Int.ofNat i.succ)) = .int .i64 (Int.ofNat i.succ), AppOK (some (Blk.cells [] 3)) 0 0 1 8 2 [.int .i64 nn, .int .i64 nn1] 0 (eInt.row leaves2), Value.int IntKind.i64 (IntKind.i64.wrap (nn + (1 : Int))) = .int .i64 nn1, ZeroOK 0 (Value.slice (some (Addr.mk 549 0 none)) 0 0) (some (Blk.cells [] 3)), EndOK 1 leaves.length Ev.mark (some ((k1 : Int))) none (some (Blk.vec (eInt.row leaves) 3 1)), Value.int IntKind.i64 (IntKind.i64.wrap (Int.ofNat k.succ)) = .int .i64 ((k1 : Int)), ZeroOK k (Value.slice (some (Addr.mk 549 0 none)) 0 0) (some (Blk.cells [] 3)), SlOK 1 12 0 leaves.length Ev.mark none (some ((k : Int))) (some (Blk.vec (eInt.row leaves) 3 1)) (Value.slice (some (Addr.mk 12 0 none)) k Ev.mark), AppOK (some (Blk.vec q1 86 6)) nodes.length Ev.mark 6 48 2 [.bool true, .int .i64 x1, .int .i64 ((0 : Int)), .int .i64 ((0 : Int)), .int .i64 ((0 : Int)), .int .i64 ((0 : Int)), .bool true, .int .i64 x2, .int .i64 ((0 : Int)), .int .i64 ((0 : Int)), .int .i64 ((0 : Int)), .int .i64 ((0 : Int))] 0 (eNd.row nodes2), Value.int IntKind.i64 (withinS (PV (Value.slice a3 n3 c3) i22) ((-3000 : Int)) ((3000 : Int))) = .int .i64 x2, I64 (PV (Value.slice a3 n3 c3) i22), (-2305843009213693952 : Int) ≤ (-3000 : Int), (-3000 : Int) ≤ (3000 : Int), (3000 : Int) ≤ (2305843009213693952 : Int), PickQ PV (Value.slice a3 n3 c3) i22 [some (Blk.ro R0), some (Blk.ro R1), some (Blk.ro R2), some (Blk.ro R3)], Value.int IntKind.i64 (IntKind.i64.wrap (i2 + (2 : Int))) = .int .i64 i22, Value.int IntKind.i64 (IntKind.i64.wrap (Int.ofNat (2 * i))) = .int .i64 i2, Value.int IntKind.i64 (withinS (PV (Value.slice a3 n3 c3) i21) ((-3000 : Int)) ((3000 : Int))) = .int .i64 x1, I64 (PV (Value.slice a3 n3 c3) i21), (-2305843009213693952 : Int) ≤ (-3000 : Int), (-3000 : Int) ≤ (3000 : Int), (3000 : Int) ≤ (2305843009213693952 : Int), PickQ PV (Value.slice a3 n3 c3) i21 [some (Blk.ro R0), some (Blk.ro R1), some (Blk.ro R2), some (Blk.ro R3)], Value.int IntKind.i64 (IntKind.i64.wrap (i2 + (1 : Int))) = .int .i64 i21, Value.int IntKind.i64 (IntKind.i64.wrap (Int.ofNat (2 * i))) = .int .i64 i2, lset (eNd.row nodes) (0 + pl.toNat * 6) [.bool false, .int .i64 0, .int .i64 f, .int .i64 a, .int .i64 nn, .int .i64 nn1] = some q1, (0 : Int) ≤ pl ∧ pl < Int.ofNat nodes.length, Value.int IntKind.i64 (IntKind.i64.wrap (nn + (1 : Int))) = .int .i64 nn1, Value.int IntKind.i64 (withinS (PV (Value.slice a2 n2 c2) (↑i : Int)) ((0 : Int)) ((9 : Int))) = .int .i64 a, I64 (PV (Value.slice a2 n2 c2) (↑i : Int)), (-2305843009213693952 : Int) ≤ (0 : Int), (0 : Int) ≤ (9 : Int), (9 : Int) ≤ (2305843009213693952 : Int), PickQ PV (Value.slice a2 n2 c2) ((i : Int)) [some (Blk.ro R0), some (Blk.ro R1), some (Blk.ro R2), some (Blk.ro R3)], Value.int IntKind.i64 (withinS (PV (Value.slice a1 n1 c1) (↑i : Int)) ((0 : Int)) d1) = .int .i64 f, I64 (PV (Value.slice a1 n1 c1) (↑i : Int)), (-2305843009213693952 : Int) ≤ (0 : Int), (0 : Int) ≤ d1, d1 ≤ (2305843009213693952 : Int), Value.int IntKind.i64 (IntKind.i64.wrap (dim - (1 : Int))) = .int .i64 d1, PickQ PV (Value.slice a1 n1 c1) ((i : Int)) [some (Blk.ro R0), some (Blk.ro R1), some (Blk.ro R2), some (Blk.ro R3)], Value.int IntKind.i64 (Int.ofNat nodes.length) = .int .i64 nn, readPart Try.prog 3 (eInt.row leaves) (0 + ((k : Int)).toNat * 1) = some (Value.int IntKind.i64 pl), (0 : Int) ≤ (k : Int) ∧ (k : Int) < Int.ofNat leaves.length, Value.int IntKind.i64 (withinS pz ((0 : Int)) lm1) = .int .i64 ((k : Int)), I64 pz, (-2305843009213693952 : Int) ≤ (0 : Int), (0 : Int) ≤ lm1, lm1 ≤ (2305843009213693952 : Int), Value.int IntKind.i64 (IntKind.i64.wrap (lm - (1 : Int))) = .int .i64 lm1, Value.int IntKind.i64 (Int.ofNat leaves.length) = .int .i64 lm, readPart Try.prog 3 R0 (0 + ((i : Int)).toNat * 1) = some (Value.int IntKind.i64 pz), (0 : Int) ≤ (i : Int) ∧ (i : Int) < (n0 : Int), Value.bool (decide ((↑i : Int) < 7)) = .bool true, Value.bool (decide ((↑i : Int) < (↑n0 : Int))) = .bool true])) (hK : ∀ zz, ((tnL dim [.int .i64 cl, .slice (some ⟨0, 0, none⟩) n0 c0, .slice a1 n1 c1, .slice a2 n2 c2, .slice a3 n3 c3] [0, 1, 2, 3] [.ro R0, .ro R1, .ro R2, .ro R3] Q)).inv 0 zz → ltO (((tnL dim [.int .i64 cl, .slice (some ⟨0, 0, none⟩) n0 c0, .slice a1 n1 c1, .slice a2 n2 c2, .slice a3 n3 c3] [0, 1, 2, 3] [.ro R0, .ro R1, .ro R2, .ro R3] Q)).mu 0 zz) (some (7 - i)) → Sat E (mkLp (lp Try.f24 0) J) (((tnL dim [.int .i64 cl, .slice (some ⟨0, 0, none⟩) n0 c0, .slice a1 n1 c1, .slice a2 n2 c2, .slice a3 n3 c3] [0, 1, 2, 3] [.ro R0, .ro R1, .ro R2, .ro R3] Q)).st 0 zz)) : Sat E (inLp (lp Try.f24 0) J) ((tnL dim [.int .i64 cl, .slice (some ⟨0, 0, none⟩) n0 c0, .slice a1 n1 c1, .slice a2 n2 c2, .slice a3 n3 c3] [0, 1, 2, 3] [.ro R0, .ro R1, .ro R2, .ro R3] Q).st 0 ⟨i, nodes, leaves⟩) :=
 by_to (T := auto0 (t_nh PV)) (h := hints [(4, 4, ht true), (4, 7, ht true), (6, 3, {p := true}), (6, 4, {o := some (.int .i64 pz)}), (6, 6, {v := some (.int .i64 lm)}), (6, 7, {v := some (.int .i64 lm1)}), (6, 8, {v := some (.int .i64 ((k : Nat) : Int))}), (7, 2, {p := true}), (7, 3, {o := some (.int .i64 pl)}), (8, 1, {v := some (.int .i64 nn)}), (9, 7, {v := some (.int .i64 d1)}), (9, 8, {v := some (.int .i64 f)}), (9, 13, {v := some (.int .i64 a)}), (9, 16, {v := some (.int .i64 nn1)}), (9, 18, {p := true}), (9, 19, {c := some q1}), (10, 4, {v := some (.int .i64 i2)}), (10, 5, {v := some (.int .i64 i21)}), (10, 7, {v := some (.int .i64 x1)}), (10, 12, {v := some (.int .i64 i2)}), (10, 13, {v := some (.int .i64 i22)}), (10, 15, {v := some (.int .i64 x2)}), (10, 18, {c := some (eNd.row nodes2)}), (11, 3, {o := some (.slice (some ⟨12, 0, none⟩) k mk)}), (11, 7, {v := some (.int .i64 ((k1 : Nat) : Int))}), (11, 4, {p := true}), (11, 8, {p := true}), (11, 9, {p := true}), (11, 12, {v := some (.int .i64 nn1)}), (11, 14, {c := some (eInt.row leaves2)}), (5, 1, {v := some (.int .i64 ((i + 1 : Nat) : Int))})]) (ws := [.go]) (i0 := ⟨i + 1, nodes2, leaves2⟩) hE hm (auto0_ok (t_nh_ok PV)) hL (by kernel_rfl) hob hK
theorem tbhb (PV : Value → Int → Int) (Q : NF → Prop) (cl dim : Int) (a1 a2 a3 : Option Addr) (n0 c0 n1 c1 n2 c2 n3 c3 : Nat) (R0 R1 R2 R3 : List Value) (i k k1 : Nat) (nodes nodes2 : List Nd) (leaves leaves2 : List Int) (pz lm lm1 pl nn d1 f a nn1 i2 i21 i22 x1 x2 : Int) (q1 : List Value) (n5 c5 o5 : Nat) (r4 : List Value) (J : _) {E rv rhs rhv} (hE : EnvOK E Try.prog Try.f24 2 8 rv rhs rhv) (hL : ((tnL dim [.int .i64 cl, .slice (some ⟨0, 0, none⟩) n0 c0, .slice a1 n1 c1, .slice a2 n2 c2, .slice a3 n3 c3] [0, 1, 2, 3] [.ro R0, .ro R1, .ro R2, .ro R3] Q)).OK 8) (hob : all ([SameK (mkLp (lp Try.f24 0) J) (mkLp (lp Try.f24 0) J), Enter (tnL dim [.int .i64 cl, .slice (some (Addr.mk 0 0 none)) n0 c0, .slice a1 n1 c1, .slice a2 n2 c2, .slice a3 n3 c3] [0, 1, 2, 3] [Blk.ro R0, Blk.ro R1, Blk.ro R2, Blk.ro R3] Q) 0 (some (7 - i)) [.int .i64 dim, .pointer (some (Addr.mk 10 0 none)), .slice (some (Addr.mk 533 0 none)) (nodes.length + 2) Ev.mark, .slice (some (Addr.mk 661 0 none)) (0 + n5 + 2) Ev.mark, .int .i64 (Int.ofNat i.succ)] [Blk.cells [.int .i64 cl, .slice (some (Addr.mk 0 0 none)) n0 c0, .slice a1 n1 c1, .slice a2 n2 c2, .slice a3 n3 c3] 55, Blk.vec (eNd.row nodes2) 86 6, Blk.vec (eInt.row leaves2) 3 1, Blk.ro R0, Blk.ro R1, Blk.ro R2, Blk.ro R3] [(10, 10), (11, 533), (12, 661)], Value.int IntKind.i64 (IntKind.i64.wrap (Int.ofNat i.succ)) = .int .i64 (Int.ofNat i.succ), AppOK (some (Blk.vec r4 3 1)) (0 + n5) Ev.mark 1 8 2 [.int .i64 nn, .int .i64 nn1] 0 (eInt.row leaves2), Value.int IntKind.i64 (IntKind.i64.wrap (nn + (1 : Int))) = .int .i64 nn1, AppOK (some (Blk.cells [] 3)) 0 0 1 8 n5 (eInt.row leaves) o5 r4, SlOK 1 12 0 leaves.length Ev.mark (some ((k1 : Int))) none (some (Blk.vec (eInt.row leaves) 3 1)) (Value.slice (some (Addr.mk 12 o5 none)) n5 c5), Value.int IntKind.i64 (IntKind.i64.wrap (Int.ofNat k.succ)) = .int .i64 ((k1 : Int)), ZeroOK k (Value.slice (some (Addr.mk 549 0 none)) 0 0) (some (Blk.cells [] 3)), SlOK 1 12 0 leaves.length Ev.mark none (some ((k : Int))) (some (Blk.vec (eInt.row leaves) 3 1)) (Value.slice (some (Addr.mk 12 0 none)) k Ev.mark), AppOK (some (Blk.vec q1 86 6)) nodes.length Ev.mark 6 48 2 [.bool true, .int .i64 x1, .int .i64 ((0 : Int)), .int .i64 ((0 : Int)), .int .i64 ((0 : Int)), .int .i64 ((0 : Int)), .bool true, .int .i64 x2, .int .i64 ((0 : Int)), .int .i64 ((0 : Int)), .int .i64 ((0 : Int)), .int .i64 ((0 : Int))] 0 (eNd.row nodes2), Value.int IntKind.i64 (withinS (PV (Value.slice a3 n3 c3) i22) ((-3000 : Int)) ((3000 : Int))) = .int .i64 x2, I64 (PV (Value.slice a3 n3 c3) i22), (-2305843009213693952 : Int) ≤ (-3000 : Int), (-3000 : Int) ≤ (3000 : Int), (3000 : Int) ≤ (2305843009213693952 : Int), PickQ PV (Value.slice a3 n3 c3) i22 [some (Blk.ro R0), some (Blk.ro R1), some (Blk.ro R2), some (Blk.ro R3)], Value.int IntKind.i64 (IntKind.i64.wrap (i2 + (2 : Int))) = .int .i64 i22, Value.int IntKind.i64 (IntKind.i64.wrap (Int.ofNat (2 * i))) = .int .i64 i2, Value.int IntKind.i64 (withinS (PV (Value.slice a3 n3 c3) i21) ((-3000 : Int)) ((3000 : Int))) = .int .i64 x1, I64 (PV (Value.slice a3 n3 c3) i21), (-2305843009213693952 : Int) ≤ (-3000 : Int), (-3000 : Int) ≤ (3000 : Int), (3000 : Int) ≤ (2305843009213693952 : Int), PickQ PV (Value.slice a3 n3 c3) i21 [some (Blk.ro R0), some (Blk.ro R1), some (Blk.ro R2), some (Blk.ro R3)], Value.int IntKind.i64 (IntKind.i64.wrap (i2 + (1 : Int))) = .int .i64 i21, Value.int IntKind.i64 (IntKind.i64.wrap (Int.ofNat (2 * i))) = .int .i64 i2, lset (eNd.row nodes) (0 + pl.toNat * 6) [.bool false, .int .i64 0, .int .i64 f, .int .i64 a, .int .i64 nn, .int .i64 nn1] = some q1, (0 : Int) ≤ pl ∧ pl < Int.ofNat nodes.length, Value.int IntKind.i64 (IntKind.i64.wrap (nn + (1 : Int))) = .int .i64 nn1, Value.int IntKind.i64 (withinS (PV (Value.slice a2 n2 c2) (↑i : Int)) ((0 : Int)) ((9 : Int))) = .int .i64 a, I64 (PV (Value.slice a2 n2 c2) (↑i : Int)), (-2305843009213693952 : Int) ≤ (0 : Int), (0 : Int) ≤ (9 : Int), (9 : Int) ≤ (2305843009213693952 : Int), PickQ PV (Value.slice a2 n2 c2) ((i : Int)) [some (Blk.ro R0), some (Blk.ro R1), some (Blk.ro R2), some (Blk.ro R3)], Value.int IntKind.i64 (withinS (PV (Value.slice a1 n1 c1) (↑i : Int)) ((0 : Int)) d1) = .int .i64 f, I64 (PV (Value.slice a1 n1 c1) (↑i : Int)), (-2305843009213693952 : Int) ≤ (0 : Int), (0 : Int) ≤ d1, d1 ≤ (2305843009213693952 : Int), Value.int IntKind.i64 (IntKind.i64.wrap (dim - (1 : Int))) = .int .i64 d1, PickQ PV (Value.slice a1 n1 c1) ((i : Int)) [some (Blk.ro R0), some (Blk.ro R1), some (Blk.ro R2), some (Blk.ro R3)], Value.int IntKind.i64 (Int.ofNat nodes.length) = .int .i64 nn, readPart Try.prog 3 (eInt.row leaves) (0 + ((k : Int)).toNat * 1) = some (Value.int IntKind.i64 pl), (0 : Int) ≤ (k : Int) ∧ (k : Int) < Int.ofNat leaves.length, Value.int IntKind.i64 (withinS pz ((0 : Int)) lm1) = .int .i64 ((k : Int)), I64 pz, (-2305843009213693952 : Int) ≤ (0 : Int), (0 : Int) ≤ lm1, lm1 ≤ (2305843009213693952 : Int), Value.int IntKind.i64 (IntKind.i64.wrap (lm - (1 : Int))) = .int .i64 lm1, Value.int IntKind.i64 (Int.ofNat leaves.length) = .int .i64 lm, readPart Try.prog 3 R0 (0 + ((i : Int)).toNat * 1) = some (Value.int IntKind.i64 pz), (0 : Int) ≤ (i : Int) ∧ (i : Int) < (n0 : Int), Value.bool (decide ((↑i : Int) < 7)) = .bool true, Value.bool (decide ((↑i : Int) < (↑n0 : Int))) = .bool true])) (hK : ∀ zz, ((tnL dim [.int .i64 cl, .slice (some ⟨0, 0, none⟩) n0 c0, .slice a1 n1 c1, .slice a2 n2 c2, .slice a3 n3 c3] [0, 1, 2, 3] [.ro R0, .ro R1, .ro R2, .ro R3] Q)).inv 0 zz → ltO (((tnL dim [.int .i64 cl, .slice (some ⟨0, 0, none⟩) n0 c0, .slice a1 n1 c1, .slice a2 n2 c2, .slice a3 n3 c3] [0, 1, 2, 3] [.ro R0, .ro R1, .ro R2, .ro R3] Q)).mu 0 zz) (some (7 - i)) → Sat E (mkLp (lp Try.f24 0) J) (((tnL dim [.int .i64 cl, .slice (some ⟨0, 0, none⟩) n0 c0, .slice a1 n1 c1, .slice a2 n2 c2, .slice a3 n3 c3] [0, 1, 2, 3] [.ro R0, .ro R1, .ro R2, .ro R3] Q)).st 0 zz)) : Sat E (inLp (lp Try.f24 0) J) ((tnL dim [.int .i64 cl, .slice (some ⟨0, 0, none⟩) n0 c0, .slice a1 n1 c1, .slice a2 n2 c2, .slice a3 n3 c3] [0, 1, 2, 3] [.ro R0, .ro R1, .ro R2, .ro R3] Q).st 0 ⟨i, nodes, leaves⟩) :=
 by_to (T := auto0 (t_nh PV)) (h := hints [(4, 4, ht true), (4, 7, ht true), (6, 3, {p := true}), (6, 4, {o := some (.int .i64 pz)}), (6, 6, {v := some (.int .i64 lm)}), (6, 7, {v := some (.int .i64 lm1)}), (6, 8, {v := some (.int .i64 ((k : Nat) : Int))}), (7, 2, {p := true}), (7, 3, {o := some (.int .i64 pl)}), (8, 1, {v := some (.int .i64 nn)}), (9, 7, {v := some (.int .i64 d1)}), (9, 8, {v := some (.int .i64 f)}), (9, 13, {v := some (.int .i64 a)}), (9, 16, {v := some (.int .i64 nn1)}), (9, 18, {p := true}), (9, 19, {c := some q1}), (10, 4, {v := some (.int .i64 i2)}), (10, 5, {v := some (.int .i64 i21)}), (10, 7, {v := some (.int .i64 x1)}), (10, 12, {v := some (.int .i64 i2)}), (10, 13, {v := some (.int .i64 i22)}), (10, 15, {v := some (.int .i64 x2)}), (10, 18, {c := some (eNd.row nodes2)}), (11, 3, {o := some (.slice (some ⟨12, 0, none⟩) k mk)}), (11, 7, {v := some (.int .i64 ((k1 : Nat) : Int))}), (11, 4, {p := true}), (11, 8, {o := some (.slice (some ⟨12, o5, none⟩) n5 c5)}), (11, 9, {c := some r4}), (11, 12, {v := some (.int .i64 nn1)}), (11, 14, {c := some (eInt.row leaves2)}), (5, 1, {v := some (.int .i64 ((i + 1 : Nat) : Int))})]) (ws := [.go]) (i0 := ⟨i + 1, nodes2, leaves2⟩) hE hm (auto0_ok (t_nh_ok PV)) hL (by kernel_rfl) hob hK
theorem tbhc (PV : Value → Int → Int) (Q : NF → Prop) (cl dim : Int) (a1 a2 a3 : Option Addr) (n0 c0 n1 c1 n2 c2 n3 c3 : Nat) (R0 R1 R2 R3 : List Value) (i k k1 : Nat) (nodes nodes2 : List Nd) (leaves leaves2 : List Int) (pz lm lm1 pl nn d1 f a nn1 i2 i21 i22 x1 x2 : Int) (q1 : List Value) (n5 c5 o5 : Nat) (r5 r4 : List Value) (J : _) {E rv rhs rhv} (hE : EnvOK E Try.prog Try.f24 2 8 rv rhs rhv) (hL : ((tnL dim [.int .i64 cl, .slice (some ⟨0, 0, none⟩) n0 c0, .slice a1 n1 c1, .slice a2 n2 c2, .slice a3 n3 c3] [0, 1, 2, 3] [.ro R0, .ro R1, .ro R2, .ro R3] Q)).OK 8) (hob : all ([SameK (mkLp (lp Try.f24 0) J) (mkLp (lp Try.f24 0) J), Enter (tnL dim [.int .i64 cl, .slice (some (Addr.mk 0 0 none)) n0 c0, .slice a1 n1 c1, .slice a2 n2 c2, .slice a3 n3 c3] [0, 1, 2, 3] [Blk.ro R0, Blk.ro R1, Blk.ro R2, Blk.ro R3] Q) 0 (some (7 - i)) [.int .i64 dim, .pointer (some (Addr.mk 10 0 none)), .slice (some (Addr.mk 533 0 none)) (nodes.length + 2) Ev.mark, .slice (some (Addr.mk 661 0 none)) (0 + k + n5 + 2) Ev.mark, .int .i64 (Int.ofNat i.succ)] [Blk.cells [.int .i64 cl, .slice (some (Addr.mk 0 0 none)) n0 c0, .slice a1 n1 c1, .slice a2 n2 c2, .slice a3 n3 c3] 55, Blk.vec (eNd.row nodes2) 86 6, Blk.vec (eInt.row leaves2) 3 1, Blk.ro R0, Blk.ro R1, Blk.ro R2, Blk.ro R3] [(10, 10), (11, 533), (12, 661)], Value.int IntKind.i64 (IntKind.i64.wrap (Int.ofNat i.succ)) = .int .i64 (Int.ofNat i.succ), AppOK (some (Blk.vec r4 3 1)) (0 + k + n5) Ev.mark 1 8 2 [.int .i64 nn, .int .i64 nn1] 0 (eInt.row leaves2), Value.int IntKind.i64 (IntKind.i64.wrap (nn + (1 : Int))) = .int .i64 nn1, AppOK (some (Blk.vec r5 3 1)) (0 + k) Ev.mark 1 8 n5 (eInt.row leaves) o5 r4, SlOK 1 12 0 leaves.length Ev.mark (some ((k1 : Int))) none (some (Blk.vec (eInt.row leaves) 3 1)) (Value.slice (some (Addr.mk 12 o5 none)) n5 c5), Value.int IntKind.i64 (IntKind.i64.wrap (Int.ofNat k.succ)) = .int .i64 ((k1 : Int)), AppOK (some (Blk.cells [] 3)) 0 0 1 8 k (eInt.row leaves) 0 r5, SlOK 1 12 0 leaves.length Ev.mark none (some ((k : Int))) (some (Blk.vec (eInt.row leaves) 3 1)) (Value.slice (some (Addr.mk 12 0 none)) k Ev.mark), AppOK (some (Blk.vec q1 86 6)) nodes.length Ev.mark 6 48 2 [.bool true, .int .i64 x1, .int .i64 ((0 : Int)), .int .i64 ((0 : Int)), .int .i64 ((0 : Int)), .int .i64 ((0 : Int)), .bool true, .int .i64 x2, .int .i64 ((0 : Int)), .int .i64 ((0 : Int)), .int .i64 ((0 : Int)), .int .i64 ((0 : Int))] 0 (eNd.row nodes2), Value.int IntKind.i64 (withinS (PV (Value.slice a3 n3 c3) i22) ((-3000 : Int)) ((3000 : Int))) = .int .i64 x2, I64 (PV (Value.slice a3 n3 c3) i22), (-2305843009213693952 : Int) ≤ (-3000 : Int), (-3000 : Int) ≤ (3000 : Int), (3000 : Int) ≤ (2305843009213693952 : Int), PickQ PV (Value.slice a3 n3 c3) i22 [some (Blk.ro R0), some (Blk.ro R1), some (Blk.ro R2), some (Blk.ro R3)], Value.int IntKind.i64 (IntKind.i64.wrap (i2 + (2 : Int))) = .int .i64 i22, Value.int IntKind.i64 (IntKind.i64.wrap (Int.ofNat (2 * i))) = .int .i64 i2, Value.int IntKind.i64 (withinS (PV (Value.slice a3 n3 c3) i21) ((-3000 : Int)) ((3000 : Int))) = .int .i64 x1, I64 (PV (Value.slice a3 n3 c3) i21), (-2305843009213693952 : Int) ≤ (-3000 : Int), (-3000 : Int) ≤ (3000 : Int), (3000 : Int) ≤ (2305843009213693952 : Int), PickQ PV (Value.slice a3 n3 c3) i21 [some (Blk.ro R0), some (Blk.ro R1), some (Blk.ro R2), some (Blk.ro R3)], Value.int IntKind.i64 (IntKind.i64.wrap (i2 + (1 : Int))) = .int .i64 i21, Value.int IntKind.i64 (IntKind.i64.wrap (Int.ofNat (2 * i))) = .int .i64 i2, lset (eNd.row nodes) (0 + pl.toNat * 6) [.bool false, .int .i64 0, .int .i64 f, .int .i64 a, .int .i64 nn, .int .i64 nn1] = some q1, (0 : Int) ≤ pl ∧ pl < Int.ofNat nodes.length, Value.int IntKind.i64 (IntKind.i64.wrap (nn + (1 : Int))) = .int .i64 nn1, Value.int IntKind.i64 (withinS (PV (Value.slice a2 n2 c2) (↑i : Int)) ((0 : Int)) ((9 : Int))) = .int .i64 a, I64 (PV (Value.slice a2 n2 c2) (↑i : Int)), (-2305843009213693952 : Int) ≤ (0 : Int), (0 : Int) ≤ (9 : Int), (9 : Int) ≤ (2305843009213693952 : Int), PickQ PV (Value.slice a2 n2 c2) ((i : Int)) [some (Blk.ro R0), some (Blk.ro R1), some (Blk.ro R2), some (Blk.ro R3)], Value.int IntKind.i64 (withinS (PV (Value.slice a1 n1 c1) (↑i : Int)) ((0 : Int)) d1) = .int .i64 f, I64 (PV (Value.slice a1 n1 c1) (↑i : Int)), (-2305843009213693952 : Int) ≤ (0 : Int), (0 : Int) ≤ d1, d1 ≤ (2305843009213693952 : Int), Value.int IntKind.i64 (IntKind.i64.wrap (dim - (1 : Int))) = .int .i64 d1, PickQ PV (Value.slice a1 n1 c1) ((i : Int)) [some (Blk.ro R0), some (Blk.ro R1), some (Blk.ro R2), some (Blk.ro R3)], Value.int IntKind.i64 (Int.ofNat nodes.length) = .int .i64 nn, readPart Try.prog 3 (eInt.row leaves) (0 + ((k : Int)).toNat * 1) = some (Value.int IntKind.i64 pl), (0 : Int) ≤ (k : Int) ∧ (k : Int) < Int.ofNat leaves.length, Value.int IntKind.i64 (withinS pz ((0 : Int)) lm1) = .int .i64 ((k : Int)), I64 pz, (-2305843009213693952 : Int) ≤ (0 : Int), (0 : Int) ≤ lm1, lm1 ≤ (2305843009213693952 : Int), Value.int IntKind.i64 (IntKind.i64.wrap (lm - (1 : Int))) = .int .i64 lm1, Value.int IntKind.i64 (Int.ofNat leaves.length) = .int .i64 lm, readPart Try.prog 3 R0 (0 + ((i : Int)).toNat * 1) = some (Value.int IntKind.i64 pz), (0 : Int) ≤ (i : Int) ∧ (i : Int) < (n0 : Int), Value.bool (decide ((↑i : Int) < 7)) = .bool true, Value.bool (decide ((↑i : Int) < (↑n0 : Int))) = .bool true])) (hK : ∀ zz, ((tnL dim [.int .i64 cl, .slice (some ⟨0, 0, none⟩) n0 c0, .slice a1 n1 c1, .slice a2 n2 c2, .slice a3 n3 c3] [0, 1, 2, 3] [.ro R0, .ro R1, .ro R2, .ro R3] Q)).inv 0 zz → ltO (((tnL dim [.int .i64 cl, .slice (some ⟨0, 0, none⟩) n0 c0, .slice a1 n1 c1, .slice a2 n2 c2, .slice a3 n3 c3] [0, 1, 2, 3] [.ro R0, .ro R1, .ro R2, .ro R3] Q)).mu 0 zz) (some (7 - i)) → Sat E (mkLp (lp Try.f24 0) J) (((tnL dim [.int .i64 cl, .slice (some ⟨0, 0, none⟩) n0 c0, .slice a1 n1 c1, .slice a2 n2 c2, .slice a3 n3 c3] [0, 1, 2, 3] [.ro R0, .ro R1, .ro R2, .ro R3] Q)).st 0 zz)) : Sat E (inLp (lp Try.f24 0) J) ((tnL dim [.int .i64 cl, .slice (some ⟨0, 0, none⟩) n0 c0, .slice a1 n1 c1, .slice a2 n2 c2, .slice a3 n3 c3] [0, 1, 2, 3] [.ro R0, .ro R1, .ro R2, .ro R3] Q).st 0 ⟨i, nodes, leaves⟩) :=
 by_to (T := auto0 (t_nh PV)) (h := hints [(4, 4, ht true), (4, 7, ht true), (6, 3, {p := true}), (6, 4, {o := some (.int .i64 pz)}), (6, 6, {v := some (.int .i64 lm)}), (6, 7, {v := some (.int .i64 lm1)}), (6, 8, {v := some (.int .i64 ((k : Nat) : Int))}), (7, 2, {p := true}), (7, 3, {o := some (.int .i64 pl)}), (8, 1, {v := some (.int .i64 nn)}), (9, 7, {v := some (.int .i64 d1)}), (9, 8, {v := some (.int .i64 f)}), (9, 13, {v := some (.int .i64 a)}), (9, 16, {v := some (.int .i64 nn1)}), (9, 18, {p := true}), (9, 19, {c := some q1}), (10, 4, {v := some (.int .i64 i2)}), (10, 5, {v := some (.int .i64 i21)}), (10, 7, {v := some (.int .i64 x1)}), (10, 12, {v := some (.int .i64 i2)}), (10, 13, {v := some (.int .i64 i22)}), (10, 15, {v := some (.int .i64 x2)}), (10, 18, {c := some (eNd.row nodes2)}), (11, 3, {o := some (.slice (some ⟨12, 0, none⟩) k mk)}), (11, 7, {v := some (.int .i64 ((k1 : Nat) : Int))}), (11, 4, {c := some r5}), (11, 8, {o := some (.slice (some ⟨12, o5, none⟩) n5 c5)}), (11, 9, {c := some r4}), (11, 12, {v := some (.int .i64 nn1)}), (11, 14, {c := some (eInt.row leaves2)}), (5, 1, {v := some (.int .i64 ((i + 1 : Nat) : Int))})]) (ws := [.go]) (i0 := ⟨i + 1, nodes2, leaves2⟩) hE hm (auto0_ok (t_nh_ok PV)) hL (by kernel_rfl) hob hK
theorem tbhd (PV : Value → Int → Int) (Q : NF → Prop) (cl dim : Int) (a1 a2 a3 : Option Addr) (n0 c0 n1 c1 n2 c2 n3 c3 : Nat) (R0 R1 R2 R3 : List Value) (i k k1 : Nat) (nodes nodes2 : List Nd) (leaves leaves2 : List Int) (pz lm lm1 pl nn d1 f a nn1 i2 i21 i22 x1 x2 : Int) (q1 : List Value) (r5 : List Value) (J : _) {E rv rhs rhv} (hE : EnvOK E Try.prog Try.f24 2 8 rv rhs rhv) (hL : ((tnL dim [.int .i64 cl, .slice (some ⟨0, 0, none⟩) n0 c0, .slice a1 n1 c1, .slice a2 n2 c2, .slice a3 n3 c3] [0, 1, 2, 3] [.ro R0, .ro R1, .ro R2, .ro R3] Q)).OK 8) (hob : all ([SameK (mkLp (lp Try.f24 0) J) (mkLp (lp Try.f24 0) J), Enter (tnL dim [.int .i64 cl, .slice (some (Addr.mk 0 0 none)) n0 c0, .slice a1 n1 c1, .slice a2 n2 c2, .slice a3 n3 c3] [0, 1, 2, 3] [Blk.ro R0, Blk.ro R1, Blk.ro R2, Blk.ro R3] Q) 0 (some (7 - i)) [.int .i64 dim, .pointer (some (Addr.mk 10 0 none)), .slice (some (Addr.mk 533 0 none)) (nodes.length + 2) Ev.mark, .slice (some (Addr.mk 661 0 none)) (0 + k + 2) Ev.mark, .int .i64 (Int.ofNat i.succ)] [Blk.cells [.int .i64 cl, .slice (some (Addr.mk 0 0 none)) n0 c0, .slice a1 n1 c1, .slice a2 n2 c2, .slice a3 n3 c3] 55, Blk.vec (eNd.row nodes2) 86 6, Blk.vec (eInt.row leaves2) 3 1, Blk.ro R0, Blk.ro R1, Blk.ro R2, Blk.ro R3] [(10, 10), (11, 533), (12, 661)], Value.int IntKind.i64 (IntKind.i64.wrap (Int.ofNat i.succ)) = .int .i64 (Int.ofNat i.succ), AppOK (some (Blk.vec r5 3 1)) (0 + k) Ev.mark 1 8 2 [.int .i64 nn, .int .i64 nn1] 0 (eInt.row leaves2), Value.int IntKind.i64 (IntKind.i64.wrap (nn + (1 : Int))) = .int .i64 nn1, ZeroOK 0 (Value.slice (some (Addr.mk 581 0 none)) (0 + k) Ev.mark) (some (Blk.vec r5 3 1)), EndOK 1 leaves.length Ev.mark (some ((k1 : Int))) none (some (Blk.vec (eInt.row leaves) 3 1)), Value.int IntKind.i64 (IntKind.i64.wrap (Int.ofNat k.succ)) = .int .i64 ((k1 : Int)), AppOK (some (Blk.cells [] 3)) 0 0 1 8 k (eInt.row leaves) 0 r5, SlOK 1 12 0 leaves.length Ev.mark none (some ((k : Int))) (some (Blk.vec (eInt.row leaves) 3 1)) (Value.slice (some (Addr.mk 12 0 none)) k Ev.mark), AppOK (some (Blk.vec q1 86 6)) nodes.length Ev.mark 6 48 2 [.bool true, .int .i64 x1, .int .i64 ((0 : Int)), .int .i64 ((0 : Int)), .int .i64 ((0 : Int)), .int .i64 ((0 : Int)), .bool true, .int .i64 x2, .int .i64 ((0 : Int)), .int .i64 ((0 : Int)), .int .i64 ((0 : Int)), .int .i64 ((0 : Int))] 0 (eNd.row nodes2), Value.int IntKind.i64 (withinS (PV (Value.slice a3 n3 c3) i22) ((-3000 : Int)) ((3000 : Int))) = .int .i64 x2, I64 (PV (Value.slice a3 n3 c3) i22), (-2305843009213693952 : Int) ≤ (-3000 : Int), (-3000 : Int) ≤ (3000 : Int), (3000 : Int) ≤ (2305843009213693952 : Int), PickQ PV (Value.slice a3 n3 c3) i22 [some (Blk.ro R0), some (Blk.ro R1), some (Blk.ro R2), some (Blk.ro R3)], Value.int IntKind.i64 (IntKind.i64.wrap (i2 + (2 : Int))) = .int .i64 i22, Value.int IntKind.i64 (IntKind.i64.wrap (Int.ofNat (2 * i))) = .int .i64 i2, Value.int IntKind.i64 (withinS (PV (Value.slice a3 n3 c3) i21) ((-3000 : Int)) ((3000 : Int))) = .int .i64 x1, I64 (PV (Value.slice a3 n3 c3) i21), (-2305843009213693952 : Int) ≤ (-3000 : Int), (-3000 : Int) ≤ (3000 : Int), (3000 : Int) ≤ (2305843009213693952 : Int), PickQ PV (Value.slice a3 n3 c3) i21 [some (Blk.ro R0), some (Blk.ro R1), some (Blk.ro R2), some (Blk.ro R3)], Value.int IntKind.i64 (IntKind.i64.wrap (i2 + (1 : Int))) = .int .i64 i21, Value.int IntKind.i64 (IntKind.i64.wrap (Int.ofNat (2 * i))) = .int .i64 i2, lset (eNd.row nodes) (0 + pl.toNat * 6) [.bool false, .int .i64 0, .int .i64 f, .int .i64 a, .int .i64 nn, .int .i64 nn1] = some q1, (0 : Int) ≤ pl ∧ pl < Int.ofNat nodes.length, Value.int IntKind.i64 (IntKind.i64.wrap (nn + (1 : Int))) = .int .i64 nn1, Value.int IntKind.i64 (withinS (PV (Value.slice a2 n2 c2) (↑i : Int)) ((0 : Int)) ((9 : Int))) = .int .i64 a, I64 (PV (Value.slice a2 n2 c2) (↑i : Int)), (-2305843009213693952 : Int) ≤ (0 : Int), (0 : Int) ≤ (9 : Int), (9 : Int) ≤ (2305843009213693952 : Int), PickQ PV (Value.slice a2 n2 c2) ((i : Int)) [some (Blk.ro R0), some (Blk.ro R1), some (Blk.ro R2), some (Blk.ro R3)], Value.int IntKind.i64 (withinS (PV (Value.slice a1 n1 c1) (↑i : Int)) ((0 : Int)) d1) = .int .i64 f, I64 (PV (Value.slice a1 n1 c1) (↑i : Int)), (-2305843009213693952 : Int) ≤ (0 : Int), (0 : Int) ≤ d1, d1 ≤ (2305843009213693952 : Int), Value.int IntKind.i64 (IntKind.i64.wrap (dim - (1 : Int))) = .int .i64 d1, PickQ PV (Value.slice a1 n1 c1) ((i : Int)) [some (Blk.ro R0), some (Blk.ro R1), some (Blk.ro R2), some (Blk.ro R3)], Value.int IntKind.i64 (Int.ofNat nodes.length) = .int .i64 nn, readPart Try.prog 3 (eInt.row leaves) (0 + ((k : Int)).toNat * 1) = some (Value.int IntKind.i64 pl), (0 : Int) ≤ (k : Int) ∧ (k : Int) < Int.ofNat leaves.length, Value.int IntKind.i64 (withinS pz ((0 : Int)) lm1) = .int .i64 ((k : Int)), I64 pz, (-2305843009213693952 : Int) ≤ (0 : Int), (0 : Int) ≤ lm1, lm1 ≤ (2305843009213693952 : Int), Value.int IntKind.i64 (IntKind.i64.wrap (lm - (1 : Int))) = .int .i64 lm1, Value.int IntKind.i64 (Int.ofNat leaves.length) = .int .i64 lm, readPart Try.prog 3 R0 (0 + ((i : Int)).toNat * 1) = some (Value.int IntKind.i64 pz), (0 : Int) ≤ (i : Int) ∧ (i : Int) < (n0 : Int), Value.bool (decide ((↑i : Int) < 7)) = .bool true, Value.bool (decide ((↑i : Int) < (↑n0 : Int))) = .bool true])) (hK : ∀ zz, ((tnL dim [.int .i64 cl, .slice (some ⟨0, 0, none⟩) n0 c0, .slice a1 n1 c1, .slice a2 n2 c2, .slice a3 n3 c3] [0, 1, 2, 3] [.ro R0, .ro R1, .ro R2, .ro R3] Q)).inv 0 zz → ltO (((tnL dim [.int .i64 cl, .slice (some ⟨0, 0, none⟩) n0 c0, .slice a1 n1 c1, .slice a2 n2 c2, .slice a3 n3 c3] [0, 1, 2, 3] [.ro R0, .ro R1, .ro R2, .ro R3] Q)).mu 0 zz) (some (7 - i)) → Sat E (mkLp (lp Try.f24 0) J) (((tnL dim [.int .i64 cl, .slice (some ⟨0, 0, none⟩) n0 c0, .slice a1 n1 c1, .slice a2 n2 c2, .slice a3 n3 c3] [0, 1, 2, 3] [.ro R0, .ro R1, .ro R2, .ro R3] Q)).st 0 zz)) : Sat E (inLp (lp Try.f24 0) J) ((tnL dim [.int .i64 cl, .slice (some ⟨0, 0, none⟩) n0 c0, .slice a1 n1 c1, .slice a2 n2 c2, .slice a3 n3 c3] [0, 1, 2, 3] [.ro R0, .ro R1, .ro R2, .ro R3] Q).st 0 ⟨i, nodes, leaves⟩) :=
 by_to (T := auto0 (t_nh PV)) (h := hints [(4, 4, ht true), (4, 7, ht true), (6, 3, {p := true}), (6, 4, {o := some (.int .i64 pz)}), (6, 6, {v := some (.int .i64 lm)}), (6, 7, {v := some (.int .i64 lm1)}), (6, 8, {v := some (.int .i64 ((k : Nat) : Int))}), (7, 2, {p := true}), (7, 3, {o := some (.int .i64 pl)}), (8, 1, {v := some (.int .i64 nn)}), (9, 7, {v := some (.int .i64 d1)}), (9, 8, {v := some (.int .i64 f)}), (9, 13, {v := some (.int .i64 a)}), (9, 16, {v := some (.int .i64 nn1)}), (9, 18, {p := true}), (9, 19, {c := some q1}), (10, 4, {v := some (.int .i64 i2)}), (10, 5, {v := some (.int .i64 i21)}), (10, 7, {v := some (.int .i64 x1)}), (10, 12, {v := some (.int .i64 i2)}), (10, 13, {v := some (.int .i64 i22)}), (10, 15, {v := some (.int .i64 x2)}), (10, 18, {c := some (eNd.row nodes2)}), (11, 3, {o := some (.slice (some ⟨12, 0, none⟩) k mk)}), (11, 7, {v := some (.int .i64 ((k1 : Nat) : Int))}), (11, 4, {c := some r5}), (11, 8, {p := true}), (11, 9, {p := true}), (11, 12, {v := some (.int .i64 nn1)}), (11, 14, {c := some (eInt.row leaves2)}), (5, 1, {v := some (.int .i64 ((i + 1 : Nat) : Int))})]) (ws := [.go]) (i0 := ⟨i + 1, nodes2, leaves2⟩) hE hm (auto0_ok (t_nh_ok PV)) hL (by kernel_rfl) hob hK
theorem tbhx (PV : Value → Int → Int) (Q : NF → Prop) (Q2 : Nat × List Int → Prop) (cl dim : Int) (a0 a1 a2 a3 : Option Addr) (n0 c0 n1 c1 n2 c2 n3 c3 : Nat) (R0 R1 R2 R3 : List Value) (i : Nat) (nodes : List Nd) (leaves : List Int) (J : _) {E rv rhs rhv} (hE : EnvOK E Try.prog Try.f24 2 8 rv rhs rhv) (hL : (tpL nodes Q2).OK 8) (hob : all ([SameK (atLp (lp Try.f24 1)) (atLp (lp Try.f24 1)), Enter (tpL nodes Q2) 0 none [.slice none 0 0, .slice (some (Addr.mk 11 0 none)) nodes.length Ev.mark, .int .i64 (Int.ofNat nodes.length), .int .i64 ((0 : Int))] [Blk.vec (eNd.row nodes) 86 6] [(11, 11)], Value.bool (decide ((↑i : Int) < (↑n0 : Int))) = .bool false])) (hK : ∀ zz, (tpL nodes Q2).inv 0 zz → ltO ((tpL nodes Q2).mu 0 zz) none → Sat E (atLp (lp Try.f24 1)) ((tpL nodes Q2).st 0 zz)) : Sat E (inLp (lp Try.f24 0) J) ((tnL dim [.int .i64 cl, .slice a0 n0 c0, .slice a1 n1 c1, .slice a2 n2 c2, .slice a3 n3 c3] [0, 1, 2, 3] [.ro R0, .ro R1, .ro R2, .ro R3] Q).st 0 ⟨i, nodes, leaves⟩) :=
 by_to (T := auto0 (t_nh PV)) (h := hints [(4, 4, ht false)]) (ws := [.go, .stop]) (i0 := (0, [])) hE hm (auto0_ok (t_nh_ok PV)) hL (by kernel_rfl) hob hK
theorem tbhy (PV : Value → Int → Int) (Q : NF → Prop) (Q2 : Nat × List Int → Prop) (cl dim : Int) (a0 a1 a2 a3 : Option Addr) (n0 c0 n1 c1 n2 c2 n3 c3 : Nat) (R0 R1 R2 R3 : List Value) (i : Nat) (nodes : List Nd) (leaves : List Int) (J : _) {E rv rhs rhv} (hE : EnvOK E Try.prog Try.f24 2 8 rv rhs rhv) (hL : (tpL nodes Q2).OK 8) (hob : all ([SameK (atLp (lp Try.f24 1)) (atLp (lp Try.f24 1)), Enter (tpL nodes Q2) 0 none [.slice none 0 0, .slice (some (Addr.mk 11 0 none)) nodes.length Ev.mark, .int .i64 (Int.ofNat nodes.length), .int .i64 ((0 : Int))] [Blk.vec (eNd.row nodes) 86 6] [(11, 11)], Value.bool (decide ((↑i : Int) < 7)) = .bool false, Value.bool (decide ((↑i : Int) < (↑n0 : Int))) = .bool true])) (hK : ∀ zz, (tpL nodes Q2).inv 0 zz → ltO ((tpL nodes Q2).mu 0 zz) none → Sat E (atLp (lp Try.f24 1)) ((tpL nodes Q2).st 0 zz)) : Sat E (inLp (lp Try.f24 0) J) ((tnL dim [.int .i64 cl, .slice a0 n0 c0, .slice a1 n1 c1, .slice a2 n2 c2, .slice a3 n3 c3] [0, 1, 2, 3] [.ro R0, .ro R1, .ro R2, .ro R3] Q).st 0 ⟨i, nodes, leaves⟩) :=
 by_to (T := auto0 (t_nh PV)) (h := hints [(4, 4, ht true), (4, 7, ht false)]) (ws := [.go, .stop]) (i0 := (0, [])) hE hm (auto0_ok (t_nh_ok PV)) hL (by kernel_rfl) hob hK
theorem tph0 (PV : Value → Int → Int) (Q : Nat × List Int → Prop) (nodes : List Nd)  (i : Nat) (l : Bool) (v f a x y w : Int) (out2 : List Int) (J : _) {E rv rhs rhv} (hE : EnvOK E Try.prog Try.f24 2 8 rv rhs rhv) (hL : (tpL nodes Q).OK 8) (hob : all ([SameK (mkLp (lp Try.f24 1) J) (mkLp (lp Try.f24 1) J), Enter (tpL nodes Q) 1 (some (nodes.length - i)) [.slice (some (Addr.mk 86 0 none)) 1 Ev.mark, .slice (some (Addr.mk 11 0 none)) nodes.length Ev.mark, .int .i64 (Int.ofNat nodes.length), .int .i64 (Int.ofNat i.succ)] [Blk.vec (eNd.row nodes) 86 6, Blk.vec (eWord.row out2) 83 1] [(13, 86), (11, 11)], Value.int IntKind.i64 (IntKind.i64.wrap (Int.ofNat i.succ)) = .int .i64 (Int.ofNat i.succ), AppOK none 0 0 1 8 1 [.int IntKind.u64 w] 0 (eWord.row out2), Value.int IntKind.u64 (packS l v f a x y) = .int IntKind.u64 w, I64 v, I64 a, readPart Try.prog 86 (eNd.row nodes) (0 + ((i : Int)).toNat * 6) = some (Value.agg (Array.mk [.bool l, .int .i64 v, .int .i64 f, .int .i64 a, .int .i64 x, .int .i64 y])), (0 : Int) ≤ (i : Int) ∧ (i : Int) < Int.ofNat nodes.length, decide ((↑i : Int) < (↑nodes.length : Int)) = true])) (hK : ∀ zz, (tpL nodes Q).inv 1 zz → ltO ((tpL nodes Q).mu 1 zz) (some (nodes.length - i)) → Sat E (mkLp (lp Try.f24 1) J) ((tpL nodes Q).st 1 zz)) : Sat E (inLp (lp Try.f24 1) J) ((tpL nodes Q).st 0 (i, [])) :=
 by_to (T := auto0 (t_nh PV)) (h := hints [(15, 0, {p := true}), (15, 1, {o := some (.agg ⟨[.bool l, .int .i64 v, .int .i64 f, .int .i64 a, .int .i64 x, .int .i64 y]⟩)}), (16, 2, {v := some (.int .u64 w)}), (16, 4, {c := some (eWord.row out2)}), (17, 0, {v := some (.int .i64 ((i + 1 : Nat) : Int))})]) (ws := [.b true]) (i0 := (i + 1, out2)) hE hm (auto0_ok (t_nh_ok PV)) hL (by kernel_rfl) hob hK
theorem tph1 (PV : Value → Int → Int) (Q : Nat × List Int → Prop) (nodes : List Nd) (out : List Int) (i : Nat) (l : Bool) (v f a x y w : Int) (out2 : List Int) (J : _) {E rv rhs rhv} (hE : EnvOK E Try.prog Try.f24 2 8 rv rhs rhv) (hL : (tpL nodes Q).OK 8) (hob : all ([SameK (mkLp (lp Try.f24 1) J) (mkLp (lp Try.f24 1) J), Enter (tpL nodes Q) 1 (some (nodes.length - i)) [.slice (some (Addr.mk 86 0 none)) (out.length + 1) Ev.mark, .slice (some (Addr.mk 11 0 none)) nodes.length Ev.mark, .int .i64 (Int.ofNat nodes.length), .int .i64 (Int.ofNat i.succ)] [Blk.vec (eNd.row nodes) 86 6, Blk.vec (eWord.row out2) 83 1] [(13, 86), (11, 11)], Value.int IntKind.i64 (IntKind.i64.wrap (Int.ofNat i.succ)) = .int .i64 (Int.ofNat i.succ), AppOK (some (Blk.vec (eWord.row out) 83 1)) out.length Ev.mark 1 8 1 [.int IntKind.u64 w] 0 (eWord.row out2), Value.int IntKind.u64 (packS l v f a x y) = .int IntKind.u64 w, I64 v, I64 a, readPart Try.prog 86 (eNd.row nodes) (0 + ((i : Int)).toNat * 6) = some (Value.agg (Array.mk [.bool l, .int .i64 v, .int .i64 f, .int .i64 a, .int .i64 x, .int .i64 y])), (0 : Int) ≤ (i : Int) ∧ (i : Int) < Int.ofNat nodes.length, decide ((↑i : Int) < (↑nodes.length : Int)) = true])) (hK : ∀ zz, (tpL nodes Q).inv 1 zz → ltO ((tpL nodes Q).mu 1 zz) (some (nodes.length - i)) → Sat E (mkLp (lp Try.f24 1) J) ((tpL nodes Q).st 1 zz)) : Sat E (inLp (lp Try.f24 1) J) ((tpL nodes Q).st 1 (i, out)) :=
 by_to (T := auto0 (t_nh PV)) (h := hints [(15, 0, {p := true}), (15, 1, {o := some (.agg ⟨[.bool l, .int .i64 v, .int .i64 f, .int .i64 a, .int .i64 x, .int .i64 y]⟩)}), (16, 2, {v := some (.int .u64 w)}), (16, 4, {c := some (eWord.row out2)}), (17, 0, {v := some (.int .i64 ((i + 1 : Nat) : Int))})]) (ws := [.b true]) (i0 := (i + 1, out2)) hE hm (auto0_ok (t_nh_ok PV)) hL (by kernel_rfl) hob hK
theorem tphE (PV : Value → Int → Int) (Q : Nat × List Int → Prop) (nodes : List Nd) (out : List Int) (i : Nat) (J : _) {E : Env} (hE : EnvOK E Try.prog Try.f24 2 8 (.slice (some ⟨100, 0, none⟩) out.length mk) [100] [.vec (eWord.row out) 83 1]) (hob : all ([Back (Value.slice (some (Addr.mk 13 0 none)) out.length Ev.mark) (Value.slice (some (Addr.mk 100 0 none)) out.length Ev.mark) [Blk.vec (eWord.row out) 83 1] [Blk.vec (eWord.row out) 83 1] [(100, 13)], decide ((↑i : Int) < (↑nodes.length : Int)) = false])) : Sat E (inLp (lp Try.f24 1) J) ((tpL nodes Q).st 1 (i, out)) :=
 by_ret (T := auto0 (t_nh PV)) (h := hints []) (ws := [.b false]) (nx' := 101) hE hm (auto0_ok (t_nh_ok PV)) (by omega) (by simp) (by intro x hx; simp at hx; subst hx; exact Blk.plain.namesLt (b := .vec _ _ _) (Elt.row_pl _) _) (by kernel_rfl) hob
end Go.Proofs.Ythbaccmhdffjdaa.Tn
namespace Go.Proofs.Ythbaccmhdffjdaa.Tn
open Go Go.RowKit Ev Within PickE NodeE Tn
theorem tpL_ok {NX : Nat} (hnx : NX ≤ 14) (nodes : List Nd) (Q : Nat × List Int → Prop) : (tpL nodes Q).OK NX := by
 refine ⟨(hnx : NX ≤ 14), fun z i h k hk => ?_, fun z i h v hv k hk => ?_, fun z i h x hx => ?_⟩
 ·show k < 14
  match z with
  | 0 => simp [tpL] at hk; omega
  | z + 1 => simp [tpL] at hk; omega
 ·show k < 14
  match z with
  | 0 =>
   simp [tpL] at hv
   rcases hv with rfl | rfl | rfl | rfl <;> simp [nms, nm1, nm0] at hk <;> omega
  | z + 1 =>
   simp [tpL] at hv
   rcases hv with rfl | rfl | rfl | rfl <;> simp [nms, nm1, nm0] at hk <;> omega
 ·match z with
  | 0 =>
   simp [tpL] at hx
   subst hx
   exact Blk.plain.namesLt (b := .vec _ _ _) (Elt.row_pl _) _
  | z + 1 =>
   simp [tpL] at hx
   rcases hx with rfl | rfl
   ·exact Blk.plain.namesLt (b := .vec _ _ _) (Elt.row_pl _) _
   ·exact Blk.plain.namesLt (b := .vec _ _ _) (Elt.row_pl _) _
def tpQ (nodes : List Nd) : Nat × List Int → Prop := fun x => x.1 ≤ nodes.length ∧ x.2 = (nodes.take x.1).map packN
def tpX (nodes : List Nd) : LoopF (Nat × List Int) := { tpL nodes (tpQ nodes) with inv := fun b x => tpQ nodes x ∧ ((b = 0 ∧ x.1 = 0) ∨ b = 1) }
theorem tnL_ok {NX : Nat} (hnx : NX ≤ 13) (dim : Int) (vs : List Value) (js : List Nat) (rs : List Blk) (Q : NF → Prop) (hjs : ∀ j ∈ js, j < 13) (hvs : ∀ c ∈ vs, ∀ k ∈ nm0 c, k < 13) (hrs : ∀ x ∈ rs, Blk.namesLt 13 x) : (tnL dim vs js rs Q).OK NX := by
 refine ⟨(hnx : NX ≤ 13), fun z i h k hk => ?_, fun z i h v hv k hk => ?_, fun z i h x hx => ?_⟩
 ·show k < 13
  obtain ⟨i, nodes, leaves⟩ := i
  simp [tnL] at hk
  rcases hk with rfl | rfl | rfl | hk
  ·omega
  ·omega
  ·omega
  ·exact hjs k hk
 ·show k < 13
  obtain ⟨i, nodes, leaves⟩ := i
  simp [tnL] at hv
  rcases hv with rfl | rfl | rfl | rfl | rfl <;> simp [nms, nm1, nm0] at hk <;> omega
 ·obtain ⟨i, nodes, leaves⟩ := i
  simp [tnL] at hx
  rcases hx with rfl | rfl | rfl | hx
  ·exact hvs
  ·exact Blk.plain.namesLt (b := .vec _ _ _) (Elt.row_pl _) _
  ·exact Blk.plain.namesLt (b := .vec _ _ _) (Elt.row_pl _) _
  ·exact hrs x hx
def tnQ (pl bl al vl : List Int) (dim : Int) : NF → Prop := fun x => x.i ≤ 7 ∧ x.i ≤ pl.length ∧ NdInv x.i x.nodes x.leaves ∧ ndGo bl al vl dim ((pl.take 7).drop x.i) x.i x.nodes x.leaves = nodesI pl bl al vl dim
def onlyT {ι : Type} (L : LoopF ι) (z : Nat) : LoopF ι := { L with inv := fun b i => b = z ∧ L.inv b i }
theorem rw_z {r : Rw} (h : 0 < r.len) : r.z = true := by
 cases hz : r.z
 ·unfold Rw.len at h; rw [hz] at h; simp at h
 ·rfl
theorem rw_len {r : Rw} (h : r.z = true) : r.len = r.n := by unfold Rw.len; rw [h]; rfl
theorem rw_l {r : Rw} (h : r.z = true) : r.l = intsOf r.cs 0 r.n := by unfold Rw.l; rw [h]; rfl
theorem rw_ll {r : Rw} (g : r.good) : r.l.length = r.len := by
 cases hz : r.z
 ·unfold Rw.l Rw.len; rw [hz]; rfl
 ·rw [rw_l hz, rw_len hz]; exact intsOf_len (g hz).1.1
theorem tp_looph (PV : Value → Int → Int) {nodes : List Nd} (hg : ∀ n ∈ nodes, I64 n.v ∧ I64 n.a) (hne : nodes ≠ []) (hl : nodes.length ≤ 1000) {E : Env} (hE : EnvOK E Try.prog Try.f24 2 8 (.slice (some ⟨100, 0, none⟩) nodes.length mk) [100] [.vec (eWord.row (nodes.map packN)) 83 1]) :
  Sat E (atLp (lp Try.f24 1)) ((tpL nodes (tpQ nodes)).st 0 (0, [])) := by
 have okL := tpL_ok (NX := 8) (by decide) nodes (tpQ nodes)
 have hlen : 0 < nodes.length := List.length_pos_iff.2 hne
 have rnN : ∀ (f : Nat → Nat) (l : List Nd), Blk.rnB f (.vec (eNd.row l) 86 6) = .vec (eNd.row l) 86 6 := fun f l => Blk.plain.rnB (b := .vec (eNd.row l) 86 6) (Elt.row_pl _) f
 have rnW : ∀ (f : Nat → Nat) (l : List Int), Blk.rnB f (.vec (eWord.row l) 83 1) = .vec (eWord.row l) 83 1 := fun f l => Blk.plain.rnB (b := .vec (eWord.row l) 83 1) (Elt.row_pl _) f
 have := loop_sat (E := E) (k := ((lp Try.f24 1)).2) (c := ((lp Try.f24 1)).1) (tpX nodes) (fun b x hb J hJ => by
  obtain ⟨i, out⟩ := x
  obtain ⟨⟨hi, hout⟩, hz⟩ := hb
  have hi : i ≤ nodes.length := hi
  have hout : out = (nodes.take i).map packN := hout
  have hJ1 : ∀ zz, (tpL nodes (tpQ nodes)).inv 1 zz → ltO ((tpL nodes (tpQ nodes)).mu 1 zz) (some (nodes.length - i)) → Sat E (mkLp (lp Try.f24 1) J) ((tpL nodes (tpQ nodes)).st 1 zz) := fun zz h1 h2 => hJ 1 zz ⟨h1, Or.inr rfl⟩ h2
  by_cases hin : i < nodes.length
  ·rcases hs : nodes[i] with ⟨l, v, f, a, x, y⟩
   have hget : nodes[i]? = some ⟨l, v, f, a, x, y⟩ := by rw [List.getElem?_eq_getElem hin, hs]
   obtain ⟨gv, ga⟩ := hg _ (List.mem_of_getElem? hget)
   have hrd := read_row (e := eNd) (P := Try.prog) (ty := 86) (by kernel_rfl) (by kernel_rfl) hget
   have hlt : decide ((i : Int) < (nodes.length : Nat)) = true := decide_eq_true (by omega)
   have hout2 : out ++ [packS l v f a x y] = (nodes.take (i + 1)).map packN := by rw [List.take_add_one, hget, hout]; simp [packN]
   have hol : out.length = i := by rw [hout]; simp; omega
   have hQ : tpQ nodes (i + 1, out ++ [packS l v f a x y]) := ⟨hin, hout2⟩
   rcases hz with ⟨rfl, hi0⟩ | rfl
   ·have hi0 : i = 0 := hi0
    have ho : out = [] := by rw [hout, hi0]; rfl
    rw [ho] at hQ ⊢
    exact tph0 PV (tpQ nodes) nodes i l v f a x y (packS l v f a x y) ([] ++ [packS l v f a x y]) J hE okL ⟨rfl, ⟨(i + 1, [] ++ [packS l v f a x y]), hQ, (by show nodes.length - (i + 1) < nodes.length - i; omega), rfl, by simp [tpL, rnN]; exact (rnW _ _).symm⟩, i64_succ (by omega), appOK_nil (e := eWord) (new := [packS l v f a x y]) rfl rfl rfl rfl (by decide) (by decide) (by decide), rfl, gv, ga, hrd, ⟨Int.natCast_nonneg _, Int.ofNat_lt.2 hin⟩, hlt, trivial⟩ hJ1
   ·exact tph1 PV (tpQ nodes) nodes out i l v f a x y (packS l v f a x y) (out ++ [packS l v f a x y]) J hE okL ⟨rfl, ⟨(i + 1, out ++ [packS l v f a x y]), hQ, (by show nodes.length - (i + 1) < nodes.length - i; omega), by simp [tpL]; first | exact ⟨rfl, rfl, rfl, rfl⟩ | exact ⟨rfl, rfl, rfl⟩ | exact ⟨rfl, rfl⟩, by simp [tpL, rnN, rnW]⟩, i64_succ (by omega), appOK (e := eWord) (L := out) (new := [packS l v f a x y]) rfl rfl rfl rfl (Nat.le_refl _) (by simp) (by decide) (by omega) (by omega), rfl, gv, ga, hrd, ⟨Int.natCast_nonneg _, Int.ofNat_lt.2 hin⟩, hlt, trivial⟩ hJ1
  ·have hlt : decide ((i : Int) < (nodes.length : Nat)) = false := decide_eq_false (by omega)
   rcases hz with ⟨rfl, hi0⟩ | rfl
   ·have hi0 : i = 0 := hi0
    omega
   ·have ho : out = nodes.map packN := by rw [hout, List.take_of_length_le (by omega)]
    subst ho
    have hE' := hE
    rw [show nodes.length = (nodes.map packN).length by simp] at hE'
    exact tphE PV (tpQ nodes) nodes (nodes.map packN) i J hE' ⟨⟨rfl, by simp [rnW]⟩, hlt, trivial⟩)
 exact this 0 (0, []) ⟨⟨Nat.zero_le _, rfl⟩, Or.inl ⟨rfl, rfl⟩⟩
theorem vsH_lt (cl : Int) (r0 r1 r2 r3 : Rw) {x0 x1 x2 x3 : Option Addr} (y0 : hat x0 4) (y1 : hat x1 5) (y2 : hat x2 6) (y3 : hat x3 7) : ∀ c ∈ [Value.int .i64 cl, .slice (r0.wz x0 0) r0.wn r0.wc, .slice (r1.wz x1 1) r1.wn r1.wc, .slice (r2.wz x2 2) r2.wn r2.wc, .slice (r3.wz x3 3) r3.wn r3.wc], ∀ k ∈ nm0 c, k < 13 := by
 intro c hc k hk
 simp only [List.mem_cons, List.not_mem_nil, or_false] at hc
 have key : ∀ (r : Rw) (x : Option Addr) (j h : Nat), hat x h → k ∈ nm0 (.slice (r.wz x j) r.wn r.wc) → k = j ∨ k = h := fun r x j h hy hk => by rw [Rw.w_eq] at hk; exact Rw.w_nm hy k hk
 rcases hc with rfl | rfl | rfl | rfl | rfl
 ·simp [nm0] at hk
 ·have := key _ _ _ _ y0 hk; omega
 ·have := key _ _ _ _ y1 hk; omega
 ·have := key _ _ _ _ y2 hk; omega
 ·have := key _ _ _ _ y3 hk; omega
theorem rsH_pl {r0 r1 r2 r3 : Rw} (i0 : RwIn r0 (some (.ro r0.cs))) (i1 : RwIn r1 (some (.ro r1.cs))) (i2 : RwIn r2 (some (.ro r2.cs))) (i3 : RwIn r3 (some (.ro r3.cs))) : ∀ x ∈ [Blk.ro r0.cs, .ro r1.cs, .ro r2.cs, .ro r3.cs], x.plain := by
 intro x hx
 simp only [List.mem_cons, List.not_mem_nil, or_false] at hx
 rcases hx with rfl | rfl | rfl | rfl
 ·exact i0.pl
 ·exact i1.pl
 ·exact i2.pl
 ·exact i3.pl
theorem blkH (cl : Int) (r0 r1 r2 r3 : Rw) {x0 x1 x2 x3 : Option Addr} (y0 : hat x0 4) (y1 : hat x1 5) (y2 : hat x2 6) (y3 : hat x3 7) (i0 : RwIn r0 (some (.ro r0.cs))) (i1 : RwIn r1 (some (.ro r1.cs))) (i2 : RwIn r2 (some (.ro r2.cs))) (i3 : RwIn r3 (some (.ro r3.cs))) (f : Nat → Nat) (nodes : List Nd) (leaves : List Int) (hf : ∀ k, k < 8 → f k = k) :
  ([Blk.cells [Value.int .i64 cl, .slice (r0.wz x0 0) r0.wn r0.wc, .slice (r1.wz x1 1) r1.wn r1.wc, .slice (r2.wz x2 2) r2.wn r2.wc, .slice (r3.wz x3 3) r3.wn r3.wc] 55, Blk.vec (eNd.row nodes) 86 6, Blk.vec (eInt.row leaves) 3 1] ++ [Blk.ro r0.cs, .ro r1.cs, .ro r2.cs, .ro r3.cs]) = List.map (Blk.rnB f) (.cells [Value.int .i64 cl, .slice (r0.wz x0 0) r0.wn r0.wc, .slice (r1.wz x1 1) r1.wn r1.wc, .slice (r2.wz x2 2) r2.wn r2.wc, .slice (r3.wz x3 3) r3.wn r3.wc] 55 :: .vec (eNd.row nodes) 86 6 :: .vec (eInt.row leaves) 3 1 :: [Blk.ro r0.cs, .ro r1.cs, .ro r2.cs, .ro r3.cs]) := by
 have rnN : Blk.rnB f (.vec (eNd.row nodes) 86 6) = .vec (eNd.row nodes) 86 6 := Blk.plain.rnB (b := .vec (eNd.row nodes) 86 6) (Elt.row_pl _) f
 have rnI : Blk.rnB f (.vec (eInt.row leaves) 3 1) = .vec (eInt.row leaves) 3 1 := Blk.plain.rnB (b := .vec (eInt.row leaves) 3 1) (Elt.row_pl _) f
 have hvs : mapL (rn0 f) [Value.int .i64 cl, .slice (r0.wz x0 0) r0.wn r0.wc, .slice (r1.wz x1 1) r1.wn r1.wc, .slice (r2.wz x2 2) r2.wn r2.wc, .slice (r3.wz x3 3) r3.wn r3.wc] = [Value.int .i64 cl, .slice (r0.wz x0 0) r0.wn r0.wc, .slice (r1.wz x1 1) r1.wn r1.wc, .slice (r2.wz x2 2) r2.wn r2.wc, .slice (r3.wz x3 3) r3.wn r3.wc] := by
  refine mapL_id fun c hc => rn0_names fun k hk => hf k ?_
  simp only [List.mem_cons, List.not_mem_nil, or_false] at hc
  have key : ∀ (r : Rw) (x : Option Addr) (j h : Nat), hat x h → k ∈ nm0 (.slice (r.wz x j) r.wn r.wc) → k = j ∨ k = h := fun r x j h hy hk => by rw [Rw.w_eq] at hk; exact Rw.w_nm hy k hk
  rcases hc with rfl | rfl | rfl | rfl | rfl
  ·simp [nm0] at hk
  ·have := key _ _ _ _ y0 hk; omega
  ·have := key _ _ _ _ y1 hk; omega
  ·have := key _ _ _ _ y2 hk; omega
  ·have := key _ _ _ _ y3 hk; omega
 have p0 : Blk.rnB f (.ro r0.cs) = .ro r0.cs := Blk.plain.rnB (b := .ro _) i0.pl f
 have p1 : Blk.rnB f (.ro r1.cs) = .ro r1.cs := Blk.plain.rnB (b := .ro _) i1.pl f
 have p2 : Blk.rnB f (.ro r2.cs) = .ro r2.cs := Blk.plain.rnB (b := .ro _) i2.pl f
 have p3 : Blk.rnB f (.ro r3.cs) = .ro r3.cs := Blk.plain.rnB (b := .ro _) i3.pl f
 simp only [List.map_cons, List.map_nil, rnN, rnI, p0, p1, p2, p3]
 simp only [Blk.rnB, hvs]
 rfl
theorem tn_looph (PV : Value → Int → Int) (cl dim : Int) (hd : 1 ≤ dim ∧ dim ≤ 1000) (r0 r1 r2 r3 : Rw) (x0 x1 x2 x3 : Option Addr) (y0 : hat x0 4) (y1 : hat x1 5) (y2 : hat x2 6) (y3 : hat x3 7) (i0 : RwIn r0 (some (.ro r0.cs))) (i1 : RwIn r1 (some (.ro r1.cs))) (i2 : RwIn r2 (some (.ro r2.cs))) (i3 : RwIn r3 (some (.ro r3.cs))) (pe1 : ∀ i, PV (.slice (r1.wz x1 1) r1.wn r1.wc) i = pickI r1.l i) (pe2 : ∀ i, PV (.slice (r2.wz x2 2) r2.wn r2.wc) i = pickI r2.l i) (pe3 : ∀ i, PV (.slice (r3.wz x3 3) r3.wn r3.wc) i = pickI r3.l i) (g0 : r0.good) (g1 : r1.good) (g2 : r2.good) (g3 : r3.good) {E : Env} (hE : EnvOK E Try.prog Try.f24 2 8 (.slice (some ⟨100, 0, none⟩) (nodesI r0.l r1.l r2.l r3.l dim).length mk) [100] [.vec (eWord.row ((nodesI r0.l r1.l r2.l r3.l dim).map packN)) 83 1]) :
  ∀ zz, (tnQ r0.l r1.l r2.l r3.l dim) zz → Sat E (atLp (lp Try.f24 0)) ((tnL dim [Value.int .i64 cl, .slice (r0.wz x0 0) r0.wn r0.wc, .slice (r1.wz x1 1) r1.wn r1.wc, .slice (r2.wz x2 2) r2.wn r2.wc, .slice (r3.wz x3 3) r3.wn r3.wc] [0, 1, 2, 3] [Blk.ro r0.cs, .ro r1.cs, .ro r2.cs, .ro r3.cs] (tnQ r0.l r1.l r2.l r3.l dim)).st 0 zz) := by
 have hlen : r0.l.length = r0.len := rw_ll g0
 have rnN : ∀ (f : Nat → Nat) (l : List Nd), Blk.rnB f (.vec (eNd.row l) 86 6) = .vec (eNd.row l) 86 6 := fun f l => Blk.plain.rnB (b := .vec (eNd.row l) 86 6) (Elt.row_pl _) f
 have rnI : ∀ (f : Nat → Nat) (l : List Int), Blk.rnB f (.vec (eInt.row l) 3 1) = .vec (eInt.row l) 3 1 := fun f l => Blk.plain.rnB (b := .vec (eInt.row l) 3 1) (Elt.row_pl _) f
 have okL : (tnL dim [Value.int .i64 cl, .slice (r0.wz x0 0) r0.wn r0.wc, .slice (r1.wz x1 1) r1.wn r1.wc, .slice (r2.wz x2 2) r2.wn r2.wc, .slice (r3.wz x3 3) r3.wn r3.wc] [0, 1, 2, 3] [Blk.ro r0.cs, .ro r1.cs, .ro r2.cs, .ro r3.cs] (tnQ r0.l r1.l r2.l r3.l dim)).OK 8 := tnL_ok (by decide) _ _ _ _ _ (by decide) (vsH_lt cl r0 r1 r2 r3 y0 y1 y2 y3) (fun x hx => Blk.plain.namesLt (rsH_pl i0 i1 i2 i3 x hx) _)
 have hwn : r0.wn = r0.len := rfl
 have pq1 : ∀ i, 0 ≤ i → PickQ PV (.slice (r1.wz x1 1) r1.wn r1.wc) i [some (.ro r0.cs), some (.ro r1.cs), some (.ro r2.cs), some (.ro r3.cs)] := fun i hi => ⟨1, 5, r1, x1, by decide, y1, Rw.w_eq r1 x1 1, i1, pe1 i, hi⟩
 have pq2 : ∀ i, 0 ≤ i → PickQ PV (.slice (r2.wz x2 2) r2.wn r2.wc) i [some (.ro r0.cs), some (.ro r1.cs), some (.ro r2.cs), some (.ro r3.cs)] := fun i hi => ⟨2, 6, r2, x2, by decide, y2, Rw.w_eq r2 x2 2, i2, pe2 i, hi⟩
 have pq3 : ∀ i, 0 ≤ i → PickQ PV (.slice (r3.wz x3 3) r3.wn r3.wc) i [some (.ro r0.cs), some (.ro r1.cs), some (.ro r2.cs), some (.ro r3.cs)] := fun i hi => ⟨3, 7, r3, x3, by decide, y3, Rw.w_eq r3 x3 3, i3, pe3 i, hi⟩
 have hblk := fun f n l hf => blkH cl r0 r1 r2 r3 y0 y1 y2 y3 i0 i1 i2 i3 f n l hf
 have key : ∀ zz, (tnQ r0.l r1.l r2.l r3.l dim) zz → ∀ J : Act → World → Prop, (∀ b' i', b' = 0 → (tnL dim [Value.int .i64 cl, .slice (r0.wz x0 0) r0.wn r0.wc, .slice (r1.wz x1 1) r1.wn r1.wc, .slice (r2.wz x2 2) r2.wn r2.wc, .slice (r3.wz x3 3) r3.wn r3.wc] [0, 1, 2, 3] [Blk.ro r0.cs, .ro r1.cs, .ro r2.cs, .ro r3.cs] (tnQ r0.l r1.l r2.l r3.l dim)).inv b' i' → (tnL dim [Value.int .i64 cl, .slice (r0.wz x0 0) r0.wn r0.wc, .slice (r1.wz x1 1) r1.wn r1.wc, .slice (r2.wz x2 2) r2.wn r2.wc, .slice (r3.wz x3 3) r3.wn r3.wc] [0, 1, 2, 3] [Blk.ro r0.cs, .ro r1.cs, .ro r2.cs, .ro r3.cs] (tnQ r0.l r1.l r2.l r3.l dim)).mu b' i' < (tnL dim [Value.int .i64 cl, .slice (r0.wz x0 0) r0.wn r0.wc, .slice (r1.wz x1 1) r1.wn r1.wc, .slice (r2.wz x2 2) r2.wn r2.wc, .slice (r3.wz x3 3) r3.wn r3.wc] [0, 1, 2, 3] [Blk.ro r0.cs, .ro r1.cs, .ro r2.cs, .ro r3.cs] (tnQ r0.l r1.l r2.l r3.l dim)).mu 0 zz → Sat E (mkLp (lp Try.f24 0) J) ((tnL dim [Value.int .i64 cl, .slice (r0.wz x0 0) r0.wn r0.wc, .slice (r1.wz x1 1) r1.wn r1.wc, .slice (r2.wz x2 2) r2.wn r2.wc, .slice (r3.wz x3 3) r3.wn r3.wc] [0, 1, 2, 3] [Blk.ro r0.cs, .ro r1.cs, .ro r2.cs, .ro r3.cs] (tnQ r0.l r1.l r2.l r3.l dim)).st b' i')) → Sat E (inLp (lp Try.f24 0) J) ((tnL dim [Value.int .i64 cl, .slice (r0.wz x0 0) r0.wn r0.wc, .slice (r1.wz x1 1) r1.wn r1.wc, .slice (r2.wz x2 2) r2.wn r2.wc, .slice (r3.wz x3 3) r3.wn r3.wc] [0, 1, 2, 3] [Blk.ro r0.cs, .ro r1.cs, .ro r2.cs, .ro r3.cs] (tnQ r0.l r1.l r2.l r3.l dim)).st 0 zz) := by
  rintro ⟨i, nodes, leaves⟩ ⟨q1, q2, q3, q4⟩ J hJ
  have q1 : i ≤ 7 := q1
  have q2 : i ≤ r0.l.length := q2
  have q3 : NdInv i nodes leaves := q3
  have q4 : ndGo r1.l r2.l r3.l dim ((r0.l.take 7).drop i) i nodes leaves = (nodesI r0.l r1.l r2.l r3.l dim) := q4
  have hJ' : ∀ zz, (tnL dim [Value.int .i64 cl, .slice (r0.wz x0 0) r0.wn r0.wc, .slice (r1.wz x1 1) r1.wn r1.wc, .slice (r2.wz x2 2) r2.wn r2.wc, .slice (r3.wz x3 3) r3.wn r3.wc] [0, 1, 2, 3] [Blk.ro r0.cs, .ro r1.cs, .ro r2.cs, .ro r3.cs] (tnQ r0.l r1.l r2.l r3.l dim)).inv 0 zz → ltO ((tnL dim [Value.int .i64 cl, .slice (r0.wz x0 0) r0.wn r0.wc, .slice (r1.wz x1 1) r1.wn r1.wc, .slice (r2.wz x2 2) r2.wn r2.wc, .slice (r3.wz x3 3) r3.wn r3.wc] [0, 1, 2, 3] [Blk.ro r0.cs, .ro r1.cs, .ro r2.cs, .ro r3.cs] (tnQ r0.l r1.l r2.l r3.l dim)).mu 0 zz) (some (7 - i)) → Sat E (mkLp (lp Try.f24 0) J) ((tnL dim [Value.int .i64 cl, .slice (r0.wz x0 0) r0.wn r0.wc, .slice (r1.wz x1 1) r1.wn r1.wc, .slice (r2.wz x2 2) r2.wn r2.wc, .slice (r3.wz x3 3) r3.wn r3.wc] [0, 1, 2, 3] [Blk.ro r0.cs, .ro r1.cs, .ro r2.cs, .ro r3.cs] (tnQ r0.l r1.l r2.l r3.l dim)).st 0 zz) := fun zz h1 h2 => hJ 0 zz rfl h1 h2
  have fin : ((r0.l.take 7).drop i) = [] → Sat E (atLp (lp Try.f24 1)) ((tpL nodes (tpQ nodes)).st 0 (0, [])) := by
   intro h
   rw [h] at q4
   simp only [ndGo] at q4
   have hE' := hE
   rw [← q4] at hE'
   have := q3.nl
   exact tp_looph PV q3.good (fun e => by rw [e] at this; simp at this) (by omega) hE'
  by_cases hin0 : i < r0.len
  ·have hz0 : r0.z = true := rw_z (by omega)
   have hin : i < r0.n := by rw [rw_len hz0] at hin0; exact hin0
   have hlt : decide ((i : Int) < (r0.n : Int)) = true := decide_eq_true (by omega)
   have hr0 := (g0 hz0).1
   by_cases h77 : i < 7
   ·have h7 : decide ((i : Int) < 7) = true := decide_eq_true (by omega)
    obtain ⟨pz, hpz⟩ : ∃ pz, r0.l[i]? = some pz := ⟨_, List.getElem?_eq_getElem (by omega)⟩
    have hpI : I64 pz := g0.l64 pz (List.mem_of_getElem? hpz)
    have hdrop : (r0.l.take 7).drop i = pz :: (r0.l.take 7).drop (i + 1) := by
     have hl : i < (r0.l.take 7).length := by simp; omega
     rw [List.drop_eq_getElem_cons hl]
     congr 1
     rw [List.getElem_take]
     rw [List.getElem?_eq_getElem (by omega)] at hpz
     exact Option.some.inj hpz
    rw [hdrop] at q4
    simp only [ndGo] at q4
    have hne : leaves ≠ [] := fun e => by have := q3.ll; rw [e] at this; simp at this
    obtain ⟨hwk, hkl⟩ := nd_k (pz := pz) hne
    have hpl := nd_pl (pz := pz) hne
    have hnl := q3.nl
    have hll := q3.ll
    have hinn := q3.inn _ (List.mem_of_getElem? hpl)
    have hplr : (0 : Int) ≤ ndPl pz leaves ∧ ndPl pz leaves < Int.ofNat nodes.length := hinn
    have hQ2 : (tnQ r0.l r1.l r2.l r3.l dim) ⟨i + 1, (ndNodes r1.l r2.l r3.l dim pz i nodes leaves), (ndLeaves pz nodes leaves)⟩ := ⟨h77, by show i + 1 ≤ r0.l.length; omega, nd_inv q3, q4⟩
    have hrp : readPart Try.prog 3 r0.cs (0 + ((i : Int)).toNat * 1) = some (.int .i64 pz) := by
     refine readPart_one (by kernel_rfl) ?_ rfl
     show r0.cs[0 + i * 1]? = _
     rw [Nat.mul_one, hr0.2 i hin, List.getD_eq_getElem?_getD]; rw [rw_l hz0] at hpz; rw [hpz]; rfl
    have hrl : readPart Try.prog 3 (eInt.row leaves) (0 + ((ndK pz leaves : Nat) : Int).toNat * 1) = some (.int .i64 (ndPl pz leaves)) := by
     have := (Elt.canon0 (e := eInt) leaves).1.read1 (P := Try.prog) (ty := 3) (by kernel_rfl) rfl (i := ndK pz leaves) (by rw [(Elt.canon0 leaves).2]; exact hpl) rfl rfl
     rw [← Nat.mul_one (ndK pz leaves)] at this
     exact this
    obtain ⟨ny, hny⟩ : ∃ ny, nodes[(ndPl pz leaves).toNat]? = some ny := ⟨_, List.getElem?_eq_getElem (by omega)⟩
    have hlN : nodes.length + 2 = (ndNodes r1.l r2.l r3.l dim pz i nodes leaves).length := by simp [ndNodes]
    have e1 : (leaves.drop (ndK pz leaves + 1)).take (leaves.length - (ndK pz leaves + 1)) = leaves.drop (ndK pz leaves + 1) := List.take_of_length_le (by simp)
    have e2 : ∀ (A : List Int) (n : Nat), n = A.length → A.take n = A := fun A n h => by subst h; exact List.take_length
    have hl2 : (ndLeaves pz nodes leaves) = leaves.take (ndK pz leaves) ++ leaves.drop (ndK pz leaves + 1) ++ [(nodes.length : Int), (nodes.length : Int) + 1] := rfl
    by_cases hk0 : ndK pz leaves = 0
    ·by_cases hke0 : ndK pz leaves + 1 = leaves.length
     ·have hke : ((ndK pz leaves + 1 : Nat) : Int) = (leaves.length : Int) := congrArg _ hke0
      have hl2 : (ndLeaves pz nodes leaves) = [(nodes.length : Int), (nodes.length : Int) + 1] := by rw [hl2, hk0, List.drop_of_length_le (by omega)]; simp
      have hlL : 0 + 2 = (ndLeaves pz nodes leaves).length := by rw [hl2]; rfl
      (obtain ⟨z0, q0, m0, d0⟩ := r0; obtain rfl : z0 = true := hz0; exact tbha PV _ cl dim (r1.wz x1 1) (r2.wz x2 2) (r3.wz x3 3) m0 d0 r1.wn r1.wc r2.wn r2.wc r3.wn r3.wc q0 r1.cs r2.cs r3.cs i (ndK pz leaves) (ndK pz leaves + 1) nodes (ndNodes r1.l r2.l r3.l dim pz i nodes leaves) leaves (ndLeaves pz nodes leaves) pz (leaves.length : Int) ((leaves.length : Int) - 1) (ndPl pz leaves) (nodes.length : Int) (dim - 1) (withinS (pickI r1.l i) 0 (dim - 1)) (withinS (pickI r2.l i) 0 9) ((nodes.length : Int) + 1) (2 * (i : Int)) (2 * (i : Int) + 1) (2 * (i : Int) + 2) (withinS (pickI r3.l (2 * (i : Int) + 1)) (-3000) 3000) (withinS (pickI r3.l (2 * (i : Int) + 2)) (-3000) 3000) (eNd.row (nodes.set (ndPl pz leaves).toNat ⟨false, 0, (withinS (pickI r1.l i) 0 (dim - 1)), (withinS (pickI r2.l i) 0 9), nodes.length, (nodes.length : Int) + 1⟩))  J hE okL ⟨rfl, ⟨⟨i + 1, (ndNodes r1.l r2.l r3.l dim pz i nodes leaves), (ndLeaves pz nodes leaves)⟩, hQ2, (by show 7 - (i + 1) < 7 - i; omega), (by show _ = List.map _ [Value.int .i64 dim, .pointer (some ⟨10, 0, none⟩), .slice (some ⟨11, 0, none⟩) (ndNodes r1.l r2.l r3.l dim pz i nodes leaves).length mk, .slice (some ⟨12, 0, none⟩) (ndLeaves pz nodes leaves).length mk, .int .i64 ((i + 1 : Nat) : Int)]; rw [← hlN, ← hlL]; rfl), hblk _ _ _ (by decide)⟩, (i64_succ (by omega)), (appG (e := eInt) (L := []) (M := [(nodes.length : Int), (nodes.length : Int) + 1]) (Or.inr ⟨rfl, rfl, rfl⟩) rfl (k := 0) rfl (by simp) (by simp) (congrArg eInt.row (hl2.trans (by simp))) (by decide) (by decide) (by decide)), (i64_id rfl (by omega) (by omega)), ⟨rfl, Nat.le_refl _, by decide⟩, ⟨rfl, hke, rfl, _, _, rfl, by decide, by rw [Elt.row_len]; simp [eInt]⟩, (i64_succ (by omega)), ⟨hk0, Nat.le_refl _, by decide⟩, (slOK_pre rfl (by omega) (by decide) (by rw [Elt.row_len]; simp [eInt])), (appOK (e := eNd) (L := (nodes.set (ndPl pz leaves).toNat ⟨false, 0, (withinS (pickI r1.l i) 0 (dim - 1)), (withinS (pickI r2.l i) 0 9), nodes.length, (nodes.length : Int) + 1⟩)) (new := [⟨true, (withinS (pickI r3.l (2 * (i : Int) + 1)) (-3000) 3000), 0, 0, 0, 0⟩, ⟨true, (withinS (pickI r3.l (2 * (i : Int) + 2)) (-3000) 3000), 0, 0, 0, 0⟩]) rfl rfl rfl rfl (by simp) (congrArg eNd.row (by rw [List.take_of_length_le (by simp)]; rfl)) (by decide) (by omega) (by omega)), (by rw [pe3]), (by rw [pe3]; exact pick_i64 g3.l64 _), (by decide), (by decide), (by decide), (pq3 _ (by omega)), (i64_id (by omega) (by omega) (by omega)), (i64_id (by show ((2 * i : Nat) : Int) = 2 * (i : Int); omega) (by omega) (by omega)), (by rw [pe3]), (by rw [pe3]; exact pick_i64 g3.l64 _), (by decide), (by decide), (by decide), (pq3 _ (by omega)), (i64_id (by omega) (by omega) (by omega)), (i64_id (by show ((2 * i : Nat) : Int) = 2 * (i : Int); omega) (by omega) (by omega)), (lsetE (e := eNd) (f := 0) hny rfl (by simp [eNd])), hplr, (i64_id rfl (by omega) (by omega)), (by rw [pe2]), (by rw [pe2]; exact pick_i64 g2.l64 _), (by decide), (by decide), (by decide), (pq2 _ (by omega)), (by rw [pe1]), (by rw [pe1]; exact pick_i64 g1.l64 _), (by decide), (by omega), (by omega), (i64_id rfl (by omega) (by omega)), (pq1 _ (by omega)), rfl, hrl, ⟨Int.natCast_nonneg _, Int.ofNat_lt.2 hkl⟩, (congrArg _ hwk), hpI, (by decide), (by omega), (by omega), (i64_id rfl (by omega) (by omega)), rfl, hrp, ⟨Int.natCast_nonneg _, Int.ofNat_lt.2 hin⟩, (congrArg _ h7), (congrArg _ hlt), trivial⟩ hJ')
     ·have hl2 : (ndLeaves pz nodes leaves) = leaves.drop (ndK pz leaves + 1) ++ [(nodes.length : Int), (nodes.length : Int) + 1] := by rw [hl2, hk0]; simp
      have hlL : 0 + (leaves.length - (ndK pz leaves + 1)) + 2 = (ndLeaves pz nodes leaves).length := by rw [hl2]; simp
      (obtain ⟨z0, q0, m0, d0⟩ := r0; obtain rfl : z0 = true := hz0; exact tbhb PV _ cl dim (r1.wz x1 1) (r2.wz x2 2) (r3.wz x3 3) m0 d0 r1.wn r1.wc r2.wn r2.wc r3.wn r3.wc q0 r1.cs r2.cs r3.cs i (ndK pz leaves) (ndK pz leaves + 1) nodes (ndNodes r1.l r2.l r3.l dim pz i nodes leaves) leaves (ndLeaves pz nodes leaves) pz (leaves.length : Int) ((leaves.length : Int) - 1) (ndPl pz leaves) (nodes.length : Int) (dim - 1) (withinS (pickI r1.l i) 0 (dim - 1)) (withinS (pickI r2.l i) 0 9) ((nodes.length : Int) + 1) (2 * (i : Int)) (2 * (i : Int) + 1) (2 * (i : Int) + 2) (withinS (pickI r3.l (2 * (i : Int) + 1)) (-3000) 3000) (withinS (pickI r3.l (2 * (i : Int) + 2)) (-3000) 3000) (eNd.row (nodes.set (ndPl pz leaves).toNat ⟨false, 0, (withinS (pickI r1.l i) 0 (dim - 1)), (withinS (pickI r2.l i) 0 9), nodes.length, (nodes.length : Int) + 1⟩)) (leaves.length - (ndK pz leaves + 1)) (mk + (ndK pz leaves + 1)) ((ndK pz leaves + 1) * eInt.s) (eInt.row (leaves.drop (ndK pz leaves + 1))) J hE okL ⟨rfl, ⟨⟨i + 1, (ndNodes r1.l r2.l r3.l dim pz i nodes leaves), (ndLeaves pz nodes leaves)⟩, hQ2, (by show 7 - (i + 1) < 7 - i; omega), (by show _ = List.map _ [Value.int .i64 dim, .pointer (some ⟨10, 0, none⟩), .slice (some ⟨11, 0, none⟩) (ndNodes r1.l r2.l r3.l dim pz i nodes leaves).length mk, .slice (some ⟨12, 0, none⟩) (ndLeaves pz nodes leaves).length mk, .int .i64 ((i + 1 : Nat) : Int)]; rw [← hlN, ← hlL]; rfl), hblk _ _ _ (by decide)⟩, (i64_succ (by omega)), (appG (L := leaves.drop (ndK pz leaves + 1)) (M := [(nodes.length : Int), (nodes.length : Int) + 1]) (Or.inl ⟨rfl, rfl⟩) rfl (k := 0) rfl (by simp) (by simp) (congrArg eInt.row (hl2.trans (by rw [e2 (leaves.drop (ndK pz leaves + 1)) _ (by simp)]; rfl))) (by decide) (by omega) (by omega)), (i64_id rfl (by omega) (by omega)), (appG (L := []) (M := leaves) (Or.inr ⟨rfl, rfl, rfl⟩) rfl (k := ndK pz leaves + 1) rfl (by omega) (by simp) (congrArg eInt.row (by rw [e1]; rfl)) (by omega) (by omega) (by omega)), (slK (e := eInt) (h := ndK pz leaves + 1) rfl (by omega) rfl rfl (by show (ndK pz leaves + 1) * 1 = 0 + (ndK pz leaves + 1) * 1; omega) rfl (by decide)), (i64_succ (by omega)), ⟨hk0, Nat.le_refl _, by decide⟩, (slOK_pre rfl (by omega) (by decide) (by rw [Elt.row_len]; simp [eInt])), (appOK (e := eNd) (L := (nodes.set (ndPl pz leaves).toNat ⟨false, 0, (withinS (pickI r1.l i) 0 (dim - 1)), (withinS (pickI r2.l i) 0 9), nodes.length, (nodes.length : Int) + 1⟩)) (new := [⟨true, (withinS (pickI r3.l (2 * (i : Int) + 1)) (-3000) 3000), 0, 0, 0, 0⟩, ⟨true, (withinS (pickI r3.l (2 * (i : Int) + 2)) (-3000) 3000), 0, 0, 0, 0⟩]) rfl rfl rfl rfl (by simp) (congrArg eNd.row (by rw [List.take_of_length_le (by simp)]; rfl)) (by decide) (by omega) (by omega)), (by rw [pe3]), (by rw [pe3]; exact pick_i64 g3.l64 _), (by decide), (by decide), (by decide), (pq3 _ (by omega)), (i64_id (by omega) (by omega) (by omega)), (i64_id (by show ((2 * i : Nat) : Int) = 2 * (i : Int); omega) (by omega) (by omega)), (by rw [pe3]), (by rw [pe3]; exact pick_i64 g3.l64 _), (by decide), (by decide), (by decide), (pq3 _ (by omega)), (i64_id (by omega) (by omega) (by omega)), (i64_id (by show ((2 * i : Nat) : Int) = 2 * (i : Int); omega) (by omega) (by omega)), (lsetE (e := eNd) (f := 0) hny rfl (by simp [eNd])), hplr, (i64_id rfl (by omega) (by omega)), (by rw [pe2]), (by rw [pe2]; exact pick_i64 g2.l64 _), (by decide), (by decide), (by decide), (pq2 _ (by omega)), (by rw [pe1]), (by rw [pe1]; exact pick_i64 g1.l64 _), (by decide), (by omega), (by omega), (i64_id rfl (by omega) (by omega)), (pq1 _ (by omega)), rfl, hrl, ⟨Int.natCast_nonneg _, Int.ofNat_lt.2 hkl⟩, (congrArg _ hwk), hpI, (by decide), (by omega), (by omega), (i64_id rfl (by omega) (by omega)), rfl, hrp, ⟨Int.natCast_nonneg _, Int.ofNat_lt.2 hin⟩, (congrArg _ h7), (congrArg _ hlt), trivial⟩ hJ')
    ·by_cases hke0 : ndK pz leaves + 1 = leaves.length
     ·have hke : ((ndK pz leaves + 1 : Nat) : Int) = (leaves.length : Int) := congrArg _ hke0
      have hl2 : (ndLeaves pz nodes leaves) = leaves.take (ndK pz leaves) ++ [(nodes.length : Int), (nodes.length : Int) + 1] := by rw [hl2, List.drop_of_length_le (by omega)]; simp
      have hlL : 0 + ndK pz leaves + 2 = (ndLeaves pz nodes leaves).length := by rw [hl2]; simp; omega
      (obtain ⟨z0, q0, m0, d0⟩ := r0; obtain rfl : z0 = true := hz0; exact tbhd PV _ cl dim (r1.wz x1 1) (r2.wz x2 2) (r3.wz x3 3) m0 d0 r1.wn r1.wc r2.wn r2.wc r3.wn r3.wc q0 r1.cs r2.cs r3.cs i (ndK pz leaves) (ndK pz leaves + 1) nodes (ndNodes r1.l r2.l r3.l dim pz i nodes leaves) leaves (ndLeaves pz nodes leaves) pz (leaves.length : Int) ((leaves.length : Int) - 1) (ndPl pz leaves) (nodes.length : Int) (dim - 1) (withinS (pickI r1.l i) 0 (dim - 1)) (withinS (pickI r2.l i) 0 9) ((nodes.length : Int) + 1) (2 * (i : Int)) (2 * (i : Int) + 1) (2 * (i : Int) + 2) (withinS (pickI r3.l (2 * (i : Int) + 1)) (-3000) 3000) (withinS (pickI r3.l (2 * (i : Int) + 2)) (-3000) 3000) (eNd.row (nodes.set (ndPl pz leaves).toNat ⟨false, 0, (withinS (pickI r1.l i) 0 (dim - 1)), (withinS (pickI r2.l i) 0 9), nodes.length, (nodes.length : Int) + 1⟩)) (eInt.row (leaves.take (ndK pz leaves))) J hE okL ⟨rfl, ⟨⟨i + 1, (ndNodes r1.l r2.l r3.l dim pz i nodes leaves), (ndLeaves pz nodes leaves)⟩, hQ2, (by show 7 - (i + 1) < 7 - i; omega), (by show _ = List.map _ [Value.int .i64 dim, .pointer (some ⟨10, 0, none⟩), .slice (some ⟨11, 0, none⟩) (ndNodes r1.l r2.l r3.l dim pz i nodes leaves).length mk, .slice (some ⟨12, 0, none⟩) (ndLeaves pz nodes leaves).length mk, .int .i64 ((i + 1 : Nat) : Int)]; rw [← hlN, ← hlL]; rfl), hblk _ _ _ (by decide)⟩, (i64_succ (by omega)), (appG (L := leaves.take (ndK pz leaves)) (M := [(nodes.length : Int), (nodes.length : Int) + 1]) (Or.inl ⟨rfl, rfl⟩) rfl (k := 0) rfl (by simp) (by simp; omega) (congrArg eInt.row (hl2.trans (by rw [e2 (leaves.take (ndK pz leaves)) _ (by simp; omega)]; rfl))) (by decide) (by omega) (by omega)), (i64_id rfl (by omega) (by omega)), ⟨rfl, rfl, by decide, by rw [Elt.row_len]; simp [eInt]; omega⟩, ⟨rfl, hke, rfl, _, _, rfl, by decide, by rw [Elt.row_len]; simp [eInt]⟩, (i64_succ (by omega)), (appG (L := []) (M := leaves) (Or.inr ⟨rfl, rfl, rfl⟩) rfl (k := 0) rfl (by omega) (by simp) (congrArg eInt.row (by simp)) (by omega) (by omega) (by omega)), (slOK_pre rfl (by omega) (by decide) (by rw [Elt.row_len]; simp [eInt])), (appOK (e := eNd) (L := (nodes.set (ndPl pz leaves).toNat ⟨false, 0, (withinS (pickI r1.l i) 0 (dim - 1)), (withinS (pickI r2.l i) 0 9), nodes.length, (nodes.length : Int) + 1⟩)) (new := [⟨true, (withinS (pickI r3.l (2 * (i : Int) + 1)) (-3000) 3000), 0, 0, 0, 0⟩, ⟨true, (withinS (pickI r3.l (2 * (i : Int) + 2)) (-3000) 3000), 0, 0, 0, 0⟩]) rfl rfl rfl rfl (by simp) (congrArg eNd.row (by rw [List.take_of_length_le (by simp)]; rfl)) (by decide) (by omega) (by omega)), (by rw [pe3]), (by rw [pe3]; exact pick_i64 g3.l64 _), (by decide), (by decide), (by decide), (pq3 _ (by omega)), (i64_id (by omega) (by omega) (by omega)), (i64_id (by show ((2 * i : Nat) : Int) = 2 * (i : Int); omega) (by omega) (by omega)), (by rw [pe3]), (by rw [pe3]; exact pick_i64 g3.l64 _), (by decide), (by decide), (by decide), (pq3 _ (by omega)), (i64_id (by omega) (by omega) (by omega)), (i64_id (by show ((2 * i : Nat) : Int) = 2 * (i : Int); omega) (by omega) (by omega)), (lsetE (e := eNd) (f := 0) hny rfl (by simp [eNd])), hplr, (i64_id rfl (by omega) (by omega)), (by rw [pe2]), (by rw [pe2]; exact pick_i64 g2.l64 _), (by decide), (by decide), (by decide), (pq2 _ (by omega)), (by rw [pe1]), (by rw [pe1]; exact pick_i64 g1.l64 _), (by decide), (by omega), (by omega), (i64_id rfl (by omega) (by omega)), (pq1 _ (by omega)), rfl, hrl, ⟨Int.natCast_nonneg _, Int.ofNat_lt.2 hkl⟩, (congrArg _ hwk), hpI, (by decide), (by omega), (by omega), (i64_id rfl (by omega) (by omega)), rfl, hrp, ⟨Int.natCast_nonneg _, Int.ofNat_lt.2 hin⟩, (congrArg _ h7), (congrArg _ hlt), trivial⟩ hJ')
     ·have hlL : 0 + ndK pz leaves + (leaves.length - (ndK pz leaves + 1)) + 2 = (ndLeaves pz nodes leaves).length := by rw [hl2]; simp; omega
      (obtain ⟨z0, q0, m0, d0⟩ := r0; obtain rfl : z0 = true := hz0; exact tbhc PV _ cl dim (r1.wz x1 1) (r2.wz x2 2) (r3.wz x3 3) m0 d0 r1.wn r1.wc r2.wn r2.wc r3.wn r3.wc q0 r1.cs r2.cs r3.cs i (ndK pz leaves) (ndK pz leaves + 1) nodes (ndNodes r1.l r2.l r3.l dim pz i nodes leaves) leaves (ndLeaves pz nodes leaves) pz (leaves.length : Int) ((leaves.length : Int) - 1) (ndPl pz leaves) (nodes.length : Int) (dim - 1) (withinS (pickI r1.l i) 0 (dim - 1)) (withinS (pickI r2.l i) 0 9) ((nodes.length : Int) + 1) (2 * (i : Int)) (2 * (i : Int) + 1) (2 * (i : Int) + 2) (withinS (pickI r3.l (2 * (i : Int) + 1)) (-3000) 3000) (withinS (pickI r3.l (2 * (i : Int) + 2)) (-3000) 3000) (eNd.row (nodes.set (ndPl pz leaves).toNat ⟨false, 0, (withinS (pickI r1.l i) 0 (dim - 1)), (withinS (pickI r2.l i) 0 9), nodes.length, (nodes.length : Int) + 1⟩)) (leaves.length - (ndK pz leaves + 1)) (mk + (ndK pz leaves + 1)) ((ndK pz leaves + 1) * eInt.s) (eInt.row (leaves.take (ndK pz leaves))) (eInt.row (leaves.take (ndK pz leaves) ++ leaves.drop (ndK pz leaves + 1))) J hE okL ⟨rfl, ⟨⟨i + 1, (ndNodes r1.l r2.l r3.l dim pz i nodes leaves), (ndLeaves pz nodes leaves)⟩, hQ2, (by show 7 - (i + 1) < 7 - i; omega), (by show _ = List.map _ [Value.int .i64 dim, .pointer (some ⟨10, 0, none⟩), .slice (some ⟨11, 0, none⟩) (ndNodes r1.l r2.l r3.l dim pz i nodes leaves).length mk, .slice (some ⟨12, 0, none⟩) (ndLeaves pz nodes leaves).length mk, .int .i64 ((i + 1 : Nat) : Int)]; rw [← hlN, ← hlL]; rfl), hblk _ _ _ (by decide)⟩, (i64_succ (by omega)), (appG (L := leaves.take (ndK pz leaves) ++ leaves.drop (ndK pz leaves + 1)) (M := [(nodes.length : Int), (nodes.length : Int) + 1]) (Or.inl ⟨rfl, rfl⟩) rfl (k := 0) rfl (by simp) (by simp; omega) (congrArg eInt.row (hl2.trans (by rw [e2 (leaves.take (ndK pz leaves) ++ leaves.drop (ndK pz leaves + 1)) _ (by simp; omega)]; rfl))) (by decide) (by omega) (by omega)), (i64_id rfl (by omega) (by omega)), (appG (L := leaves.take (ndK pz leaves)) (M := leaves) (Or.inl ⟨rfl, rfl⟩) rfl (k := ndK pz leaves + 1) rfl (by omega) (by simp; omega) (congrArg eInt.row (by rw [e1, e2 (leaves.take (ndK pz leaves)) _ (by simp; omega)])) (by omega) (by omega) (by omega)), (slK (e := eInt) (h := ndK pz leaves + 1) rfl (by omega) rfl rfl (by show (ndK pz leaves + 1) * 1 = 0 + (ndK pz leaves + 1) * 1; omega) rfl (by decide)), (i64_succ (by omega)), (appG (L := []) (M := leaves) (Or.inr ⟨rfl, rfl, rfl⟩) rfl (k := 0) rfl (by omega) (by simp) (congrArg eInt.row (by simp)) (by omega) (by omega) (by omega)), (slOK_pre rfl (by omega) (by decide) (by rw [Elt.row_len]; simp [eInt])), (appOK (e := eNd) (L := (nodes.set (ndPl pz leaves).toNat ⟨false, 0, (withinS (pickI r1.l i) 0 (dim - 1)), (withinS (pickI r2.l i) 0 9), nodes.length, (nodes.length : Int) + 1⟩)) (new := [⟨true, (withinS (pickI r3.l (2 * (i : Int) + 1)) (-3000) 3000), 0, 0, 0, 0⟩, ⟨true, (withinS (pickI r3.l (2 * (i : Int) + 2)) (-3000) 3000), 0, 0, 0, 0⟩]) rfl rfl rfl rfl (by simp) (congrArg eNd.row (by rw [List.take_of_length_le (by simp)]; rfl)) (by decide) (by omega) (by omega)), (by rw [pe3]), (by rw [pe3]; exact pick_i64 g3.l64 _), (by decide), (by decide), (by decide), (pq3 _ (by omega)), (i64_id (by omega) (by omega) (by omega)), (i64_id (by show ((2 * i : Nat) : Int) = 2 * (i : Int); omega) (by omega) (by omega)), (by rw [pe3]), (by rw [pe3]; exact pick_i64 g3.l64 _), (by decide), (by decide), (by decide), (pq3 _ (by omega)), (i64_id (by omega) (by omega) (by omega)), (i64_id (by show ((2 * i : Nat) : Int) = 2 * (i : Int); omega) (by omega) (by omega)), (lsetE (e := eNd) (f := 0) hny rfl (by simp [eNd])), hplr, (i64_id rfl (by omega) (by omega)), (by rw [pe2]), (by rw [pe2]; exact pick_i64 g2.l64 _), (by decide), (by decide), (by decide), (pq2 _ (by omega)), (by rw [pe1]), (by rw [pe1]; exact pick_i64 g1.l64 _), (by decide), (by omega), (by omega), (i64_id rfl (by omega) (by omega)), (pq1 _ (by omega)), rfl, hrl, ⟨Int.natCast_nonneg _, Int.ofNat_lt.2 hkl⟩, (congrArg _ hwk), hpI, (by decide), (by omega), (by omega), (i64_id rfl (by omega) (by omega)), rfl, hrp, ⟨Int.natCast_nonneg _, Int.ofNat_lt.2 hin⟩, (congrArg _ h7), (congrArg _ hlt), trivial⟩ hJ')
   ·have h7 : decide ((i : Int) < 7) = false := decide_eq_false (by omega)
    exact tbhy PV (tnQ r0.l r1.l r2.l r3.l dim) (fun x => x = (0, [])) cl dim (r0.wz x0 0) (r1.wz x1 1) (r2.wz x2 2) (r3.wz x3 3) r0.wn r0.wc r1.wn r1.wc r2.wn r2.wc r3.wn r3.wc r0.cs r1.cs r2.cs r3.cs i nodes leaves J hE (tpL_ok (by decide) _ _) ⟨rfl, ⟨(0, []), rfl, trivial, rfl, by simp [tpL, rnN]⟩, (congrArg _ h7), (congrArg _ (decide_eq_true (by omega))), trivial⟩ fun zz hz _ => by
     have hz0 : zz = (0, []) := hz
     subst hz0
     exact fin (List.drop_of_length_le (by simp; omega))
  ·have hlt : decide ((i : Int) < (r0.len : Int)) = false := decide_eq_false (by omega)
   exact tbhx PV (tnQ r0.l r1.l r2.l r3.l dim) (fun x => x = (0, [])) cl dim (r0.wz x0 0) (r1.wz x1 1) (r2.wz x2 2) (r3.wz x3 3) r0.wn r0.wc r1.wn r1.wc r2.wn r2.wc r3.wn r3.wc r0.cs r1.cs r2.cs r3.cs i nodes leaves J hE (tpL_ok (by decide) _ _) ⟨rfl, ⟨(0, []), rfl, trivial, rfl, by simp [tpL, rnN]⟩, (congrArg _ hlt), trivial⟩ fun zz hz _ => by
     have hz0 : zz = (0, []) := hz
     subst hz0
     exact fin (List.drop_of_length_le (by simp; omega))
 intro zz hz
 have := loop_sat (E := E) (k := ((lp Try.f24 0)).2) (c := ((lp Try.f24 0)).1) (onlyT (tnL dim [Value.int .i64 cl, .slice (r0.wz x0 0) r0.wn r0.wc, .slice (r1.wz x1 1) r1.wn r1.wc, .slice (r2.wz x2 2) r2.wn r2.wc, .slice (r3.wz x3 3) r3.wn r3.wc] [0, 1, 2, 3] [Blk.ro r0.cs, .ro r1.cs, .ro r2.cs, .ro r3.cs] (tnQ r0.l r1.l r2.l r3.l dim)) 0) (fun b i hb J hJ => by
  obtain ⟨rfl, hb⟩ := hb
  exact key i hb J (fun b' i' e h1 h2 => hJ b' i' ⟨e, h1⟩ (by subst e; exact h2)))
 exact this 0 zz ⟨rfl, hz⟩
end Go.Proofs.Ythbaccmhdffjdaa.Tn
namespace Go.Proofs.Ythbaccmhdffjdaa.Tn
open Go Go.RowKit Ev Within PickE NodeE Tn
theorem w_inj {r s : Rw} {a b : Option Addr} {j k h g : Nat} (e : r.w a j = s.w b k) (ha : hat a h) (hb : hat b g) (h1 : j ≠ k) (h2 : j ≠ g) (h3 : k ≠ h) : r.l = s.l := by
 unfold Rw.w at e
 unfold Rw.l
 cases hr : r.z <;> cases hs : s.z <;> rw [hr, hs] at e <;> simp only [cond_true, cond_false, Value.slice.injEq] at e
 ·rfl
 ·exfalso
  rcases ha with rfl | ⟨sp, rfl⟩
  ·simp at e
  ·simp at e <;> omega
 ·exfalso
  rcases hb with rfl | ⟨sp, rfl⟩
  ·simp at e
  ·simp at e <;> omega
 ·exfalso
  simp at e <;> omega
open Classical in
theorem nodesH_spec (cl dim : Int) (hd : 1 ≤ dim ∧ dim ≤ 1000) (r0 r1 r2 r3 : Rw) (x0 x1 x2 x3 : Option Addr) (y0 : hat x0 4) (y1 : hat x1 5) (y2 : hat x2 6) (y3 : hat x3 7) (i0 : RwIn r0 (some (.ro r0.cs))) (i1 : RwIn r1 (some (.ro r1.cs))) (i2 : RwIn r2 (some (.ro r2.cs))) (i3 : RwIn r3 (some (.ro r3.cs))) :
  CallSpec Try.prog 24 [.agg ⟨[.int .i64 cl, r0.w x0 0, r1.w x1 1, r2.w x2 2, r3.w x3 3]⟩, .int .i64 dim] (roRows [r0.cs, r1.cs, r2.cs, r3.cs]) 8 (.slice (some ⟨100, 0, none⟩) (nodesI r0.l r1.l r2.l r3.l dim).length mk) (assocN [100] [.vec (eWord.row ((nodesI r0.l r1.l r2.l r3.l dim).map packN)) 83 1]) := by
 refine spec_of_sat Try.func24 rfl fun E hE => ?_
 obtain ⟨PV, hPV⟩ : ∃ PV : Value → Int → Int, PV = fun v i => pickI (if v = r1.w x1 1 then r1.l else if v = r2.w x2 2 then r2.l else r3.l) i := ⟨_, rfl⟩
 have pe1 : ∀ i, PV (.slice (r1.wz x1 1) r1.wn r1.wc) i = pickI r1.l i := fun i => by rw [Rw.w_eq, hPV]; simp
 have pe2 : ∀ i, PV (.slice (r2.wz x2 2) r2.wn r2.wc) i = pickI r2.l i := fun i => by
  rw [Rw.w_eq, hPV]
  show pickI (if r2.w x2 2 = r1.w x1 1 then r1.l else if r2.w x2 2 = r2.w x2 2 then r2.l else r3.l) i = _
  split
  ·rename_i h
   rw [w_inj h y2 y1 (by decide) (by decide) (by decide)]
  ·rw [if_pos rfl]
 have pe3 : ∀ i, PV (.slice (r3.wz x3 3) r3.wn r3.wc) i = pickI r3.l i := fun i => by
  rw [Rw.w_eq, hPV]
  show pickI (if r3.w x3 3 = r1.w x1 1 then r1.l else if r3.w x3 3 = r2.w x2 2 then r2.l else r3.l) i = _
  split
  ·rename_i h
   rw [w_inj h y3 y1 (by decide) (by decide) (by decide)]
  ·split
   ·rename_i h
    rw [w_inj h y3 y2 (by decide) (by decide) (by decide)]
   ·rfl
 have g0 := i0.1
 have g1 := i1.1
 have g2 := i2.1
 have g3 := i3.1
 rw [← Rw.w_eq, ← Rw.w_eq, ← Rw.w_eq, ← Rw.w_eq]
 have hv0 : I64 (withinS (pickI r3.l 0) (-3000) 3000) := within_i64 _ (by decide) (by decide) (by decide)
 have pq3 : PickQ PV (.slice (r3.wz x3 3) r3.wn r3.wc) 0 [some (.ro r0.cs), some (.ro r1.cs), some (.ro r2.cs), some (.ro r3.cs)] := ⟨3, 7, r3, x3, by decide, y3, Rw.w_eq r3 x3 3, i3, pe3 0, by decide⟩
 exact tnh PV (tnQ r0.l r1.l r2.l r3.l dim) cl dim (withinS (pickI r3.l 0) (-3000) 3000) (r0.wz x0 0) (r1.wz x1 1) (r2.wz x2 2) (r3.wz x3 3) r0.wn r0.wc r1.wn r1.wc r2.wn r2.wc r3.wn r3.wc r0.cs r1.cs r2.cs r3.cs hE (tnL_ok (by decide) _ _ _ _ _ (by decide) (vsH_lt cl r0 r1 r2 r3 y0 y1 y2 y3) (fun x hx => Blk.plain.namesLt (rsH_pl i0 i1 i2 i3 x hx) _))
  ⟨rfl, ⟨⟨0, [⟨true, (withinS (pickI r3.l 0) (-3000) 3000), 0, 0, 0, 0⟩], [0]⟩, ⟨Nat.zero_le _, Nat.zero_le _, nd0 _ hv0, rfl⟩, trivial, rfl, blkH cl r0 r1 r2 r3 y0 y1 y2 y3 i0 i1 i2 i3 _ [⟨true, (withinS (pickI r3.l 0) (-3000) 3000), 0, 0, 0, 0⟩] [0] (by decide)⟩, (by rw [pe3]), (by rw [pe3]; exact pick_i64 g3.l64 _), by decide, by decide, by decide, pq3, trivial⟩
  fun zz hz _ => tn_looph PV cl dim hd r0 r1 r2 r3 x0 x1 x2 x3 y0 y1 y2 y3 i0 i1 i2 i3 pe1 pe2 pe3 g0 g1 g2 g3 hE zz hz
theorem nodesH_gs {H : Heap} {nm k h0 h1 h2 h3 : Nat} (cl dim : Int) (hd : 1 ≤ dim ∧ dim ≤ 1000) (r0 r1 r2 r3 : Rw) {x0 x1 x2 x3 : Option Addr} (y0 : hat x0 h0) (y1 : hat x1 h1) (y2 : hat x2 h2) (y3 : hat x3 h3)
  (z0 : r0.z = true → x0 = none) (z1 : r1.z = true → x1 = none) (z2 : r2.z = true → x2 = none) (z3 : r3.z = true → x3 = none)
  (i0 : RwIn r0 (H k)) (i1 : RwIn r1 (H (k + 1))) (i2 : RwIn r2 (H (k + 2))) (i3 : RwIn r3 (H (k + 3))) (rs : List Nat) (ob : List Prop) :
  Nonempty (GS Try.prog 24 [.agg ⟨[.int .i64 cl, r0.w x0 k, r1.w x1 (k + 1), r2.w x2 (k + 2), r3.w x3 (k + 3)]⟩, .int .i64 dim] H nm ⟨.slice (some ⟨nm, 0, none⟩) (nodesI r0.l r1.l r2.l r3.l dim).length mk, [(nm, some (.vec (eWord.row ((nodesI r0.l r1.l r2.l r3.l dim).map packN)) 83 1))], rs, ob⟩) := by
 have c : ∀ (r : Rw) (x : Option Blk), RwIn r x → RwIn r (some (.ro r.cs)) := fun r x h => ⟨h.1, h.2.1, _, rfl, rfl⟩
 have hvn : ∀ j ∈ nms (Value.slice (some ⟨100, 0, none⟩) (nodesI r0.l r1.l r2.l r3.l dim).length mk), j = 100 := fun j hj => by simpa [nms, nm1, nm0] using hj
 have hrn : ∀ (f : Nat → Nat) (r : Rw) (x : Option Addr) (j : Nat), rn0 f (r.w x j) = bif r.z then .slice (some ⟨f j, 0, none⟩) r.n r.c else rn0 f (.slice x 0 0) := fun f r x j => by unfold Rw.w; cases r.z <;> rfl
 have hrow : ∀ (r : Rw) (x : Option Blk), RwIn r x → ∀ (f : Nat → Nat), mapL (rn0 f) r.cs = r.cs := fun r x h f => mapL_id fun c hc => rn0_leafG f (h.pl c hc)
 have hnone : ∀ (r : Rw) (x : Option Blk), RwIn r x → ∀ c ∈ r.cs, ∀ i ∈ nm0 c, False := fun r x h c hc i hi => by rw [nm0_leafG (h.pl c hc)] at hi; simp at hi
 have hrows : ∀ j b, roRows [r0.cs, r1.cs, r2.cs, r3.cs] j = some b → (j = 0 ∧ b = .ro r0.cs) ∨ (j = 1 ∧ b = .ro r1.cs) ∨ (j = 2 ∧ b = .ro r2.cs) ∨ (j = 3 ∧ b = .ro r3.cs) := fun j b h => by
  match j with
  | 0 => exact Or.inl ⟨rfl, (Option.some.inj h).symm⟩
  | 1 => exact Or.inr (Or.inl ⟨rfl, (Option.some.inj h).symm⟩)
  | 2 => exact Or.inr (Or.inr (Or.inl ⟨rfl, (Option.some.inj h).symm⟩))
  | 3 => exact Or.inr (Or.inr (Or.inr ⟨rfl, (Option.some.inj h).symm⟩))
  | j + 4 => simp [roRows] at h
 obtain ⟨w0, g0⟩ : ∃ w : Option Addr, w = x0.map fun a => ⟨4, 0, a.spot⟩ := ⟨_, rfl⟩
 obtain ⟨w1, g1⟩ : ∃ w : Option Addr, w = x1.map fun a => ⟨5, 0, a.spot⟩ := ⟨_, rfl⟩
 obtain ⟨w2, g2⟩ : ∃ w : Option Addr, w = x2.map fun a => ⟨6, 0, a.spot⟩ := ⟨_, rfl⟩
 obtain ⟨w3, g3⟩ : ∃ w : Option Addr, w = x3.map fun a => ⟨7, 0, a.spot⟩ := ⟨_, rfl⟩
 have hh : ∀ (x w : Option Addr) (n : Nat), w = x.map (fun a => (⟨n, 0, a.spot⟩ : Addr)) → hat w n := fun x w n e => by
  cases x with
  | none => exact Or.inl e
  | some a => exact Or.inr ⟨_, e⟩
 obtain ⟨op, hop⟩ : ∃ op : Option Addr → Nat → Nat → List (Nat × Nat), op = fun x n h => match x with | none => [] | some _ => [(n, h)] := ⟨_, rfl⟩
 have hom : ∀ x n h j i, (j, i) ∈ op x n h → j = n ∧ i = h ∧ x ≠ none := fun x n h j i hm => by
  rw [hop] at hm
  cases x with
  | none => simp at hm
  | some a => simp at hm; exact ⟨hm.1, hm.2, by simp⟩
 have hos : ∀ x n h, x ≠ none → (n, h) ∈ op x n h := fun x n h hx => by
  rw [hop]
  cases x with
  | none => exact absurd rfl hx
  | some a => simp
 obtain ⟨old, hold⟩ : ∃ old : List (Nat × Nat), old = [(0, k), (1, k + 1), (2, k + 2), (3, k + 3)] ++ (op x0 4 h0 ++ (op x1 5 h1 ++ (op x2 6 h2 ++ op x3 7 h3))) := ⟨_, rfl⟩
 have hmem : ∀ j i, (j, i) ∈ old → (j = 0 ∧ i = k) ∨ (j = 1 ∧ i = k + 1) ∨ (j = 2 ∧ i = k + 2) ∨ (j = 3 ∧ i = k + 3) ∨ (j = 4 ∧ i = h0 ∧ x0 ≠ none) ∨ (j = 5 ∧ i = h1 ∧ x1 ≠ none) ∨ (j = 6 ∧ i = h2 ∧ x2 ≠ none) ∨ (j = 7 ∧ i = h3 ∧ x3 ≠ none) := fun j i hm => by
  rw [hold] at hm
  simp only [List.mem_append, List.mem_cons, List.not_mem_nil, or_false, Prod.mk.injEq] at hm
  rcases hm with (h | h | h | h) | h | h | h | h
  ·exact Or.inl h
  ·exact Or.inr (Or.inl h)
  ·exact Or.inr (Or.inr (Or.inl h))
  ·exact Or.inr (Or.inr (Or.inr (Or.inl h)))
  ·exact Or.inr (Or.inr (Or.inr (Or.inr (Or.inl (hom _ _ _ _ _ h)))))
  ·exact Or.inr (Or.inr (Or.inr (Or.inr (Or.inr (Or.inl (hom _ _ _ _ _ h))))))
  ·exact Or.inr (Or.inr (Or.inr (Or.inr (Or.inr (Or.inr (Or.inl (hom _ _ _ _ _ h)))))))
  ·exact Or.inr (Or.inr (Or.inr (Or.inr (Or.inr (Or.inr (Or.inr (hom _ _ _ _ _ h)))))))
 have hnd : (old.map (·.1)).Nodup := by
  rw [hold, hop]
  cases x0 <;> cases x1 <;> cases x2 <;> cases x3 <;> simp
 have hlk : ∀ j i, (j, i) ∈ old → Ev.look old j = i := fun j i hm => look_spec hnd hm
 have m0 : (0, k) ∈ old := by rw [hold]; simp
 have m1 : (1, k + 1) ∈ old := by rw [hold]; simp
 have m2 : (2, k + 2) ∈ old := by rw [hold]; simp
 have m3 : (3, k + 3) ∈ old := by rw [hold]; simp
 have n0 : x0 ≠ none → (4, h0) ∈ old := fun hx => by rw [hold]; simp [hos _ _ _ hx]
 have n1 : x1 ≠ none → (5, h1) ∈ old := fun hx => by rw [hold]; simp [hos _ _ _ hx]
 have n2 : x2 ≠ none → (6, h2) ∈ old := fun hx => by rw [hold]; simp [hos _ _ _ hx]
 have n3 : x3 ≠ none → (7, h3) ∈ old := fun hx => by rw [hold]; simp [hos _ _ _ hx]
 -- a slice told anew
 have hval : ∀ (r : Rw) (x w : Option Addr) (j n i h : Nat), w = x.map (fun a => (⟨n, 0, a.spot⟩ : Addr)) → hat x h → (j, i) ∈ old → (x ≠ none → (n, h) ∈ old) → rn0 (Ev.look old) (r.w w j) = r.w x i := fun r x w j n i h hw hx hj hn => by
  rw [hrn, hlk j i hj]
  unfold Rw.w
  cases r.z
  ·rcases hx with rfl | ⟨sp, rfl⟩
   ·rw [hw]; rfl
   ·rw [hw]
    have := hlk n h (hn (by simp))
    simp only [Option.map_some, rn0, rnA, cond_false, this]
  ·rfl
 have hnames : ∀ (r : Rw) (x w : Option Addr) (j n i h : Nat), w = x.map (fun a => (⟨n, 0, a.spot⟩ : Addr)) → (j, i) ∈ old → (x ≠ none → (n, h) ∈ old) → ∀ m ∈ nm0 (r.w w j), ∃ k', (m, k') ∈ old := fun r x w j n i h hw hj hn m hm => by
  unfold Rw.w at hm
  cases hz : r.z <;> rw [hz] at hm
  ·cases x with
   | none => rw [hw] at hm; simp [nm0] at hm
   | some a => rw [hw] at hm; simp [nm0] at hm; subst hm; exact ⟨h, hn (by simp)⟩
  ·simp [nm0] at hm; subst hm; exact ⟨i, hj⟩
 have hargn : ∀ (r : Rw) (x : Option Addr) (i h : Nat), hat x h → (r.z = true → x = none) → x ≠ none → h ∈ nm0 (r.w x i) := fun r x i h hx hz hn => by
  rcases hx with rfl | ⟨sp, rfl⟩
  ·exact absurd rfl hn
  ·unfold Rw.w
   cases hr : r.z
   ·simp [nm0]
   ·exact absurd (hz hr) (by simp)
 refine ⟨⟨[.agg ⟨[.int .i64 cl, r0.w w0 0, r1.w w1 1, r2.w w2 2, r3.w w3 3]⟩, .int .i64 dim], roRows [r0.cs, r1.cs, r2.cs, r3.cs], 8, .slice (some ⟨100, 0, none⟩) (nodesI r0.l r1.l r2.l r3.l dim).length mk, assocN [100] [.vec (eWord.row ((nodesI r0.l r1.l r2.l r3.l dim).map packN)) 83 1], old, [(100, nm)],
  nodesH_spec cl dim hd r0 r1 r2 r3 w0 w1 w2 w3 (hh _ _ _ g0) (hh _ _ _ g1) (hh _ _ _ g2) (hh _ _ _ g3) (c _ _ i0) (c _ _ i1) (c _ _ i2) (c _ _ i3), ?_, by simp, fun j i hm => ?_, fun j i hm => ?_, fun j b hb => ?_, fun m i hm => ?_, fun j hj => ?_, fun u hu j hj => ?_, ?_, ?_, ?_⟩⟩
 ·rw [List.map_append, List.nodup_append]
  refine ⟨hnd, by simp, fun a ha b hb => ?_⟩
  simp at hb
  subst hb
  obtain ⟨⟨j, i⟩, hm, rfl⟩ := List.mem_map.1 ha
  have := hmem j i hm
  simp only
  omega
 ·refine ⟨by have := hmem j i hm; omega, fun b0 hb0 => ?_⟩
  rcases hrows j b0 hb0 with ⟨rfl, rfl⟩ | ⟨rfl, rfl⟩ | ⟨rfl, rfl⟩ | ⟨rfl, rfl⟩
  ·obtain rfl : i = k := by have := hmem _ _ hm; omega
   obtain ⟨b, hb1, hb2⟩ := i0.2.2
   exact ⟨b, r0.cs, hb1, by rw [hb2, hrow _ _ i0], rfl, fun c hc m hm => (hnone _ _ i0 c hc m hm).elim⟩
  ·obtain rfl : i = k + 1 := by have := hmem _ _ hm; omega
   obtain ⟨b, hb1, hb2⟩ := i1.2.2
   exact ⟨b, r1.cs, hb1, by rw [hb2, hrow _ _ i1], rfl, fun c hc m hm => (hnone _ _ i1 c hc m hm).elim⟩
  ·obtain rfl : i = k + 2 := by have := hmem _ _ hm; omega
   obtain ⟨b, hb1, hb2⟩ := i2.2.2
   exact ⟨b, r2.cs, hb1, by rw [hb2, hrow _ _ i2], rfl, fun c hc m hm => (hnone _ _ i2 c hc m hm).elim⟩
  ·obtain rfl : i = k + 3 := by have := hmem _ _ hm; omega
   obtain ⟨b, hb1, hb2⟩ := i3.2.2
   exact ⟨b, r3.cs, hb1, by rw [hb2, hrow _ _ i3], rfl, fun c hc m hm => (hnone _ _ i3 c hc m hm).elim⟩
 ·have hin : ∀ (c : Value) (m : Nat), c ∈ [.int .i64 cl, r0.w x0 k, r1.w x1 (k + 1), r2.w x2 (k + 2), r3.w x3 (k + 3)] → m ∈ nm0 c → ∃ u ∈ [Value.agg ⟨[.int .i64 cl, r0.w x0 k, r1.w x1 (k + 1), r2.w x2 (k + 2), r3.w x3 (k + 3)]⟩, .int .i64 dim], m ∈ nms u := fun c m hc hm => ⟨_, List.mem_cons_self .., mem_nmL (f := nm0) hc hm⟩
  rcases hmem j i hm with ⟨rfl, rfl⟩ | ⟨rfl, rfl⟩ | ⟨rfl, rfl⟩ | ⟨rfl, rfl⟩ | ⟨rfl, rfl, hx⟩ | ⟨rfl, rfl, hx⟩ | ⟨rfl, rfl, hx⟩ | ⟨rfl, rfl, hx⟩
  ·obtain ⟨b, hb, _⟩ := i0.2.2; exact Or.inl ⟨b, hb⟩
  ·obtain ⟨b, hb, _⟩ := i1.2.2; exact Or.inl ⟨b, hb⟩
  ·obtain ⟨b, hb, _⟩ := i2.2.2; exact Or.inl ⟨b, hb⟩
  ·obtain ⟨b, hb, _⟩ := i3.2.2; exact Or.inl ⟨b, hb⟩
  ·exact Or.inr (Or.inl (hin _ _ (by simp) (hargn r0 x0 k i y0 z0 hx)))
  ·exact Or.inr (Or.inl (hin (r1.w x1 (k + 1)) _ (by simp) (hargn r1 x1 (k + 1) i y1 z1 hx)))
  ·exact Or.inr (Or.inl (hin (r2.w x2 (k + 2)) _ (by simp) (hargn r2 x2 (k + 2) i y2 z2 hx)))
  ·exact Or.inr (Or.inl (hin (r3.w x3 (k + 3)) _ (by simp) (hargn r3 x3 (k + 3) i y3 z3 hx)))
 ·rcases hrows j b hb with ⟨rfl, _⟩ | ⟨rfl, _⟩ | ⟨rfl, _⟩ | ⟨rfl, _⟩
  ·exact ⟨_, m0⟩
  ·exact ⟨_, m1⟩
  ·exact ⟨_, m2⟩
  ·exact ⟨_, m3⟩
 ·simp at hm
  obtain ⟨rfl, he⟩ := hm
  rw [he]
  refine ⟨⟨by omega, by omega⟩, _, rfl, rfl, trivial, fun cs hcs c hc j hj => ?_⟩
  obtain rfl : eWord.row ((nodesI r0.l r1.l r2.l r3.l dim).map packN) = cs := Option.some.inj hcs
  rw [nm0_leafG (Elt.row_pl _ c hc)] at hj
  simp at hj
 ·obtain rfl := hvn j hj
  exact ⟨nm, List.mem_append_right _ (by simp)⟩
 ·simp only [List.mem_cons, List.not_mem_nil, or_false] at hu
  rcases hu with rfl | rfl
  ·obtain ⟨c, hc, hj⟩ := mem_nmL' (f := nm0) (show j ∈ nmL nm0 [.int .i64 cl, r0.w w0 0, r1.w w1 1, r2.w w2 2, r3.w w3 3] from hj)
   simp only [List.mem_cons, List.not_mem_nil, or_false] at hc
   rcases hc with rfl | rfl | rfl | rfl | rfl
   ·simp [nm0] at hj
   ·exact hnames r0 x0 w0 0 4 k h0 g0 m0 n0 j hj
   ·exact hnames r1 x1 w1 1 5 _ h1 g1 m1 n1 j hj
   ·exact hnames r2 x2 w2 2 6 _ h2 g2 m2 n2 j hj
   ·exact hnames r3 x3 w3 3 7 _ h3 g3 m3 n3 j hj
  ·simp [nms, nm1, nm0] at hj
 ·show _ = [Value.agg ⟨[.int .i64 cl, rn0 (Ev.look old) (r0.w w0 0), rn0 (Ev.look old) (r1.w w1 1), rn0 (Ev.look old) (r2.w w2 2), rn0 (Ev.look old) (r3.w w3 3)]⟩, .int .i64 dim]
  rw [hval r0 x0 w0 0 4 k h0 g0 y0 m0 n0, hval r1 x1 w1 1 5 _ h1 g1 y1 m1 n1, hval r2 x2 w2 2 6 _ h2 g2 y2 m2 n2, hval r3 x3 w3 3 7 _ h3 g3 y3 m3 n3]
 ·have hl : Ev.look (old ++ [(100, nm)]) 100 = nm := look_spec (by
   rw [List.map_append, List.nodup_append]
   refine ⟨hnd, by simp, fun a ha b hb => ?_⟩
   simp at hb
   subst hb
   obtain ⟨⟨j, i⟩, hm, rfl⟩ := List.mem_map.1 ha
   have := hmem j i hm
   simp only
   omega) (List.mem_append_right _ (by simp))
  show _ = Value.slice (some ⟨Ev.look (old ++ [(100, nm)]) 100, 0, none⟩) _ _
  rw [hl]
 ·show _ = [(nm, some (Blk.rnB _ (.vec (eWord.row ((nodesI r0.l r1.l r2.l r3.l dim).map packN)) 83 1)))]
  rw [Blk.plain.rnB (b := .vec (eWord.row ((nodesI r0.l r1.l r2.l r3.l dim).map packN)) 83 1) (Elt.row_pl _)]
end Go.Proofs.Ythbaccmhdffjdaa.Tn
namespace Go.Proofs.Ythbaccmhdffjdaa.Fo
open Go Go.RowKit Ev NodeE Within PickE Tn
def RwAt (r : Rw) (k : Nat) (ob : Option Blk) (v : Value) : Prop := v = r.v k ∧ r.good ∧ (r.z = true → ∃ b, ob = some b ∧ b.row = some r.cs)
def PickOK (PV : Value → Int → Int) (v : Value) (i : Int) (k : Nat) (ob : Option Blk) : Prop := ∃ r : Rw, RwAt r k ob v ∧ PV v i = pickI r.l i ∧ 0 ≤ i
def pickD_F (k : Nat) (PV : Value → Int → Int) : List Value → Heap → Nat → Option Res := fun xs H nm => match xs with
 | [v, .int .i64 i] => some ⟨.int .i64 (PV v i), [], [k], [PickOK PV v i k (H k)]⟩
 | _ => none
theorem pickD_sum (k : Nat) (PV : Value → Int → Int) : SumOK Try.prog 44 (pickD_F k PV) := by
 refine sum_imp pick_sum (fun xs H nm r h hob => ?_) (fun xs H nm r h H' hH => ?_)
 ·unfold pickD_F at h
  split at h
  ·rename_i v i
   simp only [Option.some.injEq] at h
   subst h
   obtain ⟨⟨z, cs, n, c⟩, ⟨rfl, hg, hb⟩, hp, hi⟩ := hob _ (List.mem_cons_self ..)
   cases z
   ·refine ⟨⟨.int .i64 (pickI [] i), [], [], [plainR []]⟩, rfl, fun p hp => ?_, ?_, rfl⟩
    ·simp only [List.mem_cons, List.not_mem_nil, or_false] at hp
     subst hp; exact fun x hx => by simp at hx
    ·show Value.int .i64 _ = _; rw [hp]; rfl
   ·obtain ⟨b, hb1, hb2⟩ := hb rfl
    obtain ⟨h1, h2, h3⟩ := hg rfl
    refine ⟨⟨.int .i64 (pickI (intsOf cs 0 n) i), [], [k], [plainR [cs], IntRow .i64 cs 0 n, 0 ≤ i]⟩, ?_, fun p hp => ?_, ?_, rfl⟩
    ·simp only [roSum, Rw.v, cond_true, canL, can1, can0, leafG, List.append_nil, rowsOf]
     rw [hb1]
     simp only [hb2]
     rfl
    ·simp only [List.mem_cons, List.not_mem_nil, or_false] at hp
     rcases hp with rfl | rfl | rfl
     ·exact plain1 h3
     ·exact h1
     ·exact hi
    ·show Value.int .i64 _ = _; rw [hp]; rfl
  ·simp at h
 ·unfold pickD_F at h ⊢
  split at h
  ·rename_i v i
   have := hH k (by simp only [Option.some.injEq] at h; subst h; simp)
   simp only [this]
   exact h
  ·simp at h
def NodesOK (WD : List Value → Int → List Int) (KD : List Value → Int → Nat) (cs : List Value) (dim : Int) (vw : List (Option Blk)) : Prop :=
 ∃ (k h0 h1 h2 h3 : Nat) (cl : Int) (r0 r1 r2 r3 : Rw) (x0 x1 x2 x3 : Option Addr), cs = [.int .i64 cl, r0.w x0 (k + 2), r1.w x1 (k + 3), r2.w x2 (k + 4), r3.w x3 (k + 5)] ∧
  hat x0 h0 ∧ hat x1 h1 ∧ hat x2 h2 ∧ hat x3 h3 ∧ (r0.z = true → x0 = none) ∧ (r1.z = true → x1 = none) ∧ (r2.z = true → x2 = none) ∧ (r3.z = true → x3 = none) ∧
  RwIn r0 (vw.getD k none) ∧ RwIn r1 (vw.getD (k + 1) none) ∧ RwIn r2 (vw.getD (k + 2) none) ∧ RwIn r3 (vw.getD (k + 3) none) ∧ k + 3 < 16 ∧
  WD cs dim = (nodesI r0.l r1.l r2.l r3.l dim).map packN ∧ KD cs dim = (nodesI r0.l r1.l r2.l r3.l dim).length ∧ 1 ≤ dim ∧ dim ≤ 1000
def nodesD_F (WD : List Value → Int → List Int) (KD : List Value → Int → Nat) : List Value → Heap → Nat → Option Res := fun xs H nm => match xs with
 | [.agg ⟨cs⟩, .int .i64 dim] => some ⟨.slice (some ⟨nm, 0, none⟩) (KD cs dim) mk, [(nm, some (.vec (eWord.row (WD cs dim)) 83 1))], [2, 3, 4, 5, 6, 7, 8, 9, 10, 11, 12, 13, 14, 15, 16, 17], [NodesOK WD KD cs dim [H 2, H 3, H 4, H 5, H 6, H 7, H 8, H 9, H 10, H 11, H 12, H 13, H 14, H 15, H 16, H 17]]⟩
 | _ => none
theorem vw_get (H : Heap) {k : Nat} (hk : k < 16) : ([H 2, H 3, H 4, H 5, H 6, H 7, H 8, H 9, H 10, H 11, H 12, H 13, H 14, H 15, H 16, H 17] : List (Option Blk)).getD k none = H (k + 2) := by
 match k, hk with
 | 0, _ | 1, _ | 2, _ | 3, _ | 4, _ | 5, _ | 6, _ | 7, _ | 8, _ | 9, _ | 10, _ | 11, _ | 12, _ | 13, _ | 14, _ | 15, _ => rfl
 | k + 16, h => omega
theorem nodesD_sum (WD : List Value → Int → List Int) (KD : List Value → Int → Nat) : SumOK Try.prog 24 (nodesD_F WD KD) := by
 refine gen_sum (en Try.func24 rfl) (fun xs H nm r h hob => ?_) (fun xs H nm r h H' hH => ?_)
 ·unfold nodesD_F at h
  split at h
  ·rename_i cs dim
   simp only [Option.some.injEq] at h
   subst h
   obtain ⟨k, h0, h1, h2, h3, cl, r0, r1, r2, r3, x0, x1, x2, x3, rfl, y0, y1, y2, y3, z0, z1, z2, z3, i0, i1, i2, i3, hk, hW, hK, hd1, hd2⟩ := hob _ (List.mem_cons_self ..)
   rw [vw_get H (by omega)] at i0 i1 i2 i3
   rw [hK, hW]
   exact nodesH_gs (k := k + 2) cl dim ⟨hd1, hd2⟩ r0 r1 r2 r3 y0 y1 y2 y3 z0 z1 z2 z3 i0 i1 i2 i3 _ _
  ·simp at h
 ·unfold nodesD_F at h ⊢
  split at h
  ·rename_i cs dim
   simp only [Option.some.injEq] at h
   subst h
   have hq := fun k (hk : k ∈ [2, 3, 4, 5, 6, 7, 8, 9, 10, 11, 12, 13, 14, 15, 16, 17]) => hH k hk
   simp only [hq 2 (by simp), hq 3 (by simp), hq 4 (by simp), hq 5 (by simp), hq 6 (by simp), hq 7 (by simp), hq 8 (by simp), hq 9 (by simp), hq 10 (by simp), hq 11 (by simp), hq 12 (by simp), hq 13 (by simp), hq 14 (by simp), hq 15 (by simp), hq 16 (by simp), hq 17 (by simp)]
  ·simp at h
noncomputable def t_fo (PV : Value → Int → Int) (WD : List Value → Int → List Int) (KD : List Value → Int → Nat) : Sums := upd (upd t_bring 44 (some (pickD_F 1 PV))) 24 (some (nodesD_F WD KD))
theorem t_fo_ok (PV : Value → Int → Int) (WD : List Value → Int → List Int) (KD : List Value → Int → Nat) : SumsOK Try.prog (t_fo PV WD KD) := sums_cons (sums_cons t_bring_ok (pickD_sum 1 PV)) (nodesD_sum WD KD)
structure FP where
 cs0 : List Value
 R : Nat → List Value
 d : Int
 cl : Int
 z : Nat → Option Addr
 m : Nat → Nat
 c : Nat → Nat
 n : Nat
 ct : Nat
 dim : Int
 cls : Int
 b0 : Int
 b1 : Int
 b2 : Int
 tc : Nat → Int
 C : Nat → Int
 W : Nat → List Int
 l : Nat → Nat
def FP.ts (p : FP) (i : Nat) : List Value := [.int .i64 (p.tc i), .slice (p.z (2 + 4 * i)) (p.m (2 + 4 * i)) (p.c (2 + 4 * i)), .slice (p.z (3 + 4 * i)) (p.m (3 + 4 * i)) (p.c (3 + 4 * i)), .slice (p.z (4 + 4 * i)) (p.m (4 + 4 * i)) (p.c (4 + 4 * i)), .slice (p.z (5 + 4 * i)) (p.m (5 + 4 * i)) (p.c (5 + 4 * i))]
def FP.tcs (p : FP) (q : Nat) : Nat → List Value
 | 0 => []
 | b + 1 => p.tcs q b ++ [.int .i64 (p.C b), .slice (some ⟨q + b, 0, none⟩) (p.l b) Ev.mk]
def FP.nds (p : FP) : Nat → List Blk
 | 0 => []
 | b + 1 => p.nds b ++ [.vec (eWord.row (p.W b)) 83 1]
def upN (q : Nat) : Nat → List Nat
 | 0 => []
 | b + 1 => upN q b ++ [q + b]
def tsl (q b : Nat) : Value := match b with | 0 => .slice none 0 0 | b + 1 => .slice (some ⟨q, 0, none⟩) (b + 1) mk
def tns (q b : Nat) : List Nat := match b with | 0 => [] | b + 1 => q :: upN (q + 1) (b + 1)
def FP.tbs (p : FP) (q b : Nat) : List Blk := match b with | 0 => [] | b + 1 => .vec (p.tcs (q + 1) (b + 1)) 47 2 :: p.nds (b + 1)
def FP.rows (p : FP) : List Blk := [.ro p.cs0, .ro (p.R 1), .ro (p.R 2), .ro (p.R 3), .ro (p.R 4), .ro (p.R 5), .ro (p.R 6), .ro (p.R 7), .ro (p.R 8), .ro (p.R 9), .ro (p.R 10), .ro (p.R 11), .ro (p.R 12), .ro (p.R 13), .ro (p.R 14), .ro (p.R 15), .ro (p.R 16), .ro (p.R 17)]
def FP.fcs (p : FP) (zt : Option Addr) : List Value := [.int .i64 p.d, .int .i64 p.cl, .slice (p.z 1) (p.m 1) (p.c 1), .slice zt p.n p.ct]
def FP.mcs (p : FP) (q b : Nat) : List Value := [.int .i64 p.dim, .int .i64 p.cls, .int .i64 p.b0, .int .i64 p.b1, .int .i64 p.b2, tsl q b]
def mz : List Value := [.int .i64 0, .int .i64 0, .int .i64 0, .int .i64 0, .int .i64 0, .slice none 0 0]
def fm (p : FP) (zt : Option Addr) (Q : Nat → Prop) : LoopF Unit where
 ts _ := [1, 2, 3, 5]
 hs b := [0, 1, 2, 3, 4, 5, 6, 7, 8, 9, 10, 11, 12, 13, 14, 15, 16, 17, 70, 71, 72] ++ tns 73 b
 tv b _ := [ptr 70, ptr 72, ptr 71, .int .i64 ((b : Nat) : Int)]
 hv b _ := p.rows ++ ([.cells (p.fcs zt) 61, .cells (p.mcs 73 b) 51, .cells mz 51] ++ p.tbs 73 b)
 inv b _ := Q b
 mu b _ := 4 - b
 nx := 80
def FP.ret (p : FP) (b : Nat) : Value := .agg ⟨p.mcs 100 b⟩
end Go.Proofs.Ythbaccmhdffjdaa.Fo
namespace Go.Proofs.Ythbaccmhdffjdaa.Fo
open Go Go.RowKit Ev NodeE Within PickE Tn Fo
theorem nds_plain (p : FP) : ∀ b, ∀ x ∈ p.nds b, x.plain
 | 0, x, h => by simp [FP.nds] at h
 | b + 1, x, h => by
  simp only [FP.nds, List.mem_append, List.mem_cons, List.not_mem_nil, or_false] at h
  rcases h with h | rfl
  ·exact nds_plain p b x h
  ·exact Elt.row_pl _
theorem tcs_names (p : FP) (q : Nat) : ∀ b, ∀ c ∈ p.tcs q b, ∀ k ∈ nm0 c, q ≤ k ∧ k < q + b
 | 0, c, h, k, hk => by simp [FP.tcs] at h
 | b + 1, c, h, k, hk => by
  simp only [FP.tcs, List.mem_append, List.mem_cons, List.not_mem_nil, or_false] at h
  rcases h with h | rfl | rfl
  ·have := tcs_names p q b c h k hk; omega
  ·simp [nm0] at hk
  ·simp [nm0] at hk; omega
theorem tbs_lt (p : FP) (q b : Nat) {nx : Nat} (h : q + b < nx) : ∀ x ∈ p.tbs q b, x.namesLt nx := by
 intro x hx
 cases b with
 | zero => simp [FP.tbs] at hx
 | succ b =>
  simp only [FP.tbs, List.mem_cons] at hx
  rcases hx with rfl | hx
  ·exact fun c hc k hk => by have := tcs_names p (q + 1) (b + 1) c hc k hk; omega
  ·exact (nds_plain p _ x hx).namesLt _
theorem nds_lt (p : FP) (b : Nat) (h : b ≤ 4) : ∀ x ∈ p.tbs 100 b, x.namesLt 105 := tbs_lt p 100 b (by omega)
theorem foIn1 (PV : Value → Int → Int) (WD : List Value → Int → List Int) (KD : List Value → Int → Nat) (p : FP) (zt : Option Addr) (Q : Nat → Prop)  {E rv rhs rhv} (hE : EnvOK E Try.prog Try.f27 1 64 rv rhs rhv) (hL : (fm p zt Q).OK 64) (hob : all ([SameK (atLp (lp Try.f27 1)) (atLp (lp Try.f27 1)), Enter (fm p zt Q) 0 none [.pointer (some (Addr.mk 64 0 none)), .pointer (some (Addr.mk 72 0 none)), .pointer (some (Addr.mk 136 0 none)), .int .i64 ((0 : Int))] [Blk.ro p.cs0, Blk.ro (p.R 1), Blk.ro (p.R 2), Blk.ro (p.R 3), Blk.ro (p.R 4), Blk.ro (p.R 5), Blk.ro (p.R 6), Blk.ro (p.R 7), Blk.ro (p.R 8), Blk.ro (p.R 9), Blk.ro (p.R 10), Blk.ro (p.R 11), Blk.ro (p.R 12), Blk.ro (p.R 13), Blk.ro (p.R 14), Blk.ro (p.R 15), Blk.ro (p.R 16), Blk.ro (p.R 17), Blk.cells [.int .i64 p.d, .int .i64 p.cl, .slice (p.z 1) (p.m 1) (p.c 1), .slice zt p.n p.ct] 61, Blk.cells [.int .i64 p.dim, .int .i64 ((1 : Int)), .int .i64 (withinS (PV (Value.slice (p.z 1) (p.m 1) (p.c 1)) 0) ((-500 : Int)) ((500 : Int))), .int .i64 ((0 : Int)), .int .i64 ((0 : Int)), .slice none 0 0] 51, Blk.cells [.int .i64 ((0 : Int)), .int .i64 ((0 : Int)), .int .i64 ((0 : Int)), .int .i64 ((0 : Int)), .int .i64 ((0 : Int)), .slice none 0 0] 51] [(70, 64), (72, 72), (71, 136)], I64 (PV (Value.slice (p.z 1) (p.m 1) (p.c 1)) 0), (-2305843009213693952 : Int) ≤ (-500 : Int), (-500 : Int) ≤ (500 : Int), (500 : Int) ≤ (2305843009213693952 : Int), PickOK PV (Value.slice (p.z 1) (p.m 1) (p.c 1)) ((0 : Int)) 1 (some (Blk.ro (p.R 1))), Value.int IntKind.i64 (withinS p.cl ((1 : Int)) ((3 : Int))) = .int .i64 ((1 : Int)), I64 p.cl, (-2305843009213693952 : Int) ≤ (1 : Int), (1 : Int) ≤ (3 : Int), (3 : Int) ≤ (2305843009213693952 : Int), Value.int IntKind.i64 (withinS p.d ((1 : Int)) ((3 : Int))) = .int .i64 p.dim, I64 p.d, (-2305843009213693952 : Int) ≤ (1 : Int), (1 : Int) ≤ (3 : Int), (3 : Int) ≤ (2305843009213693952 : Int)])) (hK : ∀ zz, (fm p zt Q).inv 0 zz → ltO ((fm p zt Q).mu 0 zz) none → Sat E (atLp (lp Try.f27 1)) ((fm p zt Q).st 0 zz)) : Sat E [.code (bodyOf Try.f27)] (st0 Try.f27 [.agg ⟨p.fcs zt⟩] (roRows [p.cs0, p.R 1, p.R 2, p.R 3, p.R 4, p.R 5, p.R 6, p.R 7, p.R 8, p.R 9, p.R 10, p.R 11, p.R 12, p.R 13, p.R 14, p.R 15, p.R 16, p.R 17]) 64) :=
 by_to (T := auto0 (t_fo PV WD KD)) (h := hints [(1, 2, {v := some (.int .i64 p.dim)}), (1, 5, {v := some (.int .i64 1)})]) (ws := [.go, .go, .go, .stop]) (i0 := ()) hE hm (auto0_ok (t_fo_ok PV WD KD)) hL (by kernel_rfl) hob hK
theorem foIn2 (PV : Value → Int → Int) (WD : List Value → Int → List Int) (KD : List Value → Int → Nat) (p : FP) (zt : Option Addr) (Q : Nat → Prop)  {E rv rhs rhv} (hE : EnvOK E Try.prog Try.f27 1 64 rv rhs rhv) (hL : (fm p zt Q).OK 64) (hob : all ([SameK (atLp (lp Try.f27 1)) (atLp (lp Try.f27 1)), Enter (fm p zt Q) 0 none [.pointer (some (Addr.mk 64 0 none)), .pointer (some (Addr.mk 72 0 none)), .pointer (some (Addr.mk 136 0 none)), .int .i64 ((0 : Int))] [Blk.ro p.cs0, Blk.ro (p.R 1), Blk.ro (p.R 2), Blk.ro (p.R 3), Blk.ro (p.R 4), Blk.ro (p.R 5), Blk.ro (p.R 6), Blk.ro (p.R 7), Blk.ro (p.R 8), Blk.ro (p.R 9), Blk.ro (p.R 10), Blk.ro (p.R 11), Blk.ro (p.R 12), Blk.ro (p.R 13), Blk.ro (p.R 14), Blk.ro (p.R 15), Blk.ro (p.R 16), Blk.ro (p.R 17), Blk.cells [.int .i64 p.d, .int .i64 p.cl, .slice (p.z 1) (p.m 1) (p.c 1), .slice zt p.n p.ct] 61, Blk.cells [.int .i64 p.dim, .int .i64 ((2 : Int)), .int .i64 (withinS (PV (Value.slice (p.z 1) (p.m 1) (p.c 1)) 0) ((-500 : Int)) ((500 : Int))), .int .i64 (withinS (PV (Value.slice (p.z 1) (p.m 1) (p.c 1)) (IntKind.i64.wrap (0 + 1))) ((-500 : Int)) ((500 : Int))), .int .i64 ((0 : Int)), .slice none 0 0] 51, Blk.cells [.int .i64 ((0 : Int)), .int .i64 ((0 : Int)), .int .i64 ((0 : Int)), .int .i64 ((0 : Int)), .int .i64 ((0 : Int)), .slice none 0 0] 51] [(70, 64), (72, 72), (71, 136)], I64 (PV (Value.slice (p.z 1) (p.m 1) (p.c 1)) (IntKind.i64.wrap (0 + 1))), (-2305843009213693952 : Int) ≤ (-500 : Int), (-500 : Int) ≤ (500 : Int), (500 : Int) ≤ (2305843009213693952 : Int), PickOK PV (Value.slice (p.z 1) (p.m 1) (p.c 1)) ((1 : Int)) 1 (some (Blk.ro (p.R 1))), I64 (PV (Value.slice (p.z 1) (p.m 1) (p.c 1)) 0), (-2305843009213693952 : Int) ≤ (-500 : Int), (-500 : Int) ≤ (500 : Int), (500 : Int) ≤ (2305843009213693952 : Int), PickOK PV (Value.slice (p.z 1) (p.m 1) (p.c 1)) ((0 : Int)) 1 (some (Blk.ro (p.R 1))), Value.int IntKind.i64 (withinS p.cl ((1 : Int)) ((3 : Int))) = .int .i64 ((2 : Int)), I64 p.cl, (-2305843009213693952 : Int) ≤ (1 : Int), (1 : Int) ≤ (3 : Int), (3 : Int) ≤ (2305843009213693952 : Int), Value.int IntKind.i64 (withinS p.d ((1 : Int)) ((3 : Int))) = .int .i64 p.dim, I64 p.d, (-2305843009213693952 : Int) ≤ (1 : Int), (1 : Int) ≤ (3 : Int), (3 : Int) ≤ (2305843009213693952 : Int)])) (hK : ∀ zz, (fm p zt Q).inv 0 zz → ltO ((fm p zt Q).mu 0 zz) none → Sat E (atLp (lp Try.f27 1)) ((fm p zt Q).st 0 zz)) : Sat E [.code (bodyOf Try.f27)] (st0 Try.f27 [.agg ⟨p.fcs zt⟩] (roRows [p.cs0, p.R 1, p.R 2, p.R 3, p.R 4, p.R 5, p.R 6, p.R 7, p.R 8, p.R 9, p.R 10, p.R 11, p.R 12, p.R 13, p.R 14, p.R 15, p.R 16, p.R 17]) 64) :=
 by_to (T := auto0 (t_fo PV WD KD)) (h := hints [(1, 2, {v := some (.int .i64 p.dim)}), (1, 5, {v := some (.int .i64 2)})]) (ws := [.go, .go, .go, .go, .stop]) (i0 := ()) hE hm (auto0_ok (t_fo_ok PV WD KD)) hL (by kernel_rfl) hob hK
theorem foIn3 (PV : Value → Int → Int) (WD : List Value → Int → List Int) (KD : List Value → Int → Nat) (p : FP) (zt : Option Addr) (Q : Nat → Prop)  {E rv rhs rhv} (hE : EnvOK E Try.prog Try.f27 1 64 rv rhs rhv) (hL : (fm p zt Q).OK 64) (hob : all ([SameK (atLp (lp Try.f27 1)) (atLp (lp Try.f27 1)), Enter (fm p zt Q) 0 none [.pointer (some (Addr.mk 64 0 none)), .pointer (some (Addr.mk 72 0 none)), .pointer (some (Addr.mk 136 0 none)), .int .i64 ((0 : Int))] [Blk.ro p.cs0, Blk.ro (p.R 1), Blk.ro (p.R 2), Blk.ro (p.R 3), Blk.ro (p.R 4), Blk.ro (p.R 5), Blk.ro (p.R 6), Blk.ro (p.R 7), Blk.ro (p.R 8), Blk.ro (p.R 9), Blk.ro (p.R 10), Blk.ro (p.R 11), Blk.ro (p.R 12), Blk.ro (p.R 13), Blk.ro (p.R 14), Blk.ro (p.R 15), Blk.ro (p.R 16), Blk.ro (p.R 17), Blk.cells [.int .i64 p.d, .int .i64 p.cl, .slice (p.z 1) (p.m 1) (p.c 1), .slice zt p.n p.ct] 61, Blk.cells [.int .i64 p.dim, .int .i64 ((3 : Int)), .int .i64 (withinS (PV (Value.slice (p.z 1) (p.m 1) (p.c 1)) 0) ((-500 : Int)) ((500 : Int))), .int .i64 (withinS (PV (Value.slice (p.z 1) (p.m 1) (p.c 1)) (IntKind.i64.wrap (0 + 1))) ((-500 : Int)) ((500 : Int))), .int .i64 (withinS (PV (Value.slice (p.z 1) (p.m 1) (p.c 1)) (IntKind.i64.wrap (IntKind.i64.wrap (0 + 1) + 1))) ((-500 : Int)) ((500 : Int))), .slice none 0 0] 51, Blk.cells [.int .i64 ((0 : Int)), .int .i64 ((0 : Int)), .int .i64 ((0 : Int)), .int .i64 ((0 : Int)), .int .i64 ((0 : Int)), .slice none 0 0] 51] [(70, 64), (72, 72), (71, 136)], I64 (PV (Value.slice (p.z 1) (p.m 1) (p.c 1)) (IntKind.i64.wrap (IntKind.i64.wrap (0 + 1) + 1))), (-2305843009213693952 : Int) ≤ (-500 : Int), (-500 : Int) ≤ (500 : Int), (500 : Int) ≤ (2305843009213693952 : Int), PickOK PV (Value.slice (p.z 1) (p.m 1) (p.c 1)) ((2 : Int)) 1 (some (Blk.ro (p.R 1))), I64 (PV (Value.slice (p.z 1) (p.m 1) (p.c 1)) (IntKind.i64.wrap (0 + 1))), (-2305843009213693952 : Int) ≤ (-500 : Int), (-500 : Int) ≤ (500 : Int), (500 : Int) ≤ (2305843009213693952 : Int), PickOK PV (Value.slice (p.z 1) (p.m 1) (p.c 1)) ((1 : Int)) 1 (some (Blk.ro (p.R 1))), I64 (PV (Value.slice (p.z 1) (p.m 1) (p.c 1)) 0), (-2305843009213693952 : Int) ≤ (-500 : Int), (-500 : Int) ≤ (500 : Int), (500 : Int) ≤ (2305843009213693952 : Int), PickOK PV (Value.slice (p.z 1) (p.m 1) (p.c 1)) ((0 : Int)) 1 (some (Blk.ro (p.R 1))), Value.int IntKind.i64 (withinS p.cl ((1 : Int)) ((3 : Int))) = .int .i64 ((3 : Int)), I64 p.cl, (-2305843009213693952 : Int) ≤ (1 : Int), (1 : Int) ≤ (3 : Int), (3 : Int) ≤ (2305843009213693952 : Int), Value.int IntKind.i64 (withinS p.d ((1 : Int)) ((3 : Int))) = .int .i64 p.dim, I64 p.d, (-2305843009213693952 : Int) ≤ (1 : Int), (1 : Int) ≤ (3 : Int), (3 : Int) ≤ (2305843009213693952 : Int)])) (hK : ∀ zz, (fm p zt Q).inv 0 zz → ltO ((fm p zt Q).mu 0 zz) none → Sat E (atLp (lp Try.f27 1)) ((fm p zt Q).st 0 zz)) : Sat E [.code (bodyOf Try.f27)] (st0 Try.f27 [.agg ⟨p.fcs zt⟩] (roRows [p.cs0, p.R 1, p.R 2, p.R 3, p.R 4, p.R 5, p.R 6, p.R 7, p.R 8, p.R 9, p.R 10, p.R 11, p.R 12, p.R 13, p.R 14, p.R 15, p.R 16, p.R 17]) 64) :=
 by_to (T := auto0 (t_fo PV WD KD)) (h := hints [(1, 2, {v := some (.int .i64 p.dim)}), (1, 5, {v := some (.int .i64 3)})]) (ws := [.go, .go, .go, .go, .go, .stop]) (i0 := ()) hE hm (auto0_ok (t_fo_ok PV WD KD)) hL (by kernel_rfl) hob hK
theorem foB0 (PV : Value → Int → Int) (WD : List Value → Int → List Int) (KD : List Value → Int → Nat) (p : FP) (Q : Nat → Prop) (c1 : Int) (J : _) {E rv rhs rhv} (hE : EnvOK E Try.prog Try.f27 1 64 rv rhs rhv) (hL : (fm p (some ⟨0, 0, none⟩) Q).OK 64) (hob : all ([SameK (mkLp (lp Try.f27 1) J) (mkLp (lp Try.f27 1) J), Enter (fm p (some (Addr.mk 0 0 none)) Q) 1 (some 4) [.pointer (some (Addr.mk 70 0 none)), .pointer (some (Addr.mk 72 0 none)), .pointer (some (Addr.mk 71 0 none)), .int .i64 ((1 : Int))] [Blk.ro p.cs0, Blk.ro (p.R 1), Blk.ro (p.R 2), Blk.ro (p.R 3), Blk.ro (p.R 4), Blk.ro (p.R 5), Blk.ro (p.R 6), Blk.ro (p.R 7), Blk.ro (p.R 8), Blk.ro (p.R 9), Blk.ro (p.R 10), Blk.ro (p.R 11), Blk.ro (p.R 12), Blk.ro (p.R 13), Blk.ro (p.R 14), Blk.ro (p.R 15), Blk.ro (p.R 16), Blk.ro (p.R 17), Blk.cells [.int .i64 p.d, .int .i64 p.cl, .slice (p.z 1) (p.m 1) (p.c 1), .slice (some (Addr.mk 0 0 none)) p.n p.ct] 61, Blk.cells [.int .i64 p.dim, .int .i64 p.cls, .int .i64 p.b0, .int .i64 p.b1, .int .i64 p.b2, .slice (some (Addr.mk 328 0 none)) 1 Ev.mark] 51, Blk.cells [.int .i64 ((0 : Int)), .int .i64 ((0 : Int)), .int .i64 ((0 : Int)), .int .i64 ((0 : Int)), .int .i64 ((0 : Int)), .slice none 0 0] 51, Blk.vec [.int .i64 (p.C 0), .slice (some (Addr.mk 304 0 none)) (KD (p.ts 0) p.dim) Ev.mark] 47 2, Blk.vec (eWord.row (WD (p.ts 0) p.dim)) 83 1] [(73, 328), (74, 304)], NodesOK WD KD [.int .i64 (p.tc 0), .slice (p.z 2) (p.m 2) (p.c 2), .slice (p.z 3) (p.m 3) (p.c 3), .slice (p.z 4) (p.m 4) (p.c 4), .slice (p.z 5) (p.m 5) (p.c 5)] p.dim [some (Blk.ro (p.R 2)), some (Blk.ro (p.R 3)), some (Blk.ro (p.R 4)), some (Blk.ro (p.R 5)), some (Blk.ro (p.R 6)), some (Blk.ro (p.R 7)), some (Blk.ro (p.R 8)), some (Blk.ro (p.R 9)), some (Blk.ro (p.R 10)), some (Blk.ro (p.R 11)), some (Blk.ro (p.R 12)), some (Blk.ro (p.R 13)), some (Blk.ro (p.R 14)), some (Blk.ro (p.R 15)), some (Blk.ro (p.R 16)), some (Blk.ro (p.R 17))], readPart Try.prog 55 p.cs0 0 = some (Value.agg (Array.mk [.int .i64 (p.tc 0), .slice (p.z 2) (p.m 2) (p.c 2), .slice (p.z 3) (p.m 3) (p.c 3), .slice (p.z 4) (p.m 4) (p.c 4), .slice (p.z 5) (p.m 5) (p.c 5)])), (0 : Int) ≤ (0 : Int) ∧ (0 : Int) < Int.ofNat p.n, Value.int IntKind.i64 (withinS (p.tc 0) ((0 : Int)) c1) = .int .i64 (p.C 0), I64 (p.tc 0), (-2305843009213693952 : Int) ≤ (0 : Int), (0 : Int) ≤ c1, c1 ≤ (2305843009213693952 : Int), Value.int IntKind.i64 (IntKind.i64.wrap (p.cls - (1 : Int))) = .int .i64 c1, readPart Try.prog 3 p.cs0 0 = some (Value.int IntKind.i64 (p.tc 0)), (0 : Int) ≤ (0 : Int) ∧ (0 : Int) < Int.ofNat p.n, Value.bool (decide ((↑0 : Int) < (↑p.n : Int))) = .bool true])) (hK : ∀ zz, (fm p (some ⟨0, 0, none⟩) Q).inv 1 zz → ltO ((fm p (some ⟨0, 0, none⟩) Q).mu 1 zz) (some (4 - 0)) → Sat E (mkLp (lp Try.f27 1) J) ((fm p (some ⟨0, 0, none⟩) Q).st 1 zz)) : Sat E (inLp (lp Try.f27 1) J) ((fm p (some ⟨0, 0, none⟩) Q).st 0 ()) :=
 by_toR (r := [(73, 328), (74, 304)]) (T := auto0 (t_fo PV WD KD)) (h := hints [(8, 4, ht true), (10, 5, {p := true}), (10, 7, {o := some (.int .i64 (p.tc 0))}), (10, 10, {v := some (.int .i64 c1)}), (10, 11, {v := some (.int .i64 (p.C 0))}), (10, 15, {p := true}), (10, 16, {o := some (.agg ⟨p.ts 0⟩)})]) (ws := [.go]) (i0 := ()) hE hm (auto0_ok (t_fo_ok PV WD KD)) hL (by kernel_rfl) hob hK
theorem foB1 (PV : Value → Int → Int) (WD : List Value → Int → List Int) (KD : List Value → Int → Nat) (p : FP) (Q : Nat → Prop) (c1 : Int) (J : _) {E rv rhs rhv} (hE : EnvOK E Try.prog Try.f27 1 64 rv rhs rhv) (hL : (fm p (some ⟨0, 0, none⟩) Q).OK 64) (hob : all ([SameK (mkLp (lp Try.f27 1) J) (mkLp (lp Try.f27 1) J), Enter (fm p (some (Addr.mk 0 0 none)) Q) 2 (some 3) [.pointer (some (Addr.mk 70 0 none)), .pointer (some (Addr.mk 72 0 none)), .pointer (some (Addr.mk 71 0 none)), .int .i64 ((2 : Int))] [Blk.ro p.cs0, Blk.ro (p.R 1), Blk.ro (p.R 2), Blk.ro (p.R 3), Blk.ro (p.R 4), Blk.ro (p.R 5), Blk.ro (p.R 6), Blk.ro (p.R 7), Blk.ro (p.R 8), Blk.ro (p.R 9), Blk.ro (p.R 10), Blk.ro (p.R 11), Blk.ro (p.R 12), Blk.ro (p.R 13), Blk.ro (p.R 14), Blk.ro (p.R 15), Blk.ro (p.R 16), Blk.ro (p.R 17), Blk.cells [.int .i64 p.d, .int .i64 p.cl, .slice (p.z 1) (p.m 1) (p.c 1), .slice (some (Addr.mk 0 0 none)) p.n p.ct] 61, Blk.cells [.int .i64 p.dim, .int .i64 p.cls, .int .i64 p.b0, .int .i64 p.b1, .int .i64 p.b2, .slice (some (Addr.mk 328 0 none)) 2 Ev.mark] 51, Blk.cells [.int .i64 ((0 : Int)), .int .i64 ((0 : Int)), .int .i64 ((0 : Int)), .int .i64 ((0 : Int)), .int .i64 ((0 : Int)), .slice none 0 0] 51, Blk.vec [.int .i64 (p.C 0), .slice (some (Addr.mk 74 0 none)) (p.l 0) Ev.mark, .int .i64 (p.C 1), .slice (some (Addr.mk 304 0 none)) (KD (p.ts 1) p.dim) Ev.mark] 47 2, Blk.vec (eWord.row (p.W 0)) 83 1, Blk.vec (eWord.row (WD (p.ts 1) p.dim)) 83 1] [(73, 328), (75, 304)], NodesOK WD KD [.int .i64 (p.tc 1), .slice (p.z 6) (p.m 6) (p.c 6), .slice (p.z 7) (p.m 7) (p.c 7), .slice (p.z 8) (p.m 8) (p.c 8), .slice (p.z 9) (p.m 9) (p.c 9)] p.dim [some (Blk.ro (p.R 2)), some (Blk.ro (p.R 3)), some (Blk.ro (p.R 4)), some (Blk.ro (p.R 5)), some (Blk.ro (p.R 6)), some (Blk.ro (p.R 7)), some (Blk.ro (p.R 8)), some (Blk.ro (p.R 9)), some (Blk.ro (p.R 10)), some (Blk.ro (p.R 11)), some (Blk.ro (p.R 12)), some (Blk.ro (p.R 13)), some (Blk.ro (p.R 14)), some (Blk.ro (p.R 15)), some (Blk.ro (p.R 16)), some (Blk.ro (p.R 17))], readPart Try.prog 55 p.cs0 5 = some (Value.agg (Array.mk [.int .i64 (p.tc 1), .slice (p.z 6) (p.m 6) (p.c 6), .slice (p.z 7) (p.m 7) (p.c 7), .slice (p.z 8) (p.m 8) (p.c 8), .slice (p.z 9) (p.m 9) (p.c 9)])), (0 : Int) ≤ (1 : Int) ∧ (1 : Int) < Int.ofNat p.n, Value.int IntKind.i64 (withinS (p.tc 1) ((0 : Int)) c1) = .int .i64 (p.C 1), I64 (p.tc 1), (-2305843009213693952 : Int) ≤ (0 : Int), (0 : Int) ≤ c1, c1 ≤ (2305843009213693952 : Int), Value.int IntKind.i64 (IntKind.i64.wrap (p.cls - (1 : Int))) = .int .i64 c1, readPart Try.prog 3 p.cs0 5 = some (Value.int IntKind.i64 (p.tc 1)), (0 : Int) ≤ (1 : Int) ∧ (1 : Int) < Int.ofNat p.n, Value.bool (decide ((↑1 : Int) < (↑p.n : Int))) = .bool true])) (hK : ∀ zz, (fm p (some ⟨0, 0, none⟩) Q).inv 2 zz → ltO ((fm p (some ⟨0, 0, none⟩) Q).mu 2 zz) (some (4 - 1)) → Sat E (mkLp (lp Try.f27 1) J) ((fm p (some ⟨0, 0, none⟩) Q).st 2 zz)) : Sat E (inLp (lp Try.f27 1) J) ((fm p (some ⟨0, 0, none⟩) Q).st 1 ()) :=
 by_toR (r := [(73, 328), (75, 304)]) (T := auto0 (t_fo PV WD KD)) (h := hints [(8, 4, ht true), (10, 5, {p := true}), (10, 7, {o := some (.int .i64 (p.tc 1))}), (10, 10, {v := some (.int .i64 c1)}), (10, 11, {v := some (.int .i64 (p.C 1))}), (10, 15, {p := true}), (10, 16, {o := some (.agg ⟨p.ts 1⟩)})]) (ws := [.go]) (i0 := ()) hE hm (auto0_ok (t_fo_ok PV WD KD)) hL (by kernel_rfl) hob hK
theorem foB2 (PV : Value → Int → Int) (WD : List Value → Int → List Int) (KD : List Value → Int → Nat) (p : FP) (Q : Nat → Prop) (c1 : Int) (J : _) {E rv rhs rhv} (hE : EnvOK E Try.prog Try.f27 1 64 rv rhs rhv) (hL : (fm p (some ⟨0, 0, none⟩) Q).OK 64) (hob : all ([SameK (mkLp (lp Try.f27 1) J) (mkLp (lp Try.f27 1) J), Enter (fm p (some (Addr.mk 0 0 none)) Q) 3 (some 2) [.pointer (some (Addr.mk 70 0 none)), .pointer (some (Addr.mk 72 0 none)), .pointer (some (Addr.mk 71 0 none)), .int .i64 ((3 : Int))] [Blk.ro p.cs0, Blk.ro (p.R 1), Blk.ro (p.R 2), Blk.ro (p.R 3), Blk.ro (p.R 4), Blk.ro (p.R 5), Blk.ro (p.R 6), Blk.ro (p.R 7), Blk.ro (p.R 8), Blk.ro (p.R 9), Blk.ro (p.R 10), Blk.ro (p.R 11), Blk.ro (p.R 12), Blk.ro (p.R 13), Blk.ro (p.R 14), Blk.ro (p.R 15), Blk.ro (p.R 16), Blk.ro (p.R 17), Blk.cells [.int .i64 p.d, .int .i64 p.cl, .slice (p.z 1) (p.m 1) (p.c 1), .slice (some (Addr.mk 0 0 none)) p.n p.ct] 61, Blk.cells [.int .i64 p.dim, .int .i64 p.cls, .int .i64 p.b0, .int .i64 p.b1, .int .i64 p.b2, .slice (some (Addr.mk 328 0 none)) 3 Ev.mark] 51, Blk.cells [.int .i64 ((0 : Int)), .int .i64 ((0 : Int)), .int .i64 ((0 : Int)), .int .i64 ((0 : Int)), .int .i64 ((0 : Int)), .slice none 0 0] 51, Blk.vec [.int .i64 (p.C 0), .slice (some (Addr.mk 74 0 none)) (p.l 0) Ev.mark, .int .i64 (p.C 1), .slice (some (Addr.mk 75 0 none)) (p.l 1) Ev.mark, .int .i64 (p.C 2), .slice (some (Addr.mk 304 0 none)) (KD (p.ts 2) p.dim) Ev.mark] 47 2, Blk.vec (eWord.row (p.W 0)) 83 1, Blk.vec (eWord.row (p.W 1)) 83 1, Blk.vec (eWord.row (WD (p.ts 2) p.dim)) 83 1] [(73, 328), (76, 304)], NodesOK WD KD [.int .i64 (p.tc 2), .slice (p.z 10) (p.m 10) (p.c 10), .slice (p.z 11) (p.m 11) (p.c 11), .slice (p.z 12) (p.m 12) (p.c 12), .slice (p.z 13) (p.m 13) (p.c 13)] p.dim [some (Blk.ro (p.R 2)), some (Blk.ro (p.R 3)), some (Blk.ro (p.R 4)), some (Blk.ro (p.R 5)), some (Blk.ro (p.R 6)), some (Blk.ro (p.R 7)), some (Blk.ro (p.R 8)), some (Blk.ro (p.R 9)), some (Blk.ro (p.R 10)), some (Blk.ro (p.R 11)), some (Blk.ro (p.R 12)), some (Blk.ro (p.R 13)), some (Blk.ro (p.R 14)), some (Blk.ro (p.R 15)), some (Blk.ro (p.R 16)), some (Blk.ro (p.R 17))], readPart Try.prog 55 p.cs0 10 = some (Value.agg (Array.mk [.int .i64 (p.tc 2), .slice (p.z 10) (p.m 10) (p.c 10), .slice (p.z 11) (p.m 11) (p.c 11), .slice (p.z 12) (p.m 12) (p.c 12), .slice (p.z 13) (p.m 13) (p.c 13)])), (0 : Int) ≤ (2 : Int) ∧ (2 : Int) < Int.ofNat p.n, Value.int IntKind.i64 (withinS (p.tc 2) ((0 : Int)) c1) = .int .i64 (p.C 2), I64 (p.tc 2), (-2305843009213693952 : Int) ≤ (0 : Int), (0 : Int) ≤ c1, c1 ≤ (2305843009213693952 : Int), Value.int IntKind.i64 (IntKind.i64.wrap (p.cls - (1 : Int))) = .int .i64 c1, readPart Try.prog 3 p.cs0 10 = some (Value.int IntKind.i64 (p.tc 2)), (0 : Int) ≤ (2 : Int) ∧ (2 : Int) < Int.ofNat p.n, Value.bool (decide ((↑2 : Int) < (↑p.n : Int))) = .bool true])) (hK : ∀ zz, (fm p (some ⟨0, 0, none⟩) Q).inv 3 zz → ltO ((fm p (some ⟨0, 0, none⟩) Q).mu 3 zz) (some (4 - 2)) → Sat E (mkLp (lp Try.f27 1) J) ((fm p (some ⟨0, 0, none⟩) Q).st 3 zz)) : Sat E (inLp (lp Try.f27 1) J) ((fm p (some ⟨0, 0, none⟩) Q).st 2 ()) :=
 by_toR (r := [(73, 328), (76, 304)]) (T := auto0 (t_fo PV WD KD)) (h := hints [(8, 4, ht true), (10, 5, {p := true}), (10, 7, {o := some (.int .i64 (p.tc 2))}), (10, 10, {v := some (.int .i64 c1)}), (10, 11, {v := some (.int .i64 (p.C 2))}), (10, 15, {p := true}), (10, 16, {o := some (.agg ⟨p.ts 2⟩)})]) (ws := [.go]) (i0 := ()) hE hm (auto0_ok (t_fo_ok PV WD KD)) hL (by kernel_rfl) hob hK
theorem foB3 (PV : Value → Int → Int) (WD : List Value → Int → List Int) (KD : List Value → Int → Nat) (p : FP) (Q : Nat → Prop) (c1 : Int) (J : _) {E rv rhs rhv} (hE : EnvOK E Try.prog Try.f27 1 64 rv rhs rhv) (hL : (fm p (some ⟨0, 0, none⟩) Q).OK 64) (hob : all ([SameK (mkLp (lp Try.f27 1) J) (mkLp (lp Try.f27 1) J), Enter (fm p (some (Addr.mk 0 0 none)) Q) 4 (some 1) [.pointer (some (Addr.mk 70 0 none)), .pointer (some (Addr.mk 72 0 none)), .pointer (some (Addr.mk 71 0 none)), .int .i64 ((4 : Int))] [Blk.ro p.cs0, Blk.ro (p.R 1), Blk.ro (p.R 2), Blk.ro (p.R 3), Blk.ro (p.R 4), Blk.ro (p.R 5), Blk.ro (p.R 6), Blk.ro (p.R 7), Blk.ro (p.R 8), Blk.ro (p.R 9), Blk.ro (p.R 10), Blk.ro (p.R 11), Blk.ro (p.R 12), Blk.ro (p.R 13), Blk.ro (p.R 14), Blk.ro (p.R 15), Blk.ro (p.R 16), Blk.ro (p.R 17), Blk.cells [.int .i64 p.d, .int .i64 p.cl, .slice (p.z 1) (p.m 1) (p.c 1), .slice (some (Addr.mk 0 0 none)) p.n p.ct] 61, Blk.cells [.int .i64 p.dim, .int .i64 p.cls, .int .i64 p.b0, .int .i64 p.b1, .int .i64 p.b2, .slice (some (Addr.mk 328 0 none)) 4 Ev.mark] 51, Blk.cells [.int .i64 ((0 : Int)), .int .i64 ((0 : Int)), .int .i64 ((0 : Int)), .int .i64 ((0 : Int)), .int .i64 ((0 : Int)), .slice none 0 0] 51, Blk.vec [.int .i64 (p.C 0), .slice (some (Addr.mk 74 0 none)) (p.l 0) Ev.mark, .int .i64 (p.C 1), .slice (some (Addr.mk 75 0 none)) (p.l 1) Ev.mark, .int .i64 (p.C 2), .slice (some (Addr.mk 76 0 none)) (p.l 2) Ev.mark, .int .i64 (p.C 3), .slice (some (Addr.mk 304 0 none)) (KD (p.ts 3) p.dim) Ev.mark] 47 2, Blk.vec (eWord.row (p.W 0)) 83 1, Blk.vec (eWord.row (p.W 1)) 83 1, Blk.vec (eWord.row (p.W 2)) 83 1, Blk.vec (eWord.row (WD (p.ts 3) p.dim)) 83 1] [(73, 328), (77, 304)], NodesOK WD KD [.int .i64 (p.tc 3), .slice (p.z 14) (p.m 14) (p.c 14), .slice (p.z 15) (p.m 15) (p.c 15), .slice (p.z 16) (p.m 16) (p.c 16), .slice (p.z 17) (p.m 17) (p.c 17)] p.dim [some (Blk.ro (p.R 2)), some (Blk.ro (p.R 3)), some (Blk.ro (p.R 4)), some (Blk.ro (p.R 5)), some (Blk.ro (p.R 6)), some (Blk.ro (p.R 7)), some (Blk.ro (p.R 8)), some (Blk.ro (p.R 9)), some (Blk.ro (p.R 10)), some (Blk.ro (p.R 11)), some (Blk.ro (p.R 12)), some (Blk.ro (p.R 13)), some (Blk.ro (p.R 14)), some (Blk.ro (p.R 15)), some (Blk.ro (p.R 16)), some (Blk.ro (p.R 17))], readPart Try.prog 55 p.cs0 15 = some (Value.agg (Array.mk [.int .i64 (p.tc 3), .slice (p.z 14) (p.m 14) (p.c 14), .slice (p.z 15) (p.m 15) (p.c 15), .slice (p.z 16) (p.m 16) (p.c 16), .slice (p.z 17) (p.m 17) (p.c 17)])), (0 : Int) ≤ (3 : Int) ∧ (3 : Int) < Int.ofNat p.n, Value.int IntKind.i64 (withinS (p.tc 3) ((0 : Int)) c1) = .int .i64 (p.C 3), I64 (p.tc 3), (-2305843009213693952 : Int) ≤ (0 : Int), (0 : Int) ≤ c1, c1 ≤ (2305843009213693952 : Int), Value.int IntKind.i64 (IntKind.i64.wrap (p.cls - (1 : Int))) = .int .i64 c1, readPart Try.prog 3 p.cs0 15 = some (Value.int IntKind.i64 (p.tc 3)), (0 : Int) ≤ (3 : Int) ∧ (3 : Int) < Int.ofNat p.n, Value.bool (decide ((↑3 : Int) < (↑p.n : Int))) = .bool true])) (hK : ∀ zz, (fm p (some ⟨0, 0, none⟩) Q).inv 4 zz → ltO ((fm p (some ⟨0, 0, none⟩) Q).mu 4 zz) (some (4 - 3)) → Sat E (mkLp (lp Try.f27 1) J) ((fm p (some ⟨0, 0, none⟩) Q).st 4 zz)) : Sat E (inLp (lp Try.f27 1) J) ((fm p (some ⟨0, 0, none⟩) Q).st 3 ()) :=
 by_toR (r := [(73, 328), (77, 304)]) (T := auto0 (t_fo PV WD KD)) (h := hints [(8, 4, ht true), (10, 5, {p := true}), (10, 7, {o := some (.int .i64 (p.tc 3))}), (10, 10, {v := some (.int .i64 c1)}), (10, 11, {v := some (.int .i64 (p.C 3))}), (10, 15, {p := true}), (10, 16, {o := some (.agg ⟨p.ts 3⟩)})]) (ws := [.go]) (i0 := ()) hE hm (auto0_ok (t_fo_ok PV WD KD)) hL (by kernel_rfl) hob hK
theorem foX0 (PV : Value → Int → Int) (WD : List Value → Int → List Int) (KD : List Value → Int → Nat) (p : FP) (zt : Option Addr) (Q : Nat → Prop) (J : _) {E : Env} (hE : EnvOK E Try.prog Try.f27 1 64 (p.ret 0) (tns 100 0) (p.tbs 100 0)) (hob : all ([Back (Value.agg (Array.mk [.int .i64 p.dim, .int .i64 p.cls, .int .i64 p.b0, .int .i64 p.b1, .int .i64 p.b2, .slice none 0 0])) (Value.agg (Array.mk [.int .i64 p.dim, .int .i64 p.cls, .int .i64 p.b0, .int .i64 p.b1, .int .i64 p.b2, .slice none 0 0])) [] [] [], Value.bool (decide ((↑0 : Int) < (↑p.n : Int))) = .bool false])) : Sat E (inLp (lp Try.f27 1) J) ((fm p zt Q).st 0 ()) :=
 by_retR (r := []) (T := auto0 (t_fo PV WD KD)) (h := hints [(8, 4, ht false)]) (ws := [.go]) (nx' := 105) hE hm (auto0_ok (t_fo_ok PV WD KD)) (by omega) (by decide) (nds_lt p 0 (by decide)) (by kernel_rfl) hob
theorem foX1 (PV : Value → Int → Int) (WD : List Value → Int → List Int) (KD : List Value → Int → Nat) (p : FP) (zt : Option Addr) (Q : Nat → Prop) (J : _) {E : Env} (hE : EnvOK E Try.prog Try.f27 1 64 (p.ret 1) (tns 100 1) (p.tbs 100 1)) (hob : all ([Back (Value.agg (Array.mk [.int .i64 p.dim, .int .i64 p.cls, .int .i64 p.b0, .int .i64 p.b1, .int .i64 p.b2, .slice (some (Addr.mk 73 0 none)) 1 Ev.mark])) (Value.agg (Array.mk [.int .i64 p.dim, .int .i64 p.cls, .int .i64 p.b0, .int .i64 p.b1, .int .i64 p.b2, .slice (some (Addr.mk 100 0 none)) 1 Ev.mark])) [Blk.vec [.int .i64 (p.C 0), .slice (some (Addr.mk 74 0 none)) (p.l 0) Ev.mark] 47 2, Blk.vec (eWord.row (p.W 0)) 83 1] [Blk.vec [.int .i64 (p.C 0), .slice (some (Addr.mk 101 0 none)) (p.l 0) Ev.mark] 47 2, Blk.vec (eWord.row (p.W 0)) 83 1] [(100, 73), (101, 74)], Value.bool (decide ((↑1 : Int) < (↑p.n : Int))) = .bool false])) : Sat E (inLp (lp Try.f27 1) J) ((fm p zt Q).st 1 ()) :=
 by_retR (r := [(100, 73), (101, 74)]) (T := auto0 (t_fo PV WD KD)) (h := hints [(8, 4, ht false)]) (ws := [.go]) (nx' := 105) hE hm (auto0_ok (t_fo_ok PV WD KD)) (by omega) (by decide) (nds_lt p 1 (by decide)) (by kernel_rfl) hob
theorem foX2 (PV : Value → Int → Int) (WD : List Value → Int → List Int) (KD : List Value → Int → Nat) (p : FP) (zt : Option Addr) (Q : Nat → Prop) (J : _) {E : Env} (hE : EnvOK E Try.prog Try.f27 1 64 (p.ret 2) (tns 100 2) (p.tbs 100 2)) (hob : all ([Back (Value.agg (Array.mk [.int .i64 p.dim, .int .i64 p.cls, .int .i64 p.b0, .int .i64 p.b1, .int .i64 p.b2, .slice (some (Addr.mk 73 0 none)) 2 Ev.mark])) (Value.agg (Array.mk [.int .i64 p.dim, .int .i64 p.cls, .int .i64 p.b0, .int .i64 p.b1, .int .i64 p.b2, .slice (some (Addr.mk 100 0 none)) 2 Ev.mark])) [Blk.vec [.int .i64 (p.C 0), .slice (some (Addr.mk 74 0 none)) (p.l 0) Ev.mark, .int .i64 (p.C 1), .slice (some (Addr.mk 75 0 none)) (p.l 1) Ev.mark] 47 2, Blk.vec (eWord.row (p.W 0)) 83 1, Blk.vec (eWord.row (p.W 1)) 83 1] [Blk.vec [.int .i64 (p.C 0), .slice (some (Addr.mk 101 0 none)) (p.l 0) Ev.mark, .int .i64 (p.C 1), .slice (some (Addr.mk 102 0 none)) (p.l 1) Ev.mark] 47 2, Blk.vec (eWord.row (p.W 0)) 83 1, Blk.vec (eWord.row (p.W 1)) 83 1] [(100, 73), (101, 74), (102, 75)], Value.bool (decide ((↑2 : Int) < (↑p.n : Int))) = .bool false])) : Sat E (inLp (lp Try.f27 1) J) ((fm p zt Q).st 2 ()) :=
 by_retR (r := [(100, 73), (101, 74), (102, 75)]) (T := auto0 (t_fo PV WD KD)) (h := hints [(8, 4, ht false)]) (ws := [.go]) (nx' := 105) hE hm (auto0_ok (t_fo_ok PV WD KD)) (by omega) (by decide) (nds_lt p 2 (by decide)) (by kernel_rfl) hob
theorem foX3 (PV : Value → Int → Int) (WD : List Value → Int → List Int) (KD : List Value → Int → Nat) (p : FP) (zt : Option Addr) (Q : Nat → Prop) (J : _) {E : Env} (hE : EnvOK E Try.prog Try.f27 1 64 (p.ret 3) (tns 100 3) (p.tbs 100 3)) (hob : all ([Back (Value.agg (Array.mk [.int .i64 p.dim, .int .i64 p.cls, .int .i64 p.b0, .int .i64 p.b1, .int .i64 p.b2, .slice (some (Addr.mk 73 0 none)) 3 Ev.mark])) (Value.agg (Array.mk [.int .i64 p.dim, .int .i64 p.cls, .int .i64 p.b0, .int .i64 p.b1, .int .i64 p.b2, .slice (some (Addr.mk 100 0 none)) 3 Ev.mark])) [Blk.vec [.int .i64 (p.C 0), .slice (some (Addr.mk 74 0 none)) (p.l 0) Ev.mark, .int .i64 (p.C 1), .slice (some (Addr.mk 75 0 none)) (p.l 1) Ev.mark, .int .i64 (p.C 2), .slice (some (Addr.mk 76 0 none)) (p.l 2) Ev.mark] 47 2, Blk.vec (eWord.row (p.W 0)) 83 1, Blk.vec (eWord.row (p.W 1)) 83 1, Blk.vec (eWord.row (p.W 2)) 83 1] [Blk.vec [.int .i64 (p.C 0), .slice (some (Addr.mk 101 0 none)) (p.l 0) Ev.mark, .int .i64 (p.C 1), .slice (some (Addr.mk 102 0 none)) (p.l 1) Ev.mark, .int .i64 (p.C 2), .slice (some (Addr.mk 103 0 none)) (p.l 2) Ev.mark] 47 2, Blk.vec (eWord.row (p.W 0)) 83 1, Blk.vec (eWord.row (p.W 1)) 83 1, Blk.vec (eWord.row (p.W 2)) 83 1] [(100, 73), (101, 74), (102, 75), (103, 76)], Value.bool (decide ((↑3 : Int) < (↑p.n : Int))) = .bool false])) : Sat E (inLp (lp Try.f27 1) J) ((fm p zt Q).st 3 ()) :=
 by_retR (r := [(100, 73), (101, 74), (102, 75), (103, 76)]) (T := auto0 (t_fo PV WD KD)) (h := hints [(8, 4, ht false)]) (ws := [.go]) (nx' := 105) hE hm (auto0_ok (t_fo_ok PV WD KD)) (by omega) (by decide) (nds_lt p 3 (by decide)) (by kernel_rfl) hob
theorem foX4 (PV : Value → Int → Int) (WD : List Value → Int → List Int) (KD : List Value → Int → Nat) (p : FP) (zt : Option Addr) (Q : Nat → Prop) (J : _) {E : Env} (hE : EnvOK E Try.prog Try.f27 1 64 (p.ret 4) (tns 100 4) (p.tbs 100 4)) (hob : all ([Back (Value.agg (Array.mk [.int .i64 p.dim, .int .i64 p.cls, .int .i64 p.b0, .int .i64 p.b1, .int .i64 p.b2, .slice (some (Addr.mk 73 0 none)) 4 Ev.mark])) (Value.agg (Array.mk [.int .i64 p.dim, .int .i64 p.cls, .int .i64 p.b0, .int .i64 p.b1, .int .i64 p.b2, .slice (some (Addr.mk 100 0 none)) 4 Ev.mark])) [Blk.vec [.int .i64 (p.C 0), .slice (some (Addr.mk 74 0 none)) (p.l 0) Ev.mark, .int .i64 (p.C 1), .slice (some (Addr.mk 75 0 none)) (p.l 1) Ev.mark, .int .i64 (p.C 2), .slice (some (Addr.mk 76 0 none)) (p.l 2) Ev.mark, .int .i64 (p.C 3), .slice (some (Addr.mk 77 0 none)) (p.l 3) Ev.mark] 47 2, Blk.vec (eWord.row (p.W 0)) 83 1, Blk.vec (eWord.row (p.W 1)) 83 1, Blk.vec (eWord.row (p.W 2)) 83 1, Blk.vec (eWord.row (p.W 3)) 83 1] [Blk.vec [.int .i64 (p.C 0), .slice (some (Addr.mk 101 0 none)) (p.l 0) Ev.mark, .int .i64 (p.C 1), .slice (some (Addr.mk 102 0 none)) (p.l 1) Ev.mark, .int .i64 (p.C 2), .slice (some (Addr.mk 103 0 none)) (p.l 2) Ev.mark, .int .i64 (p.C 3), .slice (some (Addr.mk 104 0 none)) (p.l 3) Ev.mark] 47 2, Blk.vec (eWord.row (p.W 0)) 83 1, Blk.vec (eWord.row (p.W 1)) 83 1, Blk.vec (eWord.row (p.W 2)) 83 1, Blk.vec (eWord.row (p.W 3)) 83 1] [(100, 73), (101, 74), (102, 75), (103, 76), (104, 77)], Value.bool (decide ((↑4 : Int) < (↑p.n : Int))) = .bool false])) : Sat E (inLp (lp Try.f27 1) J) ((fm p zt Q).st 4 ()) :=
 by_retR (r := [(100, 73), (101, 74), (102, 75), (103, 76), (104, 77)]) (T := auto0 (t_fo PV WD KD)) (h := hints [(8, 4, ht false)]) (ws := [.go]) (nx' := 105) hE hm (auto0_ok (t_fo_ok PV WD KD)) (by omega) (by decide) (nds_lt p 4 (by decide)) (by kernel_rfl) hob
theorem foY4 (PV : Value → Int → Int) (WD : List Value → Int → List Int) (KD : List Value → Int → Nat) (p : FP) (zt : Option Addr) (Q : Nat → Prop) (J : _) {E : Env} (hE : EnvOK E Try.prog Try.f27 1 64 (p.ret 4) (tns 100 4) (p.tbs 100 4)) (hob : all ([Back (Value.agg (Array.mk [.int .i64 p.dim, .int .i64 p.cls, .int .i64 p.b0, .int .i64 p.b1, .int .i64 p.b2, .slice (some (Addr.mk 73 0 none)) 4 Ev.mark])) (Value.agg (Array.mk [.int .i64 p.dim, .int .i64 p.cls, .int .i64 p.b0, .int .i64 p.b1, .int .i64 p.b2, .slice (some (Addr.mk 100 0 none)) 4 Ev.mark])) [Blk.vec [.int .i64 (p.C 0), .slice (some (Addr.mk 74 0 none)) (p.l 0) Ev.mark, .int .i64 (p.C 1), .slice (some (Addr.mk 75 0 none)) (p.l 1) Ev.mark, .int .i64 (p.C 2), .slice (some (Addr.mk 76 0 none)) (p.l 2) Ev.mark, .int .i64 (p.C 3), .slice (some (Addr.mk 77 0 none)) (p.l 3) Ev.mark] 47 2, Blk.vec (eWord.row (p.W 0)) 83 1, Blk.vec (eWord.row (p.W 1)) 83 1, Blk.vec (eWord.row (p.W 2)) 83 1, Blk.vec (eWord.row (p.W 3)) 83 1] [Blk.vec [.int .i64 (p.C 0), .slice (some (Addr.mk 101 0 none)) (p.l 0) Ev.mark, .int .i64 (p.C 1), .slice (some (Addr.mk 102 0 none)) (p.l 1) Ev.mark, .int .i64 (p.C 2), .slice (some (Addr.mk 103 0 none)) (p.l 2) Ev.mark, .int .i64 (p.C 3), .slice (some (Addr.mk 104 0 none)) (p.l 3) Ev.mark] 47 2, Blk.vec (eWord.row (p.W 0)) 83 1, Blk.vec (eWord.row (p.W 1)) 83 1, Blk.vec (eWord.row (p.W 2)) 83 1, Blk.vec (eWord.row (p.W 3)) 83 1] [(100, 73), (101, 74), (102, 75), (103, 76), (104, 77)], Value.bool (decide ((↑4 : Int) < (↑p.n : Int))) = .bool true])) : Sat E (inLp (lp Try.f27 1) J) ((fm p zt Q).st 4 ()) :=
 by_retR (r := [(100, 73), (101, 74), (102, 75), (103, 76), (104, 77)]) (T := auto0 (t_fo PV WD KD)) (h := hints [(8, 4, ht true)]) (ws := [.go]) (nx' := 105) hE hm (auto0_ok (t_fo_ok PV WD KD)) (by omega) (by decide) (nds_lt p 4 (by decide)) (by kernel_rfl) hob
end Go.Proofs.Ythbaccmhdffjdaa.Fo
