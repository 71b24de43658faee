/-
  What a right node is: the program's answer and the document's, by the evaluator.
-/
import Derived.Test.YtnngaedhedbenaaNodeE
set_option linter.unusedVariables false
set_option linter.unusedSimpArgs false
set_option maxRecDepth 100000
namespace Go.Proofs.Ytnngaedhedbenaa.NodeE
open Go Go.RowKit Go.Proofs.Ytnngaedhedbenaa.Ev Go.Proofs.Ytnngaedhedbenaa.BitLib Go.Proofs.Ytnngaedhedbenaa.BitsA Go.Proofs.Ytnngaedhedbenaa.NodeB
abbrev nd (l : Bool) (v f a x y : Int) : Value := .agg ⟨[.bool l, .int .i64 v, .int .i64 f, .int .i64 a, .int .i64 x, .int .i64 y]⟩
def chB (n : Int) : Bool := decide (n ≥ 1) && decide (n < 31)
def rightB (l : Bool) (v f a x y : Int) : Bool := bif l then ((f == 0) && ((a == 0) && ((x == 0) && (y == 0)))) && fitB v
  else (v == 0) && (decide (f ≥ 0) && (decide (f < 4) && (fitB a && (chB x && chB y))))
theorem key_nd (v f a x y : Int) : keyEq (nd true v f a x y) (nd true v 0 0 0 0) = ((f == 0) && ((a == 0) && ((x == 0) && (y == 0)))) := by
  simp [keyEq, cellsEq, leafEq]
def child_F : List Value → Option (Value × List Prop)
  | [.int .i64 n] => some (.bool (chB n), [])
  | _ => none
theorem child_sum : SumOK Try.prog 39 (sumOf child_F) := by
  refine sumOf_ok (en Try.func39 rfl) fun args v ob h hob => ?_
  unfold child_F at h
  split at h
  · rename_i n
    obtain ⟨rfl, rfl⟩ := Prod.mk.inj (Option.some.inj h)
    clear h
    cases h : decide (n ≥ 1)
    · rw [show chB n = false from by simp only [chB, h, Bool.false_and]]
      exact calls_runO hm (auto0_ok t_bsigned_ok) (hints [(1, 1, ht false)]) [] [bb (decide (n ≥ 1)) false] (by kernel_rfl) ⟨bb_of h, trivial⟩
    · rw [show chB n = decide (n < 31) from by simp only [chB, h, Bool.true_and]]
      exact calls_runO hm (auto0_ok t_bsigned_ok) (hints [(1, 1, ht true)]) [] [bb (decide (n ≥ 1)) true] (by kernel_rfl) ⟨bb_of h, trivial⟩
  · exact absurd h (by simp)
noncomputable def t_child : Sums := upd t_bsigned 39 (some (sumOf child_F))
theorem t_child_ok : SumsOK Try.prog t_child := sums_cons t_bsigned_ok child_sum
def right_F : List Value → Option (Value × List Prop)
  | [.agg ⟨[.bool l, .int .i64 v, .int .i64 f, .int .i64 a, .int .i64 x, .int .i64 y]⟩] => some (.bool (rightB l v f a x y), [I64 v, I64 a])
  | _ => none
theorem right_sum : SumOK Try.prog 16 (sumOf right_F) := by
  refine sumOf_ok (en Try.func16 rfl) fun args v ob h hob => ?_
  unfold right_F at h
  split at h
  · rename_i l v f a x y
    obtain ⟨rfl, rfl⟩ := Prod.mk.inj (Option.some.inj h)
    clear h
    have hv := hob (I64 v) (by simp)
    have ha := hob (I64 a) (by simp)
    cases l
    · cases d0 : v == 0
      · rw [show rightB false v f a x y = false from by simp [rightB, d0]]
        exact calls_runO hm (auto0_ok t_child_ok) (hints [(3, 2, ht false)]) [] [bb (v == 0) false] (by kernel_rfl) ⟨bb_of d0, trivial⟩
      cases d1 : decide (f ≥ 0)
      · rw [show rightB false v f a x y = false from by simp [rightB, d0, d1]]
        exact calls_runO hm (auto0_ok t_child_ok) (hints [(3, 2, ht true), (3, 6, ht false)]) [] [bb (decide (f ≥ 0)) false, bb (v == 0) true] (by kernel_rfl) ⟨bb_of d1, bb_of d0, trivial⟩
      cases d2 : decide (f < 4)
      · rw [show rightB false v f a x y = false from by simp [rightB, d0, d1, d2]]
        exact calls_runO hm (auto0_ok t_child_ok) (hints [(3, 2, ht true), (3, 6, ht true), (3, 11, ht false)]) [] [bb (decide (f < 4)) false, bb (decide (f ≥ 0)) true, bb (v == 0) true] (by kernel_rfl) ⟨bb_of d2, bb_of d1, bb_of d0, trivial⟩
      cases d3 : fitB a
      · rw [show rightB false v f a x y = false from by simp [rightB, d0, d1, d2, d3]]
        exact calls_runO hm (auto0_ok t_child_ok) (hints [(3, 2, ht true), (3, 6, ht true), (3, 11, ht true), (3, 16, ht false)]) [] [bb (fitB a) false, I64 a, bb (decide (f < 4)) true, bb (decide (f ≥ 0)) true, bb (v == 0) true] (by kernel_rfl) ⟨bb_of d3, ha, bb_of d2, bb_of d1, bb_of d0, trivial⟩
      cases d4 : chB x
      · rw [show rightB false v f a x y = false from by simp [rightB, d0, d1, d2, d3, d4]]
        exact calls_runO hm (auto0_ok t_child_ok) (hints [(3, 2, ht true), (3, 6, ht true), (3, 11, ht true), (3, 16, ht true), (3, 21, ht false)]) [] [bb (chB x) false, bb (fitB a) true, I64 a, bb (decide (f < 4)) true, bb (decide (f ≥ 0)) true, bb (v == 0) true] (by kernel_rfl) ⟨bb_of d4, bb_of d3, ha, bb_of d2, bb_of d1, bb_of d0, trivial⟩
      cases d5 : chB y
      · rw [show rightB false v f a x y = false from by simp [rightB, d0, d1, d2, d3, d4, d5]]
        exact calls_runO hm (auto0_ok t_child_ok) (hints [(3, 2, ht true), (3, 6, ht true), (3, 11, ht true), (3, 16, ht true), (3, 21, ht true), (3, 26, ht false)]) [] [bb (chB y) false, bb (chB x) true, bb (fitB a) true, I64 a, bb (decide (f < 4)) true, bb (decide (f ≥ 0)) true, bb (v == 0) true] (by kernel_rfl) ⟨bb_of d5, bb_of d4, bb_of d3, ha, bb_of d2, bb_of d1, bb_of d0, trivial⟩
      rw [show rightB false v f a x y = true from by simp [rightB, d0, d1, d2, d3, d4, d5]]
      exact calls_runO hm (auto0_ok t_child_ok) (hints [(3, 2, ht true), (3, 6, ht true), (3, 11, ht true), (3, 16, ht true), (3, 21, ht true), (3, 26, ht true)]) [] [bb (chB y) true, bb (chB x) true, bb (fitB a) true, I64 a, bb (decide (f < 4)) true, bb (decide (f ≥ 0)) true, bb (v == 0) true] (by kernel_rfl) ⟨bb_of d5, bb_of d4, bb_of d3, ha, bb_of d2, bb_of d1, bb_of d0, trivial⟩
    · cases d0 : keyEq (nd true v f a x y) (nd true v 0 0 0 0)
      · rw [show rightB true v f a x y = false from by simp only [rightB, cond_true, ← key_nd v f a x y, d0, Bool.false_and]]
        exact calls_runO hm (auto0_ok t_child_ok) (hints [(2, 4, ht false)]) [] [bb (keyEq (nd true v f a x y) (nd true v 0 0 0 0)) false] (by kernel_rfl) ⟨bb_of d0, trivial⟩
      cases d1 : fitB v
      · rw [show rightB true v f a x y = false from by simp only [rightB, cond_true, ← key_nd v f a x y, d0, d1, Bool.and_true, Bool.and_false, Bool.true_and, Bool.false_and]]
        exact calls_runO hm (auto0_ok t_child_ok) (hints [(2, 4, ht true), (2, 8, ht false)]) [] [bb (fitB v) false, I64 v, bb (keyEq (nd true v f a x y) (nd true v 0 0 0 0)) true] (by kernel_rfl) ⟨bb_of d1, hv, bb_of d0, trivial⟩
      rw [show rightB true v f a x y = true from by simp only [rightB, cond_true, ← key_nd v f a x y, d0, d1, Bool.and_true, Bool.and_false, Bool.true_and, Bool.false_and]]
      exact calls_runO hm (auto0_ok t_child_ok) (hints [(2, 4, ht true), (2, 8, ht true)]) [] [bb (fitB v) true, I64 v, bb (keyEq (nd true v f a x y) (nd true v 0 0 0 0)) true] (by kernel_rfl) ⟨bb_of d1, hv, bb_of d0, trivial⟩
  · exact absurd h (by simp)
noncomputable def t_right : Sums := upd t_child 16 (some (sumOf right_F))
theorem t_right_ok : SumsOK Try.prog t_right := sums_cons t_child_ok right_sum
def rright_F : List Value → Option (Value × List Prop)
  | [.agg ⟨[.bool l, .int .i64 v, .int .i64 f, .int .i64 a, .int .i64 x, .int .i64 y]⟩] => some (.bool (rightB l v f a x y), [I64 v, I64 a])
  | _ => none
theorem rright_sum : SumOK Try.prog 17 (sumOf rright_F) := by
  refine sumOf_ok (en Try.func17 rfl) fun args v ob h hob => ?_
  unfold rright_F at h
  split at h
  · rename_i l v f a x y
    obtain ⟨rfl, rfl⟩ := Prod.mk.inj (Option.some.inj h)
    clear h
    have hv := hob (I64 v) (by simp)
    have ha := hob (I64 a) (by simp)
    cases l
    · cases d0 : v == 0
      · rw [show rightB false v f a x y = false from by simp [rightB, chB, d0]]
        exact calls_runO hm (auto0_ok t_right_ok) (hints [(3, 2, ht false)]) [] [bb (v == 0) false] (by kernel_rfl) ⟨bb_of d0, trivial⟩
      cases d1 : decide (f ≥ 0)
      · rw [show rightB false v f a x y = false from by simp [rightB, chB, d0, d1]]
        exact calls_runO hm (auto0_ok t_right_ok) (hints [(3, 2, ht true), (3, 6, ht false)]) [] [bb (decide (f ≥ 0)) false, bb (v == 0) true] (by kernel_rfl) ⟨bb_of d1, bb_of d0, trivial⟩
      cases d2 : decide (f < 4)
      · rw [show rightB false v f a x y = false from by simp [rightB, chB, d0, d1, d2]]
        exact calls_runO hm (auto0_ok t_right_ok) (hints [(3, 2, ht true), (3, 6, ht true), (3, 11, ht false)]) [] [bb (decide (f < 4)) false, bb (decide (f ≥ 0)) true, bb (v == 0) true] (by kernel_rfl) ⟨bb_of d2, bb_of d1, bb_of d0, trivial⟩
      cases d3 : fitB a
      · rw [show rightB false v f a x y = false from by simp [rightB, chB, d0, d1, d2, d3]]
        exact calls_runO hm (auto0_ok t_right_ok) (hints [(3, 2, ht true), (3, 6, ht true), (3, 11, ht true), (3, 16, ht false)]) [] [bb (fitB a) false, I64 a, bb (decide (f < 4)) true, bb (decide (f ≥ 0)) true, bb (v == 0) true] (by kernel_rfl) ⟨bb_of d3, ha, bb_of d2, bb_of d1, bb_of d0, trivial⟩
      cases d4 : decide (x ≥ 1)
      · rw [show rightB false v f a x y = false from by simp [rightB, chB, d0, d1, d2, d3, d4]]
        exact calls_runO hm (auto0_ok t_right_ok) (hints [(3, 2, ht true), (3, 6, ht true), (3, 11, ht true), (3, 16, ht true), (3, 21, ht false)]) [] [bb (decide (x ≥ 1)) false, bb (fitB a) true, I64 a, bb (decide (f < 4)) true, bb (decide (f ≥ 0)) true, bb (v == 0) true] (by kernel_rfl) ⟨bb_of d4, bb_of d3, ha, bb_of d2, bb_of d1, bb_of d0, trivial⟩
      cases d5 : decide (x < 31)
      · rw [show rightB false v f a x y = false from by simp [rightB, chB, d0, d1, d2, d3, d4, d5]]
        exact calls_runO hm (auto0_ok t_right_ok) (hints [(3, 2, ht true), (3, 6, ht true), (3, 11, ht true), (3, 16, ht true), (3, 21, ht true), (3, 26, ht false)]) [] [bb (decide (x < 31)) false, bb (decide (x ≥ 1)) true, bb (fitB a) true, I64 a, bb (decide (f < 4)) true, bb (decide (f ≥ 0)) true, bb (v == 0) true] (by kernel_rfl) ⟨bb_of d5, bb_of d4, bb_of d3, ha, bb_of d2, bb_of d1, bb_of d0, trivial⟩
      cases d6 : decide (y ≥ 1)
      · rw [show rightB false v f a x y = false from by simp [rightB, chB, d0, d1, d2, d3, d4, d5, d6]]
        exact calls_runO hm (auto0_ok t_right_ok) (hints [(3, 2, ht true), (3, 6, ht true), (3, 11, ht true), (3, 16, ht true), (3, 21, ht true), (3, 26, ht true), (3, 31, ht false)]) [] [bb (decide (y ≥ 1)) false, bb (decide (x < 31)) true, bb (decide (x ≥ 1)) true, bb (fitB a) true, I64 a, bb (decide (f < 4)) true, bb (decide (f ≥ 0)) true, bb (v == 0) true] (by kernel_rfl) ⟨bb_of d6, bb_of d5, bb_of d4, bb_of d3, ha, bb_of d2, bb_of d1, bb_of d0, trivial⟩
      cases d7 : decide (y < 31)
      · rw [show rightB false v f a x y = false from by simp [rightB, chB, d0, d1, d2, d3, d4, d5, d6, d7]]
        exact calls_runO hm (auto0_ok t_right_ok) (hints [(3, 2, ht true), (3, 6, ht true), (3, 11, ht true), (3, 16, ht true), (3, 21, ht true), (3, 26, ht true), (3, 31, ht true), (3, 36, ht false)]) [] [bb (decide (y < 31)) false, bb (decide (y ≥ 1)) true, bb (decide (x < 31)) true, bb (decide (x ≥ 1)) true, bb (fitB a) true, I64 a, bb (decide (f < 4)) true, bb (decide (f ≥ 0)) true, bb (v == 0) true] (by kernel_rfl) ⟨bb_of d7, bb_of d6, bb_of d5, bb_of d4, bb_of d3, ha, bb_of d2, bb_of d1, bb_of d0, trivial⟩
      rw [show rightB false v f a x y = true from by simp [rightB, chB, d0, d1, d2, d3, d4, d5, d6, d7]]
      exact calls_runO hm (auto0_ok t_right_ok) (hints [(3, 2, ht true), (3, 6, ht true), (3, 11, ht true), (3, 16, ht true), (3, 21, ht true), (3, 26, ht true), (3, 31, ht true), (3, 36, ht true)]) [] [bb (decide (y < 31)) true, bb (decide (y ≥ 1)) true, bb (decide (x < 31)) true, bb (decide (x ≥ 1)) true, bb (fitB a) true, I64 a, bb (decide (f < 4)) true, bb (decide (f ≥ 0)) true, bb (v == 0) true] (by kernel_rfl) ⟨bb_of d7, bb_of d6, bb_of d5, bb_of d4, bb_of d3, ha, bb_of d2, bb_of d1, bb_of d0, trivial⟩
    · cases d0 : fitB v
      · rw [show rightB true v f a x y = false from by simp [rightB, d0]]
        exact calls_runO hm (auto0_ok t_right_ok) (hints [(2, 2, ht false)]) [] [bb (fitB v) false, I64 v] (by kernel_rfl) ⟨bb_of d0, hv, trivial⟩
      cases d1 : f == 0
      · rw [show rightB true v f a x y = false from by simp [rightB, d0, d1]]
        exact calls_runO hm (auto0_ok t_right_ok) (hints [(2, 2, ht true), (2, 6, ht false)]) [] [bb (f == 0) false, bb (fitB v) true, I64 v] (by kernel_rfl) ⟨bb_of d1, bb_of d0, hv, trivial⟩
      cases d2 : a == 0
      · rw [show rightB true v f a x y = false from by simp [rightB, d0, d1, d2]]
        exact calls_runO hm (auto0_ok t_right_ok) (hints [(2, 2, ht true), (2, 6, ht true), (2, 11, ht false)]) [] [bb (a == 0) false, bb (f == 0) true, bb (fitB v) true, I64 v] (by kernel_rfl) ⟨bb_of d2, bb_of d1, bb_of d0, hv, trivial⟩
      cases d3 : x == 0
      · rw [show rightB true v f a x y = false from by simp [rightB, d0, d1, d2, d3]]
        exact calls_runO hm (auto0_ok t_right_ok) (hints [(2, 2, ht true), (2, 6, ht true), (2, 11, ht true), (2, 16, ht false)]) [] [bb (x == 0) false, bb (a == 0) true, bb (f == 0) true, bb (fitB v) true, I64 v] (by kernel_rfl) ⟨bb_of d3, bb_of d2, bb_of d1, bb_of d0, hv, trivial⟩
      cases d4 : y == 0
      · rw [show rightB true v f a x y = false from by simp [rightB, d0, d1, d2, d3, d4]]
        exact calls_runO hm (auto0_ok t_right_ok) (hints [(2, 2, ht true), (2, 6, ht true), (2, 11, ht true), (2, 16, ht true), (2, 21, ht false)]) [] [bb (y == 0) false, bb (x == 0) true, bb (a == 0) true, bb (f == 0) true, bb (fitB v) true, I64 v] (by kernel_rfl) ⟨bb_of d4, bb_of d3, bb_of d2, bb_of d1, bb_of d0, hv, trivial⟩
      rw [show rightB true v f a x y = true from by simp [rightB, d0, d1, d2, d3, d4]]
      exact calls_runO hm (auto0_ok t_right_ok) (hints [(2, 2, ht true), (2, 6, ht true), (2, 11, ht true), (2, 16, ht true), (2, 21, ht true)]) [] [bb (y == 0) true, bb (x == 0) true, bb (a == 0) true, bb (f == 0) true, bb (fitB v) true, I64 v] (by kernel_rfl) ⟨bb_of d4, bb_of d3, bb_of d2, bb_of d1, bb_of d0, hv, trivial⟩
  · exact absurd h (by simp)
noncomputable def t_rright : Sums := upd t_right 17 (some (sumOf rright_F))
theorem t_rright_ok : SumsOK Try.prog t_rright := sums_cons t_right_ok rright_sum
end Go.Proofs.Ytnngaedhedbenaa.NodeE

