/-
  The law copselaw6.NodeTells: the run of its body.
-/
import Derived.Test.YtnngaedhedbenaaNodeV
set_option linter.unusedVariables false
set_option linter.unusedSimpArgs false
set_option maxRecDepth 100000
namespace Go.Proofs.Ytnngaedhedbenaa.WkNodeTells
open Go Go.RowKit Go.Proofs.Ytnngaedhedbenaa.Ev Go.Proofs.Ytnngaedhedbenaa.NodeE
theorem keyEq_nd (l : Bool) (v f a x y : Int) : keyEq (nd l v f a x y) (nd l v f a x y) = true := by
  simp only [keyEq, cellsEq, leafEq, beq_self_eq_true, Bool.and_self]
theorem walk (w : World) (l : Bool) (v f a x y : Int) (_w0 : (-9223372036854775808 ≤ v ∧ v ≤ 9223372036854775807) ∧ (-9223372036854775808 ≤ f ∧ f ≤ 9223372036854775807) ∧ (-9223372036854775808 ≤ a ∧ a ≤ 9223372036854775807) ∧ (-9223372036854775808 ≤ x ∧ x ≤ 9223372036854775807) ∧ (-9223372036854775808 ≤ y ∧ y ≤ 9223372036854775807)) (n : Int) (_w1 : (Lit.int .u64 n).wf = true) :
    Calls Try.prog 4 #[.agg #[.bool l, .int .i64 v, .int .i64 f, .int .i64 a, .int .i64 x, .int .i64 y], .int .u64 n] w fun e w' => e = .returned (.bool true) ∧ Below w.heap.size w w' := by
  obtain ⟨hv, hf, ha, hx, hy⟩ := _w0
  have hw := BitLib.wf_u64 _w1
  exact (calls_runO hm (auto0_ok t_nruns_ok) (hints [(3, 4, ht true), (3, 10, ht true), (3, 15, ht true), (3, 20, ht true)]) []
    [bb (okB n == okB n) true, bb (keyEq (nd (okB n && lfB n) (sV n) (sF n) (sA n) (sX n) (sY n)) (nd (okB n && lfB n) (sV n) (sF n) (sA n) (sX n) (sY n))) true, bb (packS l v f a x y == packS l v f a x y) true, I64 v, I64 a, I64 v, I64 a, bb (rightB l v f a x y == rightB l v f a x y) true, I64 v, I64 a, I64 v, I64 a, U64 n, U64 n] (by kernel_rfl)
    ⟨bb_of (beq_self_eq_true _), bb_of (keyEq_nd ..), bb_of (beq_self_eq_true _), hv, ha, hv, ha, bb_of (beq_self_eq_true _), hv, ha, hv, ha, hw, hw, trivial⟩).2.2 w
end Go.Proofs.Ytnngaedhedbenaa.WkNodeTells

