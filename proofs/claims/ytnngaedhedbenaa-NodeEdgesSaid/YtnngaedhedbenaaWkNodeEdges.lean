/-
  The law copselaw6.NodeEdges: the runs of its body, by the case.
-/
import Derived.Test.YtnngaedhedbenaaNodeW
set_option linter.unusedVariables false
set_option linter.unusedSimpArgs false
set_option maxRecDepth 100000
namespace Go.Proofs.Ytnngaedhedbenaa.WkNodeEdges
open Go Go.RowKit Go.Proofs.Ytnngaedhedbenaa.Ev Go.Proofs.Ytnngaedhedbenaa.NodeE Go.Proofs.Ytnngaedhedbenaa.Within
theorem walk (w : World) (q : Int) (_w0 : (Lit.int .i64 q).wf = true) (r : Int) (_w1 : (Lit.int .i64 r).wf = true) :
    Calls Try.prog 6 #[.int .i64 q, .int .i64 r] w fun e w' => e = .returned (.bool true) ∧ Below w.heap.size w w' := by
  have hq := BitLib.wf_i64 _w0
  have hr := BitLib.wf_i64 _w1
  obtain ⟨t0, t1⟩ := within_range r (lo := 0) (hi := 1099511627776) (by omega)
  obtain ⟨q0, q1⟩ := within_range q (lo := 0) (hi := 9) (by omega)
  obtain ⟨t, hT⟩ : ∃ t, withinS r 0 1099511627776 = t := ⟨_, rfl⟩
  rw [hT] at t0 t1
  obtain ⟨n, hn⟩ : ∃ n, 1 + t = n := ⟨_, rfl⟩
  have n0 : 1 ≤ n ∧ n ≤ 1099511627777 := by omega
  have e1 : i64 (IntKind.i64.wrap (1 + t)) = i64 n := i_eq (by rw [w_rng (show I64 (1 + t) from ⟨by omega, by omega⟩), hn])
  have e2 : i64 (withinS r 0 1099511627776) = i64 t := i_eq hT
  have dec : q = q := rfl
  obtain hk | hk | hk | hk | hk | hk | hk | hk | hk | hk : withinS q 0 9 = 0 ∨ withinS q 0 9 = 1 ∨ withinS q 0 9 = 2 ∨ withinS q 0 9 = 3 ∨ withinS q 0 9 = 4 ∨ withinS q 0 9 = 5 ∨ withinS q 0 9 = 6 ∨ withinS q 0 9 = 7 ∨ withinS q 0 9 = 8 ∨ withinS q 0 9 = 9 := by omega
  · have hR : rightB true (-2147483648 - n) 0 0 0 0 = false := by
      cases h : rightB true (-2147483648 - n) 0 0 0 0
      · rfl
      · have := right_leaf h
        omega
    have hp : (packS true (-2147483648 - n) 0 0 0 0 == 0) = true := by rw [pack_no hR]; rfl
    have hv : I64 (-2147483648 - n) := ⟨by omega, by omega⟩
    have ha : I64 0 := ⟨by omega, by omega⟩
    exact (calls_runO hm (auto0_ok t_bring_ok) (hints [(1, 1, { v := some (i64 t) }), (1, 2, { v := some (i64 n) }), (8, 1, { v := some (i64 0) }), (11, 3, { v := some (i64 (-2147483648 - n)) }), (35, 1, ht false), (35, 6, ht true)]) []
      [bb (packS true (-2147483648 - n) 0 0 0 0 == 0) true, I64 (-2147483648 - n), I64 0, bb (rightB true (-2147483648 - n) 0 0 0 0) false, I64 (-2147483648 - n), I64 0, i64 (IntKind.i64.wrap (-2147483648 - n)) = i64 (-2147483648 - n), i64 (withinS q 0 9) = i64 0, I64 q, (-2305843009213693952 : Int) ≤ 0, (0 : Int) ≤ 9, (9 : Int) ≤ 2305843009213693952, I64 0, I64 (-2147483648), I64 0, I64 2147483647, I64 2147483647, I64 0, I64 (-2147483648), I64 0, i64 (IntKind.i64.wrap (1 + t)) = i64 n, i64 (withinS r 0 1099511627776) = i64 t, I64 r, (-2305843009213693952 : Int) ≤ 0, (0 : Int) ≤ 1099511627776, (1099511627776 : Int) ≤ 2305843009213693952] (by kernel_rfl)
      ⟨bb_of hp, hv, ha, bb_of hR, hv, ha, i_eq ((w_rng ⟨by omega, by omega⟩).trans (by omega)), i_eq hk, hq, by decide, by decide, by decide, by decide, by decide, by decide, by decide, by decide, by decide, by decide, by decide, e1, e2, hr, by decide, by decide, by decide, trivial⟩).2.2 w
  · have hR : rightB true (2147483647 + n) 0 0 0 0 = false := by
      cases h : rightB true (2147483647 + n) 0 0 0 0
      · rfl
      · have := right_leaf h
        omega
    have hp : (packS true (2147483647 + n) 0 0 0 0 == 0) = true := by rw [pack_no hR]; rfl
    have hv : I64 (2147483647 + n) := ⟨by omega, by omega⟩
    have ha : I64 0 := ⟨by omega, by omega⟩
    exact (calls_runO hm (auto0_ok t_bring_ok) (hints [(1, 1, { v := some (i64 t) }), (1, 2, { v := some (i64 n) }), (8, 1, { v := some (i64 1) }), (13, 1, { v := some (i64 (2147483647 + n)) }), (35, 1, ht false), (35, 6, ht true)]) []
      [bb (packS true (2147483647 + n) 0 0 0 0 == 0) true, I64 (2147483647 + n), I64 0, bb (rightB true (2147483647 + n) 0 0 0 0) false, I64 (2147483647 + n), I64 0, i64 (IntKind.i64.wrap (2147483647 + n)) = i64 (2147483647 + n), i64 (withinS q 0 9) = i64 1, I64 q, (-2305843009213693952 : Int) ≤ 0, (0 : Int) ≤ 9, (9 : Int) ≤ 2305843009213693952, I64 0, I64 (-2147483648), I64 0, I64 2147483647, I64 2147483647, I64 0, I64 (-2147483648), I64 0, i64 (IntKind.i64.wrap (1 + t)) = i64 n, i64 (withinS r 0 1099511627776) = i64 t, I64 r, (-2305843009213693952 : Int) ≤ 0, (0 : Int) ≤ 1099511627776, (1099511627776 : Int) ≤ 2305843009213693952] (by kernel_rfl)
      ⟨bb_of hp, hv, ha, bb_of hR, hv, ha, i_eq ((w_rng ⟨by omega, by omega⟩).trans (by omega)), i_eq hk, hq, by decide, by decide, by decide, by decide, by decide, by decide, by decide, by decide, by decide, by decide, by decide, e1, e2, hr, by decide, by decide, by decide, trivial⟩).2.2 w
  · have hR : rightB false 0 (3 + n) 2147483647 30 1 = false := by
      cases h : rightB false 0 (3 + n) 2147483647 30 1
      · rfl
      · have := right_inner h
        omega
    have hp : (packS false 0 (3 + n) 2147483647 30 1 == 0) = true := by rw [pack_no hR]; rfl
    have hv : I64 0 := ⟨by omega, by omega⟩
    have ha : I64 2147483647 := ⟨by omega, by omega⟩
    exact (calls_runO hm (auto0_ok t_bring_ok) (hints [(1, 1, { v := some (i64 t) }), (1, 2, { v := some (i64 n) }), (8, 1, { v := some (i64 2) }), (15, 1, { v := some (i64 (3 + n)) }), (35, 1, ht false), (35, 6, ht true)]) []
      [bb (packS false 0 (3 + n) 2147483647 30 1 == 0) true, I64 0, I64 2147483647, bb (rightB false 0 (3 + n) 2147483647 30 1) false, I64 0, I64 2147483647, i64 (IntKind.i64.wrap (3 + n)) = i64 (3 + n), i64 (withinS q 0 9) = i64 2, I64 q, (-2305843009213693952 : Int) ≤ 0, (0 : Int) ≤ 9, (9 : Int) ≤ 2305843009213693952, I64 0, I64 (-2147483648), I64 0, I64 2147483647, I64 2147483647, I64 0, I64 (-2147483648), I64 0, i64 (IntKind.i64.wrap (1 + t)) = i64 n, i64 (withinS r 0 1099511627776) = i64 t, I64 r, (-2305843009213693952 : Int) ≤ 0, (0 : Int) ≤ 1099511627776, (1099511627776 : Int) ≤ 2305843009213693952] (by kernel_rfl)
      ⟨bb_of hp, hv, ha, bb_of hR, hv, ha, i_eq ((w_rng ⟨by omega, by omega⟩).trans (by omega)), i_eq hk, hq, by decide, by decide, by decide, by decide, by decide, by decide, by decide, by decide, by decide, by decide, by decide, e1, e2, hr, by decide, by decide, by decide, trivial⟩).2.2 w
  · have hR : rightB false 0 (-n) 2147483647 30 1 = false := by
      cases h : rightB false 0 (-n) 2147483647 30 1
      · rfl
      · have := right_inner h
        omega
    have hp : (packS false 0 (-n) 2147483647 30 1 == 0) = true := by rw [pack_no hR]; rfl
    have hv : I64 0 := ⟨by omega, by omega⟩
    have ha : I64 2147483647 := ⟨by omega, by omega⟩
    exact (calls_runO hm (auto0_ok t_bring_ok) (hints [(1, 1, { v := some (i64 t) }), (1, 2, { v := some (i64 n) }), (8, 1, { v := some (i64 3) }), (18, 1, { v := some (i64 (-n)) }), (35, 1, ht false), (35, 6, ht true)]) []
      [bb (packS false 0 (-n) 2147483647 30 1 == 0) true, I64 0, I64 2147483647, bb (rightB false 0 (-n) 2147483647 30 1) false, I64 0, I64 2147483647, i64 (IntKind.i64.wrap (0 - n)) = i64 (-n), i64 (withinS q 0 9) = i64 3, I64 q, (-2305843009213693952 : Int) ≤ 0, (0 : Int) ≤ 9, (9 : Int) ≤ 2305843009213693952, I64 0, I64 (-2147483648), I64 0, I64 2147483647, I64 2147483647, I64 0, I64 (-2147483648), I64 0, i64 (IntKind.i64.wrap (1 + t)) = i64 n, i64 (withinS r 0 1099511627776) = i64 t, I64 r, (-2305843009213693952 : Int) ≤ 0, (0 : Int) ≤ 1099511627776, (1099511627776 : Int) ≤ 2305843009213693952] (by kernel_rfl)
      ⟨bb_of hp, hv, ha, bb_of hR, hv, ha, i_eq ((w_rng ⟨by omega, by omega⟩).trans (by omega)), i_eq hk, hq, by decide, by decide, by decide, by decide, by decide, by decide, by decide, by decide, by decide, by decide, by decide, e1, e2, hr, by decide, by decide, by decide, trivial⟩).2.2 w
  · have hR : rightB false 0 3 (2147483647 + n) 30 1 = false := by
      cases h : rightB false 0 3 (2147483647 + n) 30 1
      · rfl
      · have := right_inner h
        omega
    have hp : (packS false 0 3 (2147483647 + n) 30 1 == 0) = true := by rw [pack_no hR]; rfl
    have hv : I64 0 := ⟨by omega, by omega⟩
    have ha : I64 (2147483647 + n) := ⟨by omega, by omega⟩
    exact (calls_runO hm (auto0_ok t_bring_ok) (hints [(1, 1, { v := some (i64 t) }), (1, 2, { v := some (i64 n) }), (8, 1, { v := some (i64 4) }), (21, 3, { v := some (i64 (2147483647 + n)) }), (35, 1, ht false), (35, 6, ht true)]) []
      [bb (packS false 0 3 (2147483647 + n) 30 1 == 0) true, I64 0, I64 (2147483647 + n), bb (rightB false 0 3 (2147483647 + n) 30 1) false, I64 0, I64 (2147483647 + n), i64 (IntKind.i64.wrap (2147483647 + n)) = i64 (2147483647 + n), i64 (withinS q 0 9) = i64 4, I64 q, (-2305843009213693952 : Int) ≤ 0, (0 : Int) ≤ 9, (9 : Int) ≤ 2305843009213693952, I64 0, I64 (-2147483648), I64 0, I64 2147483647, I64 2147483647, I64 0, I64 (-2147483648), I64 0, i64 (IntKind.i64.wrap (1 + t)) = i64 n, i64 (withinS r 0 1099511627776) = i64 t, I64 r, (-2305843009213693952 : Int) ≤ 0, (0 : Int) ≤ 1099511627776, (1099511627776 : Int) ≤ 2305843009213693952] (by kernel_rfl)
      ⟨bb_of hp, hv, ha, bb_of hR, hv, ha, i_eq ((w_rng ⟨by omega, by omega⟩).trans (by omega)), i_eq hk, hq, by decide, by decide, by decide, by decide, by decide, by decide, by decide, by decide, by decide, by decide, by decide, e1, e2, hr, by decide, by decide, by decide, trivial⟩).2.2 w
  · have hR : rightB false 0 3 (-2147483648 - n) 30 1 = false := by
      cases h : rightB false 0 3 (-2147483648 - n) 30 1
      · rfl
      · have := right_inner h
        omega
    have hp : (packS false 0 3 (-2147483648 - n) 30 1 == 0) = true := by rw [pack_no hR]; rfl
    have hv : I64 0 := ⟨by omega, by omega⟩
    have ha : I64 (-2147483648 - n) := ⟨by omega, by omega⟩
    exact (calls_runO hm (auto0_ok t_bring_ok) (hints [(1, 1, { v := some (i64 t) }), (1, 2, { v := some (i64 n) }), (8, 1, { v := some (i64 5) }), (24, 1, { v := some (i64 (-2147483648 - n)) }), (35, 1, ht false), (35, 6, ht true)]) []
      [bb (packS false 0 3 (-2147483648 - n) 30 1 == 0) true, I64 0, I64 (-2147483648 - n), bb (rightB false 0 3 (-2147483648 - n) 30 1) false, I64 0, I64 (-2147483648 - n), i64 (IntKind.i64.wrap (-2147483648 - n)) = i64 (-2147483648 - n), i64 (withinS q 0 9) = i64 5, I64 q, (-2305843009213693952 : Int) ≤ 0, (0 : Int) ≤ 9, (9 : Int) ≤ 2305843009213693952, I64 0, I64 (-2147483648), I64 0, I64 2147483647, I64 2147483647, I64 0, I64 (-2147483648), I64 0, i64 (IntKind.i64.wrap (1 + t)) = i64 n, i64 (withinS r 0 1099511627776) = i64 t, I64 r, (-2305843009213693952 : Int) ≤ 0, (0 : Int) ≤ 1099511627776, (1099511627776 : Int) ≤ 2305843009213693952] (by kernel_rfl)
      ⟨bb_of hp, hv, ha, bb_of hR, hv, ha, i_eq ((w_rng ⟨by omega, by omega⟩).trans (by omega)), i_eq hk, hq, by decide, by decide, by decide, by decide, by decide, by decide, by decide, by decide, by decide, by decide, by decide, e1, e2, hr, by decide, by decide, by decide, trivial⟩).2.2 w
  · have hR : rightB false 0 3 2147483647 (30 + n) 1 = false := by
      cases h : rightB false 0 3 2147483647 (30 + n) 1
      · rfl
      · have := right_inner h
        omega
    have hp : (packS false 0 3 2147483647 (30 + n) 1 == 0) = true := by rw [pack_no hR]; rfl
    have hv : I64 0 := ⟨by omega, by omega⟩
    have ha : I64 2147483647 := ⟨by omega, by omega⟩
    exact (calls_runO hm (auto0_ok t_bring_ok) (hints [(1, 1, { v := some (i64 t) }), (1, 2, { v := some (i64 n) }), (8, 1, { v := some (i64 6) }), (27, 1, { v := some (i64 (30 + n)) }), (35, 1, ht false), (35, 6, ht true)]) []
      [bb (packS false 0 3 2147483647 (30 + n) 1 == 0) true, I64 0, I64 2147483647, bb (rightB false 0 3 2147483647 (30 + n) 1) false, I64 0, I64 2147483647, i64 (IntKind.i64.wrap (30 + n)) = i64 (30 + n), i64 (withinS q 0 9) = i64 6, I64 q, (-2305843009213693952 : Int) ≤ 0, (0 : Int) ≤ 9, (9 : Int) ≤ 2305843009213693952, I64 0, I64 (-2147483648), I64 0, I64 2147483647, I64 2147483647, I64 0, I64 (-2147483648), I64 0, i64 (IntKind.i64.wrap (1 + t)) = i64 n, i64 (withinS r 0 1099511627776) = i64 t, I64 r, (-2305843009213693952 : Int) ≤ 0, (0 : Int) ≤ 1099511627776, (1099511627776 : Int) ≤ 2305843009213693952] (by kernel_rfl)
      ⟨bb_of hp, hv, ha, bb_of hR, hv, ha, i_eq ((w_rng ⟨by omega, by omega⟩).trans (by omega)), i_eq hk, hq, by decide, by decide, by decide, by decide, by decide, by decide, by decide, by decide, by decide, by decide, by decide, e1, e2, hr, by decide, by decide, by decide, trivial⟩).2.2 w
  · have hR : rightB false 0 3 2147483647 30 (1 - n) = false := by
      cases h : rightB false 0 3 2147483647 30 (1 - n)
      · rfl
      · have := right_inner h
        omega
    have hp : (packS false 0 3 2147483647 30 (1 - n) == 0) = true := by rw [pack_no hR]; rfl
    have hv : I64 0 := ⟨by omega, by omega⟩
    have ha : I64 2147483647 := ⟨by omega, by omega⟩
    exact (calls_runO hm (auto0_ok t_bring_ok) (hints [(1, 1, { v := some (i64 t) }), (1, 2, { v := some (i64 n) }), (8, 1, { v := some (i64 7) }), (30, 1, { v := some (i64 (1 - n)) }), (35, 1, ht false), (35, 6, ht true)]) []
      [bb (packS false 0 3 2147483647 30 (1 - n) == 0) true, I64 0, I64 2147483647, bb (rightB false 0 3 2147483647 30 (1 - n)) false, I64 0, I64 2147483647, i64 (IntKind.i64.wrap (1 - n)) = i64 (1 - n), i64 (withinS q 0 9) = i64 7, I64 q, (-2305843009213693952 : Int) ≤ 0, (0 : Int) ≤ 9, (9 : Int) ≤ 2305843009213693952, I64 0, I64 (-2147483648), I64 0, I64 2147483647, I64 2147483647, I64 0, I64 (-2147483648), I64 0, i64 (IntKind.i64.wrap (1 + t)) = i64 n, i64 (withinS r 0 1099511627776) = i64 t, I64 r, (-2305843009213693952 : Int) ≤ 0, (0 : Int) ≤ 1099511627776, (1099511627776 : Int) ≤ 2305843009213693952] (by kernel_rfl)
      ⟨bb_of hp, hv, ha, bb_of hR, hv, ha, i_eq ((w_rng ⟨by omega, by omega⟩).trans (by omega)), i_eq hk, hq, by decide, by decide, by decide, by decide, by decide, by decide, by decide, by decide, by decide, by decide, by decide, e1, e2, hr, by decide, by decide, by decide, trivial⟩).2.2 w
  · have hR : rightB false n 3 2147483647 30 1 = false := by
      cases h : rightB false n 3 2147483647 30 1
      · rfl
      · have := right_inner h
        omega
    have hp : (packS false n 3 2147483647 30 1 == 0) = true := by rw [pack_no hR]; rfl
    have hv : I64 n := ⟨by omega, by omega⟩
    have ha : I64 2147483647 := ⟨by omega, by omega⟩
    exact (calls_runO hm (auto0_ok t_bring_ok) (hints [(1, 1, { v := some (i64 t) }), (1, 2, { v := some (i64 n) }), (8, 1, { v := some (i64 8) }), (35, 1, ht false), (35, 6, ht true)]) []
      [bb (packS false n 3 2147483647 30 1 == 0) true, I64 n, I64 2147483647, bb (rightB false n 3 2147483647 30 1) false, I64 n, I64 2147483647, i64 (withinS q 0 9) = i64 8, I64 q, (-2305843009213693952 : Int) ≤ 0, (0 : Int) ≤ 9, (9 : Int) ≤ 2305843009213693952, I64 0, I64 (-2147483648), I64 0, I64 2147483647, I64 2147483647, I64 0, I64 (-2147483648), I64 0, i64 (IntKind.i64.wrap (1 + t)) = i64 n, i64 (withinS r 0 1099511627776) = i64 t, I64 r, (-2305843009213693952 : Int) ≤ 0, (0 : Int) ≤ 1099511627776, (1099511627776 : Int) ≤ 2305843009213693952] (by kernel_rfl)
      ⟨bb_of hp, hv, ha, bb_of hR, hv, ha, i_eq hk, hq, by decide, by decide, by decide, by decide, by decide, by decide, by decide, by decide, by decide, by decide, by decide, e1, e2, hr, by decide, by decide, by decide, trivial⟩).2.2 w
  · have hR : rightB true (-2147483648) 0 n 0 0 = false := by
      cases h : rightB true (-2147483648) 0 n 0 0
      · rfl
      · have := right_leaf h
        omega
    have hp : (packS true (-2147483648) 0 n 0 0 == 0) = true := by rw [pack_no hR]; rfl
    have hv : I64 (-2147483648) := ⟨by omega, by omega⟩
    have ha : I64 n := ⟨by omega, by omega⟩
    exact (calls_runO hm (auto0_ok t_bring_ok) (hints [(1, 1, { v := some (i64 t) }), (1, 2, { v := some (i64 n) }), (8, 1, { v := some (i64 9) }), (35, 1, ht false), (35, 6, ht true)]) []
      [bb (packS true (-2147483648) 0 n 0 0 == 0) true, I64 (-2147483648), I64 n, bb (rightB true (-2147483648) 0 n 0 0) false, I64 (-2147483648), I64 n, i64 (withinS q 0 9) = i64 9, I64 q, (-2305843009213693952 : Int) ≤ 0, (0 : Int) ≤ 9, (9 : Int) ≤ 2305843009213693952, I64 0, I64 (-2147483648), I64 0, I64 2147483647, I64 2147483647, I64 0, I64 (-2147483648), I64 0, i64 (IntKind.i64.wrap (1 + t)) = i64 n, i64 (withinS r 0 1099511627776) = i64 t, I64 r, (-2305843009213693952 : Int) ≤ 0, (0 : Int) ≤ 1099511627776, (1099511627776 : Int) ≤ 2305843009213693952] (by kernel_rfl)
      ⟨bb_of hp, hv, ha, bb_of hR, hv, ha, i_eq hk, hq, by decide, by decide, by decide, by decide, by decide, by decide, by decide, by decide, by decide, by decide, by decide, e1, e2, hr, by decide, by decide, by decide, trivial⟩).2.2 w
end Go.Proofs.Ytnngaedhedbenaa.WkNodeEdges

