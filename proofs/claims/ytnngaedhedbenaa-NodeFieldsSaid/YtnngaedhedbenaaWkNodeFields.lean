/-
  The law copselaw6.NodeFields: the run of its body.
-/
import Derived.Test.YtnngaedhedbenaaNodeLaw
set_option linter.unusedVariables false
set_option linter.unusedSimpArgs false
set_option maxRecDepth 100000
namespace Go.Proofs.Ytnngaedhedbenaa.WkNodeFields
open Go Go.RowKit Go.Proofs.Ytnngaedhedbenaa.Ev Go.Proofs.Ytnngaedhedbenaa.NodeE Go.Proofs.Ytnngaedhedbenaa.Within
theorem inner_fields {f a x y : Int} (f0 : 0 ≤ f ∧ f ≤ 3) (a0 : -2147483648 ≤ a ∧ a ≤ 2147483647) (x0 : 1 ≤ x ∧ x ≤ 30) (y0 : 1 ≤ y ∧ y ≤ 30) {P : Int} (hP : packS false 0 f a x y = P) :
    U64 P ∧ low32 P = a ∧ getI P 32 4 = f ∧ getI P 40 8 = x ∧ getI P 48 8 = y ∧ getI P 63 1 = 0 ∧ P < 9223372036854775808 := by
  have hr : rightB false 0 f a x y = true := by simp [rightB, fitB, chB]; omega
  have hP' : packS false 0 f a x y = NodeE.w4 a f x y := by simp only [packS, packI, hr, cond_true, cond_false]
  rw [hP'] at hP
  have hP2 : a % 4294967296 + f * 4294967296 + x * 1099511627776 + y * 281474976710656 = P := hP
  refine ⟨⟨by omega, by omega⟩, by unfold low32; omega, ?_, ?_, ?_, ?_, by omega⟩
  · show P / 4294967296 % 16 = f; omega
  · show P / 1099511627776 % 256 = x; omega
  · show P / 281474976710656 % 256 = y; omega
  · show P / 9223372036854775808 % 2 = 0; omega
theorem leaf_fields {v : Int} (v0 : -2147483648 ≤ v ∧ v ≤ 2147483647) {L : Int} (hL : packS true v 0 0 0 0 = L) :
    U64 L ∧ low32 L = v ∧ getI L 63 1 = 1 ∧ getI L 32 31 = 0 ∧ 9223372036854775808 ≤ L := by
  have hr : rightB true v 0 0 0 0 = true := by simp [rightB, fitB]; omega
  simp only [packS, packI, hr, cond_true] at hL
  refine ⟨⟨by omega, by omega⟩, by unfold low32; omega, ?_, ?_, by omega⟩
  · show L / 9223372036854775808 % 2 = 1; omega
  · show L / 4294967296 % 2147483648 = 0; omega
theorem not_ok {m : Nat} (hm : m < 18446744073709551616) {j : Nat} (hj : m.testBit j = true) (h : (36 ≤ j ∧ j ≤ 39) ∨ (56 ≤ j ∧ j ≤ 62)) : okB (m : Int) = false := by
  cases ho : okB (m : Int)
  · rfl
  · obtain ⟨g1, g2, _⟩ := ok_gaps ⟨by omega, by omega⟩ ho
    have hb := testBit_int m j hj
    rcases h with h | h
    · obtain rfl | rfl | rfl | rfl : j = 36 ∨ j = 37 ∨ j = 38 ∨ j = 39 := by omega
      all_goals (simp only [Nat.reducePow] at hb; omega)
    · obtain rfl | rfl | rfl | rfl | rfl | rfl | rfl : j = 56 ∨ j = 57 ∨ j = 58 ∨ j = 59 ∨ j = 60 ∨ j = 61 ∨ j = 62 := by omega
      all_goals (simp only [Nat.reducePow] at hb; omega)
theorem not_ok_leaf {m : Nat} (hm : m < 18446744073709551616) {j : Nat} (hj : m.testBit j = true) (h : 32 ≤ j ∧ j ≤ 62) (hl : (9223372036854775808 : Int) ≤ m) : okB (m : Int) = false := by
  cases ho : okB (m : Int)
  · rfl
  · obtain ⟨_, _, g3⟩ := ok_gaps ⟨by omega, by omega⟩ ho
    have g := g3 hl
    obtain ⟨r, rfl⟩ : ∃ r, m = 2 ^ 63 * 1 + r := ⟨m - 9223372036854775808, by omega⟩
    have hr : r < 4294967296 := by omega
    rw [Nat.two_pow_add_eq_or_of_lt (by omega), Nat.testBit_or, Nat.testBit_two_pow_mul, Nat.testBit_lt_two_pow (x := r) (Nat.lt_of_lt_of_le hr (Nat.pow_le_pow_right (n := 2) (i := 32) (by decide) h.1))] at hj
    simp at hj
    omega
theorem bne_false {a b : Int} (h : a = b) : (a != b) = false := by simp [h]
abbrev none6 : Value := .tuple ⟨[nd false 0 0 0 0 0, .bool false]⟩
theorem walk (w : World) (f1 : Int) (_w0 : (Lit.int .i64 f1).wf = true) (a1 : Int) (_w1 : (Lit.int .i64 a1).wf = true) (x1 : Int) (_w2 : (Lit.int .i64 x1).wf = true) (y1 : Int) (_w3 : (Lit.int .i64 y1).wf = true) (v1 : Int) (_w4 : (Lit.int .i64 v1).wf = true) (b1 : Int) (_w5 : (Lit.int .i64 b1).wf = true) :
    Calls Try.prog 7 #[.int .i64 f1, .int .i64 a1, .int .i64 x1, .int .i64 y1, .int .i64 v1, .int .i64 b1] w fun e w' => e = .returned (.bool true) ∧ Below w.heap.size w w' := by
  have i0 := BitLib.wf_i64 _w0
  have i1 := BitLib.wf_i64 _w1
  have i2 := BitLib.wf_i64 _w2
  have i3 := BitLib.wf_i64 _w3
  have i4 := BitLib.wf_i64 _w4
  have i5 := BitLib.wf_i64 _w5
  have f0 := within_range f1 (lo := 0) (hi := 3) (by omega)
  have a0 := within_range a1 (lo := -2147483648) (hi := 2147483647) (by omega)
  have x0 := within_range x1 (lo := 1) (hi := 30) (by omega)
  have y0 := within_range y1 (lo := 1) (hi := 30) (by omega)
  have v0 := within_range v1 (lo := -2147483648) (hi := 2147483647) (by omega)
  have j0 := within_range b1 (lo := 36) (hi := 39) (by omega)
  have k0 := within_range b1 (lo := 56) (hi := 62) (by omega)
  have l0 := within_range b1 (lo := 32) (hi := 62) (by omega)
  obtain ⟨f, hf⟩ : ∃ f, withinS f1 0 3 = f := ⟨_, rfl⟩
  obtain ⟨a, ha⟩ : ∃ f, withinS a1 (-2147483648) 2147483647 = f := ⟨_, rfl⟩
  obtain ⟨x, hx⟩ : ∃ f, withinS x1 1 30 = f := ⟨_, rfl⟩
  obtain ⟨y, hy⟩ : ∃ f, withinS y1 1 30 = f := ⟨_, rfl⟩
  obtain ⟨v, hv⟩ : ∃ f, withinS v1 (-2147483648) 2147483647 = f := ⟨_, rfl⟩
  obtain ⟨j, hj⟩ := Int.eq_ofNat_of_zero_le (show 0 ≤ withinS b1 36 39 by omega)
  obtain ⟨k, hk⟩ := Int.eq_ofNat_of_zero_le (show 0 ≤ withinS b1 56 62 by omega)
  obtain ⟨q, hq⟩ := Int.eq_ofNat_of_zero_le (show 0 ≤ withinS b1 32 62 by omega)
  rw [hf] at f0; rw [ha] at a0; rw [hx] at x0; rw [hy] at y0; rw [hv] at v0
  obtain ⟨P, hP⟩ : ∃ P, packS false 0 f a x y = P := ⟨_, rfl⟩
  obtain ⟨L, hL⟩ : ∃ P, packS true v 0 0 0 0 = P := ⟨_, rfl⟩
  obtain ⟨uP, P1, P2, P3, P4, P5, P6⟩ := inner_fields f0 a0 x0 y0 hP
  obtain ⟨uL, L1, L2, L3, L4⟩ := leaf_fields v0 hL
  obtain ⟨m1, o1, u1, t1, _⟩ := or_bit P uP j (by omega)
  obtain ⟨m2, o2, u2, t2, _⟩ := or_bit P uP k (by omega)
  obtain ⟨m3, o3, u3, t3, g3⟩ := or_bit L uL q (by omega)
  have n1 := unp_no (not_ok u1 t1 (Or.inl (by omega)))
  have n2 := unp_no (not_ok u2 t2 (Or.inr (by omega)))
  have n3 := unp_no (not_ok_leaf u3 t3 (by omega) (by have := g3 L4; omega))
  have c0 : fld 63 1 := fl 63 1 rfl
  have c1 : fld 32 4 := fl 32 4 rfl
  have c2 : fld 40 8 := fl 40 8 rfl
  have c3 : fld 48 8 := fl 48 8 rfl
  have c4 : fld 32 31 := fl 32 31 rfl
  exact (calls_runO hm (auto0_ok t_bring_ok) (hints [(1, 1, { v := some (i64 f) }), (1, 3, { v := some (i64 a) }), (1, 5, { v := some (i64 x) }), (1, 7, { v := some (i64 y) }), (2, 1, { v := some (u64 P) }),
      (3, 4, ht false), (3, 8, { v := some (i64 f) }), (3, 11, ht false), (3, 16, { v := some (i64 x) }), (3, 19, ht false), (3, 24, { v := some (i64 y) }), (3, 27, ht false), (3, 32, ht false),
      (5, 1, { v := some (i64 v) }), (6, 2, { v := some (u64 L) }), (7, 2, ht false), (7, 7, ht false), (7, 12, ht false),
      (9, 2, { v := some (i64 (Int.ofNat j)) }), (9, 3, { v := some (u64 ((2 ^ j : Nat) : Int)) }), (9, 4, { v := some (u64 (m1 : Int)) }), (9, 5, { v := some none6 }),
      (10, 2, { v := some (i64 (Int.ofNat k)) }), (10, 3, { v := some (u64 ((2 ^ k : Nat) : Int)) }), (10, 4, { v := some (u64 (m2 : Int)) }), (10, 5, { v := some none6 }),
      (11, 2, { v := some (i64 (Int.ofNat q)) }), (11, 3, { v := some (u64 ((2 ^ q : Nat) : Int)) }), (11, 4, { v := some (u64 (m3 : Int)) }), (11, 5, { v := some none6 })]) []
    [unp (m3 : Int) = none6, U64 (m3 : Int), u64 (Go.bits .or .u64 L ((2 ^ q : Nat) : Int)) = u64 (m3 : Int), u64 (IntKind.u64.wrap (1 * 2 ^ min (Int.ofNat q).toNat 64)) = u64 ((2 ^ q : Nat) : Int), i64 (withinS b1 32 62) = i64 (Int.ofNat q), I64 b1, (-2305843009213693952 : Int) ≤ 32, (32 : Int) ≤ 62, (62 : Int) ≤ 2305843009213693952,
     unp (m2 : Int) = none6, U64 (m2 : Int), u64 (Go.bits .or .u64 P ((2 ^ k : Nat) : Int)) = u64 (m2 : Int), u64 (IntKind.u64.wrap (1 * 2 ^ min (Int.ofNat k).toNat 64)) = u64 ((2 ^ k : Nat) : Int), i64 (withinS b1 56 62) = i64 (Int.ofNat k), I64 b1, (-2305843009213693952 : Int) ≤ 56, (56 : Int) ≤ 62, (62 : Int) ≤ 2305843009213693952,
     unp (m1 : Int) = none6, U64 (m1 : Int), u64 (Go.bits .or .u64 P ((2 ^ j : Nat) : Int)) = u64 (m1 : Int), u64 (IntKind.u64.wrap (1 * 2 ^ min (Int.ofNat j).toNat 64)) = u64 ((2 ^ j : Nat) : Int), i64 (withinS b1 36 39) = i64 (Int.ofNat j), I64 b1, (-2305843009213693952 : Int) ≤ 36, (36 : Int) ≤ 39, (39 : Int) ≤ 2305843009213693952,
     bb (getI L 32 31 != 0) false, U64 L, fld 32 31, bb (low32 L != v) false, U64 L, bb (getI L 63 1 != 1) false, U64 L, fld 63 1, u64 (packS true v 0 0 0 0) = u64 L, I64 v, I64 0,
     i64 (withinS v1 (-2147483648) 2147483647) = i64 v, I64 v1, (-2305843009213693952 : Int) ≤ -2147483648, (-2147483648 : Int) ≤ 2147483647, (2147483647 : Int) ≤ 2305843009213693952,
     bb (getI P 63 1 != 0) false, U64 P, fld 63 1, bb (y != y) false, i64 (IntKind.i64.wrap (getI P 48 8)) = i64 y, U64 P, fld 48 8, bb (x != x) false, i64 (IntKind.i64.wrap (getI P 40 8)) = i64 x, U64 P, fld 40 8,
     bb (f != f) false, i64 (IntKind.i64.wrap (getI P 32 4)) = i64 f, U64 P, fld 32 4, bb (low32 P != a) false, U64 P, u64 (packS false 0 f a x y) = u64 P, I64 0, I64 a,
     i64 (withinS y1 1 30) = i64 y, I64 y1, (-2305843009213693952 : Int) ≤ 1, (1 : Int) ≤ 30, (30 : Int) ≤ 2305843009213693952,
     i64 (withinS x1 1 30) = i64 x, I64 x1, (-2305843009213693952 : Int) ≤ 1, (1 : Int) ≤ 30, (30 : Int) ≤ 2305843009213693952,
     i64 (withinS a1 (-2147483648) 2147483647) = i64 a, I64 a1, (-2305843009213693952 : Int) ≤ -2147483648, (-2147483648 : Int) ≤ 2147483647, (2147483647 : Int) ≤ 2305843009213693952,
     i64 (withinS f1 0 3) = i64 f, I64 f1, (-2305843009213693952 : Int) ≤ 0, (0 : Int) ≤ 3, (3 : Int) ≤ 2305843009213693952] (by kernel_rfl)
    ⟨n3, ⟨by omega, by omega⟩, u_eq o3, u_eq (bit_val q (by omega)), i_eq hq, i5, by decide, by decide, by decide,
     n2, ⟨by omega, by omega⟩, u_eq o2, u_eq (bit_val k (by omega)), i_eq hk, i5, by decide, by decide, by decide,
     n1, ⟨by omega, by omega⟩, u_eq o1, u_eq (bit_val j (by omega)), i_eq hj, i5, by decide, by decide, by decide,
     bb_of (bne_false L3), uL, c4, bb_of (bne_false L1), uL, bb_of (bne_false L2), uL, c0, u_eq hL, ⟨by omega, by omega⟩, by decide,
     i_eq hv, i4, by decide, by decide, by decide,
     bb_of (bne_false P5), uP, c0, bb_of (bne_false rfl), i_eq (by rw [P4]; exact w_rng ⟨by omega, by omega⟩), uP, c3, bb_of (bne_false rfl), i_eq (by rw [P3]; exact w_rng ⟨by omega, by omega⟩), uP, c2,
     bb_of (bne_false rfl), i_eq (by rw [P2]; exact w_rng ⟨by omega, by omega⟩), uP, c1, bb_of (bne_false P1), uP, u_eq hP, by decide, ⟨by omega, by omega⟩,
     i_eq hy, i3, by decide, by decide, by decide, i_eq hx, i2, by decide, by decide, by decide, i_eq ha, i1, by decide, by decide, by decide, i_eq hf, i0, by decide, by decide, by decide, trivial⟩).2.2 w
end Go.Proofs.Ytnngaedhedbenaa.WkNodeFields

