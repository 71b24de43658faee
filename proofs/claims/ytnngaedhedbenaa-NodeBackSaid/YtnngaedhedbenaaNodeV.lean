/-
  The document's Unpack, by the evaluator; chapter 6's runs.
-/
import Derived.Test.YtnngaedhedbenaaNodeU
set_option linter.unusedVariables false
set_option linter.unusedSimpArgs false
set_option maxRecDepth 100000
namespace Go.Proofs.Ytnngaedhedbenaa.NodeE
open Go Go.RowKit Go.Proofs.Ytnngaedhedbenaa.Ev Go.Proofs.Ytnngaedhedbenaa.BitLib Go.Proofs.Ytnngaedhedbenaa.BitsA Go.Proofs.Ytnngaedhedbenaa.NodeB
theorem shr63 {w : Int} (h : U64 w) : (w.fdiv (2 ^ 63) == 1) = lfB w := by
  have e : (2 : Int) ^ 63 = 9223372036854775808 := rfl
  have := h.1
  have := h.2
  rw [e, Int.fdiv_eq_ediv_of_nonneg _ (by decide)]
  cases hl : lfB w
  · have := of_decide_eq_false hl
    simp only [beq_eq_false_iff_ne]; omega
  · have := of_decide_eq_true hl
    simp only [beq_iff_eq]; omega
theorem i_eq {a b : Int} (h : a = b) : i64 a = i64 b := by rw [h]
theorem getI_le' (w a k m : Int) (hm : ((2 : Int) ^ k.toNat) = m) (h0 : 0 < m) (h : m ≤ 9223372036854775808) : IntKind.i64.wrap (getI w a k) = getI w a k :=
  wrap_id ⟨by have := getI_nn w a k; omega, get_le w a k m hm h0 h⟩
def runpack_F : List Value → Option (Value × List Prop)
  | [.int .u64 w] => some (unp w, [U64 w])
  | _ => none
theorem runpack_sum : SumOK Try.prog 15 (sumOf runpack_F) := by
  refine sumOf_ok (en Try.func15 rfl) fun args v ob h hob => ?_
  unfold runpack_F at h
  split at h
  · rename_i w
    obtain ⟨rfl, rfl⟩ := Prod.mk.inj (Option.some.inj h)
    clear h
    have hw := hob (U64 w) (by simp)
    have h63 := shr63 hw
    have hi := low32_i w
    have w0 := hw.1
    have w1' := hw.2
    have m0 : 0 ≤ w % 4294967296 ∧ w % 4294967296 < 4294967296 := by omega
    have a1 : u64 (Go.bits .and .u64 w 4294967295) = u64 (w % 4294967296) := u_eq (and_low w 32 4294967295 4294967296 hw.1 hw.2 (by decide) rfl rfl)
    have a2 : i64 (IntKind.i64.wrap (w % 4294967296)) = i64 (w % 4294967296) := i_eq (wrap_id ⟨by omega, by omega⟩)
    have a3 : i64 (low32 (w % 4294967296)) = i64 (low32 w) := i_eq (low32_mod w)
    have a4 : I64 (w % 4294967296) := ⟨by omega, by omega⟩
    have e1 : (2 : Int) ^ 32 = 4294967296 := rfl
    have e2 : (2 : Int) ^ 40 = 1099511627776 := rfl
    have e3 : (2 : Int) ^ 48 = 281474976710656 := rfl
    have b1 : u64 (Go.bits .and .u64 (w.fdiv (2 ^ 32)) 15) = u64 (uF w) := u_eq (by rw [e1, Int.fdiv_eq_ediv_of_nonneg _ (by decide), and_low _ 4 15 16 (by omega) (by omega) (by decide) rfl rfl]; rfl)
    have b2 : u64 (Go.bits .and .u64 (w.fdiv (2 ^ 40)) 255) = u64 (uX w) := u_eq (by rw [e2, Int.fdiv_eq_ediv_of_nonneg _ (by decide), and_low _ 8 255 256 (by omega) (by omega) (by decide) rfl rfl]; rfl)
    have b3 : u64 (Go.bits .and .u64 (w.fdiv (2 ^ 48)) 255) = u64 (uY w) := u_eq (by rw [e3, Int.fdiv_eq_ediv_of_nonneg _ (by decide), and_low _ 8 255 256 (by omega) (by omega) (by decide) rfl rfl]; rfl)
    have c1 : i64 (IntKind.i64.wrap (uF w)) = i64 (uF w) := i_eq (getI_le' w 32 4 16 rfl (by decide) (by decide))
    have c2 : i64 (IntKind.i64.wrap (uX w)) = i64 (uX w) := i_eq (getI_le' w 40 8 256 rfl (by decide) (by decide))
    have c3 : i64 (IntKind.i64.wrap (uY w)) = i64 (uY w) := i_eq (getI_le' w 48 8 256 rfl (by decide) (by decide))
    cases hl : lfB w <;> rw [hl] at h63
    · have hp : pkB w = packS false 0 (uF w) (low32 w) (uX w) (uY w) := by simp only [pkB, hl, cond_false]
      cases hr : rightB false 0 (uF w) (low32 w) (uX w) (uY w)
      · have ho : okB w = false := by
          simp only [okB, hp, pack_no hr]
          cases hz : w == 0
          · have := ne_of_beq_false hz
            simp; omega
          · rfl
        rw [unp_no ho]
        exact calls_runO hm (auto0_ok t_unpack_ok) (hints [(2, 2, ht false), (4, 1, { v := some (u64 (w % 4294967296)) }), (4, 2, { v := some (i64 (w % 4294967296)) }), (4, 3, { v := some (i64 (low32 w)) }), (4, 6, { v := some (u64 (uF w)) }), (4, 7, { v := some (i64 (uF w)) }), (4, 10, { v := some (u64 (uX w)) }), (4, 11, { v := some (i64 (uX w)) }), (4, 14, { v := some (u64 (uY w)) }), (4, 15, { v := some (i64 (uY w)) }), (5, 1, ht false)]) []
          [bb (rightB false 0 (uF w) (low32 w) (uX w) (uY w)) false, I64 0, I64 (low32 w), i64 (IntKind.i64.wrap (uY w)) = i64 (uY w), u64 (Go.bits .and .u64 (w.fdiv (2 ^ 48)) 255) = u64 (uY w), i64 (IntKind.i64.wrap (uX w)) = i64 (uX w), u64 (Go.bits .and .u64 (w.fdiv (2 ^ 40)) 255) = u64 (uX w), i64 (IntKind.i64.wrap (uF w)) = i64 (uF w), u64 (Go.bits .and .u64 (w.fdiv (2 ^ 32)) 15) = u64 (uF w),
           i64 (low32 (w % 4294967296)) = i64 (low32 w), I64 (w % 4294967296), i64 (IntKind.i64.wrap (w % 4294967296)) = i64 (w % 4294967296), u64 (Go.bits .and .u64 w 4294967295) = u64 (w % 4294967296), bb (w.fdiv (2 ^ 63) == 1) false] (by kernel_rfl) ⟨bb_of hr, by decide, hi, c3, b3, c2, b2, c1, b1, a3, a4, a2, a1, bb_of h63, trivial⟩
      · have hpos := pack_pos hr
        cases hk : packS false 0 (uF w) (low32 w) (uX w) (uY w) != w
        · have hk' : packS false 0 (uF w) (low32 w) (uX w) (uY w) = w := by simpa using hk
          have ho : okB w = true := by
            simp only [okB, hp, hk', beq_self_eq_true, Bool.and_true]
            simp; omega
          rw [unp_inner ho hl]
          exact calls_runO hm (auto0_ok t_unpack_ok) (hints [(2, 2, ht false), (4, 1, { v := some (u64 (w % 4294967296)) }), (4, 2, { v := some (i64 (w % 4294967296)) }), (4, 3, { v := some (i64 (low32 w)) }), (4, 6, { v := some (u64 (uF w)) }), (4, 7, { v := some (i64 (uF w)) }), (4, 10, { v := some (u64 (uX w)) }), (4, 11, { v := some (i64 (uX w)) }), (4, 14, { v := some (u64 (uY w)) }), (4, 15, { v := some (i64 (uY w)) }), (5, 1, ht true), (5, 7, ht false)]) []
            [bb (packS false 0 (uF w) (low32 w) (uX w) (uY w) != w) false, I64 0, I64 (low32 w), bb (rightB false 0 (uF w) (low32 w) (uX w) (uY w)) true, I64 0, I64 (low32 w), i64 (IntKind.i64.wrap (uY w)) = i64 (uY w), u64 (Go.bits .and .u64 (w.fdiv (2 ^ 48)) 255) = u64 (uY w), i64 (IntKind.i64.wrap (uX w)) = i64 (uX w), u64 (Go.bits .and .u64 (w.fdiv (2 ^ 40)) 255) = u64 (uX w), i64 (IntKind.i64.wrap (uF w)) = i64 (uF w), u64 (Go.bits .and .u64 (w.fdiv (2 ^ 32)) 15) = u64 (uF w),
             i64 (low32 (w % 4294967296)) = i64 (low32 w), I64 (w % 4294967296), i64 (IntKind.i64.wrap (w % 4294967296)) = i64 (w % 4294967296), u64 (Go.bits .and .u64 w 4294967295) = u64 (w % 4294967296), bb (w.fdiv (2 ^ 63) == 1) false] (by kernel_rfl) ⟨bb_of hk, by decide, hi, bb_of hr, by decide, hi, c3, b3, c2, b2, c1, b1, a3, a4, a2, a1, bb_of h63, trivial⟩
        · have ho : okB w = false := by
            simp only [okB, hp]
            have : packS false 0 (uF w) (low32 w) (uX w) (uY w) ≠ w := by simpa using hk
            simp [this]
          rw [unp_no ho]
          exact calls_runO hm (auto0_ok t_unpack_ok) (hints [(2, 2, ht false), (4, 1, { v := some (u64 (w % 4294967296)) }), (4, 2, { v := some (i64 (w % 4294967296)) }), (4, 3, { v := some (i64 (low32 w)) }), (4, 6, { v := some (u64 (uF w)) }), (4, 7, { v := some (i64 (uF w)) }), (4, 10, { v := some (u64 (uX w)) }), (4, 11, { v := some (i64 (uX w)) }), (4, 14, { v := some (u64 (uY w)) }), (4, 15, { v := some (i64 (uY w)) }), (5, 1, ht true), (5, 7, ht true)]) []
            [bb (packS false 0 (uF w) (low32 w) (uX w) (uY w) != w) true, I64 0, I64 (low32 w), bb (rightB false 0 (uF w) (low32 w) (uX w) (uY w)) true, I64 0, I64 (low32 w), i64 (IntKind.i64.wrap (uY w)) = i64 (uY w), u64 (Go.bits .and .u64 (w.fdiv (2 ^ 48)) 255) = u64 (uY w), i64 (IntKind.i64.wrap (uX w)) = i64 (uX w), u64 (Go.bits .and .u64 (w.fdiv (2 ^ 40)) 255) = u64 (uX w), i64 (IntKind.i64.wrap (uF w)) = i64 (uF w), u64 (Go.bits .and .u64 (w.fdiv (2 ^ 32)) 15) = u64 (uF w),
             i64 (low32 (w % 4294967296)) = i64 (low32 w), I64 (w % 4294967296), i64 (IntKind.i64.wrap (w % 4294967296)) = i64 (w % 4294967296), u64 (Go.bits .and .u64 w 4294967295) = u64 (w % 4294967296), bb (w.fdiv (2 ^ 63) == 1) false] (by kernel_rfl) ⟨bb_of hk, by decide, hi, bb_of hr, by decide, hi, c3, b3, c2, b2, c1, b1, a3, a4, a2, a1, bb_of h63, trivial⟩
    · have hp : pkB w = packS true (low32 w) 0 0 0 0 := by simp only [pkB, hl, cond_true]
      have hr : rightB true (low32 w) 0 0 0 0 = true := by
        have := low32_r w
        simp [rightB, fitB, this]
      have h1 := of_decide_eq_true hl
      cases hk : packS true (low32 w) 0 0 0 0 != w
      · have hk' : packS true (low32 w) 0 0 0 0 = w := by simpa using hk
        have ho : okB w = true := by
          simp only [okB, hp, hk', beq_self_eq_true, Bool.and_true]
          simp; omega
        rw [unp_leaf ho hl]
        exact calls_runO hm (auto0_ok t_unpack_ok) (hints [(2, 2, ht true), (3, 1, { v := some (u64 (w % 4294967296)) }), (3, 2, { v := some (i64 (w % 4294967296)) }), (3, 3, { v := some (i64 (low32 w)) }), (5, 1, ht true), (5, 7, ht false)]) []
          [bb (packS true (low32 w) 0 0 0 0 != w) false, I64 (low32 w), I64 0, bb (rightB true (low32 w) 0 0 0 0) true, I64 (low32 w), I64 0, i64 (low32 (w % 4294967296)) = i64 (low32 w), I64 (w % 4294967296), i64 (IntKind.i64.wrap (w % 4294967296)) = i64 (w % 4294967296), u64 (Go.bits .and .u64 w 4294967295) = u64 (w % 4294967296), bb (w.fdiv (2 ^ 63) == 1) true] (by kernel_rfl)
          ⟨bb_of hk, hi, by decide, bb_of hr, hi, by decide, a3, a4, a2, a1, bb_of h63, trivial⟩
      · have ho : okB w = false := by
          simp only [okB, hp]
          have : packS true (low32 w) 0 0 0 0 ≠ w := by simpa using hk
          simp [this]
        rw [unp_no ho]
        exact calls_runO hm (auto0_ok t_unpack_ok) (hints [(2, 2, ht true), (3, 1, { v := some (u64 (w % 4294967296)) }), (3, 2, { v := some (i64 (w % 4294967296)) }), (3, 3, { v := some (i64 (low32 w)) }), (5, 1, ht true), (5, 7, ht true)]) []
          [bb (packS true (low32 w) 0 0 0 0 != w) true, I64 (low32 w), I64 0, bb (rightB true (low32 w) 0 0 0 0) true, I64 (low32 w), I64 0, i64 (low32 (w % 4294967296)) = i64 (low32 w), I64 (w % 4294967296), i64 (IntKind.i64.wrap (w % 4294967296)) = i64 (w % 4294967296), u64 (Go.bits .and .u64 w 4294967295) = u64 (w % 4294967296), bb (w.fdiv (2 ^ 63) == 1) true] (by kernel_rfl)
          ⟨bb_of hk, hi, by decide, bb_of hr, hi, by decide, a3, a4, a2, a1, bb_of h63, trivial⟩
  · exact absurd h (by simp)
noncomputable def t_runpack : Sums := upd t_unpack 15 (some (sumOf runpack_F))
theorem t_runpack_ok : SumsOK Try.prog t_runpack := sums_cons t_unpack_ok runpack_sum
def nruns_F : List Value → Option (Value × List Prop)
  | [] => some (.bool true, [])
  | _ => none
theorem nruns_sum : SumOK Try.prog 3 (sumOf nruns_F) := by
  refine sumOf_ok (en Try.func3 rfl) fun args v ob h hob => ?_
  unfold nruns_F at h
  split at h
  · obtain ⟨rfl, rfl⟩ := Prod.mk.inj (Option.some.inj h)
    exact calls_runO hm (auto0_ok t_runpack_ok) noHint [] [I64 0, I64 (-1), I64 (-1), I64 0, U64 0] (by kernel_rfl) ⟨by decide, by decide, by decide, by decide, by decide, trivial⟩
  · exact absurd h (by simp)
noncomputable def t_nruns : Sums := upd t_runpack 3 (some (sumOf nruns_F))
theorem t_nruns_ok : SumsOK Try.prog t_nruns := sums_cons t_runpack_ok nruns_sum
end Go.Proofs.Ytnngaedhedbenaa.NodeE

