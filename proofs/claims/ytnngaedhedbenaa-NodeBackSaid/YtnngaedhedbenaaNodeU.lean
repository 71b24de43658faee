/-
  Unpack: the program's answer and the document's, by the evaluator; chapter 6's runs.
-/
import Derived.Test.YtnngaedhedbenaaNodeG
set_option linter.unusedVariables false
set_option linter.unusedSimpArgs false
set_option maxRecDepth 100000
namespace Go.Proofs.Ytnngaedhedbenaa.NodeE
open Go Go.RowKit Go.Proofs.Ytnngaedhedbenaa.Ev Go.Proofs.Ytnngaedhedbenaa.BitLib Go.Proofs.Ytnngaedhedbenaa.BitsA Go.Proofs.Ytnngaedhedbenaa.NodeB
def lfB (w : Int) : Bool := decide (9223372036854775808 ≤ w)
abbrev uF (w : Int) : Int := getI w 32 4
abbrev uX (w : Int) : Int := getI w 40 8
abbrev uY (w : Int) : Int := getI w 48 8
def pkB (w : Int) : Int := bif lfB w then packS true (low32 w) 0 0 0 0 else packS false 0 (uF w) (low32 w) (uX w) (uY w)
def okB (w : Int) : Bool := !(w == 0) && (pkB w == w)
def sV (w : Int) : Int := bif okB w && lfB w then low32 w else 0
def sF (w : Int) : Int := bif okB w && !lfB w then uF w else 0
def sA (w : Int) : Int := bif okB w && !lfB w then low32 w else 0
def sX (w : Int) : Int := bif okB w && !lfB w then uX w else 0
def sY (w : Int) : Int := bif okB w && !lfB w then uY w else 0
abbrev unp (w : Int) : Value := .tuple ⟨[nd (okB w && lfB w) (sV w) (sF w) (sA w) (sX w) (sY w), .bool (okB w)]⟩
theorem unp_no {w : Int} (h : okB w = false) : unp w = .tuple ⟨[nd false 0 0 0 0 0, .bool false]⟩ := by
  simp only [unp, sV, sF, sA, sX, sY, h, Bool.false_and, cond_false]
theorem unp_leaf {w : Int} (h : okB w = true) (hl : lfB w = true) : unp w = .tuple ⟨[nd true (low32 w) 0 0 0 0, .bool true]⟩ := by
  simp only [unp, sV, sF, sA, sX, sY, h, hl, Bool.and_self, Bool.not_true, Bool.and_false, cond_false, cond_true]
theorem unp_inner {w : Int} (h : okB w = true) (hl : lfB w = false) : unp w = .tuple ⟨[nd false 0 (uF w) (low32 w) (uX w) (uY w), .bool true]⟩ := by
  simp only [unp, sV, sF, sA, sX, sY, h, hl, Bool.and_self, Bool.not_false, Bool.and_false, cond_false, cond_true]
theorem get_63 {w : Int} (h : U64 w) : (getI w 63 1 == 0) = !lfB w := by
  have e : getI w 63 1 = w / 9223372036854775808 % 2 := rfl
  rw [e]
  have := h.1
  have := h.2
  cases hl : lfB w
  · have := of_decide_eq_false hl
    simp only [Bool.not_false, beq_iff_eq]; omega
  · have := of_decide_eq_true hl
    simp only [Bool.not_true, beq_eq_false_iff_ne]; omega
theorem low32_r (w : Int) : -2147483648 ≤ low32 w ∧ low32 w ≤ 2147483647 := by unfold low32; omega
theorem low32_i (w : Int) : I64 (low32 w) := by have := low32_r w; exact ⟨by omega, by omega⟩
theorem low32_mod (w : Int) : low32 (w % 4294967296) = low32 w := by unfold low32; omega
theorem uF_eq (w : Int) : uF w = w / 4294967296 % 16 := rfl
theorem uX_eq (w : Int) : uX w = w / 1099511627776 % 256 := rfl
theorem uY_eq (w : Int) : uY w = w / 281474976710656 % 256 := rfl
theorem pack_pos {l : Bool} {v f a x y : Int} (h : rightB l v f a x y = true) : 0 < packS l v f a x y := by
  unfold packS packI
  cases l
  · obtain ⟨rfl, f0, f1, a0, ⟨x0, x1⟩, y0, y1⟩ := right_inner h
    simp only [h, cond_true, cond_false]; omega
  · simp only [h, cond_true]; omega
theorem pack_no {l : Bool} {v f a x y : Int} (h : rightB l v f a x y = false) : packS l v f a x y = 0 := by
  simp only [packS, h, cond_false]
theorem fl (a k : Int) (h : (decide (0 ≤ a) && (decide (1 ≤ k) && decide (a + k ≤ 64))) = true) : fld a k := by
  simpa [fld] using h
theorem get_le (w a : Int) (k : Int) (m : Int) (hm : ((2 : Int) ^ k.toNat) = m) (h0 : 0 < m) (h : m ≤ 9223372036854775808) : getI w a k ≤ 9223372036854775807 := by
  have : getI w a k < m := by unfold getI; rw [hm]; exact Int.emod_lt_of_pos _ h0
  omega
abbrev z : Int := 0
def unpack_F : List Value → Option (Value × List Prop)
  | [.int .u64 w] => some (unp w, [U64 w])
  | _ => none
theorem unpack_sum : SumOK Try.prog 13 (sumOf unpack_F) := by
  refine sumOf_ok (en Try.func13 rfl) fun args v ob h hob => ?_
  unfold unpack_F at h
  split at h
  · rename_i w
    obtain ⟨rfl, rfl⟩ := Prod.mk.inj (Option.some.inj h)
    clear h
    have hw := hob (U64 w) (by simp)
    have h63 := get_63 hw
    have hi := low32_i w
    have g1 := get_le w 32 4 16 rfl (by decide) (by decide)
    have g2 := get_le w 40 8 256 rfl (by decide) (by decide)
    have g3 := get_le w 48 8 256 rfl (by decide) (by decide)
    have f0 : fld 63 1 := fl 63 1 rfl
    have f1 : fld 32 4 := fl 32 4 rfl
    have f2 : fld 40 8 := fl 40 8 rfl
    have f3 : fld 48 8 := fl 48 8 rfl
    cases hl : lfB w <;> rw [hl] at h63 <;> cases hz : w == 0
    · have hp : pkB w = packS false 0 (uF w) (low32 w) (uX w) (uY w) := by simp only [pkB, hl, cond_false]
      cases hk : packS false 0 (uF w) (low32 w) (uX w) (uY w) != w
      · have ho : okB w = true := by simp only [okB, hp, hz, Bool.not_false, Bool.true_and]; simpa using hk
        rw [unp_inner ho hl]
        exact calls_runO hm (auto0_ok t_get_ok) (hints [(3, 2, ht true), (6, 1, ht false), (6, 6, ht false)]) []
          [bb (packS false 0 (uF w) (low32 w) (uX w) (uY w) != w) false, I64 0, I64 (low32 w), bb (w == 0) false, U64 w, fld 48 8, getI w 48 8 ≤ 9223372036854775807, U64 w, fld 40 8, getI w 40 8 ≤ 9223372036854775807, U64 w, fld 32 4, getI w 32 4 ≤ 9223372036854775807,
           bb (getI w 63 1 == 0) true, U64 w, fld 63 1, U64 w] (by kernel_rfl) ⟨bb_of hk, by decide, hi, bb_of hz, hw, f3, g3, hw, f2, g2, hw, f1, g1, bb_of h63, hw, f0, hw, trivial⟩
      · have ho : okB w = false := by simp only [okB, hp, hz, Bool.not_false, Bool.true_and]; simpa using hk
        rw [unp_no ho]
        exact calls_runO hm (auto0_ok t_get_ok) (hints [(3, 2, ht true), (6, 1, ht false), (6, 6, ht true)]) []
          [bb (packS false 0 (uF w) (low32 w) (uX w) (uY w) != w) true, I64 0, I64 (low32 w), bb (w == 0) false, U64 w, fld 48 8, getI w 48 8 ≤ 9223372036854775807, U64 w, fld 40 8, getI w 40 8 ≤ 9223372036854775807, U64 w, fld 32 4, getI w 32 4 ≤ 9223372036854775807,
           bb (getI w 63 1 == 0) true, U64 w, fld 63 1, U64 w] (by kernel_rfl) ⟨bb_of hk, by decide, hi, bb_of hz, hw, f3, g3, hw, f2, g2, hw, f1, g1, bb_of h63, hw, f0, hw, trivial⟩
    · have ho : okB w = false := by simp only [okB, hz, Bool.not_true, Bool.false_and]
      rw [unp_no ho]
      exact calls_runO hm (auto0_ok t_get_ok) (hints [(3, 2, ht true), (6, 1, ht true)]) []
        [bb (w == 0) true, U64 w, fld 48 8, getI w 48 8 ≤ 9223372036854775807, U64 w, fld 40 8, getI w 40 8 ≤ 9223372036854775807, U64 w, fld 32 4, getI w 32 4 ≤ 9223372036854775807,
         bb (getI w 63 1 == 0) true, U64 w, fld 63 1, U64 w] (by kernel_rfl) ⟨bb_of hz, hw, f3, g3, hw, f2, g2, hw, f1, g1, bb_of h63, hw, f0, hw, trivial⟩
    · have hp : pkB w = packS true (low32 w) 0 0 0 0 := by simp only [pkB, hl, cond_true]
      cases hk : packS true (low32 w) 0 0 0 0 != w
      · have ho : okB w = true := by simp only [okB, hp, hz, Bool.not_false, Bool.true_and]; simpa using hk
        rw [unp_leaf ho hl]
        exact calls_runO hm (auto0_ok t_get_ok) (hints [(3, 2, ht false), (6, 1, ht false), (6, 6, ht false)]) []
          [bb (packS true (low32 w) 0 0 0 0 != w) false, I64 (low32 w), I64 0, bb (w == 0) false, bb (getI w 63 1 == 0) false, U64 w, fld 63 1, U64 w] (by kernel_rfl) ⟨bb_of hk, hi, by decide, bb_of hz, bb_of h63, hw, f0, hw, trivial⟩
      · have ho : okB w = false := by simp only [okB, hp, hz, Bool.not_false, Bool.true_and]; simpa using hk
        rw [unp_no ho]
        exact calls_runO hm (auto0_ok t_get_ok) (hints [(3, 2, ht false), (6, 1, ht false), (6, 6, ht true)]) []
          [bb (packS true (low32 w) 0 0 0 0 != w) true, I64 (low32 w), I64 0, bb (w == 0) false, bb (getI w 63 1 == 0) false, U64 w, fld 63 1, U64 w] (by kernel_rfl) ⟨bb_of hk, hi, by decide, bb_of hz, bb_of h63, hw, f0, hw, trivial⟩
    · have h1 := of_decide_eq_true hl
      have h2 := eq_of_beq hz
      omega
  · exact absurd h (by simp)
noncomputable def t_unpack : Sums := upd t_get 13 (some (sumOf unpack_F))
theorem t_unpack_ok : SumsOK Try.prog t_unpack := sums_cons t_get_ok unpack_sum
end Go.Proofs.Ytnngaedhedbenaa.NodeE

