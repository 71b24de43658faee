/-
  The laws of packed nodes in plain numbers.
-/
import Derived.Test.YtnngaedhedbenaaNodeW
set_option linter.unusedVariables false
set_option linter.unusedSimpArgs false
set_option maxRecDepth 100000
namespace Go.Proofs.Ytnngaedhedbenaa.NodeE
open Go Go.RowKit Go.Proofs.Ytnngaedhedbenaa.Ev Go.Proofs.Ytnngaedhedbenaa.BitLib Go.Proofs.Ytnngaedhedbenaa.BitsA Go.Proofs.Ytnngaedhedbenaa.NodeB
theorem ok_parts {w : Int} (h : okB w = true) : w ≠ 0 ∧ pkB w = w := by
  simpa [okB] using h
theorem ok_back {w : Int} (h : okB w = true) : packS (okB w && lfB w) (sV w) (sF w) (sA w) (sX w) (sY w) = w ∧ rightB (okB w && lfB w) (sV w) (sF w) (sA w) (sX w) (sY w) = true := by
  obtain ⟨h0, hp⟩ := ok_parts h
  have key : packS (okB w && lfB w) (sV w) (sF w) (sA w) (sX w) (sY w) = w := by
    unfold pkB at hp
    simp only [sV, sF, sA, sX, sY, h, Bool.true_and]
    cases hl : lfB w <;> simp only [hl, cond_true, cond_false, Bool.not_true, Bool.not_false] at hp ⊢ <;> exact hp
  refine ⟨key, ?_⟩
  cases hr : rightB (okB w && lfB w) (sV w) (sF w) (sA w) (sX w) (sY w)
  · rw [pack_no hr] at key; omega
  · rfl
/-- What is packed comes back. -/
theorem pack_unp {l : Bool} {v f a x y : Int} (h : rightB l v f a x y = true) : U64 (packS l v f a x y) ∧ okB (packS l v f a x y) = true ∧ unp (packS l v f a x y) = .tuple ⟨[nd l v f a x y, .bool true]⟩ := by
  have hpos := pack_pos h
  cases l
  · have hP : packS false v f a x y = w4 a f x y := by simp only [packS, packI, h, cond_true, cond_false]
    obtain ⟨rfl, f0, f1, a0, ⟨x0, x1⟩, y0, y1⟩ := right_inner h
    have hl : lfB (w4 a f x y) = false := decide_eq_false (by show ¬ 9223372036854775808 ≤ a % 4294967296 + f * 4294967296 + x * 1099511627776 + y * 281474976710656; omega)
    have e1 : low32 (w4 a f x y) = a := by unfold low32; show (a % 4294967296 + f * 4294967296 + x * 1099511627776 + y * 281474976710656 + 2147483648) % 4294967296 - 2147483648 = a; omega
    have e2 : uF (w4 a f x y) = f := by rw [uF_eq]; show (a % 4294967296 + f * 4294967296 + x * 1099511627776 + y * 281474976710656) / 4294967296 % 16 = f; omega
    have e3 : uX (w4 a f x y) = x := by rw [uX_eq]; show (a % 4294967296 + f * 4294967296 + x * 1099511627776 + y * 281474976710656) / 1099511627776 % 256 = x; omega
    have e4 : uY (w4 a f x y) = y := by rw [uY_eq]; show (a % 4294967296 + f * 4294967296 + x * 1099511627776 + y * 281474976710656) / 281474976710656 % 256 = y; omega
    have ho : okB (w4 a f x y) = true := by
      simp only [okB, pkB, hl, cond_false, e1, e2, e3, e4, hP, beq_self_eq_true, Bool.and_true]
      rw [hP] at hpos
      simp only [Bool.not_eq_true', beq_eq_false_iff_ne]
      show a % 4294967296 + f * 4294967296 + x * 1099511627776 + y * 281474976710656 ≠ 0
      have : 0 < a % 4294967296 + f * 4294967296 + x * 1099511627776 + y * 281474976710656 := hpos
      omega
    rw [hP]
    refine ⟨(show 0 ≤ a % 4294967296 + f * 4294967296 + x * 1099511627776 + y * 281474976710656 ∧ a % 4294967296 + f * 4294967296 + x * 1099511627776 + y * 281474976710656 ≤ _ by omega), ho, ?_⟩
    rw [unp_inner ho hl, e1, e2, e3, e4]
  · have hP : packS true v f a x y = 9223372036854775808 + v % 4294967296 := by simp only [packS, packI, h, cond_true]
    obtain ⟨⟨rfl, rfl, rfl, rfl⟩, v0, v1⟩ := right_leaf h
    have hl : lfB (9223372036854775808 + v % 4294967296) = true := decide_eq_true (by omega)
    have e1 : low32 (9223372036854775808 + v % 4294967296) = v := by unfold low32; omega
    have ho : okB (9223372036854775808 + v % 4294967296) = true := by
      simp only [okB, pkB, hl, cond_true, e1, hP, beq_self_eq_true, Bool.and_true]
      simp only [Bool.not_eq_true', beq_eq_false_iff_ne]
      omega
    rw [hP]
    refine ⟨⟨by omega, by omega⟩, ho, ?_⟩
    rw [unp_leaf ho hl, e1]
theorem ok_zero : okB 0 = false := rfl
/-- Where a word that is a node has no bits. -/
theorem ok_gaps {w : Int} (hw : U64 w) (h : okB w = true) : w / 68719476736 % 16 = 0 ∧ w / 72057594037927936 % 128 = 0 ∧ (9223372036854775808 ≤ w → w < 9223372036854775808 + 4294967296) := by
  obtain ⟨h0, hp⟩ := ok_parts h
  have hw0 := hw.1
  have hw1 := hw.2
  unfold pkB at hp
  cases hl : lfB w <;> simp only [hl, cond_true, cond_false] at hp
  · have hl' := of_decide_eq_false hl
    cases hr : rightB false 0 (uF w) (low32 w) (uX w) (uY w)
    · rw [pack_no hr] at hp; omega
    · obtain ⟨_, f0, f1, a0, ⟨x0, x1⟩, y0, y1⟩ := right_inner hr
      simp only [packS, packI, hr, cond_true, cond_false] at hp
      generalize uF w = f at *
      generalize uX w = x at *
      generalize uY w = y at *
      generalize low32 w = a at *
      omega
  · have hl' := of_decide_eq_true hl
    cases hr : rightB true (low32 w) 0 0 0 0
    · rw [pack_no hr] at hp; omega
    · simp only [packS, packI, hr, cond_true] at hp
      generalize low32 w = a at *
      omega
theorem keyEq_two (l : Bool) (v f a x y : Int) (l' : Bool) (v' f' a' x' y' : Int) : keyEq (nd l v f a x y) (nd l' v' f' a' x' y') = true ↔ l = l' ∧ v = v' ∧ f = f' ∧ a = a' ∧ x = x' ∧ y = y' := by
  simp [keyEq, cellsEq, leafEq]
/-- Two right nodes have one word just if they are the same. -/
theorem pack_same {l : Bool} {v f a x y : Int} {l' : Bool} {v' f' a' x' y' : Int} (h : rightB l v f a x y = true) (h' : rightB l' v' f' a' x' y' = true) : (packS l v f a x y == packS l' v' f' a' x' y') = keyEq (nd l v f a x y) (nd l' v' f' a' x' y') := by
  rw [Bool.eq_iff_iff, keyEq_two, beq_iff_eq]
  constructor
  · intro e
    have h1 := (pack_unp h).2.2
    have h2 := (pack_unp h').2.2
    rw [e, h2] at h1
    simp at h1
    obtain ⟨rfl, rfl, rfl, rfl, rfl, rfl⟩ := h1
    exact ⟨rfl, rfl, rfl, rfl, rfl, rfl⟩
  · rintro ⟨rfl, rfl, rfl, rfl, rfl, rfl⟩; rfl
/-- A word that isn't a node's is another one's, or none's. -/
theorem other {l : Bool} {v f a x y m : Int} (hm : m ≠ packS l v f a x y) (ho : okB m = true) : keyEq (nd (okB m && lfB m) (sV m) (sF m) (sA m) (sX m) (sY m)) (nd l v f a x y) = false := by
  cases h : keyEq (nd (okB m && lfB m) (sV m) (sF m) (sA m) (sX m) (sY m)) (nd l v f a x y)
  · rfl
  · rw [keyEq_two] at h
    obtain ⟨e0, e1, e2, e3, e4, e5⟩ := h
    have := (ok_back ho).1
    rw [e0, e1, e2, e3, e4, e5] at this
    exact absurd this.symm hm
/-! ### Bits -/
theorem bit_val (j : Nat) (h : j < 64) : IntKind.u64.wrap (1 * 2 ^ min (Int.ofNat j).toNat 64) = ((2 ^ j : Nat) : Int) := by
  have e : (1 : Int) * 2 ^ min (Int.ofNat j).toNat 64 = ((2 ^ j : Nat) : Int) := by
    rw [show (Int.ofNat j).toNat = j from rfl, Nat.min_eq_left (by omega), Int.one_mul]; simp
  have : (2 : Nat) ^ j ≤ 2 ^ 63 := Nat.pow_le_pow_right (by decide) (by omega)
  have e2 : (2 : Nat) ^ 63 = 9223372036854775808 := rfl
  rw [e]
  rw [e2] at this
  clear e e2
  generalize (2 : Nat) ^ j = t at *
  exact wrapu_id (by omega) (by omega)
theorem pow_lt64 {j : Nat} (h : j < 64) : (2 : Nat) ^ j < 18446744073709551616 := by
  have : (2 : Nat) ^ j < 2 ^ 64 := Nat.pow_lt_pow_right (by decide) h
  exact this
theorem testBit_int (m j : Nat) (h : m.testBit j = true) : (m : Int) / ((2 ^ j : Nat) : Int) % 2 = 1 := by
  have := Nat.testBit_eq_decide_div_mod_eq (x := m) (i := j)
  rw [this] at h
  have := of_decide_eq_true h
  omega
theorem or_bit (P : Int) (hP : U64 P) (j : Nat) (h : j < 64) : ∃ m : Nat, Go.bits .or .u64 P ((2 ^ j : Nat) : Int) = (m : Int) ∧ m < 18446744073709551616 ∧ m.testBit j = true ∧ (9223372036854775808 ≤ P → 9223372036854775808 ≤ m) := by
  obtain ⟨P, rfl⟩ := Int.eq_ofNat_of_zero_le hP.1
  have hP1 : P < 18446744073709551616 := by have := hP.2; omega
  refine ⟨P ||| 2 ^ j, u64_or_nat _ _ hP1 (pow_lt64 h), ?_, ?_, fun hle => ?_⟩
  · exact Nat.or_lt_two_pow (n := 64) hP1 (pow_lt64 h)
  · rw [Nat.testBit_or, Nat.testBit_two_pow_self, Bool.or_true]
  · have : P ≤ P ||| 2 ^ j := Nat.left_le_or
    omega
end Go.Proofs.Ytnngaedhedbenaa.NodeE

