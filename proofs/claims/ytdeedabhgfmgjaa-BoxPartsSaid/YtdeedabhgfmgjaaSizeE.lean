/-
  The contracts of copsebook.Within, fix.Add, fix.Sub, span.Size for the evaluator. No condition but that the numbers are of 64 bits.
-/
import Derived.Test.YtdeedabhgfmgjaaSpanE
set_option linter.unusedVariables false
set_option linter.unusedSimpArgs false
set_option maxRecDepth 100000
namespace Go.Proofs.Ytdeedabhgfmgjaa.SpanE
open Go Go.RowKit Go.Proofs.Ytdeedabhgfmgjaa.Ev Go.Proofs.Ytdeedabhgfmgjaa.Within
theorem minI_eq (x y : Int) : minI x y = min x y := by unfold minI; split <;> omega
theorem maxI_eq (x y : Int) : maxI x y = max x y := by unfold maxI; split <;> omega
theorem cut_cases (a b n : Int) : (cutLo a b n = 1 ∧ cutHi a b n = 0 ∧ cutLo' a b n = 1 ∧ cutHi' a b n = 0 ∧ b < a) ∨ (cutLo a b n = 1 ∧ cutHi a b n = 0 ∧ cutLo' a b n = a ∧ cutHi' a b n = b ∧ a ≤ b ∧ n < a) ∨
    (cutLo a b n = a ∧ cutHi a b n = n ∧ cutLo' a b n = n + 1 ∧ cutHi' a b n = b ∧ a ≤ b ∧ a ≤ n ∧ n < b) ∨ (cutLo a b n = a ∧ cutHi a b n = b ∧ cutLo' a b n = 1 ∧ cutHi' a b n = 0 ∧ a ≤ b ∧ b ≤ n) := by
  by_cases h1 : b < a
  · refine Or.inl ⟨?_, ?_, ?_, ?_, h1⟩ <;> first | omega | (simp only [cutLo, cutHi, cutLo', cutHi', ofLo, ofHi, minI_eq, maxI_eq, cond_eq_ite, decide_eq_true_eq] <;> (repeat' split) <;> omega)
  by_cases h2 : n < a
  · refine Or.inr (Or.inl ⟨?_, ?_, ?_, ?_, ?_, h2⟩) <;> first | omega | (simp only [cutLo, cutHi, cutLo', cutHi', ofLo, ofHi, minI_eq, maxI_eq, cond_eq_ite, decide_eq_true_eq] <;> (repeat' split) <;> omega)
  by_cases h3 : n < b
  · refine Or.inr (Or.inr (Or.inl ⟨?_, ?_, ?_, ?_, ?_, ?_, h3⟩)) <;> first | omega | (simp only [cutLo, cutHi, cutLo', cutHi', ofLo, ofHi, minI_eq, maxI_eq, cond_eq_ite, decide_eq_true_eq] <;> (repeat' split) <;> omega)
  · refine Or.inr (Or.inr (Or.inr ⟨?_, ?_, ?_, ?_, ?_, ?_⟩)) <;> first | omega | (simp only [cutLo, cutHi, cutLo', cutHi', ofLo, ofHi, minI_eq, maxI_eq, cond_eq_ite, decide_eq_true_eq] <;> (repeat' split) <;> omega)
def bring_F : List Value → Option (Value × List Prop)
  | [.int .i64 n, .int .i64 lo, .int .i64 hi] => some (.int .i64 (withinS n lo hi), [I64 n, -2305843009213693952 ≤ lo, lo ≤ hi, hi ≤ 2305843009213693952])
  | _ => none
theorem bring_sum : SumOK Try.prog 21 (sumOf bring_F) := by
  refine sumOf_ok (en Try.func21 rfl) fun args v ob h hob => ?_
  unfold bring_F at h
  split at h
  · rename_i n lo hi
    obtain ⟨rfl, rfl⟩ := Prod.mk.inj (Option.some.inj h)
    clear h
    have h1 := hob (I64 n) (by simp)
    have h2 := hob (-2305843009213693952 ≤ lo) (by simp)
    have h3 := hob (lo ≤ hi) (by simp)
    have h4 := hob (hi ≤ 2305843009213693952) (by simp)
    exact ⟨rfl, rfl, fun w => (within_calls n lo hi h1.1 h1.2 h2 h3 h4 w).mono fun e w' ⟨he, hw⟩ => ⟨he, hw ▸ Below.refl _ _⟩⟩
  · exact absurd h (by simp)
noncomputable def t_bring : Sums := upd t_cut 21 (some (sumOf bring_F))
theorem t_bring_ok : SumsOK Try.prog t_bring := sums_cons t_cut_ok bring_sum
def add_F : List Value → Option (Value × List Prop)
  | [.int .i64 a, .int .i64 b] => some (.tuple ⟨[.int .i64 (FixA.told (a + b)), .bool (FixA.fits (a + b))]⟩, [I64 a, I64 b])
  | _ => none
theorem add_sum : SumOK Try.prog 38 (sumOf add_F) := by
  refine sumOf_ok (en Try.func38 rfl) fun args v ob h hob => ?_
  unfold add_F at h
  split at h
  · rename_i a b
    obtain ⟨rfl, rfl⟩ := Prod.mk.inj (Option.some.inj h)
    clear h
    have h1 := hob (I64 a) (by simp)
    have h2 := hob (I64 b) (by simp)
    exact ⟨rfl, rfl, fun w => (FixA.add_calls a b h1.1 h1.2 h2.1 h2.2 w).mono fun e w' ⟨he, hw⟩ => ⟨he, hw ▸ Below.refl _ _⟩⟩
  · exact absurd h (by simp)
noncomputable def t_add : Sums := upd t_bring 38 (some (sumOf add_F))
theorem t_add_ok : SumsOK Try.prog t_add := sums_cons t_bring_ok add_sum
def fsub_F : List Value → Option (Value × List Prop)
  | [.int .i64 a, .int .i64 b] => some (.tuple ⟨[.int .i64 (FixA.told (a - b)), .bool (FixA.fits (a - b))]⟩, [I64 a, I64 b])
  | _ => none
theorem fsub_sum : SumOK Try.prog 37 (sumOf fsub_F) := by
  refine sumOf_ok (en Try.func37 rfl) fun args v ob h hob => ?_
  unfold fsub_F at h
  split at h
  · rename_i a b
    obtain ⟨rfl, rfl⟩ := Prod.mk.inj (Option.some.inj h)
    clear h
    have h1 := hob (I64 a) (by simp)
    have h2 := hob (I64 b) (by simp)
    exact ⟨rfl, rfl, fun w => (FixA.sub_calls a b h1.1 h1.2 h2.1 h2.2 w).mono fun e w' ⟨he, hw⟩ => ⟨he, hw ▸ Below.refl _ _⟩⟩
  · exact absurd h (by simp)
noncomputable def t_fsub : Sums := upd t_add 37 (some (sumOf fsub_F))
theorem t_fsub_ok : SumsOK Try.prog t_fsub := sums_cons t_add_ok fsub_sum
def sizeN (a b : Int) : Int := if a > b then 0 else FixA.told (b - a + 1)
def sizeB (a b : Int) : Bool := if a > b then true else FixA.fits (b - a + 1)
def size_F : List Value → Option (Value × List Prop)
  | [.agg ⟨[.int .i64 a, .int .i64 b]⟩] => some (.tuple ⟨[.int .i64 (sizeN a b), .bool (sizeB a b)]⟩, [I64 a, I64 b])
  | _ => none
theorem size_sum : SumOK Try.prog 19 (sumOf size_F) := by
  refine sumOf_ok (en Try.func19 rfl) fun args v ob h hob => ?_
  unfold size_F at h
  split at h
  · rename_i a b
    obtain ⟨rfl, rfl⟩ := Prod.mk.inj (Option.some.inj h)
    clear h
    have h1 := hob (I64 a) (by simp)
    have h2 := hob (I64 b) (by simp)
    cases h : decide (a > b)
    · have h' := of_decide_eq_false h
      have e1 : sizeN a b = FixA.told (b - a + 1) := if_neg h'
      have e2 : sizeB a b = FixA.fits (b - a + 1) := if_neg h'
      rw [e1, e2]
      cases hf : FixA.fits (b - a)
      · have hf' := of_decide_eq_false hf
        have e3 : FixA.told (b - a + 1) = 0 := if_neg (by omega)
        have e4 : FixA.fits (b - a + 1) = false := decide_eq_false (by omega)
        rw [e3, e4]
        exact calls_runO hm (auto0_ok t_fsub_ok) (hints [(1, 1, ht false), (4, 1, ht true)]) [] [bb (!FixA.fits (b - a)) true, I64 b, I64 a, bb (decide (a > b)) false] (by kernel_rfl) ⟨bb_of (by rw [hf]; rfl), h2, h1, bb_of h, trivial⟩
      · have hf' := of_decide_eq_true hf
        have e3 : FixA.told (b - a) = b - a := if_pos hf'
        exact calls_runO hm (auto0_ok t_fsub_ok) (hints [(1, 1, ht false), (3, 6, { v := some (.int .i64 (b - a)) }), (4, 1, ht false)]) [] [I64 (b - a), I64 1, bb (!FixA.fits (b - a)) false, i64 (FixA.told (b - a)) = i64 (b - a), I64 b, I64 a, bb (decide (a > b)) false] (by kernel_rfl)
          ⟨hf', by decide, bb_of (by rw [hf]; rfl), int_eq e3, h2, h1, bb_of h, trivial⟩
    · have h' := of_decide_eq_true h
      have e1 : sizeN a b = 0 := if_pos h'
      have e2 : sizeB a b = true := if_pos h'
      rw [e1, e2]
      exact calls_runO hm (auto0_ok t_fsub_ok) (hints [(1, 1, ht true)]) [] [bb (decide (a > b)) true] (by kernel_rfl) ⟨bb_of h, trivial⟩
  · exact absurd h (by simp)
noncomputable def t_size : Sums := upd t_fsub 19 (some (sumOf size_F))
theorem t_size_ok : SumsOK Try.prog t_size := sums_cons t_fsub_ok size_sum
end Go.Proofs.Ytdeedabhgfmgjaa.SpanE

