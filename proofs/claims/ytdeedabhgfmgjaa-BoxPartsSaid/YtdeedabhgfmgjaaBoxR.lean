/-
  The contracts of copselaw5.BoxRuns, copsebook.Clamp, box.Whole for the evaluator.
-/
import Derived.Test.YtdeedabhgfmgjaaBoxE
set_option linter.unusedVariables false
set_option linter.unusedSimpArgs false
set_option maxRecDepth 100000
namespace Go.Proofs.Ytdeedabhgfmgjaa.SpanE
open Go Go.RowKit Go.Proofs.Ytdeedabhgfmgjaa.Ev Go.Proofs.Ytdeedabhgfmgjaa.Within
def bruns_F : List Value → Option (Value × List Prop)
  | [] => some (.bool true, [])
  | _ => none
theorem bruns_sum : SumOK Try.prog 3 (sumOf bruns_F) := by
  refine sumOf_ok (en Try.func3 rfl) fun args v ob h hob => ?_
  unfold bruns_F at h
  split at h
  · obtain ⟨rfl, rfl⟩ := Prod.mk.inj (Option.some.inj h)
    exact calls_runO hm (auto0_ok t_sadd_ok) noHint [] [I64 2, I64 1, I64 4, 9 ≤ mx] (by kernel_rfl) ⟨by decide, by decide, by decide, by decide, trivial⟩
  · exact absurd h (by simp)
noncomputable def t_bruns : Sums := upd t_bcut 3 (some (sumOf bruns_F))
theorem t_bruns_ok : SumsOK Try.prog t_bruns := sums_cons t_bcut_ok bruns_sum
def clampS (n lo hi : Int) : Int := bif decide (n < lo) then lo else bif decide (n > hi) then hi else n
def clamp_F : List Value → Option (Value × List Prop)
  | [.int .i64 n, .int .i64 lo, .int .i64 hi] => some (.int .i64 (clampS n lo hi), [])
  | _ => none
theorem clamp_sum : SumOK Try.prog 17 (sumOf clamp_F) := by
  refine sumOf_ok (en Try.func17 rfl) fun args v ob h hob => ?_
  unfold clamp_F at h
  split at h
  · obtain ⟨rfl, rfl⟩ := Prod.mk.inj (Option.some.inj h)
    exact calls_run0 hm (auto0_ok t_bruns_ok) noHint [.fork,.fork] (by kernel_rfl)
  · exact absurd h (by simp)
noncomputable def t_clamp : Sums := upd t_bruns 17 (some (sumOf clamp_F))
theorem t_clamp_ok : SumsOK Try.prog t_clamp := sums_cons t_bruns_ok clamp_sum
def wS (i d x : Int) : Int := bif decide (i < d) then x else 0
theorem wS_lt {i d x : Int} (h : i < d) : wS i d x = x := by simp [wS, h]
theorem wS_ge {i d x : Int} (h : d ≤ i) : wS i d x = 0 := by have : ¬ i < d := by omega
                                                             simp [wS, this]
def whole_F : List Value → Option (Value × List Prop)
  | [.int .i64 d, .agg ⟨[.int .i64 a, .int .i64 b]⟩] => some (bx (wS 0 d a) (wS 0 d b) (wS 1 d a) (wS 1 d b) (wS 2 d a) (wS 2 d b) (wS 3 d a) (wS 3 d b) 0 0, [])
  | _ => none
theorem whole_sum : SumOK Try.prog 14 (sumOf whole_F) := by
  refine sumOf_ok (en Try.func14 rfl) fun args v ob h hob => ?_
  unfold whole_F at h
  split at h
  · rename_i d a b
    obtain ⟨rfl, rfl⟩ := Prod.mk.inj (Option.some.inj h)
    clear h
    have hmin : ∀ k : Int, (d < 4 → d = k) → (4 ≤ d → k = 4) → i64 (minI d 4) = i64 k := fun k h1 h2 => by rw [minI_eq]; exact int_eq (by omega)
    by_cases c0 : d ≤ 0
    · rw [wS_ge (i := 0) c0, wS_ge (i := 0) c0, wS_ge (i := 1) (by omega), wS_ge (i := 1) (by omega), wS_ge (i := 2) (by omega), wS_ge (i := 2) (by omega), wS_ge (i := 3) (by omega), wS_ge (i := 3) (by omega)]
      exact calls_runO hm (auto0_ok t_clamp_ok) (hints [(2, 1, { v := some (i64 d) }), (3, 0, ht false)]) [] [bb (decide (0 < d)) false, i64 (minI d 4) = i64 d] (by kernel_rfl) ⟨bb_of (decide_eq_false (by omega)), hmin d (fun _ => rfl) (by omega), trivial⟩
    by_cases c1 : d = 1
    · subst c1; exact calls_run0 hm (auto0_ok t_clamp_ok) noHint [] (by kernel_rfl)
    by_cases c2 : d = 2
    · subst c2; exact calls_run0 hm (auto0_ok t_clamp_ok) noHint [] (by kernel_rfl)
    by_cases c3 : d = 3
    · subst c3; exact calls_run0 hm (auto0_ok t_clamp_ok) noHint [] (by kernel_rfl)
    rw [wS_lt (i := 0) (by omega), wS_lt (i := 0) (by omega), wS_lt (i := 1) (by omega), wS_lt (i := 1) (by omega), wS_lt (i := 2) (by omega), wS_lt (i := 2) (by omega), wS_lt (i := 3) (by omega), wS_lt (i := 3) (by omega)]
    exact calls_runO hm (auto0_ok t_clamp_ok) (hints [(2, 1, { v := some (i64 4) })]) [] [i64 (minI d 4) = i64 4] (by kernel_rfl) ⟨hmin 4 (by omega) (fun _ => rfl), trivial⟩
  · exact absurd h (by simp)
noncomputable def t_whole : Sums := upd t_clamp 14 (some (sumOf whole_F))
theorem t_whole_ok : SumsOK Try.prog t_whole := sums_cons t_clamp_ok whole_sum
end Go.Proofs.Ytdeedabhgfmgjaa.SpanE

