/-
  What the functions of the package span compute, by the evaluator. No condition but that the numbers are of 64 bits.
-/
import Derived.Test.YtdeedabhgfmgjaaEvProg
import Derived.Test.YtdeedabhgfmgjaaWithin
import Derived.Test.YtdeedabhgfmgjaaFixA
set_option linter.unusedVariables false
set_option linter.unusedSimpArgs false
set_option maxRecDepth 100000
namespace Go.Proofs.Ytdeedabhgfmgjaa.SpanE
open Go Go.RowKit Go.Proofs.Ytdeedabhgfmgjaa.Ev
def ofLo (lo hi : Int) : Int := bif decide (lo > hi) then 1 else lo
def ofHi (lo hi : Int) : Int := bif decide (lo > hi) then 0 else hi
def of_F : List Value → Option (Value × List Prop)
  | [.int .i64 lo, .int .i64 hi] => some (sp (ofLo lo hi) (ofHi lo hi), [])
  | _ => none
theorem of_sum : SumOK Try.prog 35 (sumOf of_F) := by
  refine sumOf_ok (en Try.func35 rfl) fun args v ob h hob => ?_
  unfold of_F at h
  split at h
  · obtain ⟨rfl, rfl⟩ := Prod.mk.inj (Option.some.inj h)
    exact calls_run0 hm (auto0_ok t_none_ok) noHint [.fork] (by kernel_rfl)
  · exact absurd h (by simp)
noncomputable def t_of : Sums := upd t_none 35 (some (sumOf of_F))
theorem t_of_ok : SumsOK Try.prog t_of := sums_cons t_none_ok of_sum
def has_F : List Value → Option (Value × List Prop)
  | [.agg ⟨[.int .i64 a, .int .i64 b]⟩, .int .i64 n] => some (.bool (decide (a ≤ n) && decide (n ≤ b)), [])
  | _ => none
theorem has_sum : SumOK Try.prog 25 (sumOf has_F) := by
  refine sumOf_ok (en Try.func25 rfl) fun args v ob h hob => ?_
  unfold has_F at h
  split at h
  · rename_i a b n
    obtain ⟨rfl, rfl⟩ := Prod.mk.inj (Option.some.inj h)
    clear h
    cases h : decide (a ≤ n)
    · exact calls_runO hm (auto0_ok t_of_ok) (hints [(1, 3, ht false)]) [] [bb (decide (a ≤ n)) false] (by kernel_rfl) ⟨bb_of h, trivial⟩
    · exact calls_runO hm (auto0_ok t_of_ok) (hints [(1, 3, ht true)]) [] [bb (decide (a ≤ n)) true] (by kernel_rfl) ⟨bb_of h, trivial⟩
  · exact absurd h (by simp)
noncomputable def t_has : Sums := upd t_of 25 (some (sumOf has_F))
theorem t_has_ok : SumsOK Try.prog t_has := sums_cons t_of_ok has_sum
def empty_F : List Value → Option (Value × List Prop)
  | [.agg ⟨[.int .i64 a, .int .i64 b]⟩] => some (.bool (decide (a > b)), [])
  | _ => none
theorem empty_sum : SumOK Try.prog 23 (sumOf empty_F) := by
  refine sumOf_ok (en Try.func23 rfl) fun args v ob h hob => ?_
  unfold empty_F at h
  split at h
  · rename_i a b
    obtain ⟨rfl, rfl⟩ := Prod.mk.inj (Option.some.inj h)
    clear h
    exact calls_run0 hm (auto0_ok t_has_ok) noHint [] (by kernel_rfl)
  · exact absurd h (by simp)
noncomputable def t_empty : Sums := upd t_has 23 (some (sumOf empty_F))
theorem t_empty_ok : SumsOK Try.prog t_empty := sums_cons t_has_ok empty_sum
def meetLo (a b c d : Int) : Int := ofLo (maxI a c) (minI b d)
def meetHi (a b c d : Int) : Int := ofHi (maxI a c) (minI b d)
def meet_F : List Value → Option (Value × List Prop)
  | [.agg ⟨[.int .i64 a, .int .i64 b]⟩, .agg ⟨[.int .i64 c, .int .i64 d]⟩] => some (sp (meetLo a b c d) (meetHi a b c d), [])
  | _ => none
theorem meet_sum : SumOK Try.prog 20 (sumOf meet_F) := by
  refine sumOf_ok (en Try.func20 rfl) fun args v ob h hob => ?_
  unfold meet_F at h
  split at h
  · obtain ⟨rfl, rfl⟩ := Prod.mk.inj (Option.some.inj h)
    exact calls_run0 hm (auto0_ok t_empty_ok) noHint [] (by kernel_rfl)
  · exact absurd h (by simp)
noncomputable def t_meet : Sums := upd t_empty 20 (some (sumOf meet_F))
theorem t_meet_ok : SumsOK Try.prog t_meet := sums_cons t_empty_ok meet_sum
def within_F : List Value → Option (Value × List Prop)
  | [.agg ⟨[.int .i64 a, .int .i64 b]⟩, .agg ⟨[.int .i64 c, .int .i64 d]⟩] => some (.bool (decide (a > b) || (decide (c ≤ a) && decide (b ≤ d))), [])
  | _ => none
theorem within_sum : SumOK Try.prog 24 (sumOf within_F) := by
  refine sumOf_ok (en Try.func24 rfl) fun args v ob h hob => ?_
  unfold within_F at h
  split at h
  · rename_i a b c d
    obtain ⟨rfl, rfl⟩ := Prod.mk.inj (Option.some.inj h)
    clear h
    cases h : decide (a > b)
    · cases h2 : decide (c ≤ a)
      · exact calls_runO hm (auto0_ok t_meet_ok) (hints [(1, 1, ht false), (1, 7, ht false)]) [] [bb (decide (c ≤ a)) false, bb (decide (a > b)) false] (by kernel_rfl) ⟨bb_of h2, bb_of h, trivial⟩
      · exact calls_runO hm (auto0_ok t_meet_ok) (hints [(1, 1, ht false), (1, 7, ht true)]) [] [bb (decide (c ≤ a)) true, bb (decide (a > b)) false] (by kernel_rfl) ⟨bb_of h2, bb_of h, trivial⟩
    · exact calls_runO hm (auto0_ok t_meet_ok) (hints [(1, 1, ht true)]) [] [bb (decide (a > b)) true] (by kernel_rfl) ⟨bb_of h, trivial⟩
  · exact absurd h (by simp)
noncomputable def t_within : Sums := upd t_meet 24 (some (sumOf within_F))
theorem t_within_ok : SumsOK Try.prog t_within := sums_cons t_meet_ok within_sum
def cutLo (a b n : Int) : Int := ofLo a (minI b n)
def cutHi (a b n : Int) : Int := ofHi a (minI b n)
def cutLo' (a b n : Int) : Int := bif decide (n ≥ b) then 1 else ofLo (maxI a (n + 1)) b
def cutHi' (a b n : Int) : Int := bif decide (n ≥ b) then 0 else ofHi (maxI a (n + 1)) b
def cut_F : List Value → Option (Value × List Prop)
  | [.agg ⟨[.int .i64 a, .int .i64 b]⟩, .int .i64 n] => some (.tuple ⟨[sp (cutLo a b n) (cutHi a b n), sp (cutLo' a b n) (cutHi' a b n)]⟩, [I64 n, b ≤ 9223372036854775807])
  | _ => none
theorem cut_sum : SumOK Try.prog 18 (sumOf cut_F) := by
  refine sumOf_ok (en Try.func18 rfl) fun args v ob h hob => ?_
  unfold cut_F at h
  split at h
  · rename_i a b n
    obtain ⟨rfl, rfl⟩ := Prod.mk.inj (Option.some.inj h)
    clear h
    cases h : decide (n ≥ b)
    · have hn := hob (I64 n) (by simp)
      have hb := hob (b ≤ 9223372036854775807) (by simp)
      have e1 : cutLo' a b n = ofLo (maxI a (n + 1)) b := by unfold cutLo'; rw [h]; rfl
      have e2 : cutHi' a b n = ofHi (maxI a (n + 1)) b := by unfold cutHi'; rw [h]; rfl
      rw [e1, e2]
      exact calls_runO hm (auto0_ok t_within_ok) (hints [(2, 3, ht false), (4, 4, { v := some (.int .i64 (n + 1)) })]) [] [Value.int .i64 (IntKind.i64.wrap (n + 1)) = .int .i64 (n + 1), bb (decide (n ≥ b)) false] (by kernel_rfl)
        ⟨int_eq (wrap_id ⟨by omega, by have := of_decide_eq_false h; omega⟩), bb_of h, trivial⟩
    · have e1 : cutLo' a b n = 1 := by unfold cutLo'; rw [h]; rfl
      have e2 : cutHi' a b n = 0 := by unfold cutHi'; rw [h]; rfl
      rw [e1, e2]
      exact calls_runO hm (auto0_ok t_within_ok) (hints [(2, 3, ht true)]) [] [bb (decide (n ≥ b)) true] (by kernel_rfl) ⟨bb_of h, trivial⟩
  · exact absurd h (by simp)
noncomputable def t_cut : Sums := upd t_within 18 (some (sumOf cut_F))
theorem t_cut_ok : SumsOK Try.prog t_cut := sums_cons t_within_ok cut_sum
end Go.Proofs.Ytdeedabhgfmgjaa.SpanE

