/-
  The law copselaw4.SpanParts over plain numbers: of a cut span each number lies in just one part. No condition but that the numbers are of 64 bits.
-/
import Derived.Test.YtdeedabhgfmgjaaPSpanPartsx3
import Derived.KernelRfl
set_option linter.unusedVariables false
set_option linter.unusedSimpArgs false
namespace Go.Proofs.Ytdeedabhgfmgjaa.PureSpanParts
open Go.RowKit Go.Proofs.Ytdeedabhgfmgjaa.PSpanParts Go.Proofs.YtdeedabhgfmgjaaW.PrintWords Go.Proofs.YtdeedabhgfmgjaaW.PrintLast

theorem of_f (a b : Int) : span_of.f a b = some (if a > b then (1, 0) else (a, b)) := by
  unfold span_of.f span_none.f
  split <;> rfl
theorem has_f (a b n : Int) : ∃ r : Bool, span_Has.f a b n = some r ∧ (r = true ↔ a ≤ n ∧ n ≤ b) := by
  unfold span_Has.f
  by_cases h : a ≤ n
  · exact ⟨decide (n ≤ b), by rw [if_pos h], by simp [h]⟩
  · exact ⟨false, by rw [if_neg h], by simp [h]⟩
theorem within_f (a b c d : Int) (h : b < a ∨ c ≤ a ∧ b ≤ d) : span_Within.f a b c d = some true := by
  unfold span_Within.f span_Empty.f
  simp only [Option.bind_some]
  by_cases e : a > b
  · rw [if_pos (decide_eq_true e)]
  · rw [if_neg (by simp; omega), if_pos (by omega)]
    congr 1; exact decide_eq_true (by omega)
/-- What a cut gives. -/
theorem cut_f (lo hi n : Int) (h1 : hi ≤ 9223372036854775807) (n0 : -9223372036854775808 ≤ n) : ∃ l0 l1 h0 h1 : Int, span_Cut.f lo hi n = some (l0, l1, h0, h1) ∧
    (∀ x, l0 ≤ x ∧ x ≤ l1 ↔ (lo ≤ x ∧ x ≤ hi) ∧ x ≤ n) ∧ (∀ x, h0 ≤ x ∧ x ≤ h1 ↔ (lo ≤ x ∧ x ≤ hi) ∧ n < x) ∧
    (l1 < l0 → l0 = 1 ∧ l1 = 0) ∧ (h1 < h0 → h0 = 1 ∧ h1 = 0) ∧ (l1 < l0 ∨ lo ≤ l0 ∧ l1 ≤ hi) ∧ (h1 < h0 ∨ lo ≤ h0 ∧ h1 ≤ hi) := by
  have key : ∀ l0 l1 u0 u1 : Int, span_Cut.f lo hi n = some (l0, l1, u0, u1) → ((∀ x, l0 ≤ x ∧ x ≤ l1 ↔ (lo ≤ x ∧ x ≤ hi) ∧ x ≤ n) ∧ (∀ x, u0 ≤ x ∧ x ≤ u1 ↔ (lo ≤ x ∧ x ≤ hi) ∧ n < x) ∧ (l1 < l0 → l0 = 1 ∧ l1 = 0) ∧ (u1 < u0 → u0 = 1 ∧ u1 = 0) ∧ (l1 < l0 ∨ lo ≤ l0 ∧ l1 ≤ hi) ∧ (u1 < u0 ∨ lo ≤ u0 ∧ u1 ≤ hi)) →
      ∃ l0 l1 h0 h1 : Int, span_Cut.f lo hi n = some (l0, l1, h0, h1) ∧ (∀ x, l0 ≤ x ∧ x ≤ l1 ↔ (lo ≤ x ∧ x ≤ hi) ∧ x ≤ n) ∧ (∀ x, h0 ≤ x ∧ x ≤ h1 ↔ (lo ≤ x ∧ x ≤ hi) ∧ n < x) ∧
        (l1 < l0 → l0 = 1 ∧ l1 = 0) ∧ (h1 < h0 → h0 = 1 ∧ h1 = 0) ∧ (l1 < l0 ∨ lo ≤ l0 ∧ l1 ≤ hi) ∧ (h1 < h0 ∨ lo ≤ h0 ∧ h1 ≤ hi) := fun _ _ _ _ h f => ⟨_, _, _, _, h, f⟩
  by_cases c1 : n ≥ hi
  · have e : mn hi n = hi := if_neg (by omega)
    by_cases c3 : lo > hi
    · refine key 1 0 1 0 ?_ ⟨fun x => by omega, fun x => by omega, by omega, by omega, by omega, by omega⟩
      unfold span_Cut.f
      rw [e, of_f, if_pos c3]; simp only [Option.bind_some]; rw [if_pos c1]; rfl
    · refine key lo hi 1 0 ?_ ⟨fun x => by omega, fun x => by omega, by omega, by omega, by omega, by omega⟩
      unfold span_Cut.f
      rw [e, of_f, if_neg c3]; simp only [Option.bind_some]; rw [if_pos c1]; rfl
  · have e : mn hi n = n := if_pos (by omega)
    have hw : wrap64 (n + 1) = n + 1 := by unfold wrap64; omega
    by_cases c3 : lo > n
    · have e2 : mx lo (n + 1) = lo := if_neg (by omega)
      by_cases c5 : lo > hi
      · refine key 1 0 1 0 ?_ ⟨fun x => by omega, fun x => by omega, by omega, by omega, by omega, by omega⟩
        unfold span_Cut.f
        rw [e, of_f, if_pos c3]; simp only [Option.bind_some]; rw [if_neg c1, hw, e2, of_f, if_pos c5]; rfl
      · refine key 1 0 lo hi ?_ ⟨fun x => by omega, fun x => by omega, by omega, by omega, by omega, by omega⟩
        unfold span_Cut.f
        rw [e, of_f, if_pos c3]; simp only [Option.bind_some]; rw [if_neg c1, hw, e2, of_f, if_neg c5]; rfl
    · have e2 : mx lo (n + 1) = n + 1 := if_pos (by omega)
      refine key lo n (n + 1) hi ?_ ⟨fun x => by omega, fun x => by omega, by omega, by omega, by omega, by omega⟩
      unfold span_Cut.f
      rw [e, of_f, if_neg c3]; simp only [Option.bind_some]; rw [if_neg c1, hw, e2, of_f, if_neg (show ¬ n + 1 > hi by omega)]; rfl
theorem runs_f : copselaw4_SpanRuns.f = some true := by kernel_rfl
theorem meet_f (a b c d : Int) (h : ∀ x, ¬ ((a ≤ x ∧ x ≤ b) ∧ (c ≤ x ∧ x ≤ d))) : ∃ u v : Int, span_Meet.f a b c d = some (u, v) ∧ v < u := by
  unfold span_Meet.f
  rw [of_f]
  refine ⟨_, _, rfl, ?_⟩
  have h1 := h (mx a c)
  have e1 : a ≤ mx a c ∧ c ≤ mx a c ∧ (mx a c = a ∨ mx a c = c) := by unfold mx; split <;> omega
  have e2 : mn b d ≤ b ∧ mn b d ≤ d ∧ (mn b d = b ∨ mn b d = d) := by unfold mn; split <;> omega
  generalize mx a c = p at *
  generalize mn b d = q at *
  by_cases e : p > q
  · rw [if_pos e]; decide
  · omega
theorem SpanParts (lo hi at_ n : Int) (h1 : hi ≤ 9223372036854775807) (a0 : -9223372036854775808 ≤ at_) : copselaw4_SpanParts.f 3 lo hi at_ n = some true := by
  obtain ⟨l0, l1, u0, u1, hc, fl, fu, el, eu, wl, wu⟩ := cut_f lo hi at_ h1 a0
  obtain ⟨bs, hs, is⟩ := has_f lo hi n
  obtain ⟨bl, hl, il⟩ := has_f l0 l1 n
  obtain ⟨bu, hu, iu⟩ := has_f u0 u1 n
  obtain ⟨m0, m1, hm, em⟩ := meet_f l0 l1 u0 u1 (fun x hx => by have := (fl x).1 hx.1; have := (fu x).1 hx.2; omega)
  have wl' := within_f l0 l1 lo hi (by omega)
  have wu' := within_f u0 u1 lo hi (by omega)
  have j2 : copselaw4_SpanParts.j2 1 false lo hi l0 l1 u0 u1 = some true := by
    simp only [copselaw4_SpanParts.j2]
    rw [if_neg (by decide), wl']
    simp only [Option.bind_some, if_true]
    rw [wu']
    simp only [Option.bind_some, if_true]
    rw [hm]
    simp only [Option.bind_some, span_Empty.f]
    rw [if_pos (decide_eq_true em), runs_f]; rfl
  have j1 : copselaw4_SpanParts.j1 2 false lo hi l0 l1 u0 u1 = some true := by
    simp only [copselaw4_SpanParts.j1, span_Empty.f]
    rw [if_neg (by decide)]
    simp only [Option.bind_some]
    rw [if_neg (by simp)]
    have fin : (if decide (u0 > u1) = true then copselaw4_SpanParts.j2 1 (!(u0 == 1) || !(u1 == 0)) lo hi l0 l1 u0 u1 else copselaw4_SpanParts.j2 1 false lo hi l0 l1 u0 u1) = some true := by
      by_cases e : u0 > u1
      · obtain ⟨rfl, rfl⟩ := eu e
        rw [if_pos (decide_eq_true e)]; exact j2
      · rw [if_neg (by simp; omega)]; exact j2
    by_cases e : l0 > l1
    · obtain ⟨rfl, rfl⟩ := el e
      rw [if_pos (decide_eq_true e), if_neg (by decide)]; exact fin
    · rw [if_neg (by simp; omega)]; exact fin
  have hin : ∀ x9 : Bool, (x9 = true ↔ lo ≤ n ∧ n ≤ hi) → copselaw4_SpanParts.j0 3 at_ n x9 lo hi l0 l1 u0 u1 = some true := by
    intro x9 h9
    have e9 : bs = x9 := by rw [Bool.eq_iff_iff, is, h9]
    have fln := fl n
    have fun_ := fu n
    simp only [copselaw4_SpanParts.j0]
    rw [hs]
    simp only [Option.bind_some]
    rw [if_neg (by rw [e9]; simp), hl]
    simp only [Option.bind_some]
    cases x9 with
    | true =>
      rw [if_pos rfl]
      have hb : bl = decide (n ≤ at_) := by rw [Bool.eq_iff_iff, il, decide_eq_true_iff, fln]; have := h9.1 rfl; omega
      have hb2 : bu = decide (n > at_) := by rw [Bool.eq_iff_iff, iu, decide_eq_true_iff, fun_]; have := h9.1 rfl; omega
      rw [if_neg (by rw [hb]; simp), hu]
      simp only [Option.bind_some]
      rw [hb2, bne_self_eq_false]; exact j1
    | false =>
      rw [if_neg (by decide)]
      have h9' : ¬ (lo ≤ n ∧ n ≤ hi) := fun hn => absurd (h9.2 hn) (by decide)
      have hb : bl = false := by rw [Bool.eq_false_iff]; intro hn; exact h9' ((fln.1 (il.1 hn)).1)
      have hb2 : bu = false := by rw [Bool.eq_false_iff]; intro hn; exact h9' ((fun_.1 (iu.1 hn)).1)
      rw [if_neg (by rw [hb]; decide), hu]
      simp only [Option.bind_some]
      rw [hb2, bne_self_eq_false]; exact j1
  unfold copselaw4_SpanParts.f
  rw [hc]
  simp only [Option.bind_some]
  by_cases e : lo ≤ n
  · rw [if_pos e]; exact hin _ (by simp [e])
  · rw [if_neg e]; exact hin _ (by simp [e])
end Go.Proofs.Ytdeedabhgfmgjaa.PureSpanParts
