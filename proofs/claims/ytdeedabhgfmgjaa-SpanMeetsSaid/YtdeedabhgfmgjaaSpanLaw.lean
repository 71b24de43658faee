/-
  What the laws of the package span ask of its functions, with named answers; the laws of cutting in plain numbers. No condition but that the numbers are of 64 bits.
-/
import Derived.Test.YtdeedabhgfmgjaaSpan
import Derived.Test.YtdeedabhgfmgjaaPureSpanRuns
set_option linter.unusedVariables false
set_option linter.unusedSimpArgs false
namespace Go.Proofs.Ytdeedabhgfmgjaa.Span
open Go Go.RowKit
abbrev sp (a b : Int) : Value := .agg #[.int .i64 a, .int .i64 b]
theorem cut_is {s0 s1 n l0 l1 h0 h1 : Int} (hn : -9223372036854775808 ≤ n ∧ n ≤ 9223372036854775807) (hs : s1 ≤ 9223372036854775807) (hl : cutLo (s0, s1) n = (l0, l1)) (hh : cutHi (s0, s1) n = (h0, h1)) (w : World) :
    Calls Try.prog 18 #[sp s0 s1, .int .i64 n] w fun e w' => e = .returned (.tuple #[sp l0 l1, sp h0 h1]) ∧ Below w.heap.size w w' := by
  have := cut_calls s0 s1 n hn.1 hn.2 hs w
  rw [hl, hh] at this
  exact this
theorem empty_is {a b : Int} {r : Bool} (h : decide (b < a) = r) (w : World) : Calls Try.prog 23 #[sp a b] w fun e w' => e = .returned (.bool r) ∧ Below w.heap.size w w' := by
  have := empty_calls a b w
  rw [h] at this
  exact this
theorem has_is {a b n : Int} {r : Bool} (h : (decide (a ≤ n) && decide (n ≤ b)) = r) (w : World) : Calls Try.prog 25 #[sp a b, .int .i64 n] w fun e w' => e = .returned (.bool r) ∧ Below w.heap.size w w' := by
  have := has_calls a b n w
  rw [h] at this
  exact this
theorem within_is {a0 a1 b0 b1 : Int} {r : Bool} (h : (decide (a1 < a0) || (decide (b0 ≤ a0) && decide (a1 ≤ b1))) = r) (w : World) : Calls Try.prog 24 #[sp a0 a1, sp b0 b1] w fun e w' => e = .returned (.bool r) ∧ Below w.heap.size w w' := by
  have := within_calls a0 a1 b0 b1 w
  rw [h] at this
  exact this
theorem meet_is {a0 a1 b0 b1 m0 m1 : Int} (h : meetS (a0, a1) (b0, b1) = (m0, m1)) (w : World) : Calls Try.prog 20 #[sp a0 a1, sp b0 b1] w fun e w' => e = .returned (sp m0 m1) ∧ Below w.heap.size w w' := by
  have := meet_calls a0 a1 b0 b1 w
  rw [h] at this
  exact this
theorem runs_is (w : World) : Calls Try.prog 5 #[] w fun e w' => e = .returned (.bool true) ∧ Below w.heap.size w w' :=
  PSpanRuns.copselaw4_SpanRuns.calls true w Pure.SpanRuns
/-! ### Cutting, in plain numbers -/
theorem ofS_le {a b M : Int} (h : b ≤ M) (h0 : 0 ≤ M) : (ofS a b).2 ≤ M := by unfold ofS; split <;> simp <;> omega
theorem cutLo_le {s : Int × Int} {n M : Int} (h : s.2 ≤ M) (h0 : 0 ≤ M) : (cutLo s n).2 ≤ M := by unfold cutLo; refine ofS_le ?_ h0; split <;> omega
theorem cutHi_le {s : Int × Int} {n M : Int} (h : s.2 ≤ M) (h0 : 0 ≤ M) : (cutHi s n).2 ≤ M := by 
  unfold cutHi
  split
  · exact h0
  · exact ofS_le h h0
theorem ofS_pos {a b : Int} (h : a > b) : ofS a b = (1, 0) := if_pos h
theorem ofS_neg {a b : Int} (h : ¬ a > b) : ofS a b = (a, b) := if_neg h
theorem cutLo_cases (s0 s1 n : Int) : (cutLo (s0, s1) n = (1, 0) ∧ (n < s0 ∨ s1 < s0)) ∨ (cutLo (s0, s1) n = (s0, n) ∧ s0 ≤ n ∧ n < s1) ∨ (cutLo (s0, s1) n = (s0, s1) ∧ s1 ≤ n ∧ s0 ≤ s1) := by
  unfold cutLo ofS
  simp only
  split <;> split <;> simp <;> omega
theorem cutHi_cases (s0 s1 n : Int) : (cutHi (s0, s1) n = (1, 0) ∧ (s1 ≤ n ∨ s1 < s0)) ∨ (cutHi (s0, s1) n = (n + 1, s1) ∧ s0 ≤ n ∧ n < s1) ∨ (cutHi (s0, s1) n = (s0, s1) ∧ n < s0 ∧ s0 ≤ s1) := by
  unfold cutHi ofS
  simp only
  split
  · simp; omega
  · split <;> split <;> simp <;> omega
theorem cut_ll (s : Int × Int) {p q : Int} (h : p ≤ q) : cutLo (cutLo s q) p = cutLo s p := by
  obtain ⟨s0, s1⟩ := s
  rcases cutLo_cases s0 s1 q with ⟨e, c⟩ | ⟨e, c⟩ | ⟨e, c⟩ <;> rw [e] <;> rcases cutLo_cases s0 s1 p with ⟨e2, c2⟩ | ⟨e2, c2⟩ | ⟨e2, c2⟩ <;> rw [e2] <;> simp only [cutLo, ofS] <;> (repeat' split) <;> simp <;> omega
theorem cut_hh (s : Int × Int) {p q : Int} (h : p ≤ q) : cutHi (cutHi s p) q = cutHi s q := by
  obtain ⟨s0, s1⟩ := s
  rcases cutHi_cases s0 s1 p with ⟨e, c⟩ | ⟨e, c⟩ | ⟨e, c⟩ <;> rw [e] <;> rcases cutHi_cases s0 s1 q with ⟨e2, c2⟩ | ⟨e2, c2⟩ | ⟨e2, c2⟩ <;> rw [e2] <;> simp only [cutHi, ofS] <;> (repeat' split) <;> simp <;> omega
theorem cut_lh (s : Int × Int) {p q : Int} (h : p ≤ q) : cutLo (cutHi s p) q = cutHi (cutLo s q) p := by
  obtain ⟨s0, s1⟩ := s
  rcases cutHi_cases s0 s1 p with ⟨e, c⟩ | ⟨e, c⟩ | ⟨e, c⟩ <;> rw [e] <;> rcases cutLo_cases s0 s1 q with ⟨e2, c2⟩ | ⟨e2, c2⟩ | ⟨e2, c2⟩ <;> rw [e2] <;> simp only [cutLo, cutHi, ofS] <;> (repeat' split) <;> simp <;> omega
end Go.Proofs.Ytdeedabhgfmgjaa.Span
