/-
  The laws of boxes in plain numbers. No condition but that the numbers are of 64 bits.
-/
import Derived.Test.YtdeedabhgfmgjaaBoxR
set_option linter.unusedVariables false
set_option linter.unusedSimpArgs false
namespace Go.Proofs.Ytdeedabhgfmgjaa.SpanE
open Go Go.RowKit Go.Proofs.Ytdeedabhgfmgjaa.Ev
theorem hasB_eq (a0 a1 a2 a3 a4 a5 a6 a7 a8 a9 p0 p1 p2 p3 n : Int) : hasB a0 a1 a2 a3 a4 a5 a6 a7 a8 a9 p0 p1 p2 p3 n = (h3 a0 a1 p0 && (h3 a2 a3 p1 && (h3 a4 a5 p2 && (h3 a6 a7 p3 && h3 a8 a9 n)))) := by
  unfold hasB
  cases h3 a0 a1 p0 <;> cases h3 a2 a3 p1 <;> cases h3 a4 a5 p2 <;> cases h3 a6 a7 p3 <;> cases h3 a8 a9 n <;> rfl
theorem emptyB_eq (a0 a1 a2 a3 a4 a5 a6 a7 a8 a9 : Int) : emptyB a0 a1 a2 a3 a4 a5 a6 a7 a8 a9 = (e2 a0 a1 || (e2 a2 a3 || (e2 a4 a5 || (e2 a6 a7 || e2 a8 a9)))) := by
  unfold emptyB
  cases e2 a0 a1 <;> cases e2 a2 a3 <;> cases e2 a4 a5 <;> cases e2 a6 a7 <;> cases e2 a8 a9 <;> rfl
theorem withinB_eq (a0 a1 a2 a3 a4 a5 a6 a7 a8 a9 b0 b1 b2 b3 b4 b5 b6 b7 b8 b9 : Int) : withinB a0 a1 a2 a3 a4 a5 a6 a7 a8 a9 b0 b1 b2 b3 b4 b5 b6 b7 b8 b9 = (emptyB a0 a1 a2 a3 a4 a5 a6 a7 a8 a9 || (w4 a0 a1 b0 b1 && (w4 a2 a3 b2 b3 && (w4 a4 a5 b4 b5 && (w4 a6 a7 b6 b7 && w4 a8 a9 b8 b9))))) := by
  unfold withinB
  cases emptyB a0 a1 a2 a3 a4 a5 a6 a7 a8 a9 <;> cases w4 a0 a1 b0 b1 <;> cases w4 a2 a3 b2 b3 <;> cases w4 a4 a5 b4 b5 <;> cases w4 a6 a7 b6 b7 <;> cases w4 a8 a9 b8 b9 <;> rfl
/-! ### Cuts -/
theorem cut_has (a b n q : Int) : h3 (cutLo a b n) (cutHi a b n) q = (h3 a b q && decide (q ≤ n)) ∧ h3 (cutLo' a b n) (cutHi' a b n) q = (h3 a b q && !decide (q ≤ n)) := by
  rcases cut_cases a b n with ⟨e1, e2, e3, e4, h⟩ | ⟨e1, e2, e3, e4, h⟩ | ⟨e1, e2, e3, e4, h⟩ | ⟨e1, e2, e3, e4, h⟩ <;> rw [e1, e2, e3, e4] <;> unfold h3 <;> constructor <;> rw [Bool.eq_iff_iff] <;> simp only [Bool.and_eq_true, decide_eq_true_eq, Bool.not_eq_true', decide_eq_false_iff_not] <;> omega
theorem c_has (i p a b n q : Int) : h3 (cL i p a b n) (cH i p a b n) q = (h3 a b q && (!(p == i) || decide (q ≤ n))) := by
  unfold cL cH
  cases p == i
  · simp
  · simp [(cut_has a b n q).1]
theorem d_has (i p a b n q : Int) : h3 (dL i p a b n) (dH i p a b n) q = (h3 a b q && (!(p == i) || !decide (q ≤ n))) := by
  unfold dL dH
  cases p == i
  · simp
  · simp [(cut_has a b n q).2]
def sel (p p0 p1 p2 p3 n : Int) : Int := if p = 0 then p0 else if p = 1 then p1 else if p = 2 then p2 else if p = 3 then p3 else n
theorem place5 {p : Int} (h0 : 0 ≤ p) (h1 : p ≤ 4) : p = 0 ∨ p = 1 ∨ p = 2 ∨ p = 3 ∨ p = 4 := by omega
theorem cut_hasB {p : Int} (h0 : 0 ≤ p) (h1 : p ≤ 4) (a0 a1 a2 a3 a4 a5 a6 a7 a8 a9 s p0 p1 p2 p3 n : Int) :
    hasB (cL 0 p a0 a1 s) (cH 0 p a0 a1 s) (cL 1 p a2 a3 s) (cH 1 p a2 a3 s) (cL 2 p a4 a5 s) (cH 2 p a4 a5 s) (cL 3 p a6 a7 s) (cH 3 p a6 a7 s) (cL 4 p a8 a9 s) (cH 4 p a8 a9 s) p0 p1 p2 p3 n =
      (hasB a0 a1 a2 a3 a4 a5 a6 a7 a8 a9 p0 p1 p2 p3 n && decide (sel p p0 p1 p2 p3 n ≤ s)) := by
  simp only [hasB_eq, c_has]
  rcases place5 h0 h1 with rfl | rfl | rfl | rfl | rfl <;> simp only [sel, Int.reduceEq, if_true, if_false, Int.reduceBEq, Bool.not_true, Bool.not_false, Bool.false_or, Bool.true_or, Bool.and_true, beq_self_eq_true] <;>
    cases h3 a0 a1 p0 <;> cases h3 a2 a3 p1 <;> cases h3 a4 a5 p2 <;> cases h3 a6 a7 p3 <;> cases h3 a8 a9 n <;> simp
theorem dcut_hasB {p : Int} (h0 : 0 ≤ p) (h1 : p ≤ 4) (a0 a1 a2 a3 a4 a5 a6 a7 a8 a9 s p0 p1 p2 p3 n : Int) :
    hasB (dL 0 p a0 a1 s) (dH 0 p a0 a1 s) (dL 1 p a2 a3 s) (dH 1 p a2 a3 s) (dL 2 p a4 a5 s) (dH 2 p a4 a5 s) (dL 3 p a6 a7 s) (dH 3 p a6 a7 s) (dL 4 p a8 a9 s) (dH 4 p a8 a9 s) p0 p1 p2 p3 n =
      (hasB a0 a1 a2 a3 a4 a5 a6 a7 a8 a9 p0 p1 p2 p3 n && !decide (sel p p0 p1 p2 p3 n ≤ s)) := by
  simp only [hasB_eq, d_has]
  rcases place5 h0 h1 with rfl | rfl | rfl | rfl | rfl <;> simp only [sel, Int.reduceEq, if_true, if_false, Int.reduceBEq, Bool.not_true, Bool.not_false, Bool.false_or, Bool.true_or, Bool.and_true, beq_self_eq_true] <;>
    cases h3 a0 a1 p0 <;> cases h3 a2 a3 p1 <;> cases h3 a4 a5 p2 <;> cases h3 a6 a7 p3 <;> cases h3 a8 a9 n <;> simp
theorem cc {x y : Int} (h : x ≠ y) (i a b s t : Int) :
    (cL i y (cL i x a b s) (cH i x a b s) t = cL i x (cL i y a b t) (cH i y a b t) s ∧ cH i y (cL i x a b s) (cH i x a b s) t = cH i x (cL i y a b t) (cH i y a b t) s) ∧
    (dL i y (cL i x a b s) (cH i x a b s) t = cL i x (dL i y a b t) (dH i y a b t) s ∧ dH i y (cL i x a b s) (cH i x a b s) t = cH i x (dL i y a b t) (dH i y a b t) s) ∧
    (cL i y (dL i x a b s) (dH i x a b s) t = dL i x (cL i y a b t) (cH i y a b t) s ∧ cH i y (dL i x a b s) (dH i x a b s) t = dH i x (cL i y a b t) (cH i y a b t) s) ∧
    (dL i y (dL i x a b s) (dH i x a b s) t = dL i x (dL i y a b t) (dH i y a b t) s ∧ dH i y (dL i x a b s) (dH i x a b s) t = dH i x (dL i y a b t) (dH i y a b t) s) := by
  unfold cL cH dL dH
  by_cases h1 : x = i
  · have h2 : (y == i) = false := by simp; omega
    subst h1
    simp [h2]
  · have h2 : (x == i) = false := by simpa using h1
    cases y == i <;> simp [h2]
theorem cH_le {i p a b n : Int} (hb : b ≤ 9223372036854775807) : cH i p a b n ≤ 9223372036854775807 := by
  unfold cH
  cases p == i
  · exact hb
  · simp only [cond_true]
    rcases cut_cases a b n with ⟨_, e, _, _, h⟩ | ⟨_, e, _, _, h⟩ | ⟨_, e, _, _, h⟩ | ⟨_, e, _, _, h⟩ <;> rw [e] <;> omega
theorem dH_le {i p a b n : Int} (hb : b ≤ 9223372036854775807) : dH i p a b n ≤ 9223372036854775807 := by
  unfold dH
  cases p == i
  · exact hb
  · simp only [cond_true]
    rcases cut_cases a b n with ⟨_, _, _, e, h⟩ | ⟨_, _, _, e, h⟩ | ⟨_, _, _, e, h⟩ | ⟨_, _, _, e, h⟩ <;> rw [e] <;> omega
/-! ### Meets -/
theorem meet_cases (a b c d : Int) : (meetLo a b c d = 1 ∧ meetHi a b c d = 0 ∧ min b d < max a c) ∨ (meetLo a b c d = max a c ∧ meetHi a b c d = min b d ∧ max a c ≤ min b d) := by
  unfold meetLo meetHi ofLo ofHi
  rw [minI_eq, maxI_eq]
  by_cases h : max a c > min b d
  · left; simp [h]
  · right; simp [h]; omega
theorem meet_has (a b c d n : Int) : h3 (meetLo a b c d) (meetHi a b c d) n = (h3 a b n && h3 c d n) := by
  rcases meet_cases a b c d with ⟨e1, e2, h⟩ | ⟨e1, e2, h⟩ <;> rw [e1, e2] <;> unfold h3 <;> rw [Bool.eq_iff_iff] <;> simp only [Bool.and_eq_true, decide_eq_true_eq] <;> omega
theorem meet_assoc (a b c d e f : Int) : meetLo (meetLo a b c d) (meetHi a b c d) e f = meetLo a b (meetLo c d e f) (meetHi c d e f) ∧ meetHi (meetLo a b c d) (meetHi a b c d) e f = meetHi a b (meetLo c d e f) (meetHi c d e f) := by
  rcases meet_cases a b c d with ⟨e1, e2, h⟩ | ⟨e1, e2, h⟩ <;> rw [e1, e2] <;> rcases meet_cases c d e f with ⟨e3, e4, h'⟩ | ⟨e3, e4, h'⟩ <;> rw [e3, e4]
  · rcases meet_cases 1 0 e f with ⟨q1, q2, k⟩ | ⟨q1, q2, k⟩ <;> rw [q1, q2] <;> rcases meet_cases a b 1 0 with ⟨q3, q4, k'⟩ | ⟨q3, q4, k'⟩ <;> rw [q3, q4] <;> omega
  · rcases meet_cases 1 0 e f with ⟨q1, q2, k⟩ | ⟨q1, q2, k⟩ <;> rw [q1, q2] <;> rcases meet_cases a b (max c e) (min d f) with ⟨q3, q4, k'⟩ | ⟨q3, q4, k'⟩ <;> rw [q3, q4] <;> omega
  · rcases meet_cases (max a c) (min b d) e f with ⟨q1, q2, k⟩ | ⟨q1, q2, k⟩ <;> rw [q1, q2] <;> rcases meet_cases a b 1 0 with ⟨q3, q4, k'⟩ | ⟨q3, q4, k'⟩ <;> rw [q3, q4] <;> omega
  · rcases meet_cases (max a c) (min b d) e f with ⟨q1, q2, k⟩ | ⟨q1, q2, k⟩ <;> rw [q1, q2] <;> rcases meet_cases a b (max c e) (min d f) with ⟨q3, q4, k'⟩ | ⟨q3, q4, k'⟩ <;> rw [q3, q4] <;> omega
theorem meet_within (a b c d : Int) : w4 (meetLo a b c d) (meetHi a b c d) a b = true ∧ w4 (meetLo a b c d) (meetHi a b c d) c d = true := by
  rcases meet_cases a b c d with ⟨e1, e2, h⟩ | ⟨e1, e2, h⟩ <;> rw [e1, e2] <;> unfold w4 <;> simp only [Bool.or_eq_true, Bool.and_eq_true, decide_eq_true_eq] <;> omega
theorem within_meet {a b : Int} (hab : e2 a b = false) (c d : Int) : w4 a b c d = ((meetLo a b c d == a) && (meetHi a b c d == b)) := by
  unfold e2 at hab
  have hab' := of_decide_eq_false hab
  rcases meet_cases a b c d with ⟨e1, e2, h⟩ | ⟨e1, e2, h⟩ <;> rw [e1, e2] <;> unfold w4 <;> rw [Bool.eq_iff_iff] <;> simp only [Bool.or_eq_true, Bool.and_eq_true, decide_eq_true_eq, beq_iff_eq] <;> omega
theorem h3_low (a b : Int) : h3 a b a = !e2 a b := by
  unfold h3 e2
  rw [Bool.eq_iff_iff]
  simp only [Bool.and_eq_true, decide_eq_true_eq, Bool.not_eq_true', decide_eq_false_iff_not]
  omega
theorem w4_refl (a b : Int) : w4 a b a b = true := by simp [w4]
end Go.Proofs.Ytdeedabhgfmgjaa.SpanE

