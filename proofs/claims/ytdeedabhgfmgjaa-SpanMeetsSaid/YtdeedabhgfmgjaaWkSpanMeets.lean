/-
  The law copselaw4.SpanMeets: what is met in plain numbers, and the walk, by the ways through it.
-/
import Derived.Test.YtdeedabhgfmgjaaMeetsT
import Derived.Test.YtdeedabhgfmgjaaMeetsF
set_option linter.unusedVariables false
set_option linter.unusedSimpArgs false
namespace Go.Proofs.Ytdeedabhgfmgjaa.WkSpanMeets
open Go Go.RowKit Go.Proofs.Ytdeedabhgfmgjaa.Span
theorem meet_spec (a0 a1 b0 b1 : Int) : ∃ x y, meetS (a0, a1) (b0, b1) = ofS x y ∧ a0 ≤ x ∧ b0 ≤ x ∧ (x = a0 ∨ x = b0) ∧ y ≤ a1 ∧ y ≤ b1 ∧ (y = a1 ∨ y = b1) := by
  refine ⟨_, _, rfl, ?_⟩
  simp only
  split <;> split <;> omega
theorem ofS_eq {x y x' y' : Int} (h : (x > y ∧ x' > y') ∨ (x = x' ∧ y = y')) : ofS x y = ofS x' y' := by
  unfold ofS
  rcases h with ⟨h, h'⟩ | ⟨rfl, rfl⟩
  · rw [if_pos h, if_pos h']
  · rfl
theorem ofS_or (x y : Int) : (ofS x y = (1, 0) ∧ x > y) ∨ (ofS x y = (x, y) ∧ x ≤ y) := by
  unfold ofS
  by_cases h : x > y
  · exact Or.inl ⟨if_pos h, h⟩
  · exact Or.inr ⟨if_neg h, by omega⟩
theorem meet_comm (a0 a1 b0 b1 : Int) : meetS (b0, b1) (a0, a1) = meetS (a0, a1) (b0, b1) := by
  obtain ⟨x, y, e, h⟩ := meet_spec a0 a1 b0 b1
  obtain ⟨x', y', e', h'⟩ := meet_spec b0 b1 a0 a1
  rw [e, e']
  exact ofS_eq (by omega)
theorem meet_assoc (a0 a1 b0 b1 c0 c1 : Int) : meetS (a0, a1) (meetS (b0, b1) (c0, c1)) = meetS (meetS (a0, a1) (b0, b1)) (c0, c1) := by
  obtain ⟨x, y, e, h⟩ := meet_spec a0 a1 b0 b1
  obtain ⟨x', y', e', h'⟩ := meet_spec b0 b1 c0 c1
  rw [e, e']
  rcases ofS_or x y with ⟨k, l⟩ | ⟨k, l⟩ <;> rcases ofS_or x' y' with ⟨k', l'⟩ | ⟨k', l'⟩ <;> rw [k, k']
  · obtain ⟨u, v, f, g⟩ := meet_spec a0 a1 1 0
    obtain ⟨u', v', f', g'⟩ := meet_spec 1 0 c0 c1
    rw [f, f']; exact ofS_eq (by omega)
  · obtain ⟨u, v, f, g⟩ := meet_spec a0 a1 x' y'
    obtain ⟨u', v', f', g'⟩ := meet_spec 1 0 c0 c1
    rw [f, f']; exact ofS_eq (by omega)
  · obtain ⟨u, v, f, g⟩ := meet_spec a0 a1 1 0
    obtain ⟨u', v', f', g'⟩ := meet_spec x y c0 c1
    rw [f, f']; exact ofS_eq (by omega)
  · obtain ⟨u, v, f, g⟩ := meet_spec a0 a1 x' y'
    obtain ⟨u', v', f', g'⟩ := meet_spec x y c0 c1
    rw [f, f']; exact ofS_eq (by omega)
theorem beq_of {p q : Prop} [Decidable p] [Decidable q] {r s : Bool} (hp : r = true ↔ p) (hs : s = true ↔ p) : r = s := by
  cases r <;> cases s <;> simp_all
theorem walk (w : World) (a0 a1 : Int) (_w0 : -9223372036854775808 ≤ a0 ∧ a0 ≤ 9223372036854775807) (_w1 : -9223372036854775808 ≤ a1 ∧ a1 ≤ 9223372036854775807) (b0 b1 : Int) (_w2 : -9223372036854775808 ≤ b0 ∧ b0 ≤ 9223372036854775807) (_w3 : -9223372036854775808 ≤ b1 ∧ b1 ≤ 9223372036854775807)
    (c0 c1 : Int) (_w4 : -9223372036854775808 ≤ c0 ∧ c0 ≤ 9223372036854775807) (_w5 : -9223372036854775808 ≤ c1 ∧ c1 ≤ 9223372036854775807) (n : Int) (_w6 : (Lit.int .i64 n).wf = true) :
    Calls Try.prog 10 #[.agg #[.int .i64 a0, .int .i64 a1], .agg #[.int .i64 b0, .int .i64 b1], .agg #[.int .i64 c0, .int .i64 c1], .int .i64 n] w fun e w' => e = .returned (.bool true) ∧ Below w.heap.size w w' := by
  obtain ⟨x, y, e, h1, h2, h3, h4, h5, h6⟩ := meet_spec a0 a1 b0 b1
  rcases hm : meetS (a0, a1) (b0, b1) with ⟨m0, m1⟩
  rcases hd : meetS (m0, m1) (c0, c1) with ⟨d0, d1⟩
  rcases hf : meetS (b0, b1) (c0, c1) with ⟨f0, f1⟩
  have M2 := meet_comm a0 a1 b0 b1
  rw [hm] at M2
  have M5 := meet_assoc a0 a1 b0 b1 c0 c1
  rw [hm, hf, hd] at M5
  have hmm : (x > y ∧ m0 = 1 ∧ m1 = 0) ∨ (x ≤ y ∧ m0 = x ∧ m1 = y) := by
    rw [hm] at e
    rcases ofS_or x y with ⟨k, l⟩ | ⟨k, l⟩ <;> rw [k] at e <;> simp only [Prod.mk.injEq] at e <;> omega
  have H1 : (decide (m0 ≤ n) && decide (n ≤ m1)) = ((decide (a0 ≤ n) && decide (n ≤ a1)) && (decide (b0 ≤ n) && decide (n ≤ b1))) := by
    rw [Bool.eq_iff_iff]; simp only [Bool.and_eq_true, decide_eq_true_eq]; omega
  have W1 : (decide (m1 < m0) || (decide (a0 ≤ m0) && decide (m1 ≤ a1))) = true := by
    simp only [Bool.or_eq_true, Bool.and_eq_true, decide_eq_true_eq]; omega
  have W2 : (decide (m1 < m0) || (decide (b0 ≤ m0) && decide (m1 ≤ b1))) = true := by
    simp only [Bool.or_eq_true, Bool.and_eq_true, decide_eq_true_eq]; omega
  have W3 : (decide (a1 < a0) || (decide (a0 ≤ a0) && decide (a1 ≤ a1))) = true := by simp
  have W4 : (decide (a1 < a0) || (decide (b0 ≤ a0) && decide (a1 ≤ b1))) = (decide (m0 = a0 ∧ m1 = a1) || decide (a1 < a0)) := by
    rw [Bool.eq_iff_iff]; simp only [Bool.or_eq_true, Bool.and_eq_true, decide_eq_true_eq]; omega
  have E : m1 < m0 → m0 = 1 ∧ m1 = 0 := by omega
  have H1' : (decide (a0 ≤ n) && decide (n ≤ a1)) = true → (decide (m0 ≤ n) && decide (n ≤ m1)) = (decide (b0 ≤ n) && decide (n ≤ b1)) := fun h => by rw [H1, h]; rfl
  have H1'' : (decide (a0 ≤ n) && decide (n ≤ a1)) = false → (decide (m0 ≤ n) && decide (n ≤ m1)) = false := fun h => by rw [H1, h]; rfl
  clear h1 h2 h3 h4 h5 h6 hmm e H1 _w0 _w1 _w2 _w3 _w4 _w5 _w6
  by_cases hq0 : m0 = a0
  · subst hq0
    by_cases hq1 : m1 = a1
    · subst hq1
      have W4' : (decide (m1 < m0) || (decide (b0 ≤ m0) && decide (m1 ≤ b1))) = true := by rw [W4]; simp
      rcases Bool.eq_false_or_eq_true (decide (m0 ≤ n) && decide (n ≤ m1)) with ha | ha <;> by_cases hem : m1 < m0
      · obtain ⟨rfl, rfl⟩ := E hem
        exact wayTTT w hm M2 hd hf M5 ha ha (by have hh := H1' ha; rw [ha] at hh; exact hh.symm) (decide_eq_true hem) rfl trivial W1 W2 W3 W4'
      · exact wayTFT w hm M2 hd hf M5 ha ha (by have hh := H1' ha; rw [ha] at hh; exact hh.symm) (decide_eq_false hem) rfl trivial W1 W2 W3 W4'
      · obtain ⟨rfl, rfl⟩ := E hem
        exact wayFTT w hm M2 hd hf M5 (H1'' ha) ha rfl (decide_eq_true hem) rfl trivial W1 W2 W3 W4'
      · exact wayFFT w hm M2 hd hf M5 (H1'' ha) ha rfl (decide_eq_false hem) rfl trivial W1 W2 W3 W4'
    · have W4' : (decide (a1 < m0) || (decide (b0 ≤ m0) && decide (a1 ≤ b1))) = decide (a1 < m0) := by rw [W4]; simp [hq1]
      rcases Bool.eq_false_or_eq_true (decide (m0 ≤ n) && decide (n ≤ a1)) with ha | ha <;> by_cases hem : m1 < m0
      · obtain ⟨rfl, rfl⟩ := E hem
        exact wayTTG w hm M2 hd hf M5 (H1' ha) ha rfl (decide_eq_true hem) rfl hq1 W1 W2 W3 W4'
      · exact wayTFG w hm M2 hd hf M5 (H1' ha) ha rfl (decide_eq_false hem) rfl hq1 W1 W2 W3 W4'
      · obtain ⟨rfl, rfl⟩ := E hem
        exact wayFTG w hm M2 hd hf M5 (H1'' ha) ha rfl (decide_eq_true hem) rfl hq1 W1 W2 W3 W4'
      · exact wayFFG w hm M2 hd hf M5 (H1'' ha) ha rfl (decide_eq_false hem) rfl hq1 W1 W2 W3 W4'
  · have W4' : (decide (a1 < a0) || (decide (b0 ≤ a0) && decide (a1 ≤ b1))) = decide (a1 < a0) := by rw [W4]; simp [hq0]
    rcases Bool.eq_false_or_eq_true (decide (a0 ≤ n) && decide (n ≤ a1)) with ha | ha <;> by_cases hem : m1 < m0
    · obtain ⟨rfl, rfl⟩ := E hem
      exact wayTTF w hm M2 hd hf M5 (H1' ha) ha rfl (decide_eq_true hem) rfl hq0 W1 W2 W3 W4'
    · exact wayTFF w hm M2 hd hf M5 (H1' ha) ha rfl (decide_eq_false hem) rfl hq0 W1 W2 W3 W4'
    · obtain ⟨rfl, rfl⟩ := E hem
      exact wayFTF w hm M2 hd hf M5 (H1'' ha) ha rfl (decide_eq_true hem) rfl hq0 W1 W2 W3 W4'
    · exact wayFFF w hm M2 hd hf M5 (H1'' ha) ha rfl (decide_eq_false hem) rfl hq0 W1 W2 W3 W4'
end Go.Proofs.Ytdeedabhgfmgjaa.WkSpanMeets
