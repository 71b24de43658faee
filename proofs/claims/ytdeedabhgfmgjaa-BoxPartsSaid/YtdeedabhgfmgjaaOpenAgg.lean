/-
  A struct or an array of whole numbers that comes in: its cells, as numbers of 64 bits. No condition.
-/
import Derived.Test.YtdeedabhgfmgjaaRows
import Derived.WalkKit
import Derived.ProofKit
import Derived.KernelRfl
import Derived.Lib.SmallJoins
set_option linter.unusedVariables false
set_option linter.unusedSimpArgs false
namespace Go.Proofs.Ytdeedabhgfmgjaa.OpenAgg
open Go Go.RowKit Go.ChangeShapes Go.WideShapes

theorem cell_int {w : World} {r : Reach} {b : Nat} {v : Value} (h : Cell.okWide Try.prog w r b 3 v) : ∃ n : Int, v = .int .i64 n ∧ (-9223372036854775808 ≤ n ∧ n ≤ 9223372036854775807) := by
  simp only [Cell.okWide, Try.underlying3] at h
  simp only [Cell.ok, Try.underlying3] at h
  split at h <;> first | (rename_i e; cases e; done) | skip
  all_goals first | exact h.elim | skip
  all_goals first
    | (rename_i e1; injection e1 with e1; injection e1 with e1; subst e1; obtain ⟨rfl, hh⟩ := h; exact ⟨_, rfl, by simpa [IntKind.has, IntKind.min, IntKind.max, IntKind.signed, IntKind.bits] using hh⟩)
    | (rename_i e1; cases e1)
/-- The cells of a value whose cells are all numbers. -/
theorem cells_int {t : TypeId} {n : Nat} {w : World} {r : Reach} {b : Nat} {cs : Array Value} (hct : Try.prog.cellTypes Try.prog.depth t = some (List.replicate n 3)) (hn : 0 < n) (h : Row.okWide Try.prog w r b t cs) :
    ∀ (i : Nat) (v : Value), cs[i]? = some v → ∃ m : Int, v = .int .i64 m ∧ (-9223372036854775808 ≤ m ∧ m ≤ 9223372036854775807) := by
  obtain ⟨ts, h1, _, h2⟩ := h
  rw [hct] at h1
  injection h1 with h1
  subst h1
  intro i v hv
  obtain ⟨u, hu, hc⟩ := h2 i v hv
  rw [List.length_replicate, List.getElem?_replicate] at hu
  rw [if_pos (Nat.mod_lt _ hn)] at hu
  injection hu with hu
  subst hu
  exact cell_int hc
theorem open_span {w : World} {b : Nat} {v : Value} (hv : Value.okWide Try.prog w .any b 23 v) :
    ∃ x y : Int, v = .agg #[.int .i64 x, .int .i64 y] ∧ (-9223372036854775808 ≤ x ∧ x ≤ 9223372036854775807) ∧ (-9223372036854775808 ≤ y ∧ y ≤ 9223372036854775807) := by
  simp only [Value.okWide, Try.underlying23] at hv
  obtain ⟨cs, rfl, hs, hr⟩ := hv
  have hC : Try.prog.cellsOf 23 = 2 := by kernel_rfl
  have hc := cells_int (n := 2) (t := 23) (by kernel_rfl) (by decide) hr
  rw [hC] at hs
  obtain ⟨c0, c1, rfl⟩ := Joins.array2 hs
  obtain ⟨x, rfl, hx⟩ := hc 0 _ rfl
  obtain ⟨y, rfl, hy⟩ := hc 1 _ rfl
  exact ⟨x, y, rfl, hx, hy⟩
theorem open_box {w : World} {b : Nat} {v : Value} (hv : Value.okWide Try.prog w .any b 25 v) :
    ∃ x0 x1 x2 x3 x4 x5 x6 x7 x8 x9 : Int, v = .agg #[.int .i64 x0, .int .i64 x1, .int .i64 x2, .int .i64 x3, .int .i64 x4, .int .i64 x5, .int .i64 x6, .int .i64 x7, .int .i64 x8, .int .i64 x9] ∧ (-9223372036854775808 ≤ x0 ∧ x0 ≤ 9223372036854775807) ∧ (-9223372036854775808 ≤ x1 ∧ x1 ≤ 9223372036854775807) ∧ (-9223372036854775808 ≤ x2 ∧ x2 ≤ 9223372036854775807) ∧ (-9223372036854775808 ≤ x3 ∧ x3 ≤ 9223372036854775807) ∧ (-9223372036854775808 ≤ x4 ∧ x4 ≤ 9223372036854775807) ∧ (-9223372036854775808 ≤ x5 ∧ x5 ≤ 9223372036854775807) ∧ (-9223372036854775808 ≤ x6 ∧ x6 ≤ 9223372036854775807) ∧ (-9223372036854775808 ≤ x7 ∧ x7 ≤ 9223372036854775807) ∧ (-9223372036854775808 ≤ x8 ∧ x8 ≤ 9223372036854775807) ∧ (-9223372036854775808 ≤ x9 ∧ x9 ≤ 9223372036854775807) := by
  simp only [Value.okWide, Try.underlying25] at hv
  obtain ⟨cs, rfl, hs, hr⟩ := hv
  have hC : Try.prog.cellsOf 25 = 10 := by kernel_rfl
  have hc := cells_int (n := 10) (t := 25) (by kernel_rfl) (by decide) hr
  rw [hC] at hs
  obtain ⟨l⟩ := cs
  have hl : l.length = 10 := by simpa using hs
  obtain ⟨x0, e0, r0⟩ := hc 0 (l[0]'(by omega)) (by simp)
  obtain ⟨x1, e1, r1⟩ := hc 1 (l[1]'(by omega)) (by simp)
  obtain ⟨x2, e2, r2⟩ := hc 2 (l[2]'(by omega)) (by simp)
  obtain ⟨x3, e3, r3⟩ := hc 3 (l[3]'(by omega)) (by simp)
  obtain ⟨x4, e4, r4⟩ := hc 4 (l[4]'(by omega)) (by simp)
  obtain ⟨x5, e5, r5⟩ := hc 5 (l[5]'(by omega)) (by simp)
  obtain ⟨x6, e6, r6⟩ := hc 6 (l[6]'(by omega)) (by simp)
  obtain ⟨x7, e7, r7⟩ := hc 7 (l[7]'(by omega)) (by simp)
  obtain ⟨x8, e8, r8⟩ := hc 8 (l[8]'(by omega)) (by simp)
  obtain ⟨x9, e9, r9⟩ := hc 9 (l[9]'(by omega)) (by simp)
  refine ⟨x0, x1, x2, x3, x4, x5, x6, x7, x8, x9, ?_, r0, r1, r2, r3, r4, r5, r6, r7, r8, r9⟩
  congr 1
  apply Array.ext'
  apply List.ext_getElem (by simpa using hl)
  intro i h1 h2
  have h3 : i < 10 := by simpa [hl] using h1
  by_cases c0 : i = 0
  · subst c0; simpa using e0
  by_cases c1 : i = 1
  · subst c1; simpa using e1
  by_cases c2 : i = 2
  · subst c2; simpa using e2
  by_cases c3 : i = 3
  · subst c3; simpa using e3
  by_cases c4 : i = 4
  · subst c4; simpa using e4
  by_cases c5 : i = 5
  · subst c5; simpa using e5
  by_cases c6 : i = 6
  · subst c6; simpa using e6
  by_cases c7 : i = 7
  · subst c7; simpa using e7
  by_cases c8 : i = 8
  · subst c8; simpa using e8
  by_cases c9 : i = 9
  · subst c9; simpa using e9
  omega
theorem open_point {w : World} {b : Nat} {v : Value} (hv : Value.okWide Try.prog w .any b 42 v) :
    ∃ x0 x1 x2 x3 : Int, v = .agg #[.int .i64 x0, .int .i64 x1, .int .i64 x2, .int .i64 x3] ∧ (-9223372036854775808 ≤ x0 ∧ x0 ≤ 9223372036854775807) ∧ (-9223372036854775808 ≤ x1 ∧ x1 ≤ 9223372036854775807) ∧ (-9223372036854775808 ≤ x2 ∧ x2 ≤ 9223372036854775807) ∧ (-9223372036854775808 ≤ x3 ∧ x3 ≤ 9223372036854775807) := by
  simp only [Value.okWide, Try.underlying42] at hv
  obtain ⟨cs, rfl, hs, hr⟩ := hv
  have hC : Try.prog.cellsOf 42 = 4 := by kernel_rfl
  have hc := cells_int (n := 4) (t := 42) (by kernel_rfl) (by decide) hr
  rw [hC] at hs
  obtain ⟨l⟩ := cs
  have hl : l.length = 4 := by simpa using hs
  obtain ⟨x0, e0, r0⟩ := hc 0 (l[0]'(by omega)) (by simp)
  obtain ⟨x1, e1, r1⟩ := hc 1 (l[1]'(by omega)) (by simp)
  obtain ⟨x2, e2, r2⟩ := hc 2 (l[2]'(by omega)) (by simp)
  obtain ⟨x3, e3, r3⟩ := hc 3 (l[3]'(by omega)) (by simp)
  refine ⟨x0, x1, x2, x3, ?_, r0, r1, r2, r3⟩
  congr 1
  apply Array.ext'
  apply List.ext_getElem (by simpa using hl)
  intro i h1 h2
  have h3 : i < 4 := by simpa [hl] using h1
  by_cases c0 : i = 0
  · subst c0; simpa using e0
  by_cases c1 : i = 1
  · subst c1; simpa using e1
  by_cases c2 : i = 2
  · subst c2; simpa using e2
  by_cases c3 : i = 3
  · subst c3; simpa using e3
  omega
end Go.Proofs.Ytdeedabhgfmgjaa.OpenAgg

