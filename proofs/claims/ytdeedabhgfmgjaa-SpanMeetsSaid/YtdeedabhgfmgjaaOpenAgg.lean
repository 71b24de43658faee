/-
  A struct or an array of whole numbers that comes in: its cells, as numbers of 64 bits. No condition.
-/
import Derived.Test.YtdeedabhgfmgjaaRows
import Derived.WalkKit
import Derived.ProofKit
import Derived.KernelRfl
import Derived.Lib.SmallJoins
set_option linter.unusedVariables false
set_option linter.unusedSimpArgs false
namespace Go.Proofs.Ytdeedabhgfmgjaa.OpenAgg
open Go Go.RowKit Go.ChangeShapes Go.WideShapes

theorem cell_int {w : World} {r : Reach} {b : Nat} {v : Value} (h : Cell.okWide Try.prog w r b 3 v) : ∃ n : Int, v = .int .i64 n ∧ (-9223372036854775808 ≤ n ∧ n ≤ 9223372036854775807) := by
  simp only [Cell.okWide, Try.underlying3] at h
  simp only [Cell.ok, Try.underlying3] at h
  split at h <;> first | (rename_i e; cases e; done) | skip
  all_goals first | exact h.elim | skip
  all_goals first
    | (rename_i e1; injection e1 with e1; injection e1 with e1; subst e1; obtain ⟨rfl, hh⟩ := h; exact ⟨_, rfl, by simpa [IntKind.has, IntKind.min, IntKind.max, IntKind.signed, IntKind.bits] using hh⟩)
    | (rename_i e1; cases e1)
/-- The cells of a value whose cells are all numbers. -/
theorem cells_int {t : TypeId} {n : Nat} {w : World} {r : Reach} {b : Nat} {cs : Array Value} (hct : Try.prog.cellTypes Try.prog.depth t = some (List.replicate n 3)) (hn : 0 < n) (h : Row.okWide Try.prog w r b t cs) :
    ∀ (i : Nat) (v : Value), cs[i]? = some v → ∃ m : Int, v = .int .i64 m ∧ (-9223372036854775808 ≤ m ∧ m ≤ 9223372036854775807) := by
  obtain ⟨ts, h1, _, h2⟩ := h
  rw [hct] at h1
  injection h1 with h1
  subst h1
  intro i v hv
  obtain ⟨u, hu, hc⟩ := h2 i v hv
  rw [List.length_replicate, List.getElem?_replicate] at hu
  rw [if_pos (Nat.mod_lt _ hn)] at hu
  injection hu with hu
  subst hu
  exact cell_int hc
theorem open_span {w : World} {b : Nat} {v : Value} (hv : Value.okWide Try.prog w .any b 23 v) :
    ∃ x y : Int, v = .agg #[.int .i64 x, .int .i64 y] ∧ (-9223372036854775808 ≤ x ∧ x ≤ 9223372036854775807) ∧ (-9223372036854775808 ≤ y ∧ y ≤ 9223372036854775807) := by
  simp only [Value.okWide, Try.underlying23] at hv
  obtain ⟨cs, rfl, hs, hr⟩ := hv
  have hC : Try.prog.cellsOf 23 = 2 := by kernel_rfl
  have hc := cells_int (n := 2) (t := 23) (by kernel_rfl) (by decide) hr
  rw [hC] at hs
  obtain ⟨c0, c1, rfl⟩ := Joins.array2 hs
  obtain ⟨x, rfl, hx⟩ := hc 0 _ rfl
  obtain ⟨y, rfl, hy⟩ := hc 1 _ rfl
  exact ⟨x, y, rfl, hx, hy⟩
end Go.Proofs.Ytdeedabhgfmgjaa.OpenAgg
