/-
  A node that comes in: its cells. No condition.
-/
import Derived.Test.YtnngaedhedbenaaRows
import Derived.WalkKit
import Derived.ProofKit
import Derived.KernelRfl
import Derived.Lib.SmallJoins
set_option linter.unusedVariables false
set_option linter.unusedSimpArgs false
namespace Go.Proofs.Ytnngaedhedbenaa.OpenNode
open Go Go.RowKit Go.ChangeShapes Go.WideShapes
theorem cell_int {w : World} {r : Reach} {b : Nat} {v : Value} (h : Cell.okWide Try.prog w r b 3 v) : ∃ n : Int, v = .int .i64 n ∧ (-9223372036854775808 ≤ n ∧ n ≤ 9223372036854775807) := by
  simp only [Cell.okWide, Try.underlying3] at h
  simp only [Cell.ok, Try.underlying3] at h
  split at h <;> first | (rename_i e; cases e; done) | skip
  all_goals first | exact h.elim | skip
  all_goals first
    | (rename_i e1; injection e1 with e1; injection e1 with e1; subst e1; obtain ⟨rfl, hh⟩ := h; exact ⟨_, rfl, by simpa [IntKind.has, IntKind.min, IntKind.max, IntKind.signed, IntKind.bits] using hh⟩)
    | (rename_i e1; cases e1)
theorem cell_bool {w : World} {r : Reach} {b : Nat} {v : Value} (h : Cell.okWide Try.prog w r b 4 v) : ∃ l : Bool, v = .bool l := by
  simp only [Cell.okWide, Try.underlying4] at h
  simp only [Cell.ok, Try.underlying4] at h
  split at h <;> first | (rename_i e; cases e; done) | skip
  all_goals first | exact h.elim | exact ⟨_, rfl⟩ | skip
  all_goals (rename_i e1; cases e1)
theorem open_node {w : World} {b : Nat} {v : Value} (hv : Value.okWide Try.prog w .any b 23 v) :
    ∃ (l : Bool) (x0 x1 x2 x3 x4 : Int), v = .agg #[.bool l, .int .i64 x0, .int .i64 x1, .int .i64 x2, .int .i64 x3, .int .i64 x4] ∧ (-9223372036854775808 ≤ x0 ∧ x0 ≤ 9223372036854775807) ∧ (-9223372036854775808 ≤ x1 ∧ x1 ≤ 9223372036854775807) ∧ (-9223372036854775808 ≤ x2 ∧ x2 ≤ 9223372036854775807) ∧ (-9223372036854775808 ≤ x3 ∧ x3 ≤ 9223372036854775807) ∧ (-9223372036854775808 ≤ x4 ∧ x4 ≤ 9223372036854775807) := by
  simp only [Value.okWide, Try.underlying23] at hv
  obtain ⟨cs, rfl, hs, hr⟩ := hv
  have hC : Try.prog.cellsOf 23 = 6 := by kernel_rfl
  have hct : Try.prog.cellTypes Try.prog.depth 23 = some [4, 3, 3, 3, 3, 3] := by kernel_rfl
  rw [hC] at hs
  obtain ⟨l⟩ := cs
  have hl : l.length = 6 := by simpa using hs
  obtain ⟨ts, h1, _, h2⟩ := hr
  rw [hct] at h1
  injection h1 with h1
  subst h1
  match l, hl with
  | [c0, c1, c2, c3, c4, c5], _ =>
    obtain ⟨u0, hu0, k0⟩ := h2 0 c0 rfl
    obtain ⟨u1, hu1, k1⟩ := h2 1 c1 rfl
    obtain ⟨u2, hu2, k2⟩ := h2 2 c2 rfl
    obtain ⟨u3, hu3, k3⟩ := h2 3 c3 rfl
    obtain ⟨u4, hu4, k4⟩ := h2 4 c4 rfl
    obtain ⟨u5, hu5, k5⟩ := h2 5 c5 rfl
    simp at hu0 hu1 hu2 hu3 hu4 hu5
    subst hu0 hu1 hu2 hu3 hu4 hu5
    obtain ⟨l0, rfl⟩ := cell_bool k0
    obtain ⟨x1, rfl, r1⟩ := cell_int k1
    obtain ⟨x2, rfl, r2⟩ := cell_int k2
    obtain ⟨x3, rfl, r3⟩ := cell_int k3
    obtain ⟨x4, rfl, r4⟩ := cell_int k4
    obtain ⟨x5, rfl, r5⟩ := cell_int k5
    exact ⟨l0, x1, x2, x3, x4, x5, rfl, r1, r2, r3, r4, r5⟩
end Go.Proofs.Ytnngaedhedbenaa.OpenNode

