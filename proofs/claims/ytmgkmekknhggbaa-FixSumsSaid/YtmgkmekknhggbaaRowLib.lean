/-
  How a slice of numbers that comes in reads to a walk. No condition.
-/
import Derived.Below
import Derived.RowKit3
import Derived.WalkKit
set_option linter.unusedVariables false
set_option linter.unusedSimpArgs false
namespace Go.Proofs.Ytmgkmekknhggbaa
open Go Go.RowKit
theorem below_alloc {w W : World} (h : Below w.heap.size w W) (o : Obj) : Below w.heap.size w (W.alloc o) := h.alloc h.size o
theorem below_drew {B : Nat} {w W : World} (h : Below B w W) : Below B w W.drew := ⟨h.os, h.tape, h.output, h.size, h.block⟩
/-- What was there before a call that only adds is there behind it: cells and marks. -/
theorem bcell {W w1 : World} (hb : Below W.heap.size W w1) : (∀ b o, b < W.heap.size → w1.cell? ⟨b, o, none⟩ = W.cell? ⟨b, o, none⟩) ∧ (∀ b o, b < W.heap.size → w1.frozen? ⟨b, o, none⟩ = W.frozen? ⟨b, o, none⟩) :=
  ⟨fun b o h => hb.cell (p := ⟨b, o, none⟩) h, fun b o h => hb.frozen (p := ⟨b, o, none⟩) h⟩
theorem below_call {w X w1 : World} (k : Below X.heap.size X w1) (h : Below w.heap.size w X) : Below w.heap.size w w1 := h.trans (k.mono h.size)
theorem add_plain (g j : Nat) : (⟨g, 0, none⟩ : Addr).add j = ⟨g, j, none⟩ := by unfold Addr.add; split <;> simp_all
/-- A slice reads as a list of numbers of a kind. -/
def ReadsInt (w : World) (k : IntKind) (A : Option Addr) (n : Nat) (xs : List Int) : Prop :=
  xs.length = n ∧ n ≤ 9223372036854775807 ∧ (0 < n → ∃ ad, A = some ad ∧ ∀ j, j < n → w.cell? (ad.add j) = some (.int k (xs.getD j 0)))
theorem reads_alloc (w : World) (xs : List Int) (T : TypeId) (hn : xs.length ≤ 9223372036854775807) : ReadsInt (w.alloc (.cells (xs.map (Value.int .i64)).toArray T)) .i64 (some ⟨w.heap.size, 0, none⟩) xs.length xs := by
  refine ⟨rfl, hn, fun _ => ⟨_, rfl, fun j hj => ?_⟩⟩
  rw [add_plain]
  simp [List.getD, List.getElem?_eq_getElem hj]
/-- The slice reads as these numbers, up to its length. -/
structure ReadsInts (w : World) (A : Option Addr) (n c : Nat) (zs : List Int) : Prop where
  reads : ReadsInt w .i64 A n zs
  cap : n ≤ c
theorem ReadsInts.nil {w : World} : ReadsInts w none 0 0 [] := ⟨⟨rfl, by decide, fun h => absurd h (by decide)⟩, Nat.le_refl _⟩
theorem ReadsInts.of {w : World} {x : Addr} {n c : Nat} {zs : List Int} (hl : n ≤ c) (hm : c ≤ maxLen) (hz : zs.length = c) (hcell : ∀ i, i < zs.length → w.cell? (x.add i) = some (.int .i64 (zs.getD i 0))) :
    ReadsInts w (some x) n c (zs.take n) := by
  refine ⟨⟨by simp; omega, by unfold maxLen at hm; omega, fun _ => ⟨x, rfl, fun j hj => ?_⟩⟩, hl⟩
  rw [hcell j (by omega)]
  simp [List.getD, List.getElem?_take, hj]
end Go.Proofs.Ytmgkmekknhggbaa

