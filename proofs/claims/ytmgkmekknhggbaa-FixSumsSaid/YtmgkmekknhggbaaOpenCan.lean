/-
  A slice that comes in, under a name. No condition.
-/
import Derived.Test.YtmgkmekknhggbaaOpenRow
set_option linter.unusedVariables false
set_option linter.unusedSimpArgs false
namespace Go.Proofs.Ytmgkmekknhggbaa.Ev
open Go Go.RowKit
/-- Under that name: nil, or a row. -/
def CanAt {α : Type} (e : Elt α) (good : α → Prop) (k : Nat) (u : Value) (r : Option (List Value)) : Prop :=
  (u = .slice none 0 0 ∧ r = none) ∨ ∃ (l : List α) (cap : Nat), u = .slice (some ⟨k, 0, none⟩) l.length cap ∧ r = some (e.row l) ∧ l.length ≤ cap ∧ cap ≤ maxLen ∧ ∀ x ∈ l, good x
section
variable {α : Type} {e : Elt α} {good : α → Prop} {k : Nat} {u : Value} {r : Option (List Value)}
theorem CanAt.nm0 (h : CanAt e good k u r) : ∀ j ∈ nm0 u, j = k := by
  rcases h with ⟨rfl, _⟩ | ⟨l, cap, rfl, _⟩
  · simp [Ev.nm0]
  · simp [Ev.nm0]
theorem CanAt.nms (h : CanAt e good k u r) : ∀ j ∈ nms u, j = k := by
  rcases h with ⟨rfl, _⟩ | ⟨l, cap, rfl, _⟩
  · simp [Ev.nms, nm1, Ev.nm0]
  · simp [Ev.nms, nm1, Ev.nm0]
theorem CanAt.ren (h : CanAt e good k u r) (g : Nm) : ren g u = ren0 g u := by
  rcases h with ⟨rfl, _⟩ | ⟨l, cap, rfl, _⟩ <;> rfl
theorem small_cap {c : Nat} (h : c ≤ maxLen) : Nat.ble mark c = false := by
  cases hb : Nat.ble mark c with
  | false => rfl
  | true =>
    have := Nat.le_of_ble_eq_true hb
    unfold mark maxLen at *
    omega
theorem Opened.can {W : World} {v : Value} (h : Opened W e good v) (k : Nat) : ∃ (u : Value) (r : Option (List Value)) (ad : Nat × Nat), CanAt e good k u r ∧ (∀ l : List (Nat × Nat), l[k]? = some ad → ren0 (Nm.at l) u = v) ∧ (∀ j ∈ Ev.nms u, j = k) ∧
    ∀ cs, r = some cs → (∀ c ∈ cs, leafG c = true) ∧ ∀ l : List (Nat × Nat), l[k]? = some ad → (Blk.ro cs).Holds (Nm.at l) k W.heap[(Nm.at l).blk k]? := by
  rcases h with rfl | ⟨b, off, cap, l, rfl, hl, hm, hg, c, ty, fz, hb, hc⟩
  · exact ⟨.slice none 0 0, none, (0, 0), Or.inl ⟨rfl, rfl⟩, fun _ _ => rfl, by simp [Ev.nms, nm1, Ev.nm0], fun _ h => by simp at h⟩
  · have hca : CanAt e good k (.slice (some ⟨k, 0, none⟩) l.length cap) (some (e.row l)) := Or.inr ⟨l, cap, rfl, rfl, hl, hm, hg⟩
    refine ⟨_, _, (b, off), hca, fun m hk => ?_, hca.nms, fun cs hcs => ?_⟩
    · simp only [ren0, renA, Nm.at, hk, capOf, small_cap hm, cond_false, Nat.add_zero]
    · simp at hcs; subst hcs
      refine ⟨Elt.row_pl _, fun m hk => ?_⟩
      have e1 : (Nm.at m).blk k = b := by simp [Nm.at, hk]
      have e2 : (Nm.at m).base k = off := by simp [Nm.at, hk]
      rw [e1]
      refine ⟨c, ty, fz, hb, fun i v hv => ?_⟩
      rw [e2, hc i v hv, ren0_leafG _ (Elt.row_pl _ v (List.mem_of_getElem? hv))]
end
theorem slOK_ro {size k off n c h : Nat} {b : Option Blk} (hh : h ≤ n) (hn : n ≤ c) (hc : c ≤ maxLen) : SlOK size k off n c none (some (h : Int)) b (.slice (some ⟨k, off, none⟩) h c) := by
  have hm : c < mark := by unfold mark maxLen at *; omega
  refine ⟨0, h, rfl, rfl, Nat.zero_le _, hh, Or.inr ⟨hm, hn, ?_⟩⟩
  by_cases h0 : c = 0
  · exact Or.inl ⟨h0, by simp⟩
  · exact Or.inr ⟨h0, by simp⟩
theorem eInt_row (l : List Int) : eInt.row l = l.map (Value.int .i64) := by
  induction l with
  | nil => rfl
  | cons x l ih => rw [Elt.row_cons, ih]; rfl
theorem int_row {l : List Int} (h : ∀ x ∈ l, I64 x) : IntRow .i64 (eInt.row l) 0 l.length ∧ ∀ z ∈ intsOf (eInt.row l) 0 l.length, I64 z := by
  obtain ⟨h1, h2⟩ := intRow_of .i64 l
  rw [eInt_row]
  exact ⟨h1, by rw [h2]; exact h⟩
theorem ints_of (l : List Int) : intsOf (eInt.row l) 0 l.length = l := by
  rw [eInt_row]; exact (intRow_of .i64 l).2
end Go.Proofs.Ytmgkmekknhggbaa.Ev

