/-
  Rows of numbers as the evaluator tells them. No condition.
-/
import Derived.Test.YtmgkmekknhggbaaEvProg
set_option linter.unusedVariables false
set_option linter.unusedSimpArgs false
namespace Go.Proofs.Ytmgkmekknhggbaa.Ev
open Go Go.RowKit
/-- The mark of a room. -/
abbrev mk : Nat := Ev.mark
def ro1 (cs : List Value) : Heap := upd (fun _ => none) 0 (some (.ro cs))
/-- The numbers that stand in a row from a place on. -/
def intsOf (cs : List Value) (off n : Nat) : List Int := ((cs.drop off).take n).map intV
def IntRow (k : IntKind) (cs : List Value) (off n : Nat) : Prop := off + n ≤ cs.length ∧ ∀ j, j < n → cs[off + j]? = some (.int k ((intsOf cs off n).getD j 0))
theorem intsOf_len {cs : List Value} {off n : Nat} (h : off + n ≤ cs.length) : (intsOf cs off n).length = n := by simp [intsOf]; omega
theorem intRow_of (k : IntKind) (zs : List Int) : IntRow k (zs.map (Value.int k)) 0 zs.length ∧ intsOf (zs.map (Value.int k)) 0 zs.length = zs := by
  have h : intsOf (zs.map (Value.int k)) 0 zs.length = zs := by
    simp only [intsOf, List.drop_zero]
    rw [List.take_of_length_le (by simp), List.map_map]
    conv => rhs; rw [← List.map_id zs]
    exact List.map_congr_left fun x _ => rfl
  refine ⟨⟨by simp, fun j hj => ?_⟩, h⟩
  rw [h]
  simp [List.getD, List.getElem?_eq_getElem hj]
/-- What is read of a row of one-cell values. -/
theorem readPart_one {P : Program} {ty : TypeId} (ha : aggT P ty = some false) {cs : List Value} {off : Nat} {v : Value} (h : cs[off]? = some v) (hl : leaf v = true) : readPart P ty cs off = some v := by
  have hlt : off < cs.length := (List.getElem?_eq_some_iff.1 h).1
  have he : cs[off] = v := (List.getElem?_eq_some_iff.1 h).2
  have : sub cs off 1 = some [v] := by
    rw [sub_of (by omega)]
    simp [List.drop_eq_getElem_cons hlt, he]
  simp [readPart, ha, this, hl]
theorem i64_id {z w : Int} (h : z = w) (h1 : -9223372036854775808 ≤ w) (h2 : w ≤ 9223372036854775807) : Value.int .i64 (IntKind.i64.wrap z) = Value.int .i64 w := by
  subst h; rw [wrap_id ⟨h1, h2⟩]
theorem i64_succ {i : Nat} (h : i < 9223372036854775807) : Value.int .i64 (IntKind.i64.wrap (Int.ofNat i.succ)) = Value.int .i64 (Int.ofNat i.succ) := by
  refine i64_id rfl ?_ ?_
  · exact Int.le_trans (by decide) (Int.natCast_nonneg (i + 1))
  · show ((i + 1 : Nat) : Int) ≤ _
    omega
end Go.Proofs.Ytmgkmekknhggbaa.Ev

