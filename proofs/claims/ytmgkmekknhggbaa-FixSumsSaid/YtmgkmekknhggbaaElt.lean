/-
  Rows of structs as lists, for the evaluator's walks. No condition.
-/
import Derived.Test.YtmgkmekknhggbaaRowE
set_option linter.unusedVariables false
set_option linter.unusedSimpArgs false
namespace Go.Proofs.Ytmgkmekknhggbaa.Ev
open Go Go.RowKit
structure Elt (α : Type) where
  cells : α → List Value
  s : Nat
  of : List Value → α
  len : ∀ x, (cells x).length = s
  ofc : ∀ x, of (cells x) = x
  pl : ∀ x, ∀ c ∈ cells x, leafG c = true
namespace Elt
variable {α : Type} (e : Elt α)
def row (l : List α) : List Value := l.flatMap e.cells
def list (cs : List Value) (off n : Nat) : List α := (List.range n).map fun i => e.of ((cs.drop (off + i * e.s)).take e.s)
def Row (cs : List Value) (off n : Nat) : Prop := off + n * e.s ≤ cs.length ∧ ∀ i, i < n → (cs.drop (off + i * e.s)).take e.s = e.cells (e.of ((cs.drop (off + i * e.s)).take e.s))
variable {e}
theorem row_nil : e.row [] = [] := rfl
theorem row_cons (x : α) (l : List α) : e.row (x :: l) = e.cells x ++ e.row l := by simp [row]
theorem row_app (l m : List α) : e.row (l ++ m) = e.row l ++ e.row m := by simp [row]
theorem row_one (x : α) : e.row [x] = e.cells x := by simp [row]
theorem row_len (l : List α) : (e.row l).length = l.length * e.s := by
  induction l with
  | nil => simp [row]
  | cons x l ih => rw [row_cons, List.length_append, ih, e.len]; simp [Nat.succ_mul]; omega
theorem row_pl (l : List α) : ∀ c ∈ e.row l, leafG c = true := by
  intro c hc
  obtain ⟨x, _, hx⟩ := List.mem_flatMap.1 hc
  exact e.pl x c hx
theorem row_drop (l : List α) (i : Nat) : (e.row l).drop (i * e.s) = e.row (l.drop i) := by
  induction l generalizing i with
  | nil => simp [row]
  | cons x l ih =>
    cases i with
    | zero => simp
    | succ i =>
      rw [row_cons, Nat.succ_mul, Nat.add_comm, ← List.drop_drop, List.drop_left' (e.len x), ih]
      simp
theorem row_take (l : List α) (i : Nat) : (e.row l).take (i * e.s) = e.row (l.take i) := by
  induction l generalizing i with
  | nil => simp [row]
  | cons x l ih =>
    cases i with
    | zero => simp [row]
    | succ i =>
      rw [row_cons, Nat.succ_mul, List.take_append, e.len, List.take_of_length_le (by rw [e.len]; omega), show i * e.s + e.s - e.s = i * e.s by omega, ih]
      rw [List.take_succ_cons, row_cons]
theorem row_at (l : List α) (tail : List Value) {i : Nat} {x : α} (h : l[i]? = some x) : ((e.row l ++ tail).drop (i * e.s)).take e.s = e.cells x := by
  have hlt := (List.getElem?_eq_some_iff.1 h).1
  have he := (List.getElem?_eq_some_iff.1 h).2
  have h1 : (i + 1) * e.s ≤ l.length * e.s := Nat.mul_le_mul_right _ hlt
  rw [Nat.succ_mul] at h1
  rw [List.drop_append_of_le_length (by rw [row_len]; omega), row_drop, List.drop_eq_getElem_cons hlt, he, row_cons, List.append_assoc, List.take_left' (e.len x)]
theorem row_sub (l : List α) (tail : List Value) {i : Nat} {x : α} (h : l[i]? = some x) : sub (e.row l ++ tail) (i * e.s) e.s = some (e.cells x) := by
  have hlt := (List.getElem?_eq_some_iff.1 h).1
  have h1 : (i + 1) * e.s ≤ l.length * e.s := Nat.mul_le_mul_right _ hlt
  rw [Nat.succ_mul] at h1
  rw [sub_of (by rw [List.length_append, row_len]; omega), row_at l tail h]
/-- A row that is laid as a list tells: it reads as that list. -/
theorem canon (l : List α) (tail : List Value) : e.Row (e.row l ++ tail) 0 l.length ∧ e.list (e.row l ++ tail) 0 l.length = l := by
  refine ⟨⟨by rw [List.length_append, row_len]; omega, fun i hi => ?_⟩, ?_⟩
  · rw [Nat.zero_add, row_at l tail (List.getElem?_eq_getElem hi), e.ofc]
  · apply List.ext_getElem
    · simp [list]
    · intro i h1 h2
      simp only [list, List.getElem_map, List.getElem_range, Nat.zero_add]
      rw [row_at l tail (List.getElem?_eq_getElem h2), e.ofc]
theorem canon0 (l : List α) : e.Row (e.row l) 0 l.length ∧ e.list (e.row l) 0 l.length = l := by have := canon (e := e) l []; simpa using this
theorem list_len (cs : List Value) (off n : Nat) : (e.list cs off n).length = n := by simp [list]
theorem Row.get {cs : List Value} {off n : Nat} (h : e.Row cs off n) {i : Nat} {x : α} (hx : (e.list cs off n)[i]? = some x) : sub cs (off + i * e.s) e.s = some (e.cells x) := by
  have hlt := (List.getElem?_eq_some_iff.1 hx).1
  have he := (List.getElem?_eq_some_iff.1 hx).2
  rw [list_len] at hlt
  have h1 : (i + 1) * e.s ≤ n * e.s := Nat.mul_le_mul_right _ hlt
  rw [Nat.succ_mul] at h1
  have h0 := h.1
  rw [sub_of (by omega), h.2 i hlt]
  simp [list] at he
  rw [he]
/-- What is read of a row of structs. -/
theorem Row.read {P : Program} {ty : TypeId} (ha : aggT P ty = some true) (hs : sizeOfT P ty = some e.s) {cs : List Value} {off n : Nat} (h : e.Row cs off n) {i : Nat} {x : α} (hx : (e.list cs off n)[i]? = some x) : readPart P ty cs (off + i * e.s) = some (.agg ⟨e.cells x⟩) := by
  simp only [readPart, ha, hs, h.get hx]
theorem Row.read1 {P : Program} {ty : TypeId} (ha : aggT P ty = some false) (hs : e.s = 1) {cs : List Value} {off n : Nat} (h : e.Row cs off n) {i : Nat} {x : α} (hx : (e.list cs off n)[i]? = some x) {v : Value} (hv : e.cells x = [v]) (hl : leaf v = true) : readPart P ty cs (off + i) = some v := by
  have := h.get hx
  rw [hs, Nat.mul_one, hv] at this
  simp [readPart, ha, this, hl]
theorem Row.take {cs : List Value} {off n m : Nat} (h : e.Row cs off n) (hm : m ≤ n) : e.Row cs off m ∧ e.list cs off m = (e.list cs off n).take m := by
  have h1 : m * e.s ≤ n * e.s := Nat.mul_le_mul_right _ hm
  refine ⟨⟨by have := h.1; omega, fun i hi => h.2 i (by omega)⟩, ?_⟩
  simp only [list, ← List.map_take, List.take_range, Nat.min_eq_left hm]
end Elt
/-! ### What the evaluator owes of rows -/
section
variable {α : Type} {e : Elt α}
theorem appOK {L new : List α} {ty : TypeId} {own : Option Blk} {n m size bytes : Nat} {src res : List Value} (hown : own = some (.vec (e.row L) ty size)) (hs : size = e.s) (hm : m = new.length) (hsrc : src = e.row new) (hn : n ≤ L.length) (hres : res = e.row (L.take n ++ new))
    (h1 : 1 ≤ m) (hb : n + m ≤ 16777216) (hby : (n + m) * bytes ≤ 140737488355328) : AppOK own n mk size bytes m src 0 res := by
  subst hown
  subst hs
  subst hm
  subst hsrc
  subst hres
  refine ⟨e.row (L.take n), e.row new, ?_, ?_, h1, hb, hby, Elt.row_app _ _, rfl, ?_, (Elt.row_take L n).symm⟩
  · rw [sub_of (by rw [Elt.row_len]; omega), List.drop_zero, List.take_of_length_le (by rw [Elt.row_len]; omega)]
  · exact allB_iff.2 fun c hc => leaf_of_leafG (Elt.row_pl _ c hc)
  · rw [Elt.row_len]; exact Nat.mul_le_mul_right _ hn
theorem appOK_nil {new : List α} {m size bytes : Nat} {src res : List Value} (hs : size = e.s) (hm : m = new.length) (hsrc : src = e.row new) (hres : res = e.row new)
    (h1 : 1 ≤ m) (hb : m ≤ 16777216) (hby : m * bytes ≤ 140737488355328) : AppOK none 0 0 size bytes m src 0 res := by
  subst hs
  subst hm
  subst hsrc
  subst hres
  refine ⟨[], e.row new, ?_, ?_, h1, by omega, by rw [Nat.zero_add]; exact hby, rfl, rfl, rfl, rfl⟩
  · rw [sub_of (by rw [Elt.row_len]; omega), List.drop_zero, List.take_of_length_le (by rw [Elt.row_len]; omega)]
  · exact allB_iff.2 fun c hc => leaf_of_leafG (Elt.row_pl _ c hc)
theorem slOK_pre {size k n h : Nat} {i : Int} {cs : List Value} {ty : TypeId} (hi : i = (h : Int)) (hh : h ≤ n) (hs : 1 ≤ size) (hc : n * size ≤ cs.length) :
    SlOK size k 0 n mk none (some i) (some (.vec cs ty size)) (.slice (some ⟨k, 0, none⟩) h mk) :=
  ⟨0, h, rfl, hi, Nat.zero_le _, hh, Or.inl ⟨Nat.le_refl _, ⟨cs, ty, rfl, hs, by rw [Nat.sub_self, Nat.zero_add]; exact hc⟩, Or.inl rfl, by simp⟩⟩
theorem read_row {P : Program} {ty : TypeId} (ha : aggT P ty = some true) (hs : sizeOfT P ty = some e.s) {L : List α} {i : Nat} {x : α} (h : L[i]? = some x) : readPart P ty (e.row L) (0 + (Int.ofNat i).toNat * e.s) = some (.agg ⟨e.cells x⟩) := by
  have := (Elt.canon0 (e := e) L).1.read (P := P) (ty := ty) ha hs (i := i) (x := x) (by rw [(Elt.canon0 L).2]; exact h)
  exact this
theorem i64_pred {n : Nat} (h : n < 9223372036854775807) : Value.int .i64 (IntKind.i64.wrap (Int.ofNat n.succ - 1)) = Value.int .i64 (Int.ofNat n) := by
  have e : Int.ofNat n.succ - 1 = (n : Int) := by show ((n + 1 : Nat) : Int) - 1 = n; omega
  rw [e]
  exact i64_id (w := (n : Int)) rfl (by omega) (by omega)
theorem nat_in {n : Nat} : (0 : Int) ≤ Int.ofNat n ∧ Int.ofNat n < Int.ofNat n.succ := ⟨Int.natCast_nonneg n, Int.ofNat_lt.2 (Nat.lt_succ_self n)⟩
end
abbrev i64s (l : List Int) : List Value := l.map (Value.int .i64)
/-- Numbers. -/
def eInt : Elt Int := ⟨fun z => [.int .i64 z], 1, fun cs => match cs with | [.int _ z] => z | _ => 0, fun _ => rfl, fun _ => rfl, fun x c hc => by simp at hc; subst hc; rfl⟩
def eWord : Elt Int := ⟨fun z => [.int .u64 z], 1, fun cs => match cs with | [.int _ z] => z | _ => 0, fun _ => rfl, fun _ => rfl, fun x c hc => by simp at hc; subst hc; rfl⟩
/-- A box: five spans. -/
structure Bx where
  a0 : Int
  b0 : Int
  a1 : Int
  b1 : Int
  a2 : Int
  b2 : Int
  a3 : Int
  b3 : Int
  a4 : Int
  b4 : Int
deriving DecidableEq
def Bx.cs (x : Bx) : List Value := [.int .i64 x.a0, .int .i64 x.b0, .int .i64 x.a1, .int .i64 x.b1, .int .i64 x.a2, .int .i64 x.b2, .int .i64 x.a3, .int .i64 x.b3, .int .i64 x.a4, .int .i64 x.b4]
def eBox : Elt Bx := ⟨Bx.cs, 10, fun cs => match cs with | [.int _ a0, .int _ b0, .int _ a1, .int _ b1, .int _ a2, .int _ b2, .int _ a3, .int _ b3, .int _ a4, .int _ b4] => ⟨a0, b0, a1, b1, a2, b2, a3, b3, a4, b4⟩ | _ => ⟨0, 0, 0, 0, 0, 0, 0, 0, 0, 0⟩, fun _ => rfl, fun _ => rfl, fun x c hc => by
  simp [Bx.cs] at hc
  rcases hc with rfl | rfl | rfl | rfl | rfl | rfl | rfl | rfl | rfl | rfl <;> rfl⟩
/-- A step of a proof. -/
structure Stp where
  sum : Bool
  place : Int
  at_ : Int
deriving DecidableEq
def eStp : Elt Stp := ⟨fun x => [.bool x.sum, .int .i64 x.place, .int .i64 x.at_], 3, fun cs => match cs with | [.bool s, .int _ p, .int _ a] => ⟨s, p, a⟩ | _ => ⟨false, 0, 0⟩, fun _ => rfl, fun _ => rfl, fun x c hc => by
  simp at hc
  rcases hc with rfl | rfl | rfl <;> rfl⟩
/-- A piece: a box, a value. -/
structure Pc where
  box : Bx
  val : Int
deriving DecidableEq
def ePc : Elt Pc := ⟨fun x => x.box.cs ++ [.int .i64 x.val], 11, fun cs => match cs with | [.int _ a0, .int _ b0, .int _ a1, .int _ b1, .int _ a2, .int _ b2, .int _ a3, .int _ b3, .int _ a4, .int _ b4, .int _ v] => ⟨⟨a0, b0, a1, b1, a2, b2, a3, b3, a4, b4⟩, v⟩ | _ => ⟨⟨0, 0, 0, 0, 0, 0, 0, 0, 0, 0⟩, 0⟩, fun _ => rfl, fun _ => rfl, fun x c hc => by
  simp [Bx.cs] at hc
  rcases hc with rfl | rfl | rfl | rfl | rfl | rfl | rfl | rfl | rfl | rfl | rfl <;> rfl⟩
/-- cells of numbers and bools that are the same. -/
theorem cellsEq_app {a b c d : List Value} (h : a.length = b.length) : cellsEq (a ++ c) (b ++ d) = (cellsEq a b && cellsEq c d) := by
  have key : ∀ (x y : Value) (xs ys : List Value), xs.length = ys.length → cellsEq (x :: xs) (y :: ys) = (leafEq x y && cellsEq xs ys) := by
    intro x y xs ys hl
    cases xs with
    | nil =>
      cases ys with
      | nil => simp [cellsEq]
      | cons _ _ => simp at hl
    | cons u us =>
      cases ys with
      | nil => simp at hl
      | cons _ _ => simp [cellsEq]
  have key2 : ∀ (x y : Value) (xs ys : List Value), cellsEq (x :: xs) (y :: ys) = (leafEq x y && cellsEq xs ys) := by
    intro x y xs ys
    by_cases hl : xs.length = ys.length
    · exact key x y xs ys hl
    · cases xs with
      | nil =>
        cases ys with
        | nil => simp at hl
        | cons _ _ => simp [cellsEq]
      | cons u us =>
        cases ys with
        | nil => simp [cellsEq]
        | cons _ _ => simp [cellsEq]
  induction a generalizing b with
  | nil =>
    cases b with
    | nil => simp [cellsEq]
    | cons _ _ => simp at h
  | cons x a ih =>
    cases b with
    | nil => simp at h
    | cons y b =>
      simp only [List.cons_append, key2, ih (b := b) (by simpa using h), Bool.and_assoc]
end Go.Proofs.Ytmgkmekknhggbaa.Ev

