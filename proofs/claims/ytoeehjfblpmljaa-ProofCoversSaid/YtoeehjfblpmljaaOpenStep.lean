/-
  Steps and cuttings that come in. No condition.
-/
import Derived.Test.YtoeehjfblpmljaaOpenRow
set_option linter.unusedVariables false
set_option linter.unusedSimpArgs false
set_option maxRecDepth 100000
namespace Go.Proofs.Ytoeehjfblpmljaa.Ev
open Go Go.RowKit Go.ChangeShapes Go.WideShapes
def fieldsOf (P : Program) (t : TypeId) : Array Field := match P.underlying t with
  | some (.struct fs) => fs
  | _ => #[]
section
variable {H : Type} {enc : TypeId × Value → H} {P : Program} {W : World} {base : Nat} {spare : Nat → Bool} {held : Bool}
theorem field_of {fs : Array Field} {i o c : Nat} {d : TypeDesc} (h : (fs[i]?).map (fun f => (f.offset, P.cellsOf f.type)) = some (o, c)) (hd : (fs[i]?).bind (fun f => P.underlying f.type) = some d) :
    ∃ f, fs[i]? = some f ∧ f.offset = o ∧ P.cellsOf f.type = c ∧ P.underlying f.type = some d := by
  cases hf : fs[i]? with
  | none => rw [hf] at h; simp at h
  | some f =>
    rw [hf] at h hd
    simp at h hd
    exact ⟨f, rfl, h.1, h.2, hd⟩
theorem xs_get {α : Type} {xs : List α} {i : Nat} (h : i < xs.length) : ∃ y, xs[i]? = some y := ⟨xs[i], List.getElem?_eq_getElem h⟩
end
def goodStp (s : Stp) : Prop := I64 s.place ∧ I64 s.at_
theorem elem_step {H : Type} {enc : TypeId × Value → H} {W : World} {base : Nat} {spare : Nat → Bool} {held : Bool} (n : Nat) (cs : List Value) (z : DataW H × List MemPlace) (h : DataW.trod enc Try.prog W base spare held n 23 cs = some z) : ∃ x : Stp, cs = eStp.cells x ∧ goodStp x := by
  obtain ⟨xs, k, _, _, hl, hlen, hf⟩ := DataW.trod_struct (P := Try.prog) (fs := fieldsOf Try.prog 23) (by kernel_rfl) h
  have hl3 : cs.length = 3 := by rw [hl]; kernel_rfl
  have hx3 : xs.length = 3 := by rw [hlen]; kernel_rfl
  obtain ⟨f0, e0, o0, c0, u0⟩ := field_of (P := Try.prog) (fs := fieldsOf Try.prog 23) (i := 0) (o := 0) (c := 1) (d := .bool) (by kernel_rfl) (by kernel_rfl)
  obtain ⟨f1, e1, o1, c1, u1⟩ := field_of (P := Try.prog) (fs := fieldsOf Try.prog 23) (i := 1) (o := 1) (c := 1) (d := .int .i64) (by kernel_rfl) (by kernel_rfl)
  obtain ⟨f2, e2, o2, c2, u2⟩ := field_of (P := Try.prog) (fs := fieldsOf Try.prog 23) (i := 2) (o := 2) (c := 1) (d := .int .i64) (by kernel_rfl) (by kernel_rfl)
  have g0 := hf 0 f0 e0
  have g1 := hf 1 f1 e1
  have g2 := hf 2 f2 e2
  obtain ⟨y0, hy0⟩ := xs_get (xs := xs) (i := 0) (by omega)
  obtain ⟨y1, hy1⟩ := xs_get (xs := xs) (i := 1) (by omega)
  obtain ⟨y2, hy2⟩ := xs_get (xs := xs) (i := 2) (by omega)
  rw [o0, c0, hy0] at g0
  rw [o1, c1, hy1] at g1
  rw [o2, c2, hy2] at g2
  match cs, hl3 with
  | [v0, v1, v2], _ =>
    obtain ⟨b, q0, _⟩ := DataW.trod_bool u0 g0
    obtain ⟨p, q1, _, w1⟩ := DataW.trod_int u1 g1
    obtain ⟨a, q2, _, w2⟩ := DataW.trod_int u2 g2
    simp at q0 q1 q2
    subst q0
    subst q1
    subst q2
    exact ⟨⟨b, p, a⟩, rfl, wf64 w1, wf64 w2⟩
theorem open_steps {H : Type} {enc : TypeId × Value → H} {W : World} {base : Nat} {spare : Nat → Bool} {held : Bool} {r : Reach} {b0 : Nat} {v : Value} {d : DataW H} {ps : List MemPlace} (hv : Value.okWide Try.prog W r b0 24 v) (h : DataW.Trod enc Try.prog W base spare held 24 v d ps) : Opened W eStp goodStp v := by
  have hu : Try.prog.underlying 24 = some (.slice 23) := by kernel_rfl
  obtain ⟨fuel, hf⟩ := h
  simp only [Value.okWide, hu] at hv
  have hcs : v.cells.toList = [v] := by
    obtain ⟨a, l, c, rfl⟩ : ∃ a l c, v = .slice a l c := by
      simp only [Cell.okWide, hu, Cell.ok] at hv
      cases v <;> simp_all
    rfl
  rw [hcs] at hf
  exact open_row hu (by kernel_rfl) elem_step hv hf
theorem elem_int64 {H : Type} {enc : TypeId × Value → H} {W : World} {base : Nat} {spare : Nat → Bool} {held : Bool} (n : Nat) (cs : List Value) (z : DataW H × List MemPlace) (h : DataW.trod enc Try.prog W base spare held n 3 cs = some z) : ∃ x : Int, cs = eInt.cells x ∧ I64 x := by
  obtain ⟨x, h1, h2⟩ := elem_int (P := Try.prog) (k := .i64) (by kernel_rfl) n cs z h
  exact ⟨x, h1, wf64 h2⟩
/-- A struct of two slices of numbers. -/
theorem open_cutting {H : Type} {enc : TypeId × Value → H} {W : World} {base : Nat} {spare : Nat → Bool} {held : Bool} {r : Reach} {b0 : Nat} {v : Value} {d : DataW H} {ps : List MemPlace} (hv : Value.okWide Try.prog W r b0 38 v) (h : DataW.Trod enc Try.prog W base spare held 38 v d ps) :
    ∃ p a, v = .agg #[p, a] ∧ Opened W eInt I64 p ∧ Opened W eInt I64 a := by
  have hu : Try.prog.underlying 38 = some (.struct (fieldsOf Try.prog 38)) := by kernel_rfl
  obtain ⟨fuel, hf⟩ := h
  simp only [Value.okWide, hu] at hv
  obtain ⟨⟨l⟩, rfl, hs, ts, ht1, _, ht2⟩ := hv
  have hl2 : l.length = 2 := by
    have : Try.prog.cellsOf 38 = 2 := by kernel_rfl
    rw [this] at hs
    simpa using hs
  have hct : Try.prog.cellTypes Try.prog.depth 38 = some [36, 36] := by kernel_rfl
  rw [hct] at ht1
  injection ht1 with ht1
  subst ht1
  obtain ⟨xs, k, _, _, hl, hlen, hf⟩ := DataW.trod_struct (P := Try.prog) hu hf
  have hx2 : xs.length = 2 := by rw [hlen]; kernel_rfl
  have hsl : Try.prog.underlying 36 = some (.slice 3) := by kernel_rfl
  obtain ⟨f0, e0, o0, c0, u0⟩ := field_of (P := Try.prog) (fs := fieldsOf Try.prog 38) (i := 0) (o := 0) (c := 1) (d := .slice 3) (by kernel_rfl) (by kernel_rfl)
  obtain ⟨f1, e1, o1, c1, u1⟩ := field_of (P := Try.prog) (fs := fieldsOf Try.prog 38) (i := 1) (o := 1) (c := 1) (d := .slice 3) (by kernel_rfl) (by kernel_rfl)
  have g0 := hf 0 f0 e0
  have g1 := hf 1 f1 e1
  obtain ⟨y0, hy0⟩ := xs_get (xs := xs) (i := 0) (by omega)
  obtain ⟨y1, hy1⟩ := xs_get (xs := xs) (i := 1) (by omega)
  rw [o0, c0, hy0] at g0
  rw [o1, c1, hy1] at g1
  match l, hl2 with
  | [p, a], _ =>
    obtain ⟨t0, hq0, w0⟩ := ht2 0 p rfl
    obtain ⟨t1, hq1, w1⟩ := ht2 1 a rfl
    simp at hq0 hq1
    subst hq0
    subst hq1
    have hcell : ∀ (x : Value) (ft : TypeId), Try.prog.underlying ft = some (.slice 3) → Cell.okWide Try.prog W r b0 36 x → Cell.okWide Try.prog W r b0 ft x := by
      intro x ft hft hx
      simp only [Cell.okWide, hsl, hft, Cell.ok] at hx ⊢
      exact hx
    exact ⟨p, a, rfl, open_row u0 (by kernel_rfl) elem_int64 (hcell p _ u0 w0) g0, open_row u1 (by kernel_rfl) elem_int64 (hcell a _ u1 w1) g1⟩
end Go.Proofs.Ytoeehjfblpmljaa.Ev

