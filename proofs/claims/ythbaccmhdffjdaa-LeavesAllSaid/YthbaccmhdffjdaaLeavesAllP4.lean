/-
  The row of the law copselaw13.LeavesAll: for every input the call returns true, and each argument reads afterwards as it read before. No condition beside the form's own.
-/
import Derived.Test.YthbaccmhdffjdaaRows
import Derived.WalkKit
import Derived.ProofKit
import Derived.KernelRfl
import Derived.Lib.SmallJoins
import Derived.OpenShut
import Derived.ShutString
import Derived.ChangeOld
import Derived.Below
import Derived.SizedLaws
import Derived.Test.YthbaccmhdffjdaaLeavesAllP3
set_option linter.unusedVariables false
set_option linter.unusedSimpArgs false
set_option maxRecDepth 100000
namespace Go.Proofs.Ythbaccmhdffjdaa.Lv
open Go Go.RowKit Go.Proofs.Ythbaccmhdffjdaa.Ev Go.Proofs.Ythbaccmhdffjdaa.NodeE Go.Proofs.Ythbaccmhdffjdaa.Tr Go.Proofs.Ythbaccmhdffjdaa.BoxF
/-! ### Points in boxes -/
def _root_.Go.Proofs.Ythbaccmhdffjdaa.Ev.Bx.In (x : Bx) (p : Pt) (t : Int) : Prop := (x.a0 ≤ p.p0 ∧ p.p0 ≤ x.b0) ∧ (x.a1 ≤ p.p1 ∧ p.p1 ≤ x.b1) ∧ (x.a2 ≤ p.p2 ∧ p.p2 ≤ x.b2) ∧ (x.a3 ≤ p.p3 ∧ p.p3 ≤ x.b3) ∧ (x.a4 ≤ t ∧ t ≤ x.b4)
def _root_.Go.Proofs.Ythbaccmhdffjdaa.Ev.Bx.hs (x : Bx) (p : Pt) (t : Int) : Bool := BoxF.hasB x.a0 x.b0 x.a1 x.b1 x.a2 x.b2 x.a3 x.b3 x.a4 x.b4 p.p0 p.p1 p.p2 p.p3 t
/-- Within, where the inner one is not empty. -/
def _root_.Go.Proofs.Ythbaccmhdffjdaa.Ev.Bx.Le (x y : Bx) : Prop := (y.a0 ≤ x.a0 ∧ x.b0 ≤ y.b0) ∧ (y.a1 ≤ x.a1 ∧ x.b1 ≤ y.b1) ∧ (y.a2 ≤ x.a2 ∧ x.b2 ≤ y.b2) ∧ (y.a3 ≤ x.a3 ∧ x.b3 ≤ y.b3) ∧ (y.a4 ≤ x.a4 ∧ x.b4 ≤ y.b4)
theorem hs_iff {x : Bx} {p : Pt} {t : Int} : x.hs p t = true ↔ x.In p t := by
  simp [Bx.hs, Bx.In, BoxF.hasB, h3, cond_eq_ite]
theorem emp_iff {x : Bx} : x.emp = false ↔ x.a0 ≤ x.b0 ∧ x.a1 ≤ x.b1 ∧ x.a2 ≤ x.b2 ∧ x.a3 ≤ x.b3 ∧ x.a4 ≤ x.b4 := by
  simp [Bx.emp, emptyB, e2, cond_eq_ite]
theorem in_emp {x : Bx} {p : Pt} {t : Int} (h : x.In p t) : x.emp = false := by
  obtain ⟨h0, h1, h2, h3, h4⟩ := h
  exact emp_iff.2 ⟨by omega, by omega, by omega, by omega, by omega⟩
def _root_.Go.Proofs.Ythbaccmhdffjdaa.Ev.Bx.pt (x : Bx) : Pt := ⟨x.a0, x.a1, x.a2, x.a3⟩
def _root_.Go.Proofs.Ythbaccmhdffjdaa.Ev.Bx.top (x : Bx) : Pt := ⟨x.b0, x.b1, x.b2, x.b3⟩
theorem pt_in {x : Bx} (h : x.emp = false) : x.In x.pt x.a4 ∧ x.In x.top x.b4 := by
  obtain ⟨h0, h1, h2, h3, h4⟩ := emp_iff.1 h
  exact ⟨⟨⟨Int.le_refl _, h0⟩, ⟨Int.le_refl _, h1⟩, ⟨Int.le_refl _, h2⟩, ⟨Int.le_refl _, h3⟩, ⟨Int.le_refl _, h4⟩⟩, ⟨⟨h0, Int.le_refl _⟩, ⟨h1, Int.le_refl _⟩, ⟨h2, Int.le_refl _⟩, ⟨h3, Int.le_refl _⟩, ⟨h4, Int.le_refl _⟩⟩⟩
theorem le_refl (x : Bx) : x.Le x := ⟨⟨Int.le_refl _, Int.le_refl _⟩, ⟨Int.le_refl _, Int.le_refl _⟩, ⟨Int.le_refl _, Int.le_refl _⟩, ⟨Int.le_refl _, Int.le_refl _⟩, ⟨Int.le_refl _, Int.le_refl _⟩⟩
theorem le_trans {x y z : Bx} (h : x.Le y) (g : y.Le z) : x.Le z := by
  obtain ⟨h0, h1, h2, h3, h4⟩ := h
  obtain ⟨g0, g1, g2, g3, g4⟩ := g
  exact ⟨by omega, by omega, by omega, by omega, by omega⟩
theorem le_in {x y : Bx} {p : Pt} {t : Int} (h : x.Le y) (g : x.In p t) : y.In p t := by
  obtain ⟨h0, h1, h2, h3, h4⟩ := h
  obtain ⟨g0, g1, g2, g3, g4⟩ := g
  exact ⟨by omega, by omega, by omega, by omega, by omega⟩
theorem le_emp {x y : Bx} (h : x.Le y) (g : x.emp = false) : y.emp = false := in_emp (le_in h (pt_in g).1)
theorem span_low (a b n v : Int) : (cutLo a b n ≤ v ∧ v ≤ cutHi a b n) ↔ (a ≤ v ∧ v ≤ b) ∧ v ≤ n := by
  have := cut_cases a b n; omega
theorem span_high (a b n v : Int) : (cutLo' a b n ≤ v ∧ v ≤ cutHi' a b n) ↔ (a ≤ v ∧ v ≤ b) ∧ n < v := by
  have := cut_cases a b n; omega
theorem span_le (a b n : Int) : (cutLo a b n ≤ cutHi a b n → a ≤ cutLo a b n ∧ cutHi a b n ≤ b) ∧ (cutLo' a b n ≤ cutHi' a b n → a ≤ cutLo' a b n ∧ cutHi' a b n ≤ b) := by
  have := cut_cases a b n; omega
theorem in_low (x : Bx) (p : Pt) (t n : Int) {f : Int} (h0 : 0 ≤ f) (h4 : f < 4) : (x.low f n).In p t ↔ x.In p t ∧ p.at f ≤ n := by
  have : f = 0 ∨ f = 1 ∨ f = 2 ∨ f = 3 := by omega
  rcases this with h | h | h | h <;> subst h <;> simp [Bx.low, Bx.In, cL, cH, Pt.at, span_low] <;> omega
theorem in_high (x : Bx) (p : Pt) (t n : Int) {f : Int} (h0 : 0 ≤ f) (h4 : f < 4) : (x.high f n).In p t ↔ x.In p t ∧ n < p.at f := by
  have : f = 0 ∨ f = 1 ∨ f = 2 ∨ f = 3 := by omega
  rcases this with h | h | h | h <;> subst h <;> simp [Bx.high, Bx.In, dL, dH, Pt.at, span_high] <;> omega
theorem cut_le {x : Bx} {n : Int} {f : Int} (h0 : 0 ≤ f) (h5 : f < 5) : ((x.low f n).emp = false → (x.low f n).Le x) ∧ ((x.high f n).emp = false → (x.high f n).Le x) := by
  rw [emp_iff, emp_iff]
  obtain ⟨l0, l1, l2, l3, l4⟩ := le_refl x
  have : f = 0 ∨ f = 1 ∨ f = 2 ∨ f = 3 ∨ f = 4 := by omega
  rcases this with h | h | h | h | h <;> subst h
  · exact ⟨fun e => ⟨(span_le _ _ _).1 e.1, l1, l2, l3, l4⟩, fun e => ⟨(span_le _ _ _).2 e.1, l1, l2, l3, l4⟩⟩
  · exact ⟨fun e => ⟨l0, (span_le _ _ _).1 e.2.1, l2, l3, l4⟩, fun e => ⟨l0, (span_le _ _ _).2 e.2.1, l2, l3, l4⟩⟩
  · exact ⟨fun e => ⟨l0, l1, (span_le _ _ _).1 e.2.2.1, l3, l4⟩, fun e => ⟨l0, l1, (span_le _ _ _).2 e.2.2.1, l3, l4⟩⟩
  · exact ⟨fun e => ⟨l0, l1, l2, (span_le _ _ _).1 e.2.2.2.1, l4⟩, fun e => ⟨l0, l1, l2, (span_le _ _ _).2 e.2.2.2.1, l4⟩⟩
  · exact ⟨fun e => ⟨l0, l1, l2, l3, (span_le _ _ _).1 e.2.2.2.2⟩, fun e => ⟨l0, l1, l2, l3, (span_le _ _ _).2 e.2.2.2.2⟩⟩
/-- A cut of a lesser box is less than the cut of the greater one. -/
theorem span_mono {a b c d n : Int} (h : c ≤ a ∧ b ≤ d) : (cutLo a b n ≤ cutHi a b n → cutLo c d n ≤ cutLo a b n ∧ cutHi a b n ≤ cutHi c d n) ∧ (cutLo' a b n ≤ cutHi' a b n → cutLo' c d n ≤ cutLo' a b n ∧ cutHi' a b n ≤ cutHi' c d n) := by
  have h1 := cut_cases a b n
  have h2 := cut_cases c d n
  omega
theorem cut_mono {x y : Bx} {n : Int} {f : Int} (h0 : 0 ≤ f) (h5 : f < 5) (h : x.Le y) : ((x.low f n).emp = false → (x.low f n).Le (y.low f n)) ∧ ((x.high f n).emp = false → (x.high f n).Le (y.high f n)) := by
  rw [emp_iff, emp_iff]
  obtain ⟨l0, l1, l2, l3, l4⟩ := h
  have : f = 0 ∨ f = 1 ∨ f = 2 ∨ f = 3 ∨ f = 4 := by omega
  rcases this with h | h | h | h | h <;> subst h
  · exact ⟨fun e => ⟨(span_mono l0).1 e.1, l1, l2, l3, l4⟩, fun e => ⟨(span_mono l0).2 e.1, l1, l2, l3, l4⟩⟩
  · exact ⟨fun e => ⟨l0, (span_mono l1).1 e.2.1, l2, l3, l4⟩, fun e => ⟨l0, (span_mono l1).2 e.2.1, l2, l3, l4⟩⟩
  · exact ⟨fun e => ⟨l0, l1, (span_mono l2).1 e.2.2.1, l3, l4⟩, fun e => ⟨l0, l1, (span_mono l2).2 e.2.2.1, l3, l4⟩⟩
  · exact ⟨fun e => ⟨l0, l1, l2, (span_mono l3).1 e.2.2.2.1, l4⟩, fun e => ⟨l0, l1, l2, (span_mono l3).2 e.2.2.2.1, l4⟩⟩
  · exact ⟨fun e => ⟨l0, l1, l2, l3, (span_mono l4).1 e.2.2.2.2⟩, fun e => ⟨l0, l1, l2, l3, (span_mono l4).2 e.2.2.2.2⟩⟩
/-! ### The box of each node -/
/-- A name is given once. -/
theorem named_once {ws : List Int} {dim : Int} (h : rightI ws dim = true) {i j : Nat} {w v c : Int} (hij : i < j) (hw : ws[i]? = some w) (hv : ws[j]? = some v) (h1 : c ∈ namesW w) (h2 : c ∈ namesW v) : False := by
  have hj := (List.getElem?_eq_some_iff.1 hv).1
  have hc : 1 ≤ c ∧ c < ws.length := by
    cases hl : lfB w
    · obtain ⟨_, _, _, a, b, p, q⟩ := good_inner ((right_parts.1 h).2.1 i w hw) hl
      simp only [namesW, hl, cond_false, List.mem_cons, List.not_mem_nil, or_false] at h1
      omega
    · simp [namesW, hl] at h1
  obtain ⟨k, rfl⟩ := Int.eq_ofNat_of_zero_le (show 0 ≤ c by omega)
  have ho := (right_parts.1 h).2.2 k (by omega) (by omega)
  have e : ws = ws.take j ++ (v :: ws.drop (j + 1)) := by
    conv => lhs; rw [← List.take_append_drop j ws]
    rw [List.drop_eq_getElem_cons hj, (List.getElem?_eq_some_iff.1 hv).2]
  have c1 : 1 ≤ ((ws.take j).flatMap namesW).count (k : Int) := List.count_pos_iff.2 (List.mem_flatMap.2 ⟨w, List.mem_of_getElem? (i := i) (by rw [List.getElem?_take, if_pos hij]; exact hw), h1⟩)
  have c2 : 1 ≤ (namesW v).count (k : Int) := List.count_pos_iff.2 h2
  unfold named at ho
  rw [e, List.flatMap_append, List.flatMap_cons, List.count_append, List.count_append] at ho
  omega
structure Boxes (ws : List Int) (b : Bx) (R : List Bx) : Prop where
  len : R.length = ws.length
  root : R[0]? = some b
  left : ∀ (i : Nat) (w : Int) (x : Bx), ws[i]? = some w → lfB w = false → R[i]? = some x → R[(uX w).toNat]? = some (x.low (uF w) (low32 w))
  right : ∀ (i : Nat) (w : Int) (x : Bx), ws[i]? = some w → lfB w = false → R[i]? = some x → R[(uY w).toNat]? = some (x.high (uF w) (low32 w))
def outR (R : List Bx) : Nat → List Int → List Pc
  | _, [] => []
  | i, w :: ws => (bif lfB w && !(R.getD i Bx.zero).emp then [⟨R.getD i Bx.zero, low32 w⟩] else []) ++ outR R (i + 1) ws
theorem outR_congr {R S : List Bx} : ∀ {ws : List Int} {i : Nat}, (∀ k, k < ws.length → R[i + k]? = S[i + k]?) → outR R i ws = outR S i ws
  | [], _, _ => rfl
  | w :: ws, i, h => by
    have h0 := h 0 (by simp)
    have e : R.getD i Bx.zero = S.getD i Bx.zero := by
      rw [List.getD_eq_getElem?_getD, List.getD_eq_getElem?_getD]
      rw [Nat.add_zero] at h0
      rw [h0]
    simp only [outR, e]
    have hr := outR_congr (R := R) (S := S) (ws := ws) (i := i + 1) fun k hk => by
      have := h (k + 1) (by rw [List.length_cons]; omega)
      rw [show i + (k + 1) = i + 1 + k by omega] at this
      exact this
    rw [hr]
theorem outR_app {R : List Bx} : ∀ (l m : List Int) (i : Nat), outR R i (l ++ m) = outR R i l ++ outR R (i + l.length) m
  | [], m, i => by simp [outR]
  | w :: l, m, i => by
    simp only [List.cons_append, outR, outR_app l m (i + 1), List.length_cons, List.append_assoc]
    rw [show i + (l.length + 1) = i + 1 + l.length by omega]
theorem outR_len {R : List Bx} : ∀ (ws : List Int) (i : Nat), (∀ w ∈ ws, okB w = true) → (outR R i ws).length ≤ (leafIx i ws).length
  | [], i, _ => Nat.le_refl _
  | w :: ws, i, h => by
    have := outR_len (R := R) ws (i + 1) fun v hv => h v (List.mem_cons_of_mem _ hv)
    have ho := h w (List.mem_cons_self ..)
    simp only [outR, leafIx, ho, Bool.true_and]
    cases lfB w
    · simpa using this
    · cases (R.getD i Bx.zero).emp <;> simp <;> omega
theorem boxes_at {ws : List Int} {dim : Int} (h : rightI ws dim = true) (b : Bx) : ∀ i, i ≤ ws.length → ∃ R : List Bx, ∃ O : List Pc, bxGo 0 (ws.take i) (bx0 ws.length b) = (R, O) ∧ R.length = ws.length ∧ R[0]? = some b ∧
    (∀ (j : Nat) (w : Int) (x : Bx), j < i → ws[j]? = some w → lfB w = false → R[j]? = some x → R[(uX w).toNat]? = some (x.low (uF w) (low32 w)) ∧ R[(uY w).toNat]? = some (x.high (uF w) (low32 w))) ∧ O = outR R 0 (ws.take i)
  | 0, _ => by
    obtain ⟨⟨h1, _⟩, _, _⟩ := right_parts.1 h
    refine ⟨_, _, rfl, by simp, ?_, fun j w x hj => absurd hj (Nat.not_lt_zero _), rfl⟩
    rw [List.getElem?_set_self (by simp; omega)]
  | i + 1, hi => by
    obtain ⟨R, O, e, l, r0, hb, ho⟩ := boxes_at h b i (by omega)
    obtain ⟨w, hw⟩ : ∃ w, ws[i]? = some w := ⟨_, List.getElem?_eq_getElem (by omega)⟩
    have htk : ws.take (i + 1) = ws.take i ++ [w] := by rw [List.take_add_one, hw]; rfl
    have htl : (ws.take i).length = i := by rw [List.length_take]; omega
    have en : bxGo 0 (ws.take (i + 1)) (bx0 ws.length b) = bxS i w (R, O) := by rw [htk, bxGo_app, e, htl, Nat.zero_add]; rfl
    have eo : ∀ S : List Bx, outR S 0 (ws.take (i + 1)) = outR S 0 (ws.take i) ++ outR S i [w] := fun S => by rw [htk, outR_app, htl, Nat.zero_add]
    cases hl : lfB w
    · obtain ⟨_, d1, d2, d3, d4, d5, d6⟩ := good_inner ((right_parts.1 h).2.1 i w hw) hl
      obtain ⟨X, hX⟩ := Int.eq_ofNat_of_zero_le (show 0 ≤ uX w by omega)
      obtain ⟨Y, hY⟩ := Int.eq_ofNat_of_zero_le (show 0 ≤ uY w by omega)
      obtain ⟨x, hx⟩ : ∃ x, R[i]? = some x := ⟨_, List.getElem?_eq_getElem (by omega)⟩
      have hg : R.getD i Bx.zero = x := by rw [List.getD_eq_getElem?_getD, hx]; rfl
      have es : bxS i w (R, O) = ((R.set X (x.low (uF w) (low32 w))).set Y (x.high (uF w) (low32 w)), O) := by
        simp only [bxS, hl, cond_false, hX, hY, Int.toNat_natCast, hg]
      have get : ∀ k, k ≠ X → k ≠ Y → ((R.set X (x.low (uF w) (low32 w))).set Y (x.high (uF w) (low32 w)))[k]? = R[k]? := fun k k1 k2 => by
        rw [List.getElem?_set_ne (by omega), List.getElem?_set_ne (by omega)]
      have getX : ((R.set X (x.low (uF w) (low32 w))).set Y (x.high (uF w) (low32 w)))[X]? = some (x.low (uF w) (low32 w)) := by
        rw [List.getElem?_set_ne (by omega), List.getElem?_set_self (by omega)]
      have getY : ((R.set X (x.low (uF w) (low32 w))).set Y (x.high (uF w) (low32 w)))[Y]? = some (x.high (uF w) (low32 w)) := by
        rw [List.getElem?_set_self (by rw [List.length_set]; omega)]
      refine ⟨_, _, en.trans es, by simp [l], by rw [get 0 (by omega) (by omega)]; exact r0, fun j v z hj hv hvl hz => ?_, ?_⟩
      · by_cases hji : j = i
        · subst hji
          rw [hw] at hv
          injection hv with hv
          subst hv
          rw [get j (by omega) (by omega), hx] at hz
          injection hz with hz
          subst hz
          rw [hX, hY, Int.toNat_natCast, Int.toNat_natCast]
          exact ⟨getX, getY⟩
        · rw [get j (by omega) (by omega)] at hz
          obtain ⟨c1, c2⟩ := hb j v z (by omega) hv hvl hz
          obtain ⟨_, f1, f2, f3, f4, f5, f6⟩ := good_inner ((right_parts.1 h).2.1 j v hv) hvl
          have n1 : ∀ c, c ∈ namesW v → c ≠ uX w ∧ c ≠ uY w := fun c hc => by
            constructor
            · intro h1; subst h1; exact named_once h (show j < i by omega) hv hw hc (by simp [namesW, hl])
            · intro h1; subst h1; exact named_once h (show j < i by omega) hv hw hc (by simp [namesW, hl])
          obtain ⟨a1, a2⟩ := n1 (uX v) (by simp [namesW, hvl])
          obtain ⟨a3, a4⟩ := n1 (uY v) (by simp [namesW, hvl])
          rw [get _ (by omega) (by omega), get _ (by omega) (by omega)]
          exact ⟨c1, c2⟩
      · rw [eo, ho]
        have e1 : outR ((R.set X (x.low (uF w) (low32 w))).set Y (x.high (uF w) (low32 w))) i [w] = [] := by simp [outR, hl]
        rw [e1, List.append_nil]
        exact outR_congr fun k hk => by rw [htl] at hk; rw [Nat.zero_add, get k (by omega) (by omega)]
    · have es : bxS i w (R, O) = (R, O ++ outR R i [w]) := by
        simp only [bxS, hl, cond_true, outR, Bool.true_and, List.append_nil]
        cases (R.getD i Bx.zero).emp <;> simp
      refine ⟨_, _, en.trans es, l, r0, fun j v z hj hv hvl hz => ?_, by rw [eo, ho]⟩
      by_cases hji : j = i
      · subst hji
        rw [hw] at hv
        injection hv with hv
        subst hv
        rw [hl] at hvl
        exact absurd hvl (by simp)
      · exact hb j v z (by omega) hv hvl hz
theorem boxes {ws : List Int} {dim : Int} (h : rightI ws dim = true) (b : Bx) : ∃ R, Boxes ws b R ∧ pcsI ws b = outR R 0 ws := by
  obtain ⟨R, O, e, l, r0, hb, ho⟩ := boxes_at h b ws.length (Nat.le_refl _)
  rw [List.take_length] at e ho
  exact ⟨R, ⟨l, r0, fun i w x hw hl hx => (hb i w x (List.getElem?_eq_some_iff.1 hw).1 hw hl hx).1, fun i w x hw hl hx => (hb i w x (List.getElem?_eq_some_iff.1 hw).1 hw hl hx).2⟩, by unfold pcsI; rw [e, ho]⟩
/-! ### A point's way -/
inductive On (ws : List Int) (p : Pt) : Nat → Prop
  | root : On ws p 0
  | step (i : Nat) (w : Int) : On ws p i → ws[i]? = some w → lfB w = false → On ws p (goes p w).toNat
theorem on_go {ws : List Int} {dim : Int} (h : rightI ws dim = true) {p : Pt} {j : Nat} (ho : On ws p j) : ∃ t, t ≤ j ∧ ∀ k, goW ws p (t + k) 0 = goW ws p k j := by
  induction ho with
  | root => exact ⟨0, Nat.le_refl _, fun k => by rw [Nat.zero_add]⟩
  | step i w _ hw hl ih =>
    obtain ⟨t, ht, he⟩ := ih
    have hn := goes_next h (p := p) hw hl
    refine ⟨t + 1, by omega, fun k => ?_⟩
    rw [show t + 1 + k = t + (k + 1) by omega, he, goW_step hw (right_ok h w (List.mem_of_getElem? hw)) hl]
theorem on_lt {ws : List Int} {dim : Int} (h : rightI ws dim = true) {p : Pt} {j : Nat} (ho : On ws p j) : j < ws.length := by
  cases ho with
  | root => have := (right_parts.1 h).1; omega
  | step i w _ hw hl => exact (goes_next h (p := p) hw hl).2
theorem on_leaf {ws : List Int} {dim : Int} (h : rightI ws dim = true) {p : Pt} {j : Nat} {w : Int} (ho : On ws p j) (hw : ws[j]? = some w) (hl : lfB w = true) : goW ws p 31 0 = some j := by
  obtain ⟨t, ht, he⟩ := on_go h ho
  have hj := on_lt h ho
  have h31 := (right_parts.1 h).1
  have := he (31 - t - 1 + 1)
  rw [show t + (31 - t - 1 + 1) = 31 by omega, goW_leaf hw (right_ok h w (List.mem_of_getElem? hw)) hl] at this
  exact this
theorem go_on {ws : List Int} {p : Pt} : ∀ {k i j : Nat}, On ws p i → goW ws p k i = some j → On ws p j
  | 0, i, j, _, h => by simp [goW] at h
  | k + 1, i, j, ho, h => by
    cases hw : ws[i]? with
    | none => simp only [goW, hw] at h; exact absurd h (by simp)
    | some w =>
      cases hk : okB w with
      | false => rw [goW_bad hw hk] at h; exact absurd h (by simp)
      | true =>
        cases hl : lfB w with
        | false => rw [goW_step hw hk hl] at h; exact go_on (On.step i w ho hw hl) h
        | true => rw [goW_leaf hw hk hl] at h; injection h with h; subst h; exact ho
section
variable {ws : List Int} {dim : Int} {b : Bx} {R : List Bx}
theorem in_on (h : rightI ws dim = true) (hB : Boxes ws b R) {p : Pt} {t : Int} (hb : b.In p t) {j : Nat} (ho : On ws p j) : ∃ x, R[j]? = some x ∧ x.In p t := by
  induction ho with
  | root => exact ⟨b, hB.root, hb⟩
  | step i w _ hw hl ih =>
    obtain ⟨x, hx, hin⟩ := ih
    obtain ⟨⟨f0, f4⟩, _⟩ := inner_bounds (right_ok h w (List.mem_of_getElem? hw)) hl
    cases hg : decide (p.at (uF w) ≤ low32 w)
    · have := of_decide_eq_false hg
      refine ⟨_, by unfold goes; rw [hg]; exact hB.right i w x hw hl hx, (in_high x p t _ f0 f4).2 ⟨hin, by omega⟩⟩
    · have := of_decide_eq_true hg
      exact ⟨_, by unfold goes; rw [hg]; exact hB.left i w x hw hl hx, (in_low x p t _ f0 f4).2 ⟨hin, this⟩⟩
/-- Each node but the first is named by a lesser one. -/
theorem parent (h : rightI ws dim = true) {j : Nat} (h1 : 1 ≤ j) (h2 : j < ws.length) : ∃ i w, i < j ∧ ws[i]? = some w ∧ lfB w = false ∧ ((uX w).toNat = j ∨ (uY w).toNat = j) := by
  have hn := (right_parts.1 h).2.2 j h1 h2
  have hm : (j : Int) ∈ ws.flatMap namesW := List.count_pos_iff.1 (by unfold named at hn; omega)
  obtain ⟨w, hw, hj⟩ := List.mem_flatMap.1 hm
  obtain ⟨i, hi⟩ := List.mem_iff_getElem?.1 hw
  cases hl : lfB w
  · obtain ⟨_, d1, d2, d3, d4, d5, d6⟩ := good_inner ((right_parts.1 h).2.1 i w hi) hl
    simp only [namesW, hl, cond_false, List.mem_cons, List.not_mem_nil, or_false] at hj
    exact ⟨i, w, by omega, hi, hl, by omega⟩
  · simp [namesW, hl] at hj
theorem on_in (h : rightI ws dim = true) (hB : Boxes ws b R) {p : Pt} {t : Int} : ∀ (j : Nat) (x : Bx), R[j]? = some x → x.In p t → On ws p j ∧ b.In p t := by
  intro j
  induction j using Nat.strongRecOn with
  | ind j ih =>
    intro x hx hin
    have hj := (List.getElem?_eq_some_iff.1 hx).1
    rw [hB.len] at hj
    by_cases h0 : j = 0
    · subst h0
      have := hB.root
      rw [hx] at this
      injection this with this
      subst this
      exact ⟨On.root, hin⟩
    · obtain ⟨i, w, hij, hw, hl, hc⟩ := parent h (show 1 ≤ j by omega) hj
      obtain ⟨y, hy⟩ : ∃ y, R[i]? = some y := ⟨_, List.getElem?_eq_getElem (by rw [hB.len]; omega)⟩
      obtain ⟨⟨f0, f4⟩, _⟩ := inner_bounds (right_ok h w (List.mem_of_getElem? hw)) hl
      rcases hc with hc | hc
      · have := hB.left i w y hw hl hy
        rw [hc, hx] at this
        injection this with this
        subst this
        obtain ⟨g1, g2⟩ := (in_low y p t _ f0 f4).1 hin
        obtain ⟨o, hb⟩ := ih i hij y hy g1
        have := On.step i w o hw hl
        unfold goes at this
        rw [decide_eq_true g2, cond_true, hc] at this
        exact ⟨this, hb⟩
      · have := hB.right i w y hw hl hy
        rw [hc, hx] at this
        injection this with this
        subst this
        obtain ⟨g1, g2⟩ := (in_high y p t _ f0 f4).1 hin
        obtain ⟨o, hb⟩ := ih i hij y hy g1
        have := On.step i w o hw hl
        unfold goes at this
        rw [decide_eq_false (by omega), cond_false, hc] at this
        exact ⟨this, hb⟩
/-- A node's box that is not empty is within the whole. -/
theorem box_le (h : rightI ws dim = true) (hB : Boxes ws b R) : ∀ (j : Nat) (x : Bx), R[j]? = some x → x.emp = false → x.Le b := by
  intro j
  induction j using Nat.strongRecOn with
  | ind j ih =>
    intro x hx he
    have hj := (List.getElem?_eq_some_iff.1 hx).1
    rw [hB.len] at hj
    by_cases h0 : j = 0
    · subst h0
      have := hB.root
      rw [hx] at this
      injection this with this
      subst this
      exact le_refl _
    · obtain ⟨i, w, hij, hw, hl, hc⟩ := parent h (show 1 ≤ j by omega) hj
      obtain ⟨y, hy⟩ : ∃ y, R[i]? = some y := ⟨_, List.getElem?_eq_getElem (by rw [hB.len]; omega)⟩
      obtain ⟨⟨f0, f4⟩, _⟩ := inner_bounds (right_ok h w (List.mem_of_getElem? hw)) hl
      rcases hc with hc | hc
      · have := hB.left i w y hw hl hy
        rw [hc, hx] at this
        injection this with this
        subst this
        have hle := (cut_le f0 (by omega)).1 he
        exact le_trans hle (ih i hij y hy (le_emp hle he))
      · have := hB.right i w y hw hl hy
        rw [hc, hx] at this
        injection this with this
        subst this
        have hle := (cut_le f0 (by omega)).2 he
        exact le_trans hle (ih i hij y hy (le_emp hle he))
/-- Within a part of the box each node has a part of its box. -/
theorem box_part (h : rightI ws dim = true) (hB : Boxes ws b R) {b' : Bx} {S : List Bx} (hS : Boxes ws b' S) (hbb : b'.emp = false → b'.Le b) : ∀ (j : Nat) (x y : Bx), S[j]? = some x → R[j]? = some y → x.emp = false → x.Le y := by
  intro j
  induction j using Nat.strongRecOn with
  | ind j ih =>
    intro x y hx hy he
    have hj := (List.getElem?_eq_some_iff.1 hx).1
    rw [hS.len] at hj
    by_cases h0 : j = 0
    · subst h0
      have h1 := hS.root
      have h2 := hB.root
      rw [hx] at h1
      rw [hy] at h2
      injection h1 with h1
      injection h2 with h2
      subst h1
      subst h2
      exact hbb he
    · obtain ⟨i, w, hij, hw, hl, hc⟩ := parent h (show 1 ≤ j by omega) hj
      obtain ⟨u, hu⟩ : ∃ u, S[i]? = some u := ⟨_, List.getElem?_eq_getElem (by rw [hS.len]; omega)⟩
      obtain ⟨v, hv⟩ : ∃ v, R[i]? = some v := ⟨_, List.getElem?_eq_getElem (by rw [hB.len]; omega)⟩
      obtain ⟨⟨f0, f4⟩, _⟩ := inner_bounds (right_ok h w (List.mem_of_getElem? hw)) hl
      rcases hc with hc | hc
      · have e1 := hS.left i w u hw hl hu
        have e2 := hB.left i w v hw hl hv
        rw [hc, hx] at e1
        rw [hc, hy] at e2
        injection e1 with e1
        injection e2 with e2
        subst e1
        subst e2
        have hle := (cut_le f0 (by omega)).1 he
        exact (cut_mono f0 (by omega) (ih i hij u v hu hv (le_emp hle he))).1 he
      · have e1 := hS.right i w u hw hl hu
        have e2 := hB.right i w v hw hl hv
        rw [hc, hx] at e1
        rw [hc, hy] at e2
        injection e1 with e1
        injection e2 with e2
        subst e1
        subst e2
        have hle := (cut_le f0 (by omega)).2 he
        exact (cut_mono f0 (by omega) (ih i hij u v hu hv (le_emp hle he))).2 he
/-- What is among the pieces. -/
theorem mem_outR {y : Pc} : ∀ {ws : List Int} {i : Nat}, y ∈ outR R i ws ↔ ∃ k w, ws[k]? = some w ∧ lfB w = true ∧ (R.getD (i + k) Bx.zero).emp = false ∧ y = ⟨R.getD (i + k) Bx.zero, low32 w⟩
  | [], i => by simp [outR]
  | w :: ws, i => by
    rw [outR, List.mem_append, mem_outR (ws := ws) (i := i + 1)]
    constructor
    · rintro (h | ⟨k, v, h1, h2, h3, h4⟩)
      · cases hc : lfB w && !(R.getD i Bx.zero).emp
        · rw [hc] at h; simp at h
        · rw [hc] at h
          simp at h hc
          exact ⟨0, w, rfl, hc.1, hc.2, h⟩
      · exact ⟨k + 1, v, by simpa using h1, h2, by rw [show i + (k + 1) = i + 1 + k by omega]; exact h3, by rw [show i + (k + 1) = i + 1 + k by omega]; exact h4⟩
    · rintro ⟨k, v, h1, h2, h3, h4⟩
      cases k with
      | zero =>
        simp at h1
        subst h1
        left
        rw [Nat.add_zero] at h3 h4
        rw [h2, h3]
        simp [h4]
      | succ k =>
        right
        exact ⟨k, v, by simpa using h1, h2, by rw [show i + 1 + k = i + (k + 1) by omega]; exact h3, by rw [show i + 1 + k = i + (k + 1) by omega]; exact h4⟩
theorem mem_out {y : Pc} (hB : Boxes ws b R) (hy : y ∈ outR R 0 ws) : ∃ (j : Nat) (w : Int), ws[j]? = some w ∧ lfB w = true ∧ R[j]? = some y.box ∧ y.box.emp = false ∧ y.val = low32 w := by
  obtain ⟨k, w, h1, h2, h3, h4⟩ := mem_outR.1 hy
  rw [Nat.zero_add] at h3 h4
  have hk := (List.getElem?_eq_some_iff.1 h1).1
  have e := (getB (r := R) (i := k) (by rw [hB.len]; exact hk)).2
  subst h4
  exact ⟨k, w, h1, h2, e, h3, rfl⟩
theorem out_mem (hB : Boxes ws b R) {j : Nat} {w : Int} {x : Bx} (hw : ws[j]? = some w) (hl : lfB w = true) (hx : R[j]? = some x) (he : x.emp = false) : (⟨x, low32 w⟩ : Pc) ∈ outR R 0 ws := by
  have hj := (List.getElem?_eq_some_iff.1 hw).1
  have e := (getB (r := R) (i := j) (by rw [hB.len]; exact hj)).2
  rw [hx] at e
  injection e with e
  refine mem_outR.2 ⟨j, w, hw, hl, ?_, ?_⟩
  · rw [Nat.zero_add, ← e]; exact he
  · rw [Nat.zero_add, ← e]
/-- The pieces that have a point: one, of the leaf that the tree sends it to. -/
theorem piece_val (h : rightI ws dim = true) (hB : Boxes ws b R) {p : Pt} {t : Int} {y : Pc} (hy : y ∈ outR R 0 ws) (hin : y.box.In p t) : y.val = endV ws p ∧ b.In p t := by
  obtain ⟨j, w, hw, hl, hx, he, hv⟩ := mem_out hB hy
  obtain ⟨ho, hb⟩ := on_in h hB j y.box hx hin
  have hg := on_leaf h ho hw hl
  obtain ⟨_, hend, _⟩ := end_some hg
  refine ⟨?_, hb⟩
  rw [hv, hend, List.getD_eq_getElem?_getD, hw]
  rfl
theorem piece_is (h : rightI ws dim = true) (hB : Boxes ws b R) {p : Pt} {t : Int} (hb : b.In p t) : ∃ y ∈ outR R 0 ws, y.box.In p t := by
  obtain ⟨j, hj⟩ := walk_ends h p
  obtain ⟨w, hw, _, hl⟩ := goW_is hj
  obtain ⟨x, hx, hin⟩ := in_on h hB hb (go_on On.root hj)
  exact ⟨⟨x, low32 w⟩, out_mem hB hw hl hx (in_emp hin), hin⟩
theorem count_outR {f : Pc → Bool} {j : Nat} : ∀ {ws : List Int} {i : Nat}, i ≤ j → (∀ k w, ws[k]? = some w → lfB w = true → (R.getD (i + k) Bx.zero).emp = false → f ⟨R.getD (i + k) Bx.zero, low32 w⟩ = decide (i + k = j)) → (∃ w, ws[j - i]? = some w ∧ lfB w = true ∧ (R.getD j Bx.zero).emp = false) → (outR R i ws).countP f = 1
  | [], i, _, _, ⟨w, h, _⟩ => by simp at h
  | w :: ws, i, hij, hf, ⟨v, h1, h2, h3⟩ => by
    rw [outR, List.countP_append]
    by_cases he : i = j
    · subst he
      rw [Nat.sub_self] at h1
      simp at h1
      subst h1
      have hf0 := hf 0 w rfl h2 (by simpa using h3)
      simp only [Nat.add_zero, decide_true] at hf0
      rw [h2, h3]
      have hz : (outR R (i + 1) ws).countP f = 0 := by
        rw [List.countP_eq_zero]
        intro y hy
        obtain ⟨k, u, g1, g2, g3, g4⟩ := mem_outR.1 hy
        have := hf (k + 1) u (by simpa using g1) g2 (by rw [show i + (k + 1) = i + 1 + k by omega]; exact g3)
        rw [show i + (k + 1) = i + 1 + k by omega] at this
        rw [g4, this]
        simp
        omega
      rw [hz]
      rw [List.getD_eq_getElem?_getD] at hf0
      simp [hf0]
    · have hrest := count_outR (ws := ws) (i := i + 1) (f := f) (j := j) (by omega) (fun k u g1 g2 g3 => by
        have := hf (k + 1) u (by simpa using g1) g2 (by rw [show i + (k + 1) = i + 1 + k by omega]; exact g3)
        rw [show i + (k + 1) = i + 1 + k by omega] at this
        exact this) ⟨v, by rw [show j - i = (j - (i + 1)) + 1 by omega] at h1; simpa using h1, h2, h3⟩
      rw [hrest]
      cases hc : lfB w && !(R.getD i Bx.zero).emp
      · simp
      · simp at hc
        have := hf 0 w rfl hc.1 (by simpa using hc.2)
        rw [Nat.add_zero, List.getD_eq_getElem?_getD, decide_eq_false he] at this
        simp [this]
theorem piece_one (h : rightI ws dim = true) (hB : Boxes ws b R) {p : Pt} {t : Int} (hb : b.In p t) : (outR R 0 ws).countP (fun y => y.box.hs p t) = 1 := by
  obtain ⟨j, hj⟩ := walk_ends h p
  obtain ⟨w, hw, _, hl⟩ := goW_is hj
  obtain ⟨x, hx, hin⟩ := in_on h hB hb (go_on On.root hj)
  have hxd : R.getD j Bx.zero = x := by rw [List.getD_eq_getElem?_getD, hx]; rfl
  refine count_outR (j := j) (Nat.zero_le _) (fun k v hv hvl he => ?_) ⟨w, hw, hl, by rw [hxd]; exact in_emp hin⟩
  rw [Nat.zero_add] at he ⊢
  have hk := (List.getElem?_eq_some_iff.1 hv).1
  have hR := (getB (r := R) (i := k) (by rw [hB.len]; exact hk)).2
  by_cases hkj : k = j
  · subst hkj
    rw [decide_eq_true rfl, hxd]
    exact hs_iff.2 hin
  · rw [decide_eq_false hkj]
    cases hh : (R.getD k Bx.zero).hs p t
    · rfl
    · obtain ⟨ho, _⟩ := on_in h hB k _ hR (hs_iff.1 hh)
      have := on_leaf h ho hv hvl
      rw [hj] at this
      injection this with this
      exact absurd this.symm hkj
end
/-! ### What the statements ask -/
/-- The value of the first piece that has a point. -/
def atV (ps : List Pc) (p : Pt) (t : Int) : Int := match ps.find? (fun y => y.box.hs p t) with
  | some y => y.val
  | none => 0
def atB (ps : List Pc) (p : Pt) (t : Int) : Bool := ps.any fun y => y.box.hs p t
def _root_.Go.Proofs.Ythbaccmhdffjdaa.Ev.Bx.join (x y : Bx) : Bx := ⟨minI x.a0 y.a0, maxI x.b0 y.b0, minI x.a1 y.a1, maxI x.b1 y.b1, minI x.a2 y.a2, maxI x.b2 y.b2, minI x.a3 y.a3, maxI x.b3 y.b3, minI x.a4 y.a4, maxI x.b4 y.b4⟩
def hullGo (b : Bx) (l : List Pc) : Bx := l.foldl (fun b y => b.join y.box) b
def hullI (ps : List Pc) : Bx := match ps with
  | [] => Bx.zero
  | y :: l => hullGo y.box l
theorem join_le {x y b : Bx} (h : x.Le b) (g : y.Le b) : (x.join y).Le b ∧ x.Le (x.join y) ∧ y.Le (x.join y) := by
  obtain ⟨h0, h1, h2, h3, h4⟩ := h
  obtain ⟨g0, g1, g2, g3, g4⟩ := g
  simp only [Bx.Le, Bx.join, minI_eq, maxI_eq]
  omega
theorem hullGo_le {b : Bx} : ∀ {l : List Pc} {x : Bx}, x.Le b → (∀ y ∈ l, y.box.Le b) → (hullGo x l).Le b ∧ x.Le (hullGo x l) ∧ ∀ y ∈ l, y.box.Le (hullGo x l)
  | [], x, h, _ => ⟨h, le_refl _, fun y hy => by simp at hy⟩
  | y :: l, x, h, g => by
    obtain ⟨j1, j2, j3⟩ := join_le h (g y (List.mem_cons_self ..))
    obtain ⟨k1, k2, k3⟩ := hullGo_le (l := l) j1 fun z hz => g z (List.mem_cons_of_mem _ hz)
    refine ⟨k1, le_trans j2 k2, fun z hz => ?_⟩
    rcases List.mem_cons.1 hz with rfl | hz
    · exact le_trans j3 k2
    · exact k3 z hz
theorem hull_le {ps : List Pc} {b : Bx} (hne : ps ≠ []) (h : ∀ y ∈ ps, y.box.Le b) : (hullI ps).Le b ∧ ∀ y ∈ ps, y.box.Le (hullI ps) := by
  cases ps with
  | nil => exact absurd rfl hne
  | cons y l =>
    obtain ⟨k1, k2, k3⟩ := hullGo_le (l := l) (h y (List.mem_cons_self ..)) fun z hz => h z (List.mem_cons_of_mem _ hz)
    refine ⟨k1, fun z hz => ?_⟩
    rcases List.mem_cons.1 hz with rfl | hz
    · exact k2
    · exact k3 z hz
theorem box_ext {x y : Bx} (h : x.Le y) (hl : x.In y.pt y.a4) (hh : x.In y.top y.b4) : x = y := by
  obtain ⟨a0, b0, a1, b1, a2, b2, a3, b3, a4, b4⟩ := x
  obtain ⟨c0, d0, c1, d1, c2, d2, c3, d3, c4, d4⟩ := y
  simp only [Bx.Le, Bx.In, Bx.pt, Bx.top] at *
  simp only [Bx.mk.injEq]
  omega
section
variable {ws : List Int} {dim : Int} {b : Bx}
theorem list_pcs (h : rightI ws 4 = true) (he : b.emp = false) : listP ws b = pcsI ws b := by simp only [listP, h, he, Bool.not_false, Bool.and_self, cond_true]
theorem list_ne (h : rightI ws 4 = true) (he : b.emp = false) : listP ws b ≠ [] := by
  obtain ⟨R, hB, hp⟩ := boxes h b
  rw [list_pcs h he, hp]
  obtain ⟨y, hy, _⟩ := piece_is h hB (pt_in he).1
  intro hn
  rw [hn] at hy
  simp at hy
theorem list_in (h : rightI ws 4 = true) (he : b.emp = false) : ∀ y ∈ listP ws b, y.box.emp = false ∧ y.box.Le b := by
  obtain ⟨R, hB, hp⟩ := boxes h b
  rw [list_pcs h he, hp]
  intro y hy
  obtain ⟨j, w, _, _, hx, hye, _⟩ := mem_out hB hy
  exact ⟨hye, box_le h hB j _ hx hye⟩
theorem list_val (h : rightI ws 4 = true) (he : b.emp = false) {p : Pt} {t : Int} : ∀ y ∈ listP ws b, y.box.In p t → y.val = endV ws p := by
  obtain ⟨R, hB, hp⟩ := boxes h b
  rw [list_pcs h he, hp]
  exact fun y hy hin => (piece_val h hB hy hin).1
theorem list_one (h : rightI ws 4 = true) {p : Pt} {t : Int} (hb : b.In p t) : (listP ws b).countP (fun y => y.box.hs p t) = 1 := by
  obtain ⟨R, hB, hp⟩ := boxes h b
  rw [list_pcs h (in_emp hb), hp]
  exact piece_one h hB hb
theorem list_at (h : rightI ws 4 = true) {p : Pt} {t : Int} (hb : b.In p t) : atB (listP ws b) p t = true ∧ atV (listP ws b) p t = endV ws p := by
  have he := in_emp hb
  obtain ⟨y, hy, hin⟩ : ∃ y ∈ listP ws b, y.box.In p t := by
    obtain ⟨R, hB, hp⟩ := boxes h b
    rw [list_pcs h he, hp]
    exact piece_is h hB hb
  refine ⟨List.any_eq_true.2 ⟨y, hy, hs_iff.2 hin⟩, ?_⟩
  unfold atV
  cases hf : (listP ws b).find? (fun y => y.box.hs p t) with
  | none => exact absurd (hs_iff.2 hin) (by simpa using List.find?_eq_none.1 hf y hy)
  | some z =>
    have h1 := List.find?_some hf
    exact list_val h he z (List.mem_of_find?_eq_some hf) (hs_iff.1 h1)
theorem list_hull (h : rightI ws 4 = true) (he : b.emp = false) : hullI (listP ws b) = b := by
  have hin := list_in h he
  obtain ⟨k1, k2⟩ := hull_le (list_ne h he) fun y hy => (hin y hy).2
  obtain ⟨R, hB, hp⟩ := boxes h b
  have e := list_pcs h he
  obtain ⟨y, hy, hyi⟩ := piece_is h hB (pt_in he).1
  obtain ⟨z, hz, hzi⟩ := piece_is h hB (pt_in he).2
  rw [← hp, ← e] at hy hz
  exact box_ext k1 (le_in (k2 y hy) hyi) (le_in (k2 z hz) hzi)
theorem list_len_le (h : rightI ws 4 = true) : (listP ws b).length ≤ (leafIx 0 ws).length := by
  cases he : b.emp
  · obtain ⟨R, hB, hp⟩ := boxes h b
    rw [list_pcs h he, hp]
    exact outR_len ws 0 (right_ok h)
  · simp [listP, he]
/-- Over one point there is one piece: the point. -/
theorem list_point (h : rightI ws 4 = true) {p : Pt} {t : Int} (hb : b.In p t) (h1 : b.pt = b.top) (h2 : b.a4 = b.b4) : listP ws b = [⟨b, endV ws p⟩] := by
  have he := in_emp hb
  have hin := list_in h he
  have hone := list_one h hb
  have hall : ∀ y ∈ listP ws b, y.box = b := fun y hy => by
    obtain ⟨g1, g2⟩ := hin y hy
    obtain ⟨a0, b0, a1, b1, a2, b2, a3, b3, a4, b4⟩ := b
    obtain ⟨⟨c0, d0, c1, d1, c2, d2, c3, d3, c4, d4⟩, v⟩ := y
    have g1 := emp_iff.1 g1
    simp only [Bx.Le, Bx.pt, Bx.top, Pt.mk.injEq] at *
    simp only [Bx.mk.injEq]
    omega
  have hc : (listP ws b).countP (fun y => y.box.hs p t) = (listP ws b).length := List.countP_eq_length.2 fun y hy => by rw [hall y hy]; exact hs_iff.2 hb
  rw [hc] at hone
  match hl : listP ws b, hone with
  | [y], _ =>
    have hy : y ∈ listP ws b := by rw [hl]; exact List.mem_cons_self ..
    have h3 := hall y hy
    have h4 := list_val h he y hy (by rw [h3]; exact hb)
    obtain ⟨bx, v⟩ := y
    simp only at h3 h4
    rw [h3, h4]
end
end Go.Proofs.Ythbaccmhdffjdaa.Lv


set_option linter.unusedVariables false
set_option linter.unusedSimpArgs false
namespace Go.Proofs.Ythbaccmhdffjdaa.Ev
open Go Go.RowKit
abbrev VcF := List Value → Option Blk → Option (Value × List Prop)
noncomputable def vcSum (F : VcF) : List Value → Heap → Nat → Option Res := fun args H nm =>
  match canL can1 args 0 with
  | some (ar, []) => match F ar none with
    | some (v, ob) => some ⟨v, [], [], ob⟩
    | none => none
  | some (ar, [k]) => match H k with
    | some b => match F ar (some b) with
      | some (v, ob) => some ⟨v, [], [k], b.plain :: ob⟩
      | none => none
    | none => none
  | _ => none
theorem apU_same {H : Heap} {k : Nat} {b : Blk} (h : H k = some b) : apU (usOf [(0, k)] (assocN [0] [b])) H = H := by
  funext j
  have := apU_usOf (H1 := assocN [0] [b]) (pr := [(0, k)]) (H := H) (k := j) (by simp)
  by_cases hj : j = k
  · subst hj
    rw [this.1 0 (by simp), h]
    rfl
  · exact this.2 fun i hi => hj (by simp at hi; exact hi.2)
theorem vcSum_ok {P : Program} {f : FuncId} (he : Enters P f) {F : VcF}
    (h0 : ∀ ar v ob, F ar none = some (v, ob) → (∀ p ∈ ob, p) → (∀ g, rn g v = v) ∧ (∀ g1 g2 : Nm, ren g1 v = ren g2 v) ∧ CallSpec P f ar (assocN [] []) 0 v (assocN [] []))
    (h1 : ∀ ar b v ob, F ar (some b) = some (v, ob) → (∀ p ∈ ob, p) → b.plain → (∀ g, rn g v = v) ∧ (∀ g1 g2 : Nm, ren g1 v = ren g2 v) ∧ CallSpec P f ar (assocN [0] [b]) 1 v (assocN [0] [b])) : SumOK P f (vcSum F) := by
  refine ⟨he, ?_, ?_⟩
  · intro args H nm r hr hob M w0 g B w hH hargs hn
    unfold vcSum at hr
    split at hr
    · rename_i ar hc
      split at hr
      · rename_i v ob hF
        simp only [Option.some.injEq] at hr
        subst hr
        obtain ⟨e1, e2, e3⟩ := h0 ar v ob hF hob
        obtain ⟨c1, c2⟩ := canL_ok can1_ok hc
        have := spec_calls (old := []) (new := []) (H := H) (nm := nm) e3 (by simp) (by simp) (fun j k hjk => by simp at hjk) (fun j b hb => by simp [assocN] at hb) (fun m k hmk => by simp at hmk) (fun j k hjk => by simp at hjk)
          (fun g1 g2 _ => e2 g1 g2) (fun u hu g1 g2 _ => ren_names fun j hj => absurd (c2 u hu j hj) (by simp)) hH hn
        rw [c1 (look []) (fun j k hj => by simp at hj)] at this
        rw [e1] at this
        exact this
      · simp at hr
    · rename_i ar k hc
      split at hr
      · rename_i b hb
        split at hr
        · rename_i v ob hF
          simp only [Option.some.injEq] at hr
          subst hr
          have hpl : b.plain := hob _ (List.mem_cons_self ..)
          obtain ⟨e1, e2, e3⟩ := h1 ar b v ob hF (fun p hp => hob p (List.mem_cons_of_mem _ hp)) hpl
          obtain ⟨c1, c2⟩ := canL_ok can1_ok hc
          have := spec_calls (old := [(0, k)]) (new := []) (H := H) (nm := nm) e3 (by simp) (by simp)
            (fun j l hjl => by simp at hjl; obtain ⟨rfl, rfl⟩ := hjl; exact ⟨Nat.zero_lt_one, b, hb, rfl, hpl⟩)
            (fun j c hc => by
              have : j = 0 := by
                simp only [assocN] at hc
                cases hz : Nat.beq j 0
                · rw [hz] at hc; simp at hc
                · exact Nat.eq_of_beq_eq_true hz
              subst this; exact ⟨k, by simp⟩)
            (fun m l hml => by simp at hml)
            (fun j l hjl c hcc => by
              simp at hjl; obtain ⟨rfl, rfl⟩ := hjl
              have hc' : some b = some c := hcc
              injection hc' with this
              exact ⟨this ▸ hpl, fun hw => ⟨c, by rw [← this]; rfl, hw⟩⟩)
            (fun g1 g2 _ => e2 g1 g2)
            (fun u hu g1 g2 ag => ren_names fun j hj => by
              have := c2 u hu j hj
              have hj0 : j = 0 := by simp at this; omega
              subst hj0
              exact ag 0 k (by simp)) hH hn
          have hlk : At (look [(0, k)]) 0 [k] := fun j l hj => by
            cases j with
            | zero => simp at hj; subst hj; rfl
            | succ j => simp at hj
          rw [c1 _ hlk, e1, List.append_nil, apU_same hb] at this
          exact this
        · simp at hr
      · simp at hr
    · simp at hr
  · intro args H nm r hr H' hH'
    unfold vcSum at hr ⊢
    split at hr
    · rename_i ar hc
      exact hr
    · rename_i ar k hc
      split at hr
      · rename_i b hb
        split at hr
        · rename_i v ob hF
          simp only [Option.some.injEq] at hr
          have : H' k = H k := hH' k (by rw [← hr]; simp)
          simp only [this, hb, hF, hr]
        · simp at hr
      · simp at hr
    · simp at hr
end Go.Proofs.Ythbaccmhdffjdaa.Ev


set_option linter.unusedVariables false
set_option linter.unusedSimpArgs false
set_option maxRecDepth 100000
namespace Go.Proofs.Ythbaccmhdffjdaa.Lv
open Go Go.RowKit Go.Proofs.Ythbaccmhdffjdaa.Ev Go.Proofs.Ythbaccmhdffjdaa.NodeE Go.Proofs.Ythbaccmhdffjdaa.Tr Go.Proofs.Ythbaccmhdffjdaa.BoxF Go.Proofs.Ythbaccmhdffjdaa.Lv

def fAt (cs : List Value) (o n c : Nat) (p : Pt) (t : Int) (Q : Nat → Prop) : LoopF Nat where
  ts _ := [2, 4, 10, 11, 12]
  hs _ := [0, 10]
  tv _ i := [.int .i64 t, .pointer (some ⟨10, 0, none⟩), .slice (some ⟨0, o, none⟩) n c, .int .i64 (n : Int), .int .i64 (i : Int)]
  hv _ _ := [.ro cs, .cells p.cs 72]
  inv _ := Q
  mu _ i := n - i
  nx := 12

theorem fAt_ok (cs : List Value) (o n c : Nat) (p : Pt) (t : Int) (Q : Nat → Prop) (hpl : ∀ x ∈ cs, leafG x = true) : (fAt cs o n c p t Q).OK 1 := by
  refine ⟨(by decide : 1 ≤ 12), fun z i h k hk => ?_, fun z i h v hv k hk => ?_, fun z i h x hx => ?_⟩
  · show k < 12
    simp [fAt] at hk; omega
  · show k < 12
    simp [fAt] at hv
    repeat' (refine Or.elim hv (fun hv => ?_) (fun hv => ?_))
    all_goals (subst hv; simp [nms, nm1, nm0] at hk; try omega)
  · simp [fAt] at hx
    rcases hx with rfl | rfl
    · exact Blk.plain.namesLt (b := .ro cs) hpl _
    · exact Blk.plain.namesLt (b := .cells p.cs 72) (pt_pl p) _

def fHl (cs : List Value) (ty : TypeId) (m : Nat) (Q : Nat × Bx → Prop) : LoopF (Nat × Bx) where
  ts _ := [2, 3, 17, 18, 19]
  hs _ := [0, 10, 11]
  tv _ := fun ⟨i, x⟩ => [.pointer (some ⟨10, 0, none⟩), .pointer (some ⟨11, 0, none⟩), .slice (some ⟨0, 11, none⟩) m (mk + 1), .int .i64 (m : Int), .int .i64 (i : Int)]
  hv _ := fun ⟨i, x⟩ => [.vec cs ty 11, .cells Bx.zero.cs 25, .cells x.cs 25]
  inv _ := Q
  mu _ := fun ⟨i, x⟩ => m - i
  nx := 12

theorem fHl_ok (cs : List Value) (ty : TypeId) (m : Nat) (Q : Nat × Bx → Prop) (hpl : ∀ x ∈ cs, leafG x = true) : (fHl cs ty m Q).OK 1 := by
  refine ⟨(by decide : 1 ≤ 12), fun z i h k hk => ?_, fun z i h v hv k hk => ?_, fun z i h x hx => ?_⟩
  · show k < 12
    simp [fHl] at hk; omega
  · show k < 12
    simp [fHl] at hv
    repeat' (refine Or.elim hv (fun hv => ?_) (fun hv => ?_))
    all_goals (subst hv; simp [nms, nm1, nm0] at hk; try omega)
  · simp [fHl] at hx
    rcases hx with rfl | rfl | rfl
    · exact Blk.plain.namesLt (b := .vec cs ty 11) hpl _
    · exact Blk.plain.namesLt (b := .cells Bx.zero.cs 25) (eBox.pl _) _
    · exact Blk.plain.namesLt (b := .cells _ 25) (eBox.pl _) _

end Go.Proofs.Ythbaccmhdffjdaa.Lv


set_option linter.unusedVariables false
set_option linter.unusedSimpArgs false
set_option maxRecDepth 100000
namespace Go.Proofs.Ythbaccmhdffjdaa.Lv
open Go Go.RowKit Go.Proofs.Ythbaccmhdffjdaa.Ev Go.Proofs.Ythbaccmhdffjdaa.NodeE Go.Proofs.Ythbaccmhdffjdaa.Tr Go.Proofs.Ythbaccmhdffjdaa.BoxF Go.Proofs.Ythbaccmhdffjdaa.Lv

theorem atNil (p : Pt) (t : Int)  {E : Env} (hE : EnvOK E Try.prog Try.f36 3 0 (.tuple ⟨[.int .i64 0, .bool false]⟩) [] []) (hob : all ([Back (Value.tuple (Array.mk [Value.int IntKind.i64 ((0 : Int)), Value.bool false])) (Value.tuple (Array.mk [Value.int IntKind.i64 ((0 : Int)), Value.bool false])) [] [] []])) : Sat E [.code (bodyOf Try.f36)] (st0 Try.f36 [.slice none 0 0, .agg ⟨p.cs⟩, .int .i64 t] (roRows []) 0) :=
  by_ret (T := auto0 t_bcut) (h := hints []) (ws := []) (nx' := 0) hE hm (auto0_ok t_bcut_ok) (by omega) (by simp) (by simp) (by kernel_rfl) hob
theorem atIn (cs : List Value) (o n c : Nat) (p : Pt) (t : Int) (Q : Nat → Prop)  {E : Env} {rv : Value} {rhs : List Nat} {rhv : List Blk} (hE : EnvOK E Try.prog Try.f36 3 1 rv rhs rhv) (hL : (fAt cs o n c p t Q).OK 1) (hob : all ([SameK (atLp (lp Try.f36 0)) (atLp (lp Try.f36 0)), Enter (fAt cs o n c p t Q) 0 none [Value.int IntKind.i64 t, Value.pointer (some (Addr.mk 1 0 none)), Value.slice (some (Addr.mk 0 o none)) n c, Value.int IntKind.i64 ((n : Int)), Value.int IntKind.i64 ((0 : Int))] [Blk.ro cs, Blk.cells [Value.int IntKind.i64 p.p0, Value.int IntKind.i64 p.p1, Value.int IntKind.i64 p.p2, Value.int IntKind.i64 p.p3] 72] [(10, 1), (0, 0)]])) (hK : ∀ zz, (fAt cs o n c p t Q).inv 0 zz → ltO ((fAt cs o n c p t Q).mu 0 zz) none → Sat E (atLp (lp Try.f36 0)) ((fAt cs o n c p t Q).st 0 zz)) : Sat E [.code (bodyOf Try.f36)] (st0 Try.f36 [.slice (some ⟨0, o, none⟩) n c, .agg ⟨p.cs⟩, .int .i64 t] (roRows [cs]) 1) :=
  by_to (T := auto0 t_bcut) (h := hints []) (ws := [.stop]) (i0 := 0) hE hm (auto0_ok t_bcut_ok) hL (by kernel_rfl) hob hK
theorem atY (cs : List Value) (o n c : Nat) (p : Pt) (t : Int) (Q : Nat → Prop) (i : Nat) (bo : Bx) (v : Int) (J : Act → World → Prop) {E : Env} (hE : EnvOK E Try.prog Try.f36 3 1 (.tuple ⟨[.int .i64 v, .bool true]⟩) [] []) (hob : all ([Back (Value.tuple (Array.mk [Value.int IntKind.i64 v, Value.bool true])) (Value.tuple (Array.mk [Value.int IntKind.i64 v, Value.bool true])) [] [] [], Value.bool (Ythbaccmhdffjdaa.BoxF.hasB bo.a0 bo.b0 bo.a1 bo.b1 bo.a2 bo.b2 bo.a3 bo.b3 bo.a4 bo.b4 p.p0 p.p1 p.p2 p.p3 t) = Value.bool true, readPart Try.prog 27 cs (o + ((i : Int)).toNat * 11) = some (Value.agg (Array.mk [Value.int IntKind.i64 bo.a0, Value.int IntKind.i64 bo.b0, Value.int IntKind.i64 bo.a1, Value.int IntKind.i64 bo.b1, Value.int IntKind.i64 bo.a2, Value.int IntKind.i64 bo.b2, Value.int IntKind.i64 bo.a3, Value.int IntKind.i64 bo.b3, Value.int IntKind.i64 bo.a4, Value.int IntKind.i64 bo.b4, Value.int IntKind.i64 v])), (0 : Int) ≤ (i : Int) ∧ (i : Int) < (n : Int), decide ((↑i : Int) < (↑n : Int)) = true])) : Sat E (inLp (lp Try.f36 0) J) ((fAt cs o n c p t Q).st 0 i) :=
  by_ret (T := auto0 t_bcut) (h := hints [(3, 0, {p := true}), (3, 1, {o := some (.agg ⟨bo.cs ++ [.int .i64 v]⟩)}), (4, 4, {v := some (.bool true)})]) (ws := [.b true]) (nx' := 1) hE hm (auto0_ok t_bcut_ok) (by omega) (by simp) (by simp) (by kernel_rfl) hob
theorem atN (cs : List Value) (o n c : Nat) (p : Pt) (t : Int) (Q : Nat → Prop) (i : Nat) (bo : Bx) (v : Int) (J : Act → World → Prop) {E : Env} {rv : Value} {rhs : List Nat} {rhv : List Blk} (hE : EnvOK E Try.prog Try.f36 3 1 rv rhs rhv) (hL : (fAt cs o n c p t Q).OK 1) (hob : all ([SameK (mkLp (lp Try.f36 0) J) (mkLp (lp Try.f36 0) J), Enter (fAt cs o n c p t Q) 0 (some (n - i)) [Value.int IntKind.i64 t, Value.pointer (some (Addr.mk 10 0 none)), Value.slice (some (Addr.mk 0 o none)) n c, Value.int IntKind.i64 ((n : Int)), Value.int IntKind.i64 (Int.ofNat i.succ)] [Blk.ro cs, Blk.cells [Value.int IntKind.i64 p.p0, Value.int IntKind.i64 p.p1, Value.int IntKind.i64 p.p2, Value.int IntKind.i64 p.p3] 72] [(10, 10), (0, 0)], Value.int IntKind.i64 (IntKind.i64.wrap (Int.ofNat i.succ)) = Value.int IntKind.i64 (Int.ofNat i.succ), Value.bool (Ythbaccmhdffjdaa.BoxF.hasB bo.a0 bo.b0 bo.a1 bo.b1 bo.a2 bo.b2 bo.a3 bo.b3 bo.a4 bo.b4 p.p0 p.p1 p.p2 p.p3 t) = Value.bool false, readPart Try.prog 27 cs (o + ((i : Int)).toNat * 11) = some (Value.agg (Array.mk [Value.int IntKind.i64 bo.a0, Value.int IntKind.i64 bo.b0, Value.int IntKind.i64 bo.a1, Value.int IntKind.i64 bo.b1, Value.int IntKind.i64 bo.a2, Value.int IntKind.i64 bo.b2, Value.int IntKind.i64 bo.a3, Value.int IntKind.i64 bo.b3, Value.int IntKind.i64 bo.a4, Value.int IntKind.i64 bo.b4, Value.int IntKind.i64 v])), (0 : Int) ≤ (i : Int) ∧ (i : Int) < (n : Int), decide ((↑i : Int) < (↑n : Int)) = true])) (hK : ∀ zz, (fAt cs o n c p t Q).inv 0 zz → ltO ((fAt cs o n c p t Q).mu 0 zz) (some (n - i)) → Sat E (mkLp (lp Try.f36 0) J) ((fAt cs o n c p t Q).st 0 zz)) : Sat E (inLp (lp Try.f36 0) J) ((fAt cs o n c p t Q).st 0 i) :=
  by_to (T := auto0 t_bcut) (h := hints [(3, 0, {p := true}), (3, 1, {o := some (.agg ⟨bo.cs ++ [.int .i64 v]⟩)}), (4, 4, {v := some (.bool false)}), (6, 0, {v := some (.int .i64 ((i + 1 : Nat) : Int))})]) (ws := [.b true]) (i0 := (i + 1)) hE hm (auto0_ok t_bcut_ok) hL (by kernel_rfl) hob hK
theorem atE (cs : List Value) (o n c : Nat) (p : Pt) (t : Int) (Q : Nat → Prop) (i : Nat) (J : Act → World → Prop) {E : Env} (hE : EnvOK E Try.prog Try.f36 3 1 (.tuple ⟨[.int .i64 0, .bool false]⟩) [] []) (hob : all ([Back (Value.tuple (Array.mk [Value.int IntKind.i64 ((0 : Int)), Value.bool false])) (Value.tuple (Array.mk [Value.int IntKind.i64 ((0 : Int)), Value.bool false])) [] [] [], decide ((↑i : Int) < (↑n : Int)) = false])) : Sat E (inLp (lp Try.f36 0) J) ((fAt cs o n c p t Q).st 0 i) :=
  by_ret (T := auto0 t_bcut) (h := hints []) (ws := [.b false]) (nx' := 1) hE hm (auto0_ok t_bcut_ok) (by omega) (by simp) (by simp) (by kernel_rfl) hob
theorem hlNil (u : Unit)  {E : Env} (hE : EnvOK E Try.prog Try.f37 1 0 (.agg ⟨Bx.zero.cs⟩) [] []) (hob : all ([Back (Value.agg (Array.mk [Value.int IntKind.i64 ((0 : Int)), Value.int IntKind.i64 ((0 : Int)), Value.int IntKind.i64 ((0 : Int)), Value.int IntKind.i64 ((0 : Int)), Value.int IntKind.i64 ((0 : Int)), Value.int IntKind.i64 ((0 : Int)), Value.int IntKind.i64 ((0 : Int)), Value.int IntKind.i64 ((0 : Int)), Value.int IntKind.i64 ((0 : Int)), Value.int IntKind.i64 ((0 : Int))])) (Value.agg (Array.mk [Value.int IntKind.i64 ((0 : Int)), Value.int IntKind.i64 ((0 : Int)), Value.int IntKind.i64 ((0 : Int)), Value.int IntKind.i64 ((0 : Int)), Value.int IntKind.i64 ((0 : Int)), Value.int IntKind.i64 ((0 : Int)), Value.int IntKind.i64 ((0 : Int)), Value.int IntKind.i64 ((0 : Int)), Value.int IntKind.i64 ((0 : Int)), Value.int IntKind.i64 ((0 : Int))])) [] [] []])) : Sat E [.code (bodyOf Try.f37)] (st0 Try.f37 [.slice none 0 0] (assocN [] []) 0) :=
  by_ret (T := auto0 t_bcut) (h := hints []) (ws := []) (nx' := 0) hE hm (auto0_ok t_bcut_ok) (by omega) (by simp) (by simp) (by kernel_rfl) hob
theorem hlOne (cs : List Value) (ty : TypeId) (n : Nat) (bo : Bx) (hpl : ∀ x ∈ cs, leafG x = true)  {E : Env} (hE : EnvOK E Try.prog Try.f37 1 1 (.agg ⟨bo.cs⟩) [0] [.vec cs ty 11]) (hob : all ([Back (Value.agg (Array.mk [Value.int IntKind.i64 bo.a0, Value.int IntKind.i64 bo.b0, Value.int IntKind.i64 bo.a1, Value.int IntKind.i64 bo.b1, Value.int IntKind.i64 bo.a2, Value.int IntKind.i64 bo.b2, Value.int IntKind.i64 bo.a3, Value.int IntKind.i64 bo.b3, Value.int IntKind.i64 bo.a4, Value.int IntKind.i64 bo.b4])) (Value.agg (Array.mk [Value.int IntKind.i64 bo.a0, Value.int IntKind.i64 bo.b0, Value.int IntKind.i64 bo.a1, Value.int IntKind.i64 bo.b1, Value.int IntKind.i64 bo.a2, Value.int IntKind.i64 bo.b2, Value.int IntKind.i64 bo.a3, Value.int IntKind.i64 bo.b3, Value.int IntKind.i64 bo.a4, Value.int IntKind.i64 bo.b4])) [Blk.vec cs ty 11] [Blk.vec cs ty 11] [], EndOK 11 n 1267650600228229401496703205376 (some ((1 : Int))) none (some (Blk.vec cs ty 11)), readPart Try.prog 25 cs 0 = some (Value.agg (Array.mk [Value.int IntKind.i64 bo.a0, Value.int IntKind.i64 bo.b0, Value.int IntKind.i64 bo.a1, Value.int IntKind.i64 bo.b1, Value.int IntKind.i64 bo.a2, Value.int IntKind.i64 bo.b2, Value.int IntKind.i64 bo.a3, Value.int IntKind.i64 bo.b3, Value.int IntKind.i64 bo.a4, Value.int IntKind.i64 bo.b4])), (0 : Int) ≤ (0 : Int) ∧ (0 : Int) < (n : Int), Value.bool ((n : Int) == (0 : Int)) = Value.bool false])) : Sat E [.code (bodyOf Try.f37)] (st0 Try.f37 [.slice (some ⟨0, 0, none⟩) n mk] (assocN [0] [.vec cs ty 11]) 1) :=
  by_ret (T := auto0 t_bcut) (h := hints [(1, 2, ht false), (3, 1, {p := true}), (3, 3, {o := some (.agg ⟨bo.cs⟩)}), (4, 1, {p := true})]) (ws := []) (nx' := 1) hE hm (auto0_ok t_bcut_ok) (by omega) (by simp) (by intro x hx; simp at hx; subst hx; exact Blk.plain.namesLt (b := .vec _ _ _) hpl _) (by kernel_rfl) hob
theorem hlIn (cs : List Value) (ty : TypeId) (m : Nat) (Q : Nat × Bx → Prop) (n : Nat) (bo : Bx)  {E : Env} {rv : Value} {rhs : List Nat} {rhv : List Blk} (hE : EnvOK E Try.prog Try.f37 1 1 rv rhs rhv) (hL : (fHl cs ty m Q).OK 1) (hob : all ([SameK (atLp (lp Try.f37 0)) (atLp (lp Try.f37 0)), Enter (fHl cs ty m Q) 0 none [Value.pointer (some (Addr.mk 1 0 none)), Value.pointer (some (Addr.mk 33 0 none)), Value.slice (some (Addr.mk 0 11 none)) m 1267650600228229401496703205377, Value.int IntKind.i64 ((m : Int)), Value.int IntKind.i64 ((0 : Int))] [Blk.vec cs ty 11, Blk.cells [Value.int IntKind.i64 ((0 : Int)), Value.int IntKind.i64 ((0 : Int)), Value.int IntKind.i64 ((0 : Int)), Value.int IntKind.i64 ((0 : Int)), Value.int IntKind.i64 ((0 : Int)), Value.int IntKind.i64 ((0 : Int)), Value.int IntKind.i64 ((0 : Int)), Value.int IntKind.i64 ((0 : Int)), Value.int IntKind.i64 ((0 : Int)), Value.int IntKind.i64 ((0 : Int))] 25, Blk.cells [Value.int IntKind.i64 bo.a0, Value.int IntKind.i64 bo.b0, Value.int IntKind.i64 bo.a1, Value.int IntKind.i64 bo.b1, Value.int IntKind.i64 bo.a2, Value.int IntKind.i64 bo.b2, Value.int IntKind.i64 bo.a3, Value.int IntKind.i64 bo.b3, Value.int IntKind.i64 bo.a4, Value.int IntKind.i64 bo.b4] 25] [(10, 1), (11, 33), (0, 0)], SlOK 11 0 0 n 1267650600228229401496703205376 (some ((1 : Int))) none (some (Blk.vec cs ty 11)) (Value.slice (some (Addr.mk 0 11 none)) m 1267650600228229401496703205377), readPart Try.prog 25 cs 0 = some (Value.agg (Array.mk [Value.int IntKind.i64 bo.a0, Value.int IntKind.i64 bo.b0, Value.int IntKind.i64 bo.a1, Value.int IntKind.i64 bo.b1, Value.int IntKind.i64 bo.a2, Value.int IntKind.i64 bo.b2, Value.int IntKind.i64 bo.a3, Value.int IntKind.i64 bo.b3, Value.int IntKind.i64 bo.a4, Value.int IntKind.i64 bo.b4])), (0 : Int) ≤ (0 : Int) ∧ (0 : Int) < (n : Int), Value.bool ((n : Int) == (0 : Int)) = Value.bool false])) (hK : ∀ zz, (fHl cs ty m Q).inv 0 zz → ltO ((fHl cs ty m Q).mu 0 zz) none → Sat E (atLp (lp Try.f37 0)) ((fHl cs ty m Q).st 0 zz)) : Sat E [.code (bodyOf Try.f37)] (st0 Try.f37 [.slice (some ⟨0, 0, none⟩) n mk] (assocN [0] [.vec cs ty 11]) 1) :=
  by_to (T := auto0 t_bcut) (h := hints [(1, 2, ht false), (3, 1, {p := true}), (3, 3, {o := some (.agg ⟨bo.cs⟩)}), (4, 1, {o := some (.slice (some ⟨0, 11, none⟩) m (mk + 1))})]) (ws := [.go, .stop]) (i0 := (0, bo)) hE hm (auto0_ok t_bcut_ok) hL (by kernel_rfl) hob hK
theorem hlB (cs : List Value) (ty : TypeId) (m : Nat) (Q : Nat × Bx → Prop) (i : Nat) (x bo : Bx) (v : Int) (J : Act → World → Prop) {E : Env} {rv : Value} {rhs : List Nat} {rhv : List Blk} (hE : EnvOK E Try.prog Try.f37 1 1 rv rhs rhv) (hL : (fHl cs ty m Q).OK 1) (hob : all ([SameK (mkLp (lp Try.f37 0) J) (mkLp (lp Try.f37 0) J), Enter (fHl cs ty m Q) 0 (some (m - i)) [Value.pointer (some (Addr.mk 10 0 none)), Value.pointer (some (Addr.mk 11 0 none)), Value.slice (some (Addr.mk 0 11 none)) m 1267650600228229401496703205377, Value.int IntKind.i64 ((m : Int)), Value.int IntKind.i64 (Int.ofNat i.succ)] [Blk.vec cs ty 11, Blk.cells [Value.int IntKind.i64 ((0 : Int)), Value.int IntKind.i64 ((0 : Int)), Value.int IntKind.i64 ((0 : Int)), Value.int IntKind.i64 ((0 : Int)), Value.int IntKind.i64 ((0 : Int)), Value.int IntKind.i64 ((0 : Int)), Value.int IntKind.i64 ((0 : Int)), Value.int IntKind.i64 ((0 : Int)), Value.int IntKind.i64 ((0 : Int)), Value.int IntKind.i64 ((0 : Int))] 25, Blk.cells [Value.int IntKind.i64 (minI x.a0 bo.a0), Value.int IntKind.i64 (maxI x.b0 bo.b0), Value.int IntKind.i64 (minI x.a1 bo.a1), Value.int IntKind.i64 (maxI x.b1 bo.b1), Value.int IntKind.i64 (minI x.a2 bo.a2), Value.int IntKind.i64 (maxI x.b2 bo.b2), Value.int IntKind.i64 (minI x.a3 bo.a3), Value.int IntKind.i64 (maxI x.b3 bo.b3), Value.int IntKind.i64 (minI x.a4 bo.a4), Value.int IntKind.i64 (maxI x.b4 bo.b4)] 25] [(10, 10), (11, 11), (0, 0)], Value.int IntKind.i64 (IntKind.i64.wrap (Int.ofNat i.succ)) = Value.int IntKind.i64 (Int.ofNat i.succ), readPart Try.prog 27 cs (11 + ((i : Int)).toNat * 11) = some (Value.agg (Array.mk [Value.int IntKind.i64 bo.a0, Value.int IntKind.i64 bo.b0, Value.int IntKind.i64 bo.a1, Value.int IntKind.i64 bo.b1, Value.int IntKind.i64 bo.a2, Value.int IntKind.i64 bo.b2, Value.int IntKind.i64 bo.a3, Value.int IntKind.i64 bo.b3, Value.int IntKind.i64 bo.a4, Value.int IntKind.i64 bo.b4, Value.int IntKind.i64 v])), (0 : Int) ≤ (i : Int) ∧ (i : Int) < (m : Int), decide ((↑i : Int) < (↑m : Int)) = true])) (hK : ∀ zz, (fHl cs ty m Q).inv 0 zz → ltO ((fHl cs ty m Q).mu 0 zz) (some (m - i)) → Sat E (mkLp (lp Try.f37 0) J) ((fHl cs ty m Q).st 0 zz)) : Sat E (inLp (lp Try.f37 0) J) ((fHl cs ty m Q).st 0 (i, x)) :=
  by_to (T := auto0 t_bcut) (h := hints [(6, 0, {p := true}), (6, 1, {o := some (.agg ⟨bo.cs ++ [.int .i64 v]⟩)}), (12, 0, {v := some (.int .i64 ((i + 1 : Nat) : Int))})]) (ws := [.b true]) (i0 := (i + 1, x.join bo)) hE hm (auto0_ok t_bcut_ok) hL (by kernel_rfl) hob hK
theorem hlE (cs : List Value) (ty : TypeId) (m : Nat) (Q : Nat × Bx → Prop) (i : Nat) (x : Bx) (hpl : ∀ x ∈ cs, leafG x = true) (J : Act → World → Prop) {E : Env} (hE : EnvOK E Try.prog Try.f37 1 1 (.agg ⟨x.cs⟩) [0] [.vec cs ty 11]) (hob : all ([Back (Value.agg (Array.mk [Value.int IntKind.i64 x.a0, Value.int IntKind.i64 x.b0, Value.int IntKind.i64 x.a1, Value.int IntKind.i64 x.b1, Value.int IntKind.i64 x.a2, Value.int IntKind.i64 x.b2, Value.int IntKind.i64 x.a3, Value.int IntKind.i64 x.b3, Value.int IntKind.i64 x.a4, Value.int IntKind.i64 x.b4])) (Value.agg (Array.mk [Value.int IntKind.i64 x.a0, Value.int IntKind.i64 x.b0, Value.int IntKind.i64 x.a1, Value.int IntKind.i64 x.b1, Value.int IntKind.i64 x.a2, Value.int IntKind.i64 x.b2, Value.int IntKind.i64 x.a3, Value.int IntKind.i64 x.b3, Value.int IntKind.i64 x.a4, Value.int IntKind.i64 x.b4])) [Blk.vec cs ty 11] [Blk.vec cs ty 11] [], decide ((↑i : Int) < (↑m : Int)) = false])) : Sat E (inLp (lp Try.f37 0) J) ((fHl cs ty m Q).st 0 (i, x)) :=
  by_ret (T := auto0 t_bcut) (h := hints []) (ws := [.b false]) (nx' := 1) hE hm (auto0_ok t_bcut_ok) (by omega) (by simp) (by intro x hx; simp at hx; subst hx; exact Blk.plain.namesLt (b := .vec _ _ _) hpl _) (by kernel_rfl) hob
end Go.Proofs.Ythbaccmhdffjdaa.Lv


set_option linter.unusedVariables false
set_option linter.unusedSimpArgs false
set_option maxRecDepth 100000
namespace Go.Proofs.Ythbaccmhdffjdaa.Lv
open Go Go.RowKit Go.Proofs.Ythbaccmhdffjdaa.Ev Go.Proofs.Ythbaccmhdffjdaa.NodeE Go.Proofs.Ythbaccmhdffjdaa.Tr Go.Proofs.Ythbaccmhdffjdaa.BoxF Go.Proofs.Ythbaccmhdffjdaa.Lv

theorem sub_in2 {cs : List Value} {s m : Nat} {ys : List Value} (h : sub cs 0 s = some ys) (hs : 0 + s ≤ cs.length) (hd : m ≤ s) : sub cs 0 m = some (ys.take m) := by
  have := Tr.sub_in h (d := 0) (m := m) hs (by omega)
  rw [Nat.add_zero, List.drop_zero] at this
  exact this
theorem at_spec (cs : List Value) (o n c : Nat) (p : Pt) (t : Int) (hr : ePc.Row cs o n) (hpl : ∀ x ∈ cs, leafG x = true) (hn : n ≤ 65536) :
    CallSpec Try.prog 36 [.slice (some ⟨0, o, none⟩) n c, .agg ⟨p.cs⟩, .int .i64 t] (roRows [cs]) 1 (.tuple ⟨[.int .i64 (atV (ePc.list cs o n) p t), .bool (atB (ePc.list cs o n) p t)]⟩) (assocN [] []) := by
  refine spec_of_sat Try.func36 rfl fun E hE => ?_
  have hlen : (ePc.list cs o n).length = n := Elt.list_len _ _ _
  have hget : ∀ i y, (ePc.list cs o n)[i]? = some y → readPart Try.prog 27 cs (o + (Int.ofNat i).toNat * 11) = some (.agg ⟨y.box.cs ++ [.int .i64 y.val]⟩) := fun i y hy => hr.read (P := Try.prog) (ty := 27) (by kernel_rfl) (by kernel_rfl) (i := i) (x := y) hy
  generalize hps : ePc.list cs o n = ps at hE hlen hget
  let Q : Nat → Prop := fun i => i ≤ n ∧ ∀ k y, k < i → ps[k]? = some y → y.box.hs p t = false
  have okL := fAt_ok cs o n c p t Q hpl
  have rnr : ∀ f : Nat → Nat, Blk.rnB f (.ro cs) = .ro cs := fun f => Blk.plain.rnB (b := .ro cs) hpl f
  have rnp : ∀ (f : Nat → Nat), Blk.rnB f (.cells p.cs 72) = .cells [.int .i64 p.p0, .int .i64 p.p1, .int .i64 p.p2, .int .i64 p.p3] 72 := fun f => rfl
  refine atIn cs o n c p t Q hE okL ⟨rfl, ⟨0, ⟨Nat.zero_le _, fun k y hk => absurd hk (Nat.not_lt_zero _)⟩, trivial, rfl, by simp only [fAt, List.map_cons, List.map_nil, rnr, rnp]⟩, trivial⟩ fun zz hz _ => by_loop (fAt cs o n c p t Q) (lp Try.f36 0) ?_ 0 zz hz
  rintro b i hinv J hJ
  have hinv : i ≤ n ∧ ∀ k y, k < i → ps[k]? = some y → y.box.hs p t = false := hinv
  obtain ⟨k1, k2⟩ := hinv
  show Sat E (inLp (lp Try.f36 0) J) ((fAt cs o n c p t Q).st 0 i)
  have hJ' : ∀ zz, (fAt cs o n c p t Q).inv 0 zz → ltO ((fAt cs o n c p t Q).mu 0 zz) (some (n - i)) → Sat E (mkLp (lp Try.f36 0) J) ((fAt cs o n c p t Q).st 0 zz) := fun zz h1 h2 => hJ 0 zz h1 h2
  by_cases hin : i < n
  · have hlt : decide ((i : Int) < (n : Int)) = true := decide_eq_true (by omega)
    obtain ⟨y, hy⟩ : ∃ y, ps[i]? = some y := ⟨_, List.getElem?_eq_getElem (by omega)⟩
    cases hh : y.box.hs p t
    · exact atN cs o n c p t Q i y.box y.val J hE okL ⟨rfl, ⟨i + 1, ⟨hin, fun k z hk hz => by
        by_cases hki : k = i
        · subst hki; rw [hy] at hz; injection hz with hz; subst hz; exact hh
        · exact k2 k z (by omega) hz⟩, (by show n - (i + 1) < n - i; omega), rfl, by simp only [fAt, List.map_cons, List.map_nil, rnr, rnp]⟩, i64_succ (by omega), (congrArg Value.bool hh), hget i y hy, ⟨Int.natCast_nonneg _, Int.ofNat_lt.2 hin⟩, hlt, trivial⟩ hJ'
    · have hf : ps.find? (fun y => y.box.hs p t) = some y := by
        have e : ps = ps.take i ++ y :: ps.drop (i + 1) := by
          conv => lhs; rw [← List.take_append_drop i ps]
          rw [List.drop_eq_getElem_cons (by omega), (List.getElem?_eq_some_iff.1 hy).2]
        have hz : (ps.take i).find? (fun y => y.box.hs p t) = none := by
          rw [List.find?_eq_none]
          intro z hz
          obtain ⟨k, hk⟩ := List.mem_iff_getElem?.1 hz
          have hki : k < i := by have := (List.getElem?_eq_some_iff.1 hk).1; rw [List.length_take] at this; omega
          rw [List.getElem?_take, if_pos hki] at hk
          simp [k2 k z hki hk]
        rw [e, List.find?_append, hz, List.find?_cons, hh]
        rfl
      have hv : atV ps p t = y.val := by unfold atV; rw [hf]
      have hb : atB ps p t = true := List.any_eq_true.2 ⟨y, List.mem_of_getElem? hy, hh⟩
      rw [hv, hb] at hE
      exact atY cs o n c p t Q i y.box y.val J hE ⟨⟨rfl, rfl⟩, (congrArg Value.bool hh), hget i y hy, ⟨Int.natCast_nonneg _, Int.ofNat_lt.2 hin⟩, hlt, trivial⟩
  · have hlt : decide ((i : Int) < (n : Int)) = false := decide_eq_false (by omega)
    have hall : ∀ y ∈ ps, y.box.hs p t = false := fun y hy => by
      obtain ⟨k, hk⟩ := List.mem_iff_getElem?.1 hy
      exact k2 k y (by have := (List.getElem?_eq_some_iff.1 hk).1; omega) hk
    have hf : ps.find? (fun y => y.box.hs p t) = none := List.find?_eq_none.2 fun y hy => by simp [hall y hy]
    have hv : atV ps p t = 0 := by unfold atV; rw [hf]
    have hb : atB ps p t = false := by
      cases hq : atB ps p t
      · rfl
      · obtain ⟨y, hy, hh⟩ := List.any_eq_true.1 hq
        simp only [hall y hy] at hh
        exact absurd hh (by simp)
    rw [hv, hb] at hE
    exact atE cs o n c p t Q i J hE ⟨⟨rfl, rfl⟩, hlt, trivial⟩
def at_F : RoF := fun xs css => match xs, css with
  | [.slice (some ⟨0, o, none⟩) n c, .agg ⟨[.int .i64 p0, .int .i64 p1, .int .i64 p2, .int .i64 p3]⟩, .int .i64 t], [cs] => some (.tuple ⟨[.int .i64 (atV (ePc.list cs o n) ⟨p0, p1, p2, p3⟩ t), .bool (atB (ePc.list cs o n) ⟨p0, p1, p2, p3⟩ t)]⟩, [], [ePc.Row cs o n, n ≤ 65536])
  | [.slice none 0 0, .agg ⟨[.int .i64 p0, .int .i64 p1, .int .i64 p2, .int .i64 p3]⟩, .int .i64 t], [] => some (.tuple ⟨[.int .i64 0, .bool false]⟩, [], [])
  | _, _ => none
theorem at_sum : SumOK Try.prog 36 (roSum at_F) := by
  refine roSum_ok (en Try.func36 rfl) ?_ (fun xs css r h => ?_)
  · intro xs css v blks ob h hob hpl hl
    unfold at_F at h
    split at h
    · rename_i o n c p0 p1 p2 p3 t cs
      simp only [Option.some.injEq, Prod.mk.injEq] at h
      obtain ⟨rfl, rfl, rfl⟩ := h
      refine ⟨by simp, by simp, fun j hj => by simp [nms, nm1, nmL, nm0] at hj, ?_⟩
      exact at_spec cs o n c ⟨p0, p1, p2, p3⟩ t (hob _ (List.mem_cons_self ..)) (hpl cs (by simp)) (hob _ (by simp))
    · rename_i p0 p1 p2 p3 t
      simp only [Option.some.injEq, Prod.mk.injEq] at h
      obtain ⟨rfl, rfl, rfl⟩ := h
      refine ⟨by simp, by simp, fun j hj => by simp [nms, nm1, nmL, nm0] at hj, ?_⟩
      exact spec_of_sat Try.func36 rfl fun E hE => atNil ⟨p0, p1, p2, p3⟩ t hE ⟨⟨rfl, rfl⟩, trivial⟩
    · simp at h
  · unfold at_F at h
    split at h <;> simp at h <;> simp
theorem hull_spec (L : List Pc) (ty : TypeId) (hn : L.length ≤ 65536) (h1 : 1 ≤ L.length) :
    CallSpec Try.prog 37 [.slice (some ⟨0, 0, none⟩) L.length mk] (assocN [0] [.vec (ePc.row L) ty 11]) 1 (.agg ⟨(hullI L).cs⟩) (assocN [0] [.vec (ePc.row L) ty 11]) := by
  refine spec_of_sat Try.func37 rfl fun E hE => ?_
  have hpl : ∀ x ∈ ePc.row L, leafG x = true := Elt.row_pl L
  have rnv : ∀ f : Nat → Nat, Blk.rnB f (.vec (ePc.row L) ty 11) = .vec (ePc.row L) ty 11 := fun f => Blk.plain.rnB (b := .vec (ePc.row L) ty 11) hpl f
  obtain ⟨y, l, rfl⟩ : ∃ y l, L = y :: l := by cases L with | nil => simp at h1 | cons y l => exact ⟨y, l, rfl⟩
  have hb0 : readPart Try.prog 25 (ePc.row (y :: l)) 0 = some (.agg ⟨y.box.cs⟩) := by
    have hs : sub (ePc.row (y :: l)) 0 11 = some (ePc.cells y) := by
      have := Elt.row_sub (e := ePc) (y :: l) [] (i := 0) (x := y) rfl
      rw [List.append_nil] at this
      exact this
    have h2 := Lv.sub_in2 hs (m := 10) (by rw [Elt.row_len]; show 0 + 11 ≤ (l.length + 1) * 11; omega) (by omega)
    have ha : aggT Try.prog 25 = some true := by kernel_rfl
    have hz : sizeOfT Try.prog 25 = some 10 := by kernel_rfl
    simp only [readPart, ha, hz, h2]
    rfl
  have hz0 : Value.bool (((y :: l).length : Int) == 0) = .bool false := congrArg _ (by rw [beq_eq_false_iff_ne]; simp; omega)
  by_cases hl : l = []
  · subst hl
    exact hlOne (ePc.row [y]) ty 1 y.box hpl hE ⟨⟨rfl, by simp only [List.map_cons, List.map_nil, rnv]⟩, ⟨rfl, rfl, rfl, _, _, rfl, by decide, by rw [Elt.row_len]; show 1 * 11 ≤ 1 * 11; omega⟩, hb0, ⟨by decide, by decide⟩, hz0, trivial⟩
  have hl2 : l.length ≤ 65536 := by rw [List.length_cons] at hn; omega
  have hl1 : 1 ≤ l.length := by cases l with | nil => exact absurd rfl hl | cons _ _ => simp
  let Q : Nat × Bx → Prop := fun s => s.1 ≤ l.length ∧ s.2 = hullGo y.box (l.take s.1)
  have okL := fHl_ok (ePc.row (y :: l)) ty l.length Q hpl
  have rnz : ∀ (f : Nat → Nat) (x : Bx), Blk.rnB f (.cells x.cs 25) = .cells x.cs 25 := fun f x => rfl
  have rnw : ∀ (f : Nat → Nat) (x : Bx), Blk.rnB f (.cells x.cs 25) = .cells [.int .i64 x.a0, .int .i64 x.b0, .int .i64 x.a1, .int .i64 x.b1, .int .i64 x.a2, .int .i64 x.b2, .int .i64 x.a3, .int .i64 x.b3, .int .i64 x.a4, .int .i64 x.b4] 25 := fun f x => rfl
  have hsl : SlOK 11 0 0 (y :: l).length mk (some 1) none (some (.vec (ePc.row (y :: l)) ty 11)) (.slice (some ⟨0, 11, none⟩) l.length (mk + 1)) := by
    refine ⟨1, (y :: l).length, rfl, rfl, by simp, Nat.le_refl _, Or.inl ⟨Nat.le_refl _, ⟨_, _, rfl, by decide, ?_⟩, Or.inr (by simp; omega), ?_⟩⟩
    · rw [Elt.row_len, Nat.sub_self, Nat.zero_add]; exact Nat.le_refl _
    · rw [List.length_cons, Nat.add_sub_cancel]
  refine hlIn (ePc.row (y :: l)) ty l.length Q (y :: l).length y.box hE okL ⟨rfl, ⟨(0, y.box), ⟨Nat.zero_le _, rfl⟩, trivial, rfl, by simp only [fHl, List.map_cons, List.map_nil, rnv, rnw]; try rfl⟩, hsl, hb0, ⟨by decide, by rw [List.length_cons]; omega⟩, hz0, trivial⟩ fun zz hz _ => by_loop (fHl (ePc.row (y :: l)) ty l.length Q) (lp Try.f37 0) ?_ 0 zz hz
  rintro b ⟨i, x⟩ hinv J hJ
  have hinv : i ≤ l.length ∧ x = hullGo y.box (l.take i) := hinv
  obtain ⟨k1, k2⟩ := hinv
  show Sat E (inLp (lp Try.f37 0) J) ((fHl (ePc.row (y :: l)) ty l.length Q).st 0 (i, x))
  have hJ' : ∀ zz, (fHl (ePc.row (y :: l)) ty l.length Q).inv 0 zz → ltO ((fHl (ePc.row (y :: l)) ty l.length Q).mu 0 zz) (some (l.length - i)) → Sat E (mkLp (lp Try.f37 0) J) ((fHl (ePc.row (y :: l)) ty l.length Q).st 0 zz) := fun zz h1 h2 => hJ 0 zz h1 h2
  by_cases hin : i < l.length
  · have hlt : decide ((i : Int) < (l.length : Int)) = true := decide_eq_true (by omega)
    obtain ⟨z, hz⟩ : ∃ z, l[i]? = some z := ⟨_, List.getElem?_eq_getElem (by omega)⟩
    have hrd : readPart Try.prog 27 (ePc.row (y :: l)) (11 + (Int.ofNat i).toNat * 11) = some (.agg ⟨z.box.cs ++ [.int .i64 z.val]⟩) := by
      have := read_row (e := ePc) (P := Try.prog) (ty := 27) (by kernel_rfl) (by kernel_rfl) (L := y :: l) (i := i + 1) (x := z) (by simpa using hz)
      rw [show 0 + (Int.ofNat (i + 1)).toNat * ePc.s = 11 + (Int.ofNat i).toNat * 11 by show 0 + (i + 1) * 11 = 11 + i * 11; omega] at this
      exact this
    have htk : l.take (i + 1) = l.take i ++ [z] := by rw [List.take_add_one, hz]; rfl
    exact hlB (ePc.row (y :: l)) ty l.length Q i x z.box z.val J hE okL ⟨rfl, ⟨(i + 1, x.join z.box), ⟨hin, by rw [htk]; unfold hullGo; rw [List.foldl_append]; unfold hullGo at k2; rw [← k2]; rfl⟩, (by show l.length - (i + 1) < l.length - i; omega), rfl, by simp only [fHl, List.map_cons, List.map_nil, rnv, rnw]; try rfl⟩, i64_succ (by omega), hrd, ⟨Int.natCast_nonneg _, Int.ofNat_lt.2 hin⟩, hlt, trivial⟩ hJ'
  · have hlt : decide ((i : Int) < (l.length : Int)) = false := decide_eq_false (by omega)
    rw [List.take_of_length_le (by omega)] at k2
    have hx : hullI (y :: l) = x := k2.symm
    rw [hx] at hE
    exact hlE (ePc.row (y :: l)) ty l.length Q i x hpl J hE ⟨⟨rfl, by simp only [List.map_cons, List.map_nil, rnv]⟩, hlt, trivial⟩
noncomputable def hull_F : VcF := fun xs b => match xs, b with
  | [.slice (some ⟨0, 0, none⟩) n c], some (.vec cs ty 11) => some (.agg ⟨(hullI (ePc.list cs 0 n)).cs⟩, [c = mk, cs = ePc.row (ePc.list cs 0 n), 1 ≤ n, n ≤ 65536])
  | [.slice none 0 0], none => some (.agg ⟨Bx.zero.cs⟩, [])
  | _, _ => none
theorem hull_sum : SumOK Try.prog 37 (vcSum hull_F) := by
  refine vcSum_ok (en Try.func37 rfl) (fun ar v ob h hob => ?_) (fun ar b v ob h hob hpl => ?_)
  · unfold hull_F at h
    split at h
    · simp at *
    · simp only [Option.some.injEq, Prod.mk.injEq] at h
      obtain ⟨rfl, rfl⟩ := h
      exact ⟨fun g => rfl, fun g1 g2 => ren_names fun k hk => by simp [nms, nm1, nmL, nm0, Bx.cs] at hk, spec_of_sat Try.func37 rfl fun E hE => hlNil () hE ⟨⟨rfl, rfl⟩, trivial⟩⟩
    · simp at h
  · unfold hull_F at h
    split at h
    · rename_i n c cs ty hb
      injection hb with hb
      subst hb
      simp only [Option.some.injEq, Prod.mk.injEq] at h
      obtain ⟨rfl, rfl⟩ := h
      obtain rfl : c = mk := hob _ (List.mem_cons_self ..)
      have h1 := hob (cs = ePc.row (ePc.list cs 0 n)) (by simp)
      have h2 := hob (1 ≤ n) (by simp)
      have h3 := hob (n ≤ 65536) (by simp)
      have hlen : (ePc.list cs 0 n).length = n := Elt.list_len _ _ _
      generalize ePc.list cs 0 n = L at h1 hlen
      subst h1
      subst hlen
      exact ⟨fun g => rfl, fun g1 g2 => ren_names fun k hk => by simp [nms, nm1, nmL, nm0, Bx.cs] at hk, hull_spec L ty h3 h2⟩
    · simp at *
    · simp at h
end Go.Proofs.Ythbaccmhdffjdaa.Lv


set_option linter.unusedVariables false
set_option linter.unusedSimpArgs false
set_option maxRecDepth 100000
namespace Go.Proofs.Ythbaccmhdffjdaa.Lv
open Go Go.RowKit Go.Proofs.Ythbaccmhdffjdaa.Ev Go.Proofs.Ythbaccmhdffjdaa.NodeE Go.Proofs.Ythbaccmhdffjdaa.Within Go.Proofs.Ythbaccmhdffjdaa.PickE Go.Proofs.Ythbaccmhdffjdaa.Tn Go.Proofs.Ythbaccmhdffjdaa.Tr Go.Proofs.Ythbaccmhdffjdaa.BoxF Go.Proofs.Ythbaccmhdffjdaa.Lv

noncomputable def la_ls (NI : List Int → List Int → List Int → List Int → Int → List Nd) (PL : List Int → Bx → List Pc) (LX : List Int → List Int) : Sums := upd (t_nodes NI) 23 (some (roSum (ls_F true PL)))
theorem la_ls_ok (NI : List Int → List Int → List Int → List Int → Int → List Nd) (PL : List Int → Bx → List Pc) (LX : List Int → List Int) : SumsOK Try.prog (la_ls NI PL LX) := sums_cons (t_nodes_ok NI) (ls_sum true PL)
noncomputable def la_lv (NI : List Int → List Int → List Int → List Int → Int → List Nd) (PL : List Int → Bx → List Pc) (LX : List Int → List Int) : Sums := upd (la_ls NI PL LX) 38 (some (roSum (leaves_F LX)))
theorem la_lv_ok (NI : List Int → List Int → List Int → List Int → Int → List Nd) (PL : List Int → Bx → List Pc) (LX : List Int → List Int) : SumsOK Try.prog (la_lv NI PL LX) := sums_cons (la_ls_ok NI PL LX) (leaves_sum LX)
noncomputable def la_val (NI : List Int → List Int → List Int → List Int → Int → List Nd) (PL : List Int → Bx → List Pc) (LX : List Int → List Int) : Sums := upd (la_lv NI PL LX) 35 (some (roSum value_F))
theorem la_val_ok (NI : List Int → List Int → List Int → List Int → Int → List Nd) (PL : List Int → Bx → List Pc) (LX : List Int → List Int) : SumsOK Try.prog (la_val NI PL LX) := sums_cons (la_lv_ok NI PL LX) value_sum
noncomputable def la_at (NI : List Int → List Int → List Int → List Int → Int → List Nd) (PL : List Int → Bx → List Pc) (LX : List Int → List Int) : Sums := upd (la_val NI PL LX) 36 (some (roSum at_F))
theorem la_at_ok (NI : List Int → List Int → List Int → List Int → Int → List Nd) (PL : List Int → Bx → List Pc) (LX : List Int → List Int) : SumsOK Try.prog (la_at NI PL LX) := sums_cons (la_val_ok NI PL LX) at_sum
noncomputable def la_hull (NI : List Int → List Int → List Int → List Int → Int → List Nd) (PL : List Int → Bx → List Pc) (LX : List Int → List Int) : Sums := upd (la_at NI PL LX) 37 (some (vcSum hull_F))
theorem la_hull_ok (NI : List Int → List Int → List Int → List Int → Int → List Nd) (PL : List Int → Bx → List Pc) (LX : List Int → List Int) : SumsOK Try.prog (la_hull NI PL LX) := sums_cons (la_at_ok NI PL LX) hull_sum
noncomputable def la_runs (NI : List Int → List Int → List Int → List Int → Int → List Nd) (PL : List Int → Bx → List Pc) (LX : List Int → List Int) : Sums := upd (la_hull NI PL LX) 6 (some (sumOf lruns_F))
theorem la_runs_ok (NI : List Int → List Int → List Int → List Int → Int → List Nd) (PL : List Int → Bx → List Pc) (LX : List Int → List Int) : SumsOK Try.prog (la_runs NI PL LX) := sums_cons (la_hull_ok NI PL LX) lruns_sum
noncomputable abbrev t_la (NI : List Int → List Int → List Int → List Int → Int → List Nd) (PL : List Int → Bx → List Pc) (LX : List Int → List Int) : Sums := la_runs NI PL LX
theorem t_la_ok (NI : List Int → List Int → List Int → List Int → Int → List Nd) (PL : List Int → Bx → List Pc) (LX : List Int → List Int) : SumsOK Try.prog (t_la NI PL LX) := la_runs_ok NI PL LX
def laL (W : List Int) (m : Nat) (p : Pt) : LoopF Unit where
  ts _ := [3, 5]
  hs _ := [10, 11]
  tv _ _ := [.pointer (some ⟨10, 0, none⟩), .slice (some ⟨11, 0, none⟩) m mk]
  hv _ _ := [.cells p.cs 72, .vec (eWord.row W) 83 1]
  inv _ _ := True
  mu _ _ := 0
  nx := 14

theorem laL_ok (W : List Int) (m : Nat) (p : Pt) : (laL W m p).OK 4 := by
  refine ⟨(by decide : 4 ≤ 14), fun z i h k hk => ?_, fun z i h v hv k hk => ?_, fun z i h x hx => ?_⟩
  · show k < 14
    simp [laL] at hk; omega
  · show k < 14
    simp [laL] at hv
    repeat' (refine Or.elim hv (fun hv => ?_) (fun hv => ?_))
    all_goals (subst hv; simp [nms, nm1, nm0] at hk; try omega)
  · simp [laL] at hx
    rcases hx with rfl | rfl
    · exact Blk.plain.namesLt (b := .cells _ _) (pt_pl p) _
    · exact Blk.plain.namesLt (b := .vec _ _ _) (Elt.row_pl _) _

end Go.Proofs.Ythbaccmhdffjdaa.Lv


set_option linter.unusedVariables false
set_option linter.unusedSimpArgs false
set_option maxRecDepth 100000
namespace Go.Proofs.Ythbaccmhdffjdaa.Lv
open Go Go.RowKit Go.Proofs.Ythbaccmhdffjdaa.Ev Go.Proofs.Ythbaccmhdffjdaa.NodeE Go.Proofs.Ythbaccmhdffjdaa.Within Go.Proofs.Ythbaccmhdffjdaa.PickE Go.Proofs.Ythbaccmhdffjdaa.Tn Go.Proofs.Ythbaccmhdffjdaa.Tr Go.Proofs.Ythbaccmhdffjdaa.BoxF Go.Proofs.Ythbaccmhdffjdaa.Lv

theorem laIn (NI : List Int → List Int → List Int → List Int → Int → List Nd) (PL : List Int → Bx → List Pc) (LX : List Int → List Int) (cl : Int) (p : Pt) (r0 r1 r2 r3 : Rw) (W : List Int) (m : Nat)  {E : Env} {rv : Value} {rhs : List Nat} {rhv : List Blk} (hE : EnvOK E Try.prog Try.f11 2 4 rv rhs rhv) (hL : (laL W m p).OK 4) (hob : all ([SameK (fromR Try.f11 2) (fromR Try.f11 2), Enter (laL W m p) 0 none [Value.pointer (some (Addr.mk 8 0 none)), Value.slice (some (Addr.mk 20 0 none)) (NI (Rw.l r0) (Rw.l r1) (Rw.l r2) (Rw.l r3) 4).length 1267650600228229401496703205376] [Blk.cells [Value.int IntKind.i64 p.p0, Value.int IntKind.i64 p.p1, Value.int IntKind.i64 p.p2, Value.int IntKind.i64 p.p3] 72, Blk.vec (eWord.row (List.map packN (NI (Rw.l r0) (Rw.l r1) (Rw.l r2) (Rw.l r3) 4))) 83 1] [(10, 8), (11, 20)], plainR (cssZ r0 r1 r2 r3), NI = nodesI, (1 : Int) ≤ (4 : Int) ∧ (4 : Int) ≤ (1000 : Int)] ++ (Rw.ob2 r0 ++ (Rw.ob2 r1 ++ (Rw.ob2 r2 ++ (Rw.ob2 r3)))))) (hK : ∀ zz, (laL W m p).inv 0 zz → ltO ((laL W m p).mu 0 zz) none → Sat E (fromR Try.f11 2) ((laL W m p).st 0 zz)) : Sat E [.code (bodyOf Try.f11)] (st0 Try.f11 [.agg ⟨vsP 0 cl r0 r1 r2 r3⟩, .agg ⟨p.cs⟩] (rowsL [r0.o, r1.o, r2.o, r3.o]) 4) :=
  by
  obtain ⟨z0, cs0, n0, c0⟩ := r0
  obtain ⟨z1, cs1, n1, c1⟩ := r1
  obtain ⟨z2, cs2, n2, c2⟩ := r2
  obtain ⟨z3, cs3, n3, c3⟩ := r3
  cases z0 <;> cases z1 <;> cases z2 <;> cases z3 <;> exact by_to (T := auto0 (t_la NI PL LX)) (h := hints []) (ws := [.at 2]) (i0 := ()) hE hm (auto0_ok (t_la_ok NI PL LX)) hL (by kernel_rfl) hob hK
theorem laF (NI : List Int → List Int → List Int → List Int → Int → List Nd) (PL : List Int → Bx → List Pc) (LX : List Int → List Int) (p : Pt) (W : List Int) (m : Nat) (v : Int) (h : Bx)  {E : Env} (hE : EnvOK E Try.prog Try.f11 2 4 (.bool true) [] []) (hob : all ([Back (Value.bool true) (Value.bool true) [] [] [], Value.bool (keyEq (Value.agg (Array.mk h.cs)) (Value.agg (Array.mk [Value.int IntKind.i64 (-9223372036854775808), Value.int IntKind.i64 9223372036854775807, Value.int IntKind.i64 (-9223372036854775808), Value.int IntKind.i64 9223372036854775807, Value.int IntKind.i64 (-9223372036854775808), Value.int IntKind.i64 9223372036854775807, Value.int IntKind.i64 (-9223372036854775808), Value.int IntKind.i64 9223372036854775807, Value.int IntKind.i64 (-9223372036854775808), Value.int IntKind.i64 9223372036854775807]))) = Value.bool true, Value.agg (Array.mk [Value.int IntKind.i64 (hullI (ePc.list (ePc.row (PL (eWord.list (eWord.row W) 0 m) (Bx.mk (-9223372036854775808) 9223372036854775807 (-9223372036854775808) 9223372036854775807 (-9223372036854775808) 9223372036854775807 (-9223372036854775808) 9223372036854775807 (-9223372036854775808) 9223372036854775807))) 0 (PL (eWord.list (eWord.row W) 0 m) (Bx.mk (-9223372036854775808) 9223372036854775807 (-9223372036854775808) 9223372036854775807 (-9223372036854775808) 9223372036854775807 (-9223372036854775808) 9223372036854775807 (-9223372036854775808) 9223372036854775807)).length)).a0, Value.int IntKind.i64 (hullI (ePc.list (ePc.row (PL (eWord.list (eWord.row W) 0 m) (Bx.mk (-9223372036854775808) 9223372036854775807 (-9223372036854775808) 9223372036854775807 (-9223372036854775808) 9223372036854775807 (-9223372036854775808) 9223372036854775807 (-9223372036854775808) 9223372036854775807))) 0 (PL (eWord.list (eWord.row W) 0 m) (Bx.mk (-9223372036854775808) 9223372036854775807 (-9223372036854775808) 9223372036854775807 (-9223372036854775808) 9223372036854775807 (-9223372036854775808) 9223372036854775807 (-9223372036854775808) 9223372036854775807)).length)).b0, Value.int IntKind.i64 (hullI (ePc.list (ePc.row (PL (eWord.list (eWord.row W) 0 m) (Bx.mk (-9223372036854775808) 9223372036854775807 (-9223372036854775808) 9223372036854775807 (-9223372036854775808) 9223372036854775807 (-9223372036854775808) 9223372036854775807 (-9223372036854775808) 9223372036854775807))) 0 (PL (eWord.list (eWord.row W) 0 m) (Bx.mk (-9223372036854775808) 9223372036854775807 (-9223372036854775808) 9223372036854775807 (-9223372036854775808) 9223372036854775807 (-9223372036854775808) 9223372036854775807 (-9223372036854775808) 9223372036854775807)).length)).a1, Value.int IntKind.i64 (hullI (ePc.list (ePc.row (PL (eWord.list (eWord.row W) 0 m) (Bx.mk (-9223372036854775808) 9223372036854775807 (-9223372036854775808) 9223372036854775807 (-9223372036854775808) 9223372036854775807 (-9223372036854775808) 9223372036854775807 (-9223372036854775808) 9223372036854775807))) 0 (PL (eWord.list (eWord.row W) 0 m) (Bx.mk (-9223372036854775808) 9223372036854775807 (-9223372036854775808) 9223372036854775807 (-9223372036854775808) 9223372036854775807 (-9223372036854775808) 9223372036854775807 (-9223372036854775808) 9223372036854775807)).length)).b1, Value.int IntKind.i64 (hullI (ePc.list (ePc.row (PL (eWord.list (eWord.row W) 0 m) (Bx.mk (-9223372036854775808) 9223372036854775807 (-9223372036854775808) 9223372036854775807 (-9223372036854775808) 9223372036854775807 (-9223372036854775808) 9223372036854775807 (-9223372036854775808) 9223372036854775807))) 0 (PL (eWord.list (eWord.row W) 0 m) (Bx.mk (-9223372036854775808) 9223372036854775807 (-9223372036854775808) 9223372036854775807 (-9223372036854775808) 9223372036854775807 (-9223372036854775808) 9223372036854775807 (-9223372036854775808) 9223372036854775807)).length)).a2, Value.int IntKind.i64 (hullI (ePc.list (ePc.row (PL (eWord.list (eWord.row W) 0 m) (Bx.mk (-9223372036854775808) 9223372036854775807 (-9223372036854775808) 9223372036854775807 (-9223372036854775808) 9223372036854775807 (-9223372036854775808) 9223372036854775807 (-9223372036854775808) 9223372036854775807))) 0 (PL (eWord.list (eWord.row W) 0 m) (Bx.mk (-9223372036854775808) 9223372036854775807 (-9223372036854775808) 9223372036854775807 (-9223372036854775808) 9223372036854775807 (-9223372036854775808) 9223372036854775807 (-9223372036854775808) 9223372036854775807)).length)).b2, Value.int IntKind.i64 (hullI (ePc.list (ePc.row (PL (eWord.list (eWord.row W) 0 m) (Bx.mk (-9223372036854775808) 9223372036854775807 (-9223372036854775808) 9223372036854775807 (-9223372036854775808) 9223372036854775807 (-9223372036854775808) 9223372036854775807 (-9223372036854775808) 9223372036854775807))) 0 (PL (eWord.list (eWord.row W) 0 m) (Bx.mk (-9223372036854775808) 9223372036854775807 (-9223372036854775808) 9223372036854775807 (-9223372036854775808) 9223372036854775807 (-9223372036854775808) 9223372036854775807 (-9223372036854775808) 9223372036854775807)).length)).a3, Value.int IntKind.i64 (hullI (ePc.list (ePc.row (PL (eWord.list (eWord.row W) 0 m) (Bx.mk (-9223372036854775808) 9223372036854775807 (-9223372036854775808) 9223372036854775807 (-9223372036854775808) 9223372036854775807 (-9223372036854775808) 9223372036854775807 (-9223372036854775808) 9223372036854775807))) 0 (PL (eWord.list (eWord.row W) 0 m) (Bx.mk (-9223372036854775808) 9223372036854775807 (-9223372036854775808) 9223372036854775807 (-9223372036854775808) 9223372036854775807 (-9223372036854775808) 9223372036854775807 (-9223372036854775808) 9223372036854775807)).length)).b3, Value.int IntKind.i64 (hullI (ePc.list (ePc.row (PL (eWord.list (eWord.row W) 0 m) (Bx.mk (-9223372036854775808) 9223372036854775807 (-9223372036854775808) 9223372036854775807 (-9223372036854775808) 9223372036854775807 (-9223372036854775808) 9223372036854775807 (-9223372036854775808) 9223372036854775807))) 0 (PL (eWord.list (eWord.row W) 0 m) (Bx.mk (-9223372036854775808) 9223372036854775807 (-9223372036854775808) 9223372036854775807 (-9223372036854775808) 9223372036854775807 (-9223372036854775808) 9223372036854775807 (-9223372036854775808) 9223372036854775807)).length)).a4, Value.int IntKind.i64 (hullI (ePc.list (ePc.row (PL (eWord.list (eWord.row W) 0 m) (Bx.mk (-9223372036854775808) 9223372036854775807 (-9223372036854775808) 9223372036854775807 (-9223372036854775808) 9223372036854775807 (-9223372036854775808) 9223372036854775807 (-9223372036854775808) 9223372036854775807))) 0 (PL (eWord.list (eWord.row W) 0 m) (Bx.mk (-9223372036854775808) 9223372036854775807 (-9223372036854775808) 9223372036854775807 (-9223372036854775808) 9223372036854775807 (-9223372036854775808) 9223372036854775807 (-9223372036854775808) 9223372036854775807)).length)).b4]) = Value.agg (Array.mk [Value.int IntKind.i64 h.a0, Value.int IntKind.i64 h.b0, Value.int IntKind.i64 h.a1, Value.int IntKind.i64 h.b1, Value.int IntKind.i64 h.a2, Value.int IntKind.i64 h.b2, Value.int IntKind.i64 h.a3, Value.int IntKind.i64 h.b3, Value.int IntKind.i64 h.a4, Value.int IntKind.i64 h.b4]), (Blk.vec (ePc.row (PL (eWord.list (eWord.row W) 0 m) (Bx.mk (-9223372036854775808) 9223372036854775807 (-9223372036854775808) 9223372036854775807 (-9223372036854775808) 9223372036854775807 (-9223372036854775808) 9223372036854775807 (-9223372036854775808) 9223372036854775807))) 27 11).plain, 1267650600228229401496703205376 = 1267650600228229401496703205376, ePc.row (PL (eWord.list (eWord.row W) 0 m) (Bx.mk (-9223372036854775808) 9223372036854775807 (-9223372036854775808) 9223372036854775807 (-9223372036854775808) 9223372036854775807 (-9223372036854775808) 9223372036854775807 (-9223372036854775808) 9223372036854775807)) = ePc.row (ePc.list (ePc.row (PL (eWord.list (eWord.row W) 0 m) (Bx.mk (-9223372036854775808) 9223372036854775807 (-9223372036854775808) 9223372036854775807 (-9223372036854775808) 9223372036854775807 (-9223372036854775808) 9223372036854775807 (-9223372036854775808) 9223372036854775807))) 0 (PL (eWord.list (eWord.row W) 0 m) (Bx.mk (-9223372036854775808) 9223372036854775807 (-9223372036854775808) 9223372036854775807 (-9223372036854775808) 9223372036854775807 (-9223372036854775808) 9223372036854775807 (-9223372036854775808) 9223372036854775807)).length), 1 ≤ (PL (eWord.list (eWord.row W) 0 m) (Bx.mk (-9223372036854775808) 9223372036854775807 (-9223372036854775808) 9223372036854775807 (-9223372036854775808) 9223372036854775807 (-9223372036854775808) 9223372036854775807 (-9223372036854775808) 9223372036854775807)).length, (PL (eWord.list (eWord.row W) 0 m) (Bx.mk (-9223372036854775808) 9223372036854775807 (-9223372036854775808) 9223372036854775807 (-9223372036854775808) 9223372036854775807 (-9223372036854775808) 9223372036854775807 (-9223372036854775808) 9223372036854775807)).length ≤ 65536, Value.bool (v == v) = Value.bool true, readPart Try.prog 3 (ePc.row (PL (eWord.list (eWord.row W) 0 m) (Bx.mk p.p0 p.p0 p.p1 p.p1 p.p2 p.p2 p.p3 p.p3 0 0))) 10 = some (Value.int IntKind.i64 v), (0 : Int) ≤ (0 : Int) ∧ (0 : Int) < Int.ofNat (PL (eWord.list (eWord.row W) 0 m) (Bx.mk p.p0 p.p0 p.p1 p.p1 p.p2 p.p2 p.p3 p.p3 0 0)).length, Value.bool (v == v) = Value.bool true, Value.tuple (Array.mk [Value.int IntKind.i64 (atV (ePc.list (ePc.row (PL (eWord.list (eWord.row W) 0 m) (Bx.mk (-9223372036854775808) 9223372036854775807 (-9223372036854775808) 9223372036854775807 (-9223372036854775808) 9223372036854775807 (-9223372036854775808) 9223372036854775807 (-9223372036854775808) 9223372036854775807))) (Addr.mk 100 0 none).off (PL (eWord.list (eWord.row W) 0 m) (Bx.mk (-9223372036854775808) 9223372036854775807 (-9223372036854775808) 9223372036854775807 (-9223372036854775808) 9223372036854775807 (-9223372036854775808) 9223372036854775807 (-9223372036854775808) 9223372036854775807)).length) (Pt.mk p.p0 p.p1 p.p2 p.p3) ((9223372036854775807 : Int))), Value.bool (atB (ePc.list (ePc.row (PL (eWord.list (eWord.row W) 0 m) (Bx.mk (-9223372036854775808) 9223372036854775807 (-9223372036854775808) 9223372036854775807 (-9223372036854775808) 9223372036854775807 (-9223372036854775808) 9223372036854775807 (-9223372036854775808) 9223372036854775807))) (Addr.mk 100 0 none).off (PL (eWord.list (eWord.row W) 0 m) (Bx.mk (-9223372036854775808) 9223372036854775807 (-9223372036854775808) 9223372036854775807 (-9223372036854775808) 9223372036854775807 (-9223372036854775808) 9223372036854775807 (-9223372036854775808) 9223372036854775807)).length) (Pt.mk p.p0 p.p1 p.p2 p.p3) ((9223372036854775807 : Int)))]) = Value.tuple (Array.mk [Value.int IntKind.i64 v, Value.bool true]), plainR [ePc.row (PL (eWord.list (eWord.row W) 0 m) (Bx.mk (-9223372036854775808) 9223372036854775807 (-9223372036854775808) 9223372036854775807 (-9223372036854775808) 9223372036854775807 (-9223372036854775808) 9223372036854775807 (-9223372036854775808) 9223372036854775807))], ePc.Row (ePc.row (PL (eWord.list (eWord.row W) 0 m) (Bx.mk (-9223372036854775808) 9223372036854775807 (-9223372036854775808) 9223372036854775807 (-9223372036854775808) 9223372036854775807 (-9223372036854775808) 9223372036854775807 (-9223372036854775808) 9223372036854775807))) 0 (PL (eWord.list (eWord.row W) 0 m) (Bx.mk (-9223372036854775808) 9223372036854775807 (-9223372036854775808) 9223372036854775807 (-9223372036854775808) 9223372036854775807 (-9223372036854775808) 9223372036854775807 (-9223372036854775808) 9223372036854775807)).length, (PL (eWord.list (eWord.row W) 0 m) (Bx.mk (-9223372036854775808) 9223372036854775807 (-9223372036854775808) 9223372036854775807 (-9223372036854775808) 9223372036854775807 (-9223372036854775808) 9223372036854775807 (-9223372036854775808) 9223372036854775807)).length ≤ 65536, Value.tuple (Array.mk [Value.int IntKind.i64 (atV (ePc.list (ePc.row (PL (eWord.list (eWord.row W) 0 m) (Bx.mk (-9223372036854775808) 9223372036854775807 (-9223372036854775808) 9223372036854775807 (-9223372036854775808) 9223372036854775807 (-9223372036854775808) 9223372036854775807 (-9223372036854775808) 9223372036854775807))) (Addr.mk 100 0 none).off (PL (eWord.list (eWord.row W) 0 m) (Bx.mk (-9223372036854775808) 9223372036854775807 (-9223372036854775808) 9223372036854775807 (-9223372036854775808) 9223372036854775807 (-9223372036854775808) 9223372036854775807 (-9223372036854775808) 9223372036854775807)).length) (Pt.mk p.p0 p.p1 p.p2 p.p3) ((0 : Int))), Value.bool (atB (ePc.list (ePc.row (PL (eWord.list (eWord.row W) 0 m) (Bx.mk (-9223372036854775808) 9223372036854775807 (-9223372036854775808) 9223372036854775807 (-9223372036854775808) 9223372036854775807 (-9223372036854775808) 9223372036854775807 (-9223372036854775808) 9223372036854775807))) (Addr.mk 100 0 none).off (PL (eWord.list (eWord.row W) 0 m) (Bx.mk (-9223372036854775808) 9223372036854775807 (-9223372036854775808) 9223372036854775807 (-9223372036854775808) 9223372036854775807 (-9223372036854775808) 9223372036854775807 (-9223372036854775808) 9223372036854775807)).length) (Pt.mk p.p0 p.p1 p.p2 p.p3) ((0 : Int)))]) = Value.tuple (Array.mk [Value.int IntKind.i64 v, Value.bool true]), plainR [ePc.row (PL (eWord.list (eWord.row W) 0 m) (Bx.mk (-9223372036854775808) 9223372036854775807 (-9223372036854775808) 9223372036854775807 (-9223372036854775808) 9223372036854775807 (-9223372036854775808) 9223372036854775807 (-9223372036854775808) 9223372036854775807))], ePc.Row (ePc.row (PL (eWord.list (eWord.row W) 0 m) (Bx.mk (-9223372036854775808) 9223372036854775807 (-9223372036854775808) 9223372036854775807 (-9223372036854775808) 9223372036854775807 (-9223372036854775808) 9223372036854775807 (-9223372036854775808) 9223372036854775807))) 0 (PL (eWord.list (eWord.row W) 0 m) (Bx.mk (-9223372036854775808) 9223372036854775807 (-9223372036854775808) 9223372036854775807 (-9223372036854775808) 9223372036854775807 (-9223372036854775808) 9223372036854775807 (-9223372036854775808) 9223372036854775807)).length, (PL (eWord.list (eWord.row W) 0 m) (Bx.mk (-9223372036854775808) 9223372036854775807 (-9223372036854775808) 9223372036854775807 (-9223372036854775808) 9223372036854775807 (-9223372036854775808) 9223372036854775807 (-9223372036854775808) 9223372036854775807)).length ≤ 65536, Value.bool (v != v) = Value.bool false, Value.int IntKind.i64 (endV (eWord.list (eWord.row W) 0 m) (Pt.mk p.p0 p.p1 p.p2 p.p3)) = Value.int IntKind.i64 v, plainR [eWord.row W], eWord.Row (eWord.row W) 0 m, ∀ (w : Int), w ∈ eWord.list (eWord.row W) 0 m → U64 w, m ≤ 65536, readPart Try.prog 3 (ePc.row (PL (eWord.list (eWord.row W) 0 m) (Bx.mk p.p0 p.p0 p.p1 p.p1 p.p2 p.p2 p.p3 p.p3 0 0))) 10 = some (Value.int IntKind.i64 v), (0 : Int) ≤ (0 : Int) ∧ (0 : Int) < Int.ofNat (PL (eWord.list (eWord.row W) 0 m) (Bx.mk p.p0 p.p0 p.p1 p.p1 p.p2 p.p2 p.p3 p.p3 0 0)).length, (Value.bool !keyEq (Value.agg (Array.mk [Value.int IntKind.i64 p.p0, Value.int IntKind.i64 p.p0, Value.int IntKind.i64 p.p1, Value.int IntKind.i64 p.p1, Value.int IntKind.i64 p.p2, Value.int IntKind.i64 p.p2, Value.int IntKind.i64 p.p3, Value.int IntKind.i64 p.p3, Value.int IntKind.i64 0, Value.int IntKind.i64 0])) (Value.agg (Array.mk [Value.int IntKind.i64 p.p0, Value.int IntKind.i64 p.p0, Value.int IntKind.i64 p.p1, Value.int IntKind.i64 p.p1, Value.int IntKind.i64 p.p2, Value.int IntKind.i64 p.p2, Value.int IntKind.i64 p.p3, Value.int IntKind.i64 p.p3, Value.int IntKind.i64 0, Value.int IntKind.i64 0]))) = Value.bool false, readPart Try.prog 25 (ePc.row (PL (eWord.list (eWord.row W) 0 m) (Bx.mk p.p0 p.p0 p.p1 p.p1 p.p2 p.p2 p.p3 p.p3 0 0))) 0 = some (Value.agg (Array.mk [Value.int IntKind.i64 p.p0, Value.int IntKind.i64 p.p0, Value.int IntKind.i64 p.p1, Value.int IntKind.i64 p.p1, Value.int IntKind.i64 p.p2, Value.int IntKind.i64 p.p2, Value.int IntKind.i64 p.p3, Value.int IntKind.i64 p.p3, Value.int IntKind.i64 ((0 : Int)), Value.int IntKind.i64 ((0 : Int))])), (0 : Int) ≤ (0 : Int) ∧ (0 : Int) < Int.ofNat (PL (eWord.list (eWord.row W) 0 m) (Bx.mk p.p0 p.p0 p.p1 p.p1 p.p2 p.p2 p.p3 p.p3 0 0)).length, Value.bool (Int.ofNat (PL (eWord.list (eWord.row W) 0 m) (Bx.mk p.p0 p.p0 p.p1 p.p1 p.p2 p.p2 p.p3 p.p3 0 0)).length != (1 : Int)) = Value.bool false, Value.bool (decide ((↑(PL (eWord.list (eWord.row W) 0 m) (Bx.mk (-9223372036854775808) 9223372036854775807 (-9223372036854775808) 9223372036854775807 (-9223372036854775808) 9223372036854775807 (-9223372036854775808) 9223372036854775807 (-9223372036854775808) 9223372036854775807)).length : Int) > (↑(LX (eWord.list (eWord.row W) 0 m)).length : Int))) = Value.bool false, plainR [eWord.row W], LX = leafI0, eWord.Row (eWord.row W) 0 m, ∀ (w : Int), w ∈ eWord.list (eWord.row W) 0 m → U64 w, m ≤ 65536, rightI (eWord.list (eWord.row W) 0 m) ((4 : Int)) = true, plainR [eWord.row W], PL = listP, PL (eWord.list (eWord.row W) 0 m) (Bx.mk p.p0 p.p0 p.p1 p.p1 p.p2 p.p2 p.p3 p.p3 0 0) ≠ [], eWord.Row (eWord.row W) 0 m, ∀ (w : Int), w ∈ eWord.list (eWord.row W) 0 m → U64 w, m ≤ 65536, (Bx.mk p.p0 p.p0 p.p1 p.p1 p.p2 p.p2 p.p3 p.p3 0 0).I64s, plainR [eWord.row W], PL = listP, PL (eWord.list (eWord.row W) 0 m) (Bx.mk (-9223372036854775808) 9223372036854775807 (-9223372036854775808) 9223372036854775807 (-9223372036854775808) 9223372036854775807 (-9223372036854775808) 9223372036854775807 (-9223372036854775808) 9223372036854775807) ≠ [], eWord.Row (eWord.row W) 0 m, ∀ (w : Int), w ∈ eWord.list (eWord.row W) 0 m → U64 w, m ≤ 65536, (Bx.mk (-9223372036854775808) 9223372036854775807 (-9223372036854775808) 9223372036854775807 (-9223372036854775808) 9223372036854775807 (-9223372036854775808) 9223372036854775807 (-9223372036854775808) 9223372036854775807).I64s])) : Sat E (fromR Try.f11 2) ((laL W m p).st 0 ()) :=
  by_ret (T := auto0 (t_la NI PL LX)) (h := hints [(15, 4, ht false), (15, 8, ht false), (15, 12, {p := true}), (15, 14, {o := some (.agg ⟨[.int .i64 p.p0, .int .i64 p.p0, .int .i64 p.p1, .int .i64 p.p1, .int .i64 p.p2, .int .i64 p.p2, .int .i64 p.p3, .int .i64 p.p3, .int .i64 0, .int .i64 0]⟩)}), (15, 16, ht false), (15, 20, {p := true}), (15, 22, {o := some (.int .i64 v)}), (15, 25, {v := some (.int .i64 v)}), (15, 26, ht false), (17, 2, {v := some (.tuple ⟨[.int .i64 v, .bool true]⟩)}), (18, 2, {v := some (.tuple ⟨[.int .i64 v, .bool true]⟩)}), (19, 7, ht true), (19, 12, {p := true}), (19, 14, {o := some (.int .i64 v)}), (19, 15, ht true), (19, 19, {v := some (.agg ⟨h.cs⟩)}), (19, 21, ht true)]) (ws := []) (nx' := 4) hE hm (auto0_ok (t_la_ok NI PL LX)) (by omega) (by simp) (by simp) (by kernel_rfl) hob
end Go.Proofs.Ythbaccmhdffjdaa.Lv


set_option linter.unusedVariables false
set_option linter.unusedSimpArgs false
set_option maxRecDepth 100000
namespace Go.Proofs.Ythbaccmhdffjdaa.Tr
open Go Go.RowKit Go.Proofs.Ythbaccmhdffjdaa.Ev Go.Proofs.Ythbaccmhdffjdaa.NodeE Go.Proofs.Ythbaccmhdffjdaa.Within Go.Proofs.Ythbaccmhdffjdaa.PickE Go.Proofs.Ythbaccmhdffjdaa.Tn Go.Proofs.Ythbaccmhdffjdaa.Tr Go.Proofs.Ythbaccmhdffjdaa.BoxF

theorem ltN (NI : List Int → List Int → List Int → List Int → Int → List Nd) (PL RL : List Int → Bx → List Pc) (cl : Int) (b : Bx) (r0 r1 r2 r3 : Rw)   {E : Env} {rv : Value} {rhs : List Nat} {rhv : List Blk} (hE : EnvOK E Try.prog Try.f7 4 5 rv rhs rhv) (hL : (ltL [] 0 0 b).OK 5) (hob : all ([SameK (fromR Try.f7 4) (fromR Try.f7 4), Enter (ltL [] 0 0 b) 0 none [Value.slice none 0 0, Value.pointer (some (Addr.mk 9 0 none))] [Blk.cells [Value.int IntKind.i64 b.a0, Value.int IntKind.i64 b.b0, Value.int IntKind.i64 b.a1, Value.int IntKind.i64 b.b1, Value.int IntKind.i64 b.a2, Value.int IntKind.i64 b.b2, Value.int IntKind.i64 b.a3, Value.int IntKind.i64 b.b3, Value.int IntKind.i64 b.a4, Value.int IntKind.i64 b.b4] 25] [(10, 9)]])) (hK : ∀ zz, (ltL [] 0 0 b).inv 0 zz → ltO ((ltL [] 0 0 b).mu 0 zz) none → Sat E (fromR Try.f7 4) ((ltL [] 0 0 b).st 0 zz)) : Sat E [.code (bodyOf Try.f7)] (st0 Try.f7 [.slice none 0 0, .agg ⟨vsP 1 cl r0 r1 r2 r3⟩, .agg ⟨b.cs⟩, .bool false] (rowsL [none, r0.o, r1.o, r2.o, r3.o]) 5) :=
  by
  obtain ⟨z0, cs0, n0, c0⟩ := r0
  obtain ⟨z1, cs1, n1, c1⟩ := r1
  obtain ⟨z2, cs2, n2, c2⟩ := r2
  obtain ⟨z3, cs3, n3, c3⟩ := r3
  cases z0 <;> cases z1 <;> cases z2 <;> cases z3 <;> exact by_to (T := auto0 (t_lt NI PL RL true)) (h := hints []) (ws := [.go, .at 4]) (i0 := ()) hE hm (auto0_ok (t_lt_ok NI PL RL true)) hL (by kernel_rfl) hob hK
theorem ltON (NI : List Int → List Int → List Int → List Int → Int → List Nd) (PL RL : List Int → Bx → List Pc) (cl : Int) (b : Bx) (r0 r1 r2 r3 : Rw) (W : List Int) (k : Nat)   {E : Env} {rv : Value} {rhs : List Nat} {rhv : List Blk} (hE : EnvOK E Try.prog Try.f7 4 5 rv rhs rhv) (hL : (ltL W k 0 b).OK 5) (hob : all ([SameK (fromR Try.f7 4) (fromR Try.f7 4), Enter (ltL W k 0 b) 2 none [Value.slice (some (Addr.mk 49 0 none)) (NI (Rw.l r0) (Rw.l r1) (Rw.l r2) (Rw.l r3) 4).length 1267650600228229401496703205376, Value.pointer (some (Addr.mk 9 0 none))] [Blk.cells [Value.int IntKind.i64 b.a0, Value.int IntKind.i64 b.b0, Value.int IntKind.i64 b.a1, Value.int IntKind.i64 b.b1, Value.int IntKind.i64 b.a2, Value.int IntKind.i64 b.b2, Value.int IntKind.i64 b.a3, Value.int IntKind.i64 b.b3, Value.int IntKind.i64 b.a4, Value.int IntKind.i64 b.b4] 25, Blk.vec (eWord.row (List.map packN (NI (Rw.l r0) (Rw.l r1) (Rw.l r2) (Rw.l r3) 4))) 83 1] [(11, 49), (10, 9)], plainR (cssZ r0 r1 r2 r3), NI = nodesI, (1 : Int) ≤ (4 : Int) ∧ (4 : Int) ≤ (1000 : Int)] ++ (Rw.ob2 r0 ++ (Rw.ob2 r1 ++ (Rw.ob2 r2 ++ (Rw.ob2 r3)))))) (hK : ∀ zz, (ltL W k 0 b).inv 2 zz → ltO ((ltL W k 0 b).mu 2 zz) none → Sat E (fromR Try.f7 4) ((ltL W k 0 b).st 2 zz)) : Sat E [.code (bodyOf Try.f7)] (st0 Try.f7 [.slice none 0 0, .agg ⟨vsP 1 cl r0 r1 r2 r3⟩, .agg ⟨b.cs⟩, .bool true] (rowsL [none, r0.o, r1.o, r2.o, r3.o]) 5) :=
  by
  obtain ⟨z0, cs0, n0, c0⟩ := r0
  obtain ⟨z1, cs1, n1, c1⟩ := r1
  obtain ⟨z2, cs2, n2, c2⟩ := r2
  obtain ⟨z3, cs3, n3, c3⟩ := r3
  cases z0 <;> cases z1 <;> cases z2 <;> cases z3 <;> exact by_to (T := auto0 (t_lt NI PL RL true)) (h := hints []) (ws := [.go, .at 4]) (i0 := ()) hE hm (auto0_ok (t_lt_ok NI PL RL true)) hL (by kernel_rfl) hob hK
theorem ltS (NI : List Int → List Int → List Int → List Int → Int → List Nd) (PL RL : List Int → Bx → List Pc) (cl : Int) (b : Bx) (r0 r1 r2 r3 : Rw) (L : List Int) (n m c : Nat)  {E : Env} {rv : Value} {rhs : List Nat} {rhv : List Blk} (hE : EnvOK E Try.prog Try.f7 4 5 rv rhs rhv) (hL : (ltL L m c b).OK 5) (hob : all ([SameK (fromR Try.f7 4) (fromR Try.f7 4), Enter (ltL L m c b) 1 none [Value.slice (some (Addr.mk 0 0 none)) m c, Value.pointer (some (Addr.mk 9 0 none))] [Blk.cells [Value.int IntKind.i64 b.a0, Value.int IntKind.i64 b.b0, Value.int IntKind.i64 b.a1, Value.int IntKind.i64 b.b1, Value.int IntKind.i64 b.a2, Value.int IntKind.i64 b.b2, Value.int IntKind.i64 b.a3, Value.int IntKind.i64 b.b3, Value.int IntKind.i64 b.a4, Value.int IntKind.i64 b.b4] 25, Blk.ro (eWord.row L)] [(0, 0), (10, 9)], SlOK 1 0 0 n c none (some ((m : Int))) (some (Blk.ro (eWord.row L))) (Value.slice (some (Addr.mk 0 0 none)) m c), Value.int IntKind.i64 (minI ((n : Int)) ((35 : Int))) = Value.int IntKind.i64 ((m : Int))])) (hK : ∀ zz, (ltL L m c b).inv 1 zz → ltO ((ltL L m c b).mu 1 zz) none → Sat E (fromR Try.f7 4) ((ltL L m c b).st 1 zz)) : Sat E [.code (bodyOf Try.f7)] (st0 Try.f7 [.slice (some ⟨0, 0, none⟩) n c, .agg ⟨vsP 1 cl r0 r1 r2 r3⟩, .agg ⟨b.cs⟩, .bool false] (rowsL [some (eWord.row L), r0.o, r1.o, r2.o, r3.o]) 5) :=
  by
  obtain ⟨z0, cs0, n0, c0⟩ := r0
  obtain ⟨z1, cs1, n1, c1⟩ := r1
  obtain ⟨z2, cs2, n2, c2⟩ := r2
  obtain ⟨z3, cs3, n3, c3⟩ := r3
  cases z0 <;> cases z1 <;> cases z2 <;> cases z3 <;> exact by_to (T := auto0 (t_lt NI PL RL true)) (h := hints [(1, 3, {v := some (.int .i64 (m : Int))}), (1, 4, {o := some (.slice (some ⟨0, 0, none⟩) m c)})]) (ws := [.go, .at 4]) (i0 := ()) hE hm (auto0_ok (t_lt_ok NI PL RL true)) hL (by kernel_rfl) hob hK
theorem ltOS (NI : List Int → List Int → List Int → List Int → Int → List Nd) (PL RL : List Int → Bx → List Pc) (cl : Int) (b : Bx) (r0 r1 r2 r3 : Rw) (W : List Int) (k : Nat) (L : List Int) (n m c : Nat)  {E : Env} {rv : Value} {rhs : List Nat} {rhv : List Blk} (hE : EnvOK E Try.prog Try.f7 4 5 rv rhs rhv) (hL : (ltL W k 0 b).OK 5) (hob : all ([SameK (fromR Try.f7 4) (fromR Try.f7 4), Enter (ltL W k 0 b) 2 none [Value.slice (some (Addr.mk 49 0 none)) (NI (Rw.l r0) (Rw.l r1) (Rw.l r2) (Rw.l r3) 4).length 1267650600228229401496703205376, Value.pointer (some (Addr.mk 9 0 none))] [Blk.cells [Value.int IntKind.i64 b.a0, Value.int IntKind.i64 b.b0, Value.int IntKind.i64 b.a1, Value.int IntKind.i64 b.b1, Value.int IntKind.i64 b.a2, Value.int IntKind.i64 b.b2, Value.int IntKind.i64 b.a3, Value.int IntKind.i64 b.b3, Value.int IntKind.i64 b.a4, Value.int IntKind.i64 b.b4] 25, Blk.vec (eWord.row (List.map packN (NI (Rw.l r0) (Rw.l r1) (Rw.l r2) (Rw.l r3) 4))) 83 1] [(11, 49), (10, 9)], plainR (cssZ r0 r1 r2 r3), NI = nodesI, (1 : Int) ≤ (4 : Int) ∧ (4 : Int) ≤ (1000 : Int)] ++ (Rw.ob2 r0 ++ (Rw.ob2 r1 ++ (Rw.ob2 r2 ++ (Rw.ob2 r3 ++ ([SlOK 1 0 0 n c none (some ((m : Int))) (some (Blk.ro (eWord.row L))) (Value.slice (some (Addr.mk 0 0 none)) m c), Value.int IntKind.i64 (minI ((n : Int)) ((35 : Int))) = Value.int IntKind.i64 ((m : Int))]))))))) (hK : ∀ zz, (ltL W k 0 b).inv 2 zz → ltO ((ltL W k 0 b).mu 2 zz) none → Sat E (fromR Try.f7 4) ((ltL W k 0 b).st 2 zz)) : Sat E [.code (bodyOf Try.f7)] (st0 Try.f7 [.slice (some ⟨0, 0, none⟩) n c, .agg ⟨vsP 1 cl r0 r1 r2 r3⟩, .agg ⟨b.cs⟩, .bool true] (rowsL [some (eWord.row L), r0.o, r1.o, r2.o, r3.o]) 5) :=
  by
  obtain ⟨z0, cs0, n0, c0⟩ := r0
  obtain ⟨z1, cs1, n1, c1⟩ := r1
  obtain ⟨z2, cs2, n2, c2⟩ := r2
  obtain ⟨z3, cs3, n3, c3⟩ := r3
  cases z0 <;> cases z1 <;> cases z2 <;> cases z3 <;> exact by_to (T := auto0 (t_lt NI PL RL true)) (h := hints [(1, 3, {v := some (.int .i64 (m : Int))}), (1, 4, {o := some (.slice (some ⟨0, 0, none⟩) m c)})]) (ws := [.go, .at 4]) (i0 := ()) hE hm (auto0_ok (t_lt_ok NI PL RL true)) hL (by kernel_rfl) hob hK
theorem ltE0 (NI : List Int → List Int → List Int → List Int → Int → List Nd) (PL RL : List Int → Bx → List Pc) (L : List Int) (m c : Nat) (b : Bx)  {E : Env} (hE : EnvOK E Try.prog Try.f7 4 5 (.bool true) [] []) (hob : all ([Back (Value.bool true) (Value.bool true) [] [] [], Value.bool (emptyB b.a0 b.b0 b.a1 b.b1 b.a2 b.b2 b.a3 b.b3 b.a4 b.b4) = Value.bool true, plainR []])) : Sat E (fromR Try.f7 4) ((ltL [] 0 0 b).st 0 ()) :=
  by_ret (T := auto0 (t_lt NI PL RL false)) (h := hints [(5, 1, {v := some (.bool true)})]) (ws := [.go]) (nx' := 5) hE hm (auto0_ok (t_lt_ok NI PL RL false)) (by omega) (by simp) (by simp) (by kernel_rfl) hob
theorem ltK0 (NI : List Int → List Int → List Int → List Int → Int → List Nd) (PL RL : List Int → Bx → List Pc) (L : List Int) (m c : Nat) (b : Bx)  {E : Env} (hE : EnvOK E Try.prog Try.f7 4 5 (.bool true) [] []) (hob : all ([Back (Value.bool true) (Value.bool true) [] [] [], plainR [], plainR [], Value.bool (emptyB b.a0 b.b0 b.a1 b.b1 b.a2 b.b2 b.a3 b.b3 b.a4 b.b4) = Value.bool false, plainR []])) : Sat E (fromR Try.f7 4) ((ltL [] 0 0 b).st 0 ()) :=
  by_ret (T := auto0 (t_lt NI PL RL false)) (h := hints [(5, 1, {v := some (.bool false)})]) (ws := [.go]) (nx' := 5) hE hm (auto0_ok (t_lt_ok NI PL RL false)) (by omega) (by simp) (by simp) (by kernel_rfl) hob
theorem ltE1 (NI : List Int → List Int → List Int → List Int → Int → List Nd) (PL RL : List Int → Bx → List Pc) (L : List Int) (m c : Nat) (b : Bx)  {E : Env} (hE : EnvOK E Try.prog Try.f7 4 5 (.bool true) [] []) (hob : all ([Back (Value.bool true) (Value.bool true) [] [] [], Value.bool (emptyB b.a0 b.b0 b.a1 b.b1 b.a2 b.b2 b.a3 b.b3 b.a4 b.b4) = Value.bool true, plainR [eWord.row L], PL = listP, PL (eWord.list (eWord.row L) 0 m) (Bx.mk b.a0 b.b0 b.a1 b.b1 b.a2 b.b2 b.a3 b.b3 b.a4 b.b4) = [], eWord.Row (eWord.row L) 0 m, ∀ (w : Int), w ∈ eWord.list (eWord.row L) 0 m → U64 w, m ≤ 65536, (Bx.mk b.a0 b.b0 b.a1 b.b1 b.a2 b.b2 b.a3 b.b3 b.a4 b.b4).I64s])) : Sat E (fromR Try.f7 4) ((ltL L m c b).st 1 ()) :=
  by_ret (T := auto0 (t_lt NI PL RL false)) (h := hints [(5, 1, {v := some (.bool true)})]) (ws := [.go]) (nx' := 5) hE hm (auto0_ok (t_lt_ok NI PL RL false)) (by omega) (by simp) (by simp) (by kernel_rfl) hob
theorem ltK1 (NI : List Int → List Int → List Int → List Int → Int → List Nd) (PL RL : List Int → Bx → List Pc) (L : List Int) (m c : Nat) (b : Bx)  {E : Env} (hE : EnvOK E Try.prog Try.f7 4 5 (.bool true) [] []) (hob : all ([Back (Value.bool true) (Value.bool true) [] [] [], plainR [], plainR [eWord.row L], RL = rlvP, RL (eWord.list (eWord.row L) 0 m) (Bx.mk b.a0 b.b0 b.a1 b.b1 b.a2 b.b2 b.a3 b.b3 b.a4 b.b4) = [], eWord.Row (eWord.row L) 0 m, ∀ (w : Int), w ∈ eWord.list (eWord.row L) 0 m → U64 w, m ≤ 65536, (Bx.mk b.a0 b.b0 b.a1 b.b1 b.a2 b.b2 b.a3 b.b3 b.a4 b.b4).I64s, Value.bool (emptyB b.a0 b.b0 b.a1 b.b1 b.a2 b.b2 b.a3 b.b3 b.a4 b.b4) = Value.bool false, plainR [eWord.row L], PL = listP, PL (eWord.list (eWord.row L) 0 m) (Bx.mk b.a0 b.b0 b.a1 b.b1 b.a2 b.b2 b.a3 b.b3 b.a4 b.b4) = [], eWord.Row (eWord.row L) 0 m, ∀ (w : Int), w ∈ eWord.list (eWord.row L) 0 m → U64 w, m ≤ 65536, (Bx.mk b.a0 b.b0 b.a1 b.b1 b.a2 b.b2 b.a3 b.b3 b.a4 b.b4).I64s])) : Sat E (fromR Try.f7 4) ((ltL L m c b).st 1 ()) :=
  by_ret (T := auto0 (t_lt NI PL RL false)) (h := hints [(5, 1, {v := some (.bool false)})]) (ws := [.go]) (nx' := 5) hE hm (auto0_ok (t_lt_ok NI PL RL false)) (by omega) (by simp) (by simp) (by kernel_rfl) hob
theorem ltR1 (NI : List Int → List Int → List Int → List Int → Int → List Nd) (PL RL : List Int → Bx → List Pc) (L : List Int) (m c : Nat) (b : Bx)  {E : Env} (hE : EnvOK E Try.prog Try.f7 4 5 (.bool true) [] []) (hob : all ([Back (Value.bool true) (Value.bool true) [] [] [], Value.bool (decide (ePc.list (ePc.row (PL (eWord.list (eWord.row L) 0 m) (Bx.mk b.a0 b.b0 b.a1 b.b1 b.a2 b.b2 b.a3 b.b3 b.a4 b.b4))) (Addr.mk 100 0 none).off (PL (eWord.list (eWord.row L) 0 m) (Bx.mk b.a0 b.b0 b.a1 b.b1 b.a2 b.b2 b.a3 b.b3 b.a4 b.b4)).length = ePc.list (ePc.row (RL (eWord.list (eWord.row L) 0 m) (Bx.mk b.a0 b.b0 b.a1 b.b1 b.a2 b.b2 b.a3 b.b3 b.a4 b.b4))) (Addr.mk 100 0 none).off (RL (eWord.list (eWord.row L) 0 m) (Bx.mk b.a0 b.b0 b.a1 b.b1 b.a2 b.b2 b.a3 b.b3 b.a4 b.b4)).length)) = Value.bool true, plainR [ePc.row (PL (eWord.list (eWord.row L) 0 m) (Bx.mk b.a0 b.b0 b.a1 b.b1 b.a2 b.b2 b.a3 b.b3 b.a4 b.b4)), ePc.row (RL (eWord.list (eWord.row L) 0 m) (Bx.mk b.a0 b.b0 b.a1 b.b1 b.a2 b.b2 b.a3 b.b3 b.a4 b.b4))], ePc.Row (ePc.row (PL (eWord.list (eWord.row L) 0 m) (Bx.mk b.a0 b.b0 b.a1 b.b1 b.a2 b.b2 b.a3 b.b3 b.a4 b.b4))) 0 (PL (eWord.list (eWord.row L) 0 m) (Bx.mk b.a0 b.b0 b.a1 b.b1 b.a2 b.b2 b.a3 b.b3 b.a4 b.b4)).length, ePc.Row (ePc.row (RL (eWord.list (eWord.row L) 0 m) (Bx.mk b.a0 b.b0 b.a1 b.b1 b.a2 b.b2 b.a3 b.b3 b.a4 b.b4))) 0 (RL (eWord.list (eWord.row L) 0 m) (Bx.mk b.a0 b.b0 b.a1 b.b1 b.a2 b.b2 b.a3 b.b3 b.a4 b.b4)).length, (PL (eWord.list (eWord.row L) 0 m) (Bx.mk b.a0 b.b0 b.a1 b.b1 b.a2 b.b2 b.a3 b.b3 b.a4 b.b4)).length ≤ 9223372036854775806, plainR [eWord.row L], RL = rlvP, RL (eWord.list (eWord.row L) 0 m) (Bx.mk b.a0 b.b0 b.a1 b.b1 b.a2 b.b2 b.a3 b.b3 b.a4 b.b4) ≠ [], eWord.Row (eWord.row L) 0 m, ∀ (w : Int), w ∈ eWord.list (eWord.row L) 0 m → U64 w, m ≤ 65536, (Bx.mk b.a0 b.b0 b.a1 b.b1 b.a2 b.b2 b.a3 b.b3 b.a4 b.b4).I64s, Value.bool (emptyB b.a0 b.b0 b.a1 b.b1 b.a2 b.b2 b.a3 b.b3 b.a4 b.b4) = Value.bool false, plainR [eWord.row L], PL = listP, PL (eWord.list (eWord.row L) 0 m) (Bx.mk b.a0 b.b0 b.a1 b.b1 b.a2 b.b2 b.a3 b.b3 b.a4 b.b4) ≠ [], eWord.Row (eWord.row L) 0 m, ∀ (w : Int), w ∈ eWord.list (eWord.row L) 0 m → U64 w, m ≤ 65536, (Bx.mk b.a0 b.b0 b.a1 b.b1 b.a2 b.b2 b.a3 b.b3 b.a4 b.b4).I64s])) : Sat E (fromR Try.f7 4) ((ltL L m c b).st 1 ()) :=
  by_ret (T := auto0 (t_lt NI PL RL true)) (h := hints [(5, 1, {v := some (.bool false)}), (7, 4, {v := some (.bool true)})]) (ws := [.go]) (nx' := 5) hE hm (auto0_ok (t_lt_ok NI PL RL true)) (by omega) (by simp) (by simp) (by kernel_rfl) hob
theorem ltE2 (NI : List Int → List Int → List Int → List Int → Int → List Nd) (PL RL : List Int → Bx → List Pc) (L : List Int) (m c : Nat) (b : Bx)  {E : Env} (hE : EnvOK E Try.prog Try.f7 4 5 (.bool true) [] []) (hob : all ([Back (Value.bool true) (Value.bool true) [] [] [], Value.bool (emptyB b.a0 b.b0 b.a1 b.b1 b.a2 b.b2 b.a3 b.b3 b.a4 b.b4) = Value.bool true, plainR [eWord.row L], PL = listP, PL (eWord.list (eWord.row L) 0 m) (Bx.mk b.a0 b.b0 b.a1 b.b1 b.a2 b.b2 b.a3 b.b3 b.a4 b.b4) = [], eWord.Row (eWord.row L) 0 m, ∀ (w : Int), w ∈ eWord.list (eWord.row L) 0 m → U64 w, m ≤ 65536, (Bx.mk b.a0 b.b0 b.a1 b.b1 b.a2 b.b2 b.a3 b.b3 b.a4 b.b4).I64s])) : Sat E (fromR Try.f7 4) ((ltL L m c b).st 2 ()) :=
  by_ret (T := auto0 (t_lt NI PL RL false)) (h := hints [(5, 1, {v := some (.bool true)})]) (ws := [.go]) (nx' := 5) hE hm (auto0_ok (t_lt_ok NI PL RL false)) (by omega) (by simp) (by simp) (by kernel_rfl) hob
theorem ltK2 (NI : List Int → List Int → List Int → List Int → Int → List Nd) (PL RL : List Int → Bx → List Pc) (L : List Int) (m c : Nat) (b : Bx)  {E : Env} (hE : EnvOK E Try.prog Try.f7 4 5 (.bool true) [] []) (hob : all ([Back (Value.bool true) (Value.bool true) [] [] [], plainR [], plainR [eWord.row L], RL = rlvP, RL (eWord.list (eWord.row L) 0 m) (Bx.mk b.a0 b.b0 b.a1 b.b1 b.a2 b.b2 b.a3 b.b3 b.a4 b.b4) = [], eWord.Row (eWord.row L) 0 m, ∀ (w : Int), w ∈ eWord.list (eWord.row L) 0 m → U64 w, m ≤ 65536, (Bx.mk b.a0 b.b0 b.a1 b.b1 b.a2 b.b2 b.a3 b.b3 b.a4 b.b4).I64s, Value.bool (emptyB b.a0 b.b0 b.a1 b.b1 b.a2 b.b2 b.a3 b.b3 b.a4 b.b4) = Value.bool false, plainR [eWord.row L], PL = listP, PL (eWord.list (eWord.row L) 0 m) (Bx.mk b.a0 b.b0 b.a1 b.b1 b.a2 b.b2 b.a3 b.b3 b.a4 b.b4) = [], eWord.Row (eWord.row L) 0 m, ∀ (w : Int), w ∈ eWord.list (eWord.row L) 0 m → U64 w, m ≤ 65536, (Bx.mk b.a0 b.b0 b.a1 b.b1 b.a2 b.b2 b.a3 b.b3 b.a4 b.b4).I64s])) : Sat E (fromR Try.f7 4) ((ltL L m c b).st 2 ()) :=
  by_ret (T := auto0 (t_lt NI PL RL false)) (h := hints [(5, 1, {v := some (.bool false)})]) (ws := [.go]) (nx' := 5) hE hm (auto0_ok (t_lt_ok NI PL RL false)) (by omega) (by simp) (by simp) (by kernel_rfl) hob
theorem ltR2 (NI : List Int → List Int → List Int → List Int → Int → List Nd) (PL RL : List Int → Bx → List Pc) (L : List Int) (m c : Nat) (b : Bx)  {E : Env} (hE : EnvOK E Try.prog Try.f7 4 5 (.bool true) [] []) (hob : all ([Back (Value.bool true) (Value.bool true) [] [] [], Value.bool (decide (ePc.list (ePc.row (PL (eWord.list (eWord.row L) 0 m) (Bx.mk b.a0 b.b0 b.a1 b.b1 b.a2 b.b2 b.a3 b.b3 b.a4 b.b4))) (Addr.mk 100 0 none).off (PL (eWord.list (eWord.row L) 0 m) (Bx.mk b.a0 b.b0 b.a1 b.b1 b.a2 b.b2 b.a3 b.b3 b.a4 b.b4)).length = ePc.list (ePc.row (RL (eWord.list (eWord.row L) 0 m) (Bx.mk b.a0 b.b0 b.a1 b.b1 b.a2 b.b2 b.a3 b.b3 b.a4 b.b4))) (Addr.mk 100 0 none).off (RL (eWord.list (eWord.row L) 0 m) (Bx.mk b.a0 b.b0 b.a1 b.b1 b.a2 b.b2 b.a3 b.b3 b.a4 b.b4)).length)) = Value.bool true, plainR [ePc.row (PL (eWord.list (eWord.row L) 0 m) (Bx.mk b.a0 b.b0 b.a1 b.b1 b.a2 b.b2 b.a3 b.b3 b.a4 b.b4)), ePc.row (RL (eWord.list (eWord.row L) 0 m) (Bx.mk b.a0 b.b0 b.a1 b.b1 b.a2 b.b2 b.a3 b.b3 b.a4 b.b4))], ePc.Row (ePc.row (PL (eWord.list (eWord.row L) 0 m) (Bx.mk b.a0 b.b0 b.a1 b.b1 b.a2 b.b2 b.a3 b.b3 b.a4 b.b4))) 0 (PL (eWord.list (eWord.row L) 0 m) (Bx.mk b.a0 b.b0 b.a1 b.b1 b.a2 b.b2 b.a3 b.b3 b.a4 b.b4)).length, ePc.Row (ePc.row (RL (eWord.list (eWord.row L) 0 m) (Bx.mk b.a0 b.b0 b.a1 b.b1 b.a2 b.b2 b.a3 b.b3 b.a4 b.b4))) 0 (RL (eWord.list (eWord.row L) 0 m) (Bx.mk b.a0 b.b0 b.a1 b.b1 b.a2 b.b2 b.a3 b.b3 b.a4 b.b4)).length, (PL (eWord.list (eWord.row L) 0 m) (Bx.mk b.a0 b.b0 b.a1 b.b1 b.a2 b.b2 b.a3 b.b3 b.a4 b.b4)).length ≤ 9223372036854775806, plainR [eWord.row L], RL = rlvP, RL (eWord.list (eWord.row L) 0 m) (Bx.mk b.a0 b.b0 b.a1 b.b1 b.a2 b.b2 b.a3 b.b3 b.a4 b.b4) ≠ [], eWord.Row (eWord.row L) 0 m, ∀ (w : Int), w ∈ eWord.list (eWord.row L) 0 m → U64 w, m ≤ 65536, (Bx.mk b.a0 b.b0 b.a1 b.b1 b.a2 b.b2 b.a3 b.b3 b.a4 b.b4).I64s, Value.bool (emptyB b.a0 b.b0 b.a1 b.b1 b.a2 b.b2 b.a3 b.b3 b.a4 b.b4) = Value.bool false, plainR [eWord.row L], PL = listP, PL (eWord.list (eWord.row L) 0 m) (Bx.mk b.a0 b.b0 b.a1 b.b1 b.a2 b.b2 b.a3 b.b3 b.a4 b.b4) ≠ [], eWord.Row (eWord.row L) 0 m, ∀ (w : Int), w ∈ eWord.list (eWord.row L) 0 m → U64 w, m ≤ 65536, (Bx.mk b.a0 b.b0 b.a1 b.b1 b.a2 b.b2 b.a3 b.b3 b.a4 b.b4).I64s])) : Sat E (fromR Try.f7 4) ((ltL L m c b).st 2 ()) :=
  by_ret (T := auto0 (t_lt NI PL RL true)) (h := hints [(5, 1, {v := some (.bool false)}), (7, 4, {v := some (.bool true)})]) (ws := [.go]) (nx' := 5) hE hm (auto0_ok (t_lt_ok NI PL RL true)) (by omega) (by simp) (by simp) (by kernel_rfl) hob
end Go.Proofs.Ythbaccmhdffjdaa.Tr


set_option linter.unusedVariables false
set_option linter.unusedSimpArgs false
set_option maxRecDepth 100000
namespace Go.Proofs.Ythbaccmhdffjdaa.OpenAgg
open Go Go.RowKit Go.ChangeShapes Go.WideShapes

theorem cell_int {w : World} {r : Reach} {b : Nat} {v : Value} (h : Cell.okWide Try.prog w r b 3 v) : ∃ n : Int, v = .int .i64 n ∧ (-9223372036854775808 ≤ n ∧ n ≤ 9223372036854775807) := by
  simp only [Cell.okWide, Try.underlying3] at h
  simp only [Cell.ok, Try.underlying3] at h
  split at h <;> first | (rename_i e; cases e; done) | skip
  all_goals first | exact h.elim | skip
  all_goals first
    | (rename_i e1; injection e1 with e1; injection e1 with e1; subst e1; obtain ⟨rfl, hh⟩ := h; exact ⟨_, rfl, by simpa [IntKind.has, IntKind.min, IntKind.max, IntKind.signed, IntKind.bits] using hh⟩)
    | (rename_i e1; cases e1)
/-- The cells of a value whose cells are all numbers. -/
theorem cells_int {t : TypeId} {n : Nat} {w : World} {r : Reach} {b : Nat} {cs : Array Value} (hct : Try.prog.cellTypes Try.prog.depth t = some (List.replicate n 3)) (hn : 0 < n) (h : Row.okWide Try.prog w r b t cs) :
    ∀ (i : Nat) (v : Value), cs[i]? = some v → ∃ m : Int, v = .int .i64 m ∧ (-9223372036854775808 ≤ m ∧ m ≤ 9223372036854775807) := by
  obtain ⟨ts, h1, _, h2⟩ := h
  rw [hct] at h1
  injection h1 with h1
  subst h1
  intro i v hv
  obtain ⟨u, hu, hc⟩ := h2 i v hv
  rw [List.length_replicate, List.getElem?_replicate] at hu
  rw [if_pos (Nat.mod_lt _ hn)] at hu
  injection hu with hu
  subst hu
  exact cell_int hc
theorem open_span {w : World} {b : Nat} {v : Value} (hv : Value.okWide Try.prog w .any b 23 v) :
    ∃ x y : Int, v = .agg #[.int .i64 x, .int .i64 y] ∧ (-9223372036854775808 ≤ x ∧ x ≤ 9223372036854775807) ∧ (-9223372036854775808 ≤ y ∧ y ≤ 9223372036854775807) := by
  simp only [Value.okWide, Try.underlying23] at hv
  obtain ⟨cs, rfl, hs, hr⟩ := hv
  have hC : Try.prog.cellsOf 23 = 2 := by kernel_rfl
  have hc := cells_int (n := 2) (t := 23) (by kernel_rfl) (by decide) hr
  rw [hC] at hs
  obtain ⟨c0, c1, rfl⟩ := Joins.array2 hs
  obtain ⟨x, rfl, hx⟩ := hc 0 _ rfl
  obtain ⟨y, rfl, hy⟩ := hc 1 _ rfl
  exact ⟨x, y, rfl, hx, hy⟩
theorem open_box {w : World} {b : Nat} {v : Value} (hv : Value.okWide Try.prog w .any b 25 v) :
    ∃ x0 x1 x2 x3 x4 x5 x6 x7 x8 x9 : Int, v = .agg #[.int .i64 x0, .int .i64 x1, .int .i64 x2, .int .i64 x3, .int .i64 x4, .int .i64 x5, .int .i64 x6, .int .i64 x7, .int .i64 x8, .int .i64 x9] ∧ (-9223372036854775808 ≤ x0 ∧ x0 ≤ 9223372036854775807) ∧ (-9223372036854775808 ≤ x1 ∧ x1 ≤ 9223372036854775807) ∧ (-9223372036854775808 ≤ x2 ∧ x2 ≤ 9223372036854775807) ∧ (-9223372036854775808 ≤ x3 ∧ x3 ≤ 9223372036854775807) ∧ (-9223372036854775808 ≤ x4 ∧ x4 ≤ 9223372036854775807) ∧ (-9223372036854775808 ≤ x5 ∧ x5 ≤ 9223372036854775807) ∧ (-9223372036854775808 ≤ x6 ∧ x6 ≤ 9223372036854775807) ∧ (-9223372036854775808 ≤ x7 ∧ x7 ≤ 9223372036854775807) ∧ (-9223372036854775808 ≤ x8 ∧ x8 ≤ 9223372036854775807) ∧ (-9223372036854775808 ≤ x9 ∧ x9 ≤ 9223372036854775807) := by
  simp only [Value.okWide, Try.underlying25] at hv
  obtain ⟨cs, rfl, hs, hr⟩ := hv
  have hC : Try.prog.cellsOf 25 = 10 := by kernel_rfl
  have hc := cells_int (n := 10) (t := 25) (by kernel_rfl) (by decide) hr
  rw [hC] at hs
  obtain ⟨l⟩ := cs
  have hl : l.length = 10 := by simpa using hs
  obtain ⟨x0, e0, r0⟩ := hc 0 (l[0]'(by omega)) (by simp)
  obtain ⟨x1, e1, r1⟩ := hc 1 (l[1]'(by omega)) (by simp)
  obtain ⟨x2, e2, r2⟩ := hc 2 (l[2]'(by omega)) (by simp)
  obtain ⟨x3, e3, r3⟩ := hc 3 (l[3]'(by omega)) (by simp)
  obtain ⟨x4, e4, r4⟩ := hc 4 (l[4]'(by omega)) (by simp)
  obtain ⟨x5, e5, r5⟩ := hc 5 (l[5]'(by omega)) (by simp)
  obtain ⟨x6, e6, r6⟩ := hc 6 (l[6]'(by omega)) (by simp)
  obtain ⟨x7, e7, r7⟩ := hc 7 (l[7]'(by omega)) (by simp)
  obtain ⟨x8, e8, r8⟩ := hc 8 (l[8]'(by omega)) (by simp)
  obtain ⟨x9, e9, r9⟩ := hc 9 (l[9]'(by omega)) (by simp)
  refine ⟨x0, x1, x2, x3, x4, x5, x6, x7, x8, x9, ?_, r0, r1, r2, r3, r4, r5, r6, r7, r8, r9⟩
  congr 1
  apply Array.ext'
  apply List.ext_getElem (by simpa using hl)
  intro i h1 h2
  have h3 : i < 10 := by simpa [hl] using h1
  by_cases c0 : i = 0
  · subst c0; simpa using e0
  by_cases c1 : i = 1
  · subst c1; simpa using e1
  by_cases c2 : i = 2
  · subst c2; simpa using e2
  by_cases c3 : i = 3
  · subst c3; simpa using e3
  by_cases c4 : i = 4
  · subst c4; simpa using e4
  by_cases c5 : i = 5
  · subst c5; simpa using e5
  by_cases c6 : i = 6
  · subst c6; simpa using e6
  by_cases c7 : i = 7
  · subst c7; simpa using e7
  by_cases c8 : i = 8
  · subst c8; simpa using e8
  by_cases c9 : i = 9
  · subst c9; simpa using e9
  omega
theorem open_point {w : World} {b : Nat} {v : Value} (hv : Value.okWide Try.prog w .any b 72 v) :
    ∃ x0 x1 x2 x3 : Int, v = .agg #[.int .i64 x0, .int .i64 x1, .int .i64 x2, .int .i64 x3] ∧ (-9223372036854775808 ≤ x0 ∧ x0 ≤ 9223372036854775807) ∧ (-9223372036854775808 ≤ x1 ∧ x1 ≤ 9223372036854775807) ∧ (-9223372036854775808 ≤ x2 ∧ x2 ≤ 9223372036854775807) ∧ (-9223372036854775808 ≤ x3 ∧ x3 ≤ 9223372036854775807) := by
  simp only [Value.okWide, Try.underlying72] at hv
  obtain ⟨cs, rfl, hs, hr⟩ := hv
  have hC : Try.prog.cellsOf 72 = 4 := by kernel_rfl
  have hc := cells_int (n := 4) (t := 72) (by kernel_rfl) (by decide) hr
  rw [hC] at hs
  obtain ⟨l⟩ := cs
  have hl : l.length = 4 := by simpa using hs
  obtain ⟨x0, e0, r0⟩ := hc 0 (l[0]'(by omega)) (by simp)
  obtain ⟨x1, e1, r1⟩ := hc 1 (l[1]'(by omega)) (by simp)
  obtain ⟨x2, e2, r2⟩ := hc 2 (l[2]'(by omega)) (by simp)
  obtain ⟨x3, e3, r3⟩ := hc 3 (l[3]'(by omega)) (by simp)
  refine ⟨x0, x1, x2, x3, ?_, r0, r1, r2, r3⟩
  congr 1
  apply Array.ext'
  apply List.ext_getElem (by simpa using hl)
  intro i h1 h2
  have h3 : i < 4 := by simpa [hl] using h1
  by_cases c0 : i = 0
  · subst c0; simpa using e0
  by_cases c1 : i = 1
  · subst c1; simpa using e1
  by_cases c2 : i = 2
  · subst c2; simpa using e2
  by_cases c3 : i = 3
  · subst c3; simpa using e3
  omega
end Go.Proofs.Ythbaccmhdffjdaa.OpenAgg


set_option linter.unusedVariables false
set_option linter.unusedSimpArgs false
set_option maxRecDepth 100000
namespace Go.Proofs.Ythbaccmhdffjdaa.WkLeavesTell
open Go Go.RowKit Go.Proofs.Ythbaccmhdffjdaa.Ev Go.Proofs.Ythbaccmhdffjdaa.NodeE Go.Proofs.Ythbaccmhdffjdaa.Within Go.Proofs.Ythbaccmhdffjdaa.PickE Go.Proofs.Ythbaccmhdffjdaa.Tn Go.Proofs.Ythbaccmhdffjdaa.Tr Go.Proofs.Ythbaccmhdffjdaa.BoxF Go.Proofs.Ythbaccmhdffjdaa.BitLib

theorem bxGo_len : ∀ (ws : List Int) (i : Nat) (s : List Bx × List Pc), (bxGo i ws s).2.length ≤ s.2.length + ws.length
  | [], i, s => Nat.le_refl _
  | w :: ws, i, s => by
    have := bxGo_len ws (i + 1) (bxS i w s)
    have h1 : (bxS i w s).2.length ≤ s.2.length + 1 := by
      simp only [bxS]
      cases lfB w
      · exact Nat.le_succ _
      · cases (s.1.getD i Bx.zero).emp <;> simp
    simp only [bxGo, List.length_cons]
    omega
theorem pcs_len (ws : List Int) (b : Bx) : (pcsI ws b).length ≤ ws.length := by
  have := bxGo_len ws 0 (bx0 ws.length b)
  simp only [bx0, List.length_nil, Nat.zero_add] at this
  exact this
theorem list_len (ws : List Int) (b : Bx) : (listP ws b).length ≤ ws.length := by
  unfold listP
  cases rightI ws 4 && !b.emp
  · exact Nat.zero_le _
  · exact pcs_len ws b
theorem list_em {ws : List Int} {b : Bx} (h : b.emp = true) : listP ws b = [] := by simp only [listP, h, Bool.not_true, Bool.and_false, cond_false]
theorem list_rl {ws : List Int} {b : Bx} (h : b.emp = false) : rlvP ws b = listP ws b := by simp only [rlvP, listP, h, Bool.not_false, Bool.and_true]
theorem fin0 {E : Env} (NI : List Int → List Int → List Int → List Int → Int → List Nd) (PL RL : List Int → Bx → List Pc) {b : Bx} (hE : EnvOK E Try.prog Try.f7 4 5 (.bool true) [] []) (zz : Unit) : Sat E (fromR Try.f7 4) ((ltL [] 0 0 b).st 0 zz) := by
  have pl0 : plainR [] := fun x hx => by simp at hx
  cases he : b.emp
  · exact ltK0 NI PL RL [] 0 0 b hE ⟨⟨rfl, rfl⟩, pl0, pl0, congrArg Value.bool he, pl0, trivial⟩
  · exact ltE0 NI PL RL [] 0 0 b hE ⟨⟨rfl, rfl⟩, congrArg Value.bool he, pl0, trivial⟩

theorem fin1 {E : Env} (NI : List Int → List Int → List Int → List Int → Int → List Nd) (PL RL : List Int → Bx → List Pc) {L : List Int} {m c : Nat} {b : Bx} (hP : PL = listP) (hQ : RL = rlvP) (hb : b.I64s) (hm : m ≤ L.length) (h40 : m ≤ 40) (hU : ∀ w ∈ L.take m, U64 w) (hE : EnvOK E Try.prog Try.f7 4 5 (.bool true) [] []) (zz : Unit) : Sat E (fromR Try.f7 4) ((ltL L m c b).st 1 zz) := by
  have hX : eWord.list (eWord.row L) 0 m = L.take m := listM hm
  have hXl : (L.take m).length = m := by rw [List.length_take, Nat.min_eq_left hm]
  have row0 : eWord.Row (eWord.row L) 0 m := rowM hm
  have uX : ∀ w ∈ eWord.list (eWord.row L) 0 m, U64 w := by rw [hX]; exact hU
  have pl0 : plainR [eWord.row L] := plain1 (Elt.row_pl _)
  have m65 : m ≤ 65536 := by omega
  have pln : plainR [] := fun x hx => by simp at hx
  cases he : b.emp
  · have hrl : RL (eWord.list (eWord.row L) 0 m) b = PL (eWord.list (eWord.row L) 0 m) b := by rw [hP, hQ]; exact list_rl he
    by_cases hz : PL (eWord.list (eWord.row L) 0 m) b = []
    · exact ltK1 NI PL RL L m c b hE ⟨⟨rfl, rfl⟩, pln, pl0, hQ, hrl.trans hz, row0, uX, m65, hb, congrArg Value.bool he, pl0, hP, hz, row0, uX, m65, hb, trivial⟩
    · have hl : (PL (eWord.list (eWord.row L) 0 m) b).length ≤ 9223372036854775806 := by
        have := list_len (eWord.list (eWord.row L) 0 m) b
        rw [Elt.list_len] at this
        rw [hP]
        omega
      refine ltR1 NI PL RL L m c b hE ⟨⟨rfl, rfl⟩, ?_, plain2 (Elt.row_pl _) (Elt.row_pl _), (Elt.canon0 _).1, (Elt.canon0 _).1, hl, pl0, hQ, fun h => hz (hrl.symm.trans h), row0, uX, m65, hb, congrArg Value.bool he, pl0, hP, hz, row0, uX, m65, hb, trivial⟩
      show Value.bool (decide (ePc.list (ePc.row (PL (eWord.list (eWord.row L) 0 m) b)) 0 (PL (eWord.list (eWord.row L) 0 m) b).length = ePc.list (ePc.row (RL (eWord.list (eWord.row L) 0 m) b)) 0 (RL (eWord.list (eWord.row L) 0 m) b).length)) = _
      rw [hrl]
      exact congrArg Value.bool (decide_eq_true rfl)
  · exact ltE1 NI PL RL L m c b hE ⟨⟨rfl, rfl⟩, congrArg Value.bool he, pl0, hP, (by rw [hP]; exact list_em he), row0, uX, m65, hb, trivial⟩

theorem fin2 {E : Env} (NI : List Int → List Int → List Int → List Int → Int → List Nd) (PL RL : List Int → Bx → List Pc) {L : List Int} {m c : Nat} {b : Bx} (hP : PL = listP) (hQ : RL = rlvP) (hb : b.I64s) (hm : m ≤ L.length) (h40 : m ≤ 40) (hU : ∀ w ∈ L.take m, U64 w) (hE : EnvOK E Try.prog Try.f7 4 5 (.bool true) [] []) (zz : Unit) : Sat E (fromR Try.f7 4) ((ltL L m c b).st 2 zz) := by
  have hX : eWord.list (eWord.row L) 0 m = L.take m := listM hm
  have hXl : (L.take m).length = m := by rw [List.length_take, Nat.min_eq_left hm]
  have row0 : eWord.Row (eWord.row L) 0 m := rowM hm
  have uX : ∀ w ∈ eWord.list (eWord.row L) 0 m, U64 w := by rw [hX]; exact hU
  have pl0 : plainR [eWord.row L] := plain1 (Elt.row_pl _)
  have m65 : m ≤ 65536 := by omega
  have pln : plainR [] := fun x hx => by simp at hx
  cases he : b.emp
  · have hrl : RL (eWord.list (eWord.row L) 0 m) b = PL (eWord.list (eWord.row L) 0 m) b := by rw [hP, hQ]; exact list_rl he
    by_cases hz : PL (eWord.list (eWord.row L) 0 m) b = []
    · exact ltK2 NI PL RL L m c b hE ⟨⟨rfl, rfl⟩, pln, pl0, hQ, hrl.trans hz, row0, uX, m65, hb, congrArg Value.bool he, pl0, hP, hz, row0, uX, m65, hb, trivial⟩
    · have hl : (PL (eWord.list (eWord.row L) 0 m) b).length ≤ 9223372036854775806 := by
        have := list_len (eWord.list (eWord.row L) 0 m) b
        rw [Elt.list_len] at this
        rw [hP]
        omega
      refine ltR2 NI PL RL L m c b hE ⟨⟨rfl, rfl⟩, ?_, plain2 (Elt.row_pl _) (Elt.row_pl _), (Elt.canon0 _).1, (Elt.canon0 _).1, hl, pl0, hQ, fun h => hz (hrl.symm.trans h), row0, uX, m65, hb, congrArg Value.bool he, pl0, hP, hz, row0, uX, m65, hb, trivial⟩
      show Value.bool (decide (ePc.list (ePc.row (PL (eWord.list (eWord.row L) 0 m) b)) 0 (PL (eWord.list (eWord.row L) 0 m) b).length = ePc.list (ePc.row (RL (eWord.list (eWord.row L) 0 m) b)) 0 (RL (eWord.list (eWord.row L) 0 m) b).length)) = _
      rw [hrl]
      exact congrArg Value.bool (decide_eq_true rfl)
  · exact ltE2 NI PL RL L m c b hE ⟨⟨rfl, rfl⟩, congrArg Value.bool he, pl0, hP, (by rw [hP]; exact list_em he), row0, uX, m65, hb, trivial⟩

theorem spec {cl : Int} {b : Bx} {own : Bool} {u0 u1 u2 u3 u4 : Value} {x0 x1 x2 x3 x4 : Option (List Value)} (hb : b.I64s) (c0 : CanAt eWord U64 0 u0 x0) (c1 : CanAt eInt I64 1 u1 x1) (c2 : CanAt eInt I64 2 u2 x2) (c3 : CanAt eInt I64 3 u3 x3) (c4 : CanAt eInt I64 4 u4 x4) :
    CallSpec Try.prog 7 [u0, .agg ⟨[.int .i64 cl, u1, u2, u3, u4]⟩, .agg ⟨b.cs⟩, .bool own] (rowsL [x0, x1, x2, x3, x4]) 5 (.bool true) (assocN [] []) := by
  refine spec_of_sat Try.func7 rfl fun E hE => ?_
  obtain ⟨r0, rfl, rfl, h0⟩ := can_fam c1
  obtain ⟨r1, rfl, rfl, h1⟩ := can_fam c2
  obtain ⟨r2, rfl, rfl, h2⟩ := can_fam c3
  obtain ⟨r3, rfl, rfl, h3⟩ := can_fam c4
  obtain ⟨NI, hNI⟩ : ∃ NI : List Int → List Int → List Int → List Int → Int → List Nd, NI = nodesI := ⟨_, rfl⟩
  obtain ⟨PL, hP⟩ : ∃ PL : List Int → Bx → List Pc, PL = listP := ⟨_, rfl⟩
  obtain ⟨RL, hQ⟩ : ∃ RL : List Int → Bx → List Pc, RL = rlvP := ⟨_, rfl⟩
  obtain ⟨x1, hUn, x3⟩ := nodes_right r0.l r1.l r2.l r3.l (dim := 4) ⟨by decide, by decide⟩
  simp only [wordsI, ← hNI] at x1 hUn x3
  have hlen : (NI r0.l r1.l r2.l r3.l 4).length ≤ 40 := by rw [List.length_map] at x3; omega
  have rnw : ∀ (ws : List Int) (f : Nat → Nat), Blk.rnB f (.vec (eWord.row ws) 83 1) = .vec (eWord.row ws) 83 1 := fun ws f => Blk.plain.rnB (b := .vec (eWord.row ws) 83 1) (Elt.row_pl _) f
  have rnr : ∀ (ws : List Int) (f : Nat → Nat), Blk.rnB f (.ro (eWord.row ws)) = .ro (eWord.row ws) := fun ws f => Blk.plain.rnB (b := .ro (eWord.row ws)) (Elt.row_pl _) f
  have rnp : ∀ (f : Nat → Nat) (b : Bx), Blk.rnB f (.cells b.cs 25) = .cells [.int .i64 b.a0, .int .i64 b.b0, .int .i64 b.a1, .int .i64 b.b1, .int .i64 b.a2, .int .i64 b.b2, .int .i64 b.a3, .int .i64 b.b3, .int .i64 b.a4, .int .i64 b.b4] 25 := fun f b => rfl
  rcases c0 with ⟨rfl, rfl⟩ | ⟨L, c, rfl, rfl, hlc, hcm, hg⟩
  · cases own
    · exact ltN NI PL RL cl b r0 r1 r2 r3 hE (ltL_ok _ _ _ _) ⟨rfl, ⟨(), trivial, trivial, rfl, by simp only [ltL, List.map_cons, List.map_nil, rnp]⟩, trivial⟩ fun zz _ _ => fin0 NI PL RL hE zz
    · exact ltON NI PL RL cl b r0 r1 r2 r3 ((NI r0.l r1.l r2.l r3.l 4).map packN) (NI r0.l r1.l r2.l r3.l 4).length hE (ltL_ok _ _ _ _) (all_app ⟨rfl, ⟨(), trivial, trivial, rfl, by simp only [ltL, List.map_cons, List.map_nil, rnw, rnp]⟩, cssZ_pl h0 h1 h2 h3, hNI, ⟨by decide, by decide⟩, trivial⟩ (all_app h0.ob2 (all_app h1.ob2 (all_app h2.ob2 h3.ob2)))) fun zz _ _ => fin2 NI PL RL hP hQ hb (by simp) hlen (by rw [List.take_of_length_le (by simp)]; exact hUn) hE zz
  · have hmin : Value.int .i64 (minI (L.length : Int) 35) = .int .i64 ((min L.length 35 : Nat) : Int) := congrArg _ (by unfold minI; split <;> omega)
    have hsl : SlOK 1 0 0 L.length c none (some ((min L.length 35 : Nat) : Int)) (some (.ro (eWord.row L))) (.slice (some ⟨0, 0, none⟩) (min L.length 35) c) := slOK_ro (by omega) hlc hcm
    cases own
    · exact ltS NI PL RL cl b r0 r1 r2 r3 L L.length (min L.length 35) c hE (ltL_ok _ _ _ _) ⟨rfl, ⟨(), trivial, trivial, rfl, by simp only [ltL, List.map_cons, List.map_nil, rnp, rnr]⟩, hsl, hmin, trivial⟩ fun zz _ _ => fin1 NI PL RL hP hQ hb (by omega) (by omega) (fun w hw => hg w (List.mem_of_mem_take hw)) hE zz
    · exact ltOS NI PL RL cl b r0 r1 r2 r3 ((NI r0.l r1.l r2.l r3.l 4).map packN) (NI r0.l r1.l r2.l r3.l 4).length L L.length (min L.length 35) c hE (ltL_ok _ _ _ _) (all_app ⟨rfl, ⟨(), trivial, trivial, rfl, by simp only [ltL, List.map_cons, List.map_nil, rnw, rnp]⟩, cssZ_pl h0 h1 h2 h3, hNI, ⟨by decide, by decide⟩, trivial⟩ (all_app h0.ob2 (all_app h1.ob2 (all_app h2.ob2 (all_app h3.ob2 ⟨hsl, hmin, trivial⟩))))) fun zz _ _ => fin2 NI PL RL hP hQ hb (by simp) hlen (by rw [List.take_of_length_le (by simp)]; exact hUn) hE zz

theorem walk (W : World) (v0 : Value) (o0 : Opened W eWord U64 v0) (cl : Int) (v1 v2 v3 v4 : Value) (o1 : Opened W eInt I64 v1) (o2 : Opened W eInt I64 v2) (o3 : Opened W eInt I64 v3) (o4 : Opened W eInt I64 v4) (x0 x1 x2 x3 x4 x5 x6 x7 x8 x9 : Int) (w2 : (-9223372036854775808 ≤ x0 ∧ x0 ≤ 9223372036854775807) ∧ (-9223372036854775808 ≤ x1 ∧ x1 ≤ 9223372036854775807) ∧ (-9223372036854775808 ≤ x2 ∧ x2 ≤ 9223372036854775807) ∧ (-9223372036854775808 ≤ x3 ∧ x3 ≤ 9223372036854775807) ∧ (-9223372036854775808 ≤ x4 ∧ x4 ≤ 9223372036854775807) ∧ (-9223372036854775808 ≤ x5 ∧ x5 ≤ 9223372036854775807) ∧ (-9223372036854775808 ≤ x6 ∧ x6 ≤ 9223372036854775807) ∧ (-9223372036854775808 ≤ x7 ∧ x7 ≤ 9223372036854775807) ∧ (-9223372036854775808 ≤ x8 ∧ x8 ≤ 9223372036854775807) ∧ (-9223372036854775808 ≤ x9 ∧ x9 ≤ 9223372036854775807)) (own : Bool) :
    Calls Try.prog 7 #[v0, .agg #[.int .i64 cl, v1, v2, v3, v4], .agg #[.int .i64 x0, .int .i64 x1, .int .i64 x2, .int .i64 x3, .int .i64 x4, .int .i64 x5, .int .i64 x6, .int .i64 x7, .int .i64 x8, .int .i64 x9], .bool own] W fun e w' => e = .returned (.bool true) ∧ Below W.heap.size W w' := by
  obtain ⟨u0, y0, ad0, c0, e0, n0, g0⟩ := o0.can 0
  obtain ⟨u1, y1, ad1, c1, e1, n1, g1⟩ := o1.can 1
  obtain ⟨u2, y2, ad2, c2, e2, n2, g2⟩ := o2.can 2
  obtain ⟨u3, y3, ad3, c3, e3, n3, g3⟩ := o3.can 3
  obtain ⟨u4, y4, ad4, c4, e4, n4, g4⟩ := o4.can 4
  have hspec := spec (cl := cl) (b := ⟨x0, x1, x2, x3, x4, x5, x6, x7, x8, x9⟩) (own := own) w2 c0 c1 c2 c3 c4
  have := calls_rows hspec rfl (Nat.le_refl 5)
    (fun u hu j hj => by
      simp at hu
      rcases hu with rfl | rfl | rfl | rfl
      · have := c0.nms j hj; omega
      · simp [nms, nm1, nmL, nm0] at hj
        rcases hj with hj | hj | hj | hj
        · have := c1.nm0 j hj; omega
        · have := c2.nm0 j hj; omega
        · have := c3.nm0 j hj; omega
        · have := c4.nm0 j hj; omega
      · simp [nms, nm1, nm0, nmL, Bx.cs] at hj
      · simp [nms, nm1, nm0] at hj)
    (W := W) (l := [ad0, ad1, ad2, ad3, ad4]) (fun j r ad hr ha => by
      match j with
      | 0 => simp at hr ha; subst hr; subst ha; exact g0
      | 1 => simp at hr ha; subst hr; subst ha; exact g1
      | 2 => simp at hr ha; subst hr; subst ha; exact g2
      | 3 => simp at hr ha; subst hr; subst ha; exact g3
      | 4 => simp at hr ha; subst hr; subst ha; exact g4
      | j + 5 => simp at hr) (Nat.le_refl 5)
  have hmap : ([u0, .agg ⟨[.int .i64 cl, u1, u2, u3, u4]⟩, .agg ⟨Bx.cs ⟨x0, x1, x2, x3, x4, x5, x6, x7, x8, x9⟩⟩, .bool own].map (ren (Nm.at [ad0, ad1, ad2, ad3, ad4]))).toArray = #[v0, .agg #[.int .i64 cl, v1, v2, v3, v4], .agg #[.int .i64 x0, .int .i64 x1, .int .i64 x2, .int .i64 x3, .int .i64 x4, .int .i64 x5, .int .i64 x6, .int .i64 x7, .int .i64 x8, .int .i64 x9], .bool own] := by
    have g0 := e0 [ad0, ad1, ad2, ad3, ad4] rfl
    have g1 := e1 [ad0, ad1, ad2, ad3, ad4] rfl
    have g2 := e2 [ad0, ad1, ad2, ad3, ad4] rfl
    have g3 := e3 [ad0, ad1, ad2, ad3, ad4] rfl
    have g4 := e4 [ad0, ad1, ad2, ad3, ad4] rfl
    simp only [List.map_cons, List.map_nil]
    simp only [c0.ren, ren_agg, List.map_toArray, List.map_cons, List.map_nil, g0, g1, g2, g3, g4]
    rfl
  rw [hmap] at this
  exact this
end Go.Proofs.Ythbaccmhdffjdaa.WkLeavesTell


set_option linter.unusedVariables false
set_option linter.unusedSimpArgs false
set_option maxRecDepth 100000
namespace Go.Proofs.Ythbaccmhdffjdaa.WkLeavesAll
open Go Go.RowKit Go.Proofs.Ythbaccmhdffjdaa.Ev Go.Proofs.Ythbaccmhdffjdaa.NodeE Go.Proofs.Ythbaccmhdffjdaa.Within Go.Proofs.Ythbaccmhdffjdaa.PickE Go.Proofs.Ythbaccmhdffjdaa.Tn Go.Proofs.Ythbaccmhdffjdaa.Tr Go.Proofs.Ythbaccmhdffjdaa.BoxF Go.Proofs.Ythbaccmhdffjdaa.Lv Go.Proofs.Ythbaccmhdffjdaa.BitLib

theorem rd1 (x : Bx) (v : Int) : readPart Try.prog 3 (ePc.row [⟨x, v⟩]) 10 = some (.int .i64 v) := by kernel_rfl
theorem rd0 (x : Bx) (v : Int) : readPart Try.prog 25 (ePc.row [⟨x, v⟩]) 0 = some (.agg ⟨x.cs⟩) := by kernel_rfl
def plane : Bx := ⟨(-9223372036854775808), 9223372036854775807, (-9223372036854775808), 9223372036854775807, (-9223372036854775808), 9223372036854775807, (-9223372036854775808), 9223372036854775807, (-9223372036854775808), 9223372036854775807⟩
def one (p : Pt) : Bx := ⟨p.p0, p.p0, p.p1, p.p1, p.p2, p.p2, p.p3, p.p3, 0, 0⟩
def PtOK (p : Pt) : Prop := I64 p.p0 ∧ I64 p.p1 ∧ I64 p.p2 ∧ I64 p.p3
theorem keq_box (x : Bx) : keyEq (.agg ⟨x.cs⟩) (.agg ⟨x.cs⟩) = true := by simp [keyEq, cellsEq, leafEq, Bx.cs]
theorem fin {E : Env} (NI : List Int → List Int → List Int → List Int → Int → List Nd) (PL : List Int → Bx → List Pc) (LX : List Int → List Int) {W : List Int} {m : Nat} {p : Pt} (hP : PL = listP) (hX : LX = leafI0) (hp : PtOK p) (hm : m = W.length) (h40 : m ≤ 40) (hU : ∀ w ∈ W, U64 w) (hR : rightI W 4 = true) (hE : EnvOK E Try.prog Try.f11 2 4 (.bool true) [] []) (zz : Unit) : Sat E (fromR Try.f11 2) ((laL W m p).st 0 zz) := by
  have hX0 : eWord.list (eWord.row W) 0 m = W := by rw [listM (by omega), List.take_of_length_le (by omega)]
  have row0 : eWord.Row (eWord.row W) 0 m := rowN hm
  have uX : ∀ w ∈ eWord.list (eWord.row W) 0 m, U64 w := by rw [hX0]; exact hU
  have pl0 : plainR [eWord.row W] := plain1 (Elt.row_pl _)
  have m65 : m ≤ 65536 := by omega
  have hRX : rightI (eWord.list (eWord.row W) 0 m) 4 = true := by rw [hX0]; exact hR
  obtain ⟨hp0, hp1, hp2, hp3⟩ := hp
  have hpl : plane.emp = false := by decide
  have hpI : plane.I64s := by simp [plane, Bx.I64s, I64]
  have in0 : plane.In p 0 := ⟨hp0, hp1, hp2, hp3, by decide, by decide⟩
  have in1 : plane.In p 9223372036854775807 := ⟨hp0, hp1, hp2, hp3, by decide, by decide⟩
  have hoI : (one p).I64s := ⟨hp0, hp0, hp1, hp1, hp2, hp2, hp3, hp3, (by show I64 0; decide), (by show I64 0; decide)⟩
  have hoin : (one p).In p 0 := ⟨⟨Int.le_refl _, Int.le_refl _⟩, ⟨Int.le_refl _, Int.le_refl _⟩, ⟨Int.le_refl _, Int.le_refl _⟩, ⟨Int.le_refl _, Int.le_refl _⟩, Int.le_refl _, Int.le_refl _⟩
  have hp' : PL (eWord.list (eWord.row W) 0 m) plane = listP W plane := by rw [hX0, hP]
  have hq' : PL (eWord.list (eWord.row W) 0 m) (one p) = [⟨one p, endV W p⟩] := by rw [hX0, hP]; exact list_point hR hoin rfl rfl
  have hv : Value.int .i64 (endV (eWord.list (eWord.row W) 0 m) p) = .int .i64 (endV W p) := by rw [hX0]
  obtain ⟨b0, v0⟩ := list_at hR in0
  obtain ⟨b1, v1⟩ := list_at hR in1
  have hh := list_hull hR hpl
  have hne := list_ne hR hpl
  have hle := list_len_le (b := plane) hR
  have hlw := WkLeavesTell.list_len W plane
  have hLX : LX (eWord.list (eWord.row W) 0 m) = leafIx 0 W := by rw [hX0, hX]; rfl
  have hl1 : 1 ≤ (listP W plane).length := by cases h : listP W plane with | nil => exact absurd h hne | cons _ _ => simp
  generalize hS : listP W plane = S at *
  have cS : ePc.list (ePc.row S) 0 S.length = S := (Elt.canon0 (e := ePc) S).2
  have rS : ePc.Row (ePc.row S) 0 S.length := (Elt.canon0 (e := ePc) S).1
  have l65 : S.length ≤ 65536 := by omega
  refine laF NI PL LX p W m (endV W p) plane hE ?_
  rw [show (Bx.mk (-9223372036854775808) 9223372036854775807 (-9223372036854775808) 9223372036854775807 (-9223372036854775808) 9223372036854775807 (-9223372036854775808) 9223372036854775807 (-9223372036854775808) 9223372036854775807) = plane from rfl, show (Bx.mk p.p0 p.p0 p.p1 p.p1 p.p2 p.p2 p.p3 p.p3 0 0) = one p from rfl, hp', hq']
  have hat0 : ∀ t, atB S p t = true → atV S p t = endV W p → Value.tuple (Array.mk [Value.int .i64 (atV (ePc.list (ePc.row S) 0 S.length) p t), Value.bool (atB (ePc.list (ePc.row S) 0 S.length) p t)]) = Value.tuple (Array.mk [Value.int .i64 (endV W p), Value.bool true]) := fun t h1 h2 => by rw [cS, h1, h2]
  have hhu : Value.agg ⟨(hullI (ePc.list (ePc.row S) 0 S.length)).cs⟩ = .agg ⟨plane.cs⟩ := by rw [cS, hh]
  exact ⟨⟨rfl, rfl⟩, congrArg Value.bool (keq_box plane), hhu, Elt.row_pl _, rfl, (by rw [cS]), hl1, l65, (congrArg Value.bool (beq_self_eq_true _)), rd1 _ _, ⟨by decide, (by show (0 : Int) < 1; decide)⟩, (congrArg Value.bool (beq_self_eq_true _)), hat0 _ b1 v1, plain1 (Elt.row_pl _), rS, l65, hat0 _ b0 v0, plain1 (Elt.row_pl _), rS, l65,
    (congrArg Value.bool (by simp)), hv, pl0, row0, uX, m65, rd1 _ _, ⟨by decide, (by show (0 : Int) < 1; decide)⟩, (congrArg (fun x => Value.bool !x) (keq_box (one p))), rd0 _ _, ⟨by decide, (by show (0 : Int) < 1; decide)⟩, rfl, (by rw [hLX]; exact congrArg Value.bool (decide_eq_false (by omega))), pl0, hX, row0, uX, m65, hRX, pl0, hP, (by simp), row0, uX, m65, hoI, pl0, hP, hne, row0, uX, m65, hpI, trivial⟩
theorem spec {cl : Int} {p : Pt} {u1 u2 u3 u4 : Value} {x1 x2 x3 x4 : Option (List Value)} (hp : PtOK p) (c1 : CanAt eInt I64 0 u1 x1) (c2 : CanAt eInt I64 1 u2 x2) (c3 : CanAt eInt I64 2 u3 x3) (c4 : CanAt eInt I64 3 u4 x4) :
    CallSpec Try.prog 11 [.agg ⟨[.int .i64 cl, u1, u2, u3, u4]⟩, .agg ⟨p.cs⟩] (rowsL [x1, x2, x3, x4]) 4 (.bool true) (assocN [] []) := by
  refine spec_of_sat Try.func11 rfl fun E hE => ?_
  obtain ⟨r0, rfl, rfl, h0⟩ := can_fam c1
  obtain ⟨r1, rfl, rfl, h1⟩ := can_fam c2
  obtain ⟨r2, rfl, rfl, h2⟩ := can_fam c3
  obtain ⟨r3, rfl, rfl, h3⟩ := can_fam c4
  obtain ⟨NI, hNI⟩ : ∃ NI : List Int → List Int → List Int → List Int → Int → List Nd, NI = nodesI := ⟨_, rfl⟩
  obtain ⟨PL, hP⟩ : ∃ PL : List Int → Bx → List Pc, PL = listP := ⟨_, rfl⟩
  obtain ⟨LX, hX⟩ : ∃ LX : List Int → List Int, LX = leafI0 := ⟨_, rfl⟩
  obtain ⟨x1, hUn, x3⟩ := nodes_right r0.l r1.l r2.l r3.l (dim := 4) ⟨by decide, by decide⟩
  simp only [wordsI, ← hNI] at x1 hUn x3
  have hlen : (NI r0.l r1.l r2.l r3.l 4).length ≤ 40 := by rw [List.length_map] at x3; omega
  have rnw : ∀ (ws : List Int) (f : Nat → Nat), Blk.rnB f (.vec (eWord.row ws) 83 1) = .vec (eWord.row ws) 83 1 := fun ws f => Blk.plain.rnB (b := .vec (eWord.row ws) 83 1) (Elt.row_pl _) f
  have rnp : ∀ (f : Nat → Nat) (p : Pt), Blk.rnB f (.cells p.cs 72) = .cells [.int .i64 p.p0, .int .i64 p.p1, .int .i64 p.p2, .int .i64 p.p3] 72 := fun f p => rfl
  exact laIn NI PL LX cl p r0 r1 r2 r3 ((NI r0.l r1.l r2.l r3.l 4).map packN) (NI r0.l r1.l r2.l r3.l 4).length hE (laL_ok _ _ _) (all_app ⟨rfl, ⟨(), trivial, trivial, rfl, by simp only [laL, List.map_cons, List.map_nil, rnw, rnp]⟩, cssZ_pl h0 h1 h2 h3, hNI, ⟨by decide, by decide⟩, trivial⟩ (all_app h0.ob2 (all_app h1.ob2 (all_app h2.ob2 h3.ob2)))) fun zz _ _ => fin NI PL LX hP hX hp (by simp) hlen hUn x1 hE zz

theorem walk (W : World) (cl : Int) (v0 v1 v2 v3 : Value) (o0 : Opened W eInt I64 v0) (o1 : Opened W eInt I64 v1) (o2 : Opened W eInt I64 v2) (o3 : Opened W eInt I64 v3) (p0 p1 p2 p3 : Int) (w2 : (-9223372036854775808 ≤ p0 ∧ p0 ≤ 9223372036854775807) ∧ (-9223372036854775808 ≤ p1 ∧ p1 ≤ 9223372036854775807) ∧ (-9223372036854775808 ≤ p2 ∧ p2 ≤ 9223372036854775807) ∧ (-9223372036854775808 ≤ p3 ∧ p3 ≤ 9223372036854775807)) :
    Calls Try.prog 11 #[.agg #[.int .i64 cl, v0, v1, v2, v3], .agg #[.int .i64 p0, .int .i64 p1, .int .i64 p2, .int .i64 p3]] W fun e w' => e = .returned (.bool true) ∧ Below W.heap.size W w' := by
  obtain ⟨u0, x0, ad0, c0, e0, n0, g0⟩ := o0.can 0
  obtain ⟨u1, x1, ad1, c1, e1, n1, g1⟩ := o1.can 1
  obtain ⟨u2, x2, ad2, c2, e2, n2, g2⟩ := o2.can 2
  obtain ⟨u3, x3, ad3, c3, e3, n3, g3⟩ := o3.can 3
  have hspec := spec (cl := cl) (p := ⟨p0, p1, p2, p3⟩) w2 c0 c1 c2 c3
  have := calls_rows hspec rfl (Nat.le_refl 4)
    (fun u hu j hj => by
      simp at hu
      rcases hu with rfl | rfl
      · simp [nms, nm1, nmL, nm0] at hj
        rcases hj with hj | hj | hj | hj
        · have := c0.nm0 j hj; omega
        · have := c1.nm0 j hj; omega
        · have := c2.nm0 j hj; omega
        · have := c3.nm0 j hj; omega
      · simp [nms, nm1, nm0, nmL, Pt.cs] at hj)
    (W := W) (l := [ad0, ad1, ad2, ad3]) (fun j r ad hr ha => by
      match j with
      | 0 => simp at hr ha; subst hr; subst ha; exact g0
      | 1 => simp at hr ha; subst hr; subst ha; exact g1
      | 2 => simp at hr ha; subst hr; subst ha; exact g2
      | 3 => simp at hr ha; subst hr; subst ha; exact g3
      | j + 4 => simp at hr) (Nat.le_refl 4)
  have hmap : ([.agg ⟨[.int .i64 cl, u0, u1, u2, u3]⟩, .agg ⟨Pt.cs ⟨p0, p1, p2, p3⟩⟩].map (ren (Nm.at [ad0, ad1, ad2, ad3]))).toArray = #[.agg #[.int .i64 cl, v0, v1, v2, v3], .agg #[.int .i64 p0, .int .i64 p1, .int .i64 p2, .int .i64 p3]] := by
    have g0 := e0 [ad0, ad1, ad2, ad3] rfl
    have g1 := e1 [ad0, ad1, ad2, ad3] rfl
    have g2 := e2 [ad0, ad1, ad2, ad3] rfl
    have g3 := e3 [ad0, ad1, ad2, ad3] rfl
    simp only [List.map_cons, List.map_nil]
    simp only [ren_agg, List.map_toArray, List.map_cons, List.map_nil, g0, g1, g2, g3]
    rfl
  rw [hmap] at this
  exact this
end Go.Proofs.Ythbaccmhdffjdaa.WkLeavesAll


set_option linter.unusedVariables false
set_option linter.unusedSimpArgs false
set_option maxRecDepth 100000
namespace Go.Proofs.Ythbaccmhdffjdaa.OpenPt
open Go Go.RowKit Go.ChangeShapes Go.WideShapes

theorem cell_int {w : World} {r : Reach} {b : Nat} {v : Value} (h : Cell.okWide Try.prog w r b 3 v) : ∃ n : Int, v = .int .i64 n ∧ (-9223372036854775808 ≤ n ∧ n ≤ 9223372036854775807) := by
  simp only [Cell.okWide, Try.underlying3] at h
  simp only [Cell.ok, Try.underlying3] at h
  split at h <;> first | (rename_i e; cases e; done) | skip
  all_goals first | exact h.elim | skip
  all_goals first
    | (rename_i e1; injection e1 with e1; injection e1 with e1; subst e1; obtain ⟨rfl, hh⟩ := h; exact ⟨_, rfl, by simpa [IntKind.has, IntKind.min, IntKind.max, IntKind.signed, IntKind.bits] using hh⟩)
    | (rename_i e1; cases e1)
/-- The cells of a value whose cells are all numbers. -/
theorem cells_int {t : TypeId} {n : Nat} {w : World} {r : Reach} {b : Nat} {cs : Array Value} (hct : Try.prog.cellTypes Try.prog.depth t = some (List.replicate n 3)) (hn : 0 < n) (h : Row.okWide Try.prog w r b t cs) :
    ∀ (i : Nat) (v : Value), cs[i]? = some v → ∃ m : Int, v = .int .i64 m ∧ (-9223372036854775808 ≤ m ∧ m ≤ 9223372036854775807) := by
  obtain ⟨ts, h1, _, h2⟩ := h
  rw [hct] at h1
  injection h1 with h1
  subst h1
  intro i v hv
  obtain ⟨u, hu, hc⟩ := h2 i v hv
  rw [List.length_replicate, List.getElem?_replicate] at hu
  rw [if_pos (Nat.mod_lt _ hn)] at hu
  injection hu with hu
  subst hu
  exact cell_int hc
theorem open_point {w : World} {b : Nat} {v : Value} (hv : Value.okWide Try.prog w .any b 72 v) :
    ∃ x0 x1 x2 x3 : Int, v = .agg #[.int .i64 x0, .int .i64 x1, .int .i64 x2, .int .i64 x3] ∧ (-9223372036854775808 ≤ x0 ∧ x0 ≤ 9223372036854775807) ∧ (-9223372036854775808 ≤ x1 ∧ x1 ≤ 9223372036854775807) ∧ (-9223372036854775808 ≤ x2 ∧ x2 ≤ 9223372036854775807) ∧ (-9223372036854775808 ≤ x3 ∧ x3 ≤ 9223372036854775807) := by
  simp only [Value.okWide, Try.underlying72] at hv
  obtain ⟨cs, rfl, hs, hr⟩ := hv
  have hC : Try.prog.cellsOf 72 = 4 := by kernel_rfl
  have hc := cells_int (n := 4) (t := 72) (by kernel_rfl) (by decide) hr
  rw [hC] at hs
  obtain ⟨l⟩ := cs
  have hl : l.length = 4 := by simpa using hs
  obtain ⟨x0, e0, r0⟩ := hc 0 (l[0]'(by omega)) (by simp)
  obtain ⟨x1, e1, r1⟩ := hc 1 (l[1]'(by omega)) (by simp)
  obtain ⟨x2, e2, r2⟩ := hc 2 (l[2]'(by omega)) (by simp)
  obtain ⟨x3, e3, r3⟩ := hc 3 (l[3]'(by omega)) (by simp)
  refine ⟨x0, x1, x2, x3, ?_, r0, r1, r2, r3⟩
  congr 1
  apply Array.ext'
  apply List.ext_getElem (by simpa using hl)
  intro i h1 h2
  have h3 : i < 4 := by simpa [hl] using h1
  by_cases c0 : i = 0
  · subst c0; simpa using e0
  by_cases c1 : i = 1
  · subst c1; simpa using e1
  by_cases c2 : i = 2
  · subst c2; simpa using e2
  by_cases c3 : i = 3
  · subst c3; simpa using e3
  omega
end Go.Proofs.Ythbaccmhdffjdaa.OpenPt


set_option linter.unusedVariables false
set_option linter.unusedSimpArgs false
set_option maxRecDepth 100000
namespace Go.Proofs.Ythbaccmhdffjdaa.Ev
open Go Go.RowKit Go.ChangeShapes Go.WideShapes
theorem elem_i64 {H : Type} {enc : TypeId × Value → H} {W : World} {base : Nat} {spare : Nat → Bool} {held : Bool} (n : Nat) (cs : List Value) (z : DataW H × List MemPlace) (h : DataW.trod enc Try.prog W base spare held n 3 cs = some z) : ∃ x : Int, cs = eInt.cells x ∧ I64 x := by
  obtain ⟨x, h1, h2⟩ := elem_int (P := Try.prog) (k := .i64) (by kernel_rfl) n cs z h
  exact ⟨x, h1, wf64 h2⟩
theorem open_ints64 {H : Type} {enc : TypeId × Value → H} {W : World} {base : Nat} {spare : Nat → Bool} {held : Bool} {r : Reach} {b0 : Nat} {v : Value} {d : DataW H} {ps : List MemPlace} (hv : Value.okWide Try.prog W r b0 43 v) (h : DataW.Trod enc Try.prog W base spare held 43 v d ps) : Opened W eInt I64 v := by
  have hu : Try.prog.underlying 43 = some (.slice 3) := by kernel_rfl
  obtain ⟨fuel, hf⟩ := h
  simp only [Value.okWide, hu] at hv
  have hcs : v.cells.toList = [v] := by
    obtain ⟨a, l, c, rfl⟩ : ∃ a l c, v = .slice a l c := by
      simp only [Cell.okWide, hu, Cell.ok] at hv
      cases v <;> simp_all
    rfl
  rw [hcs] at hf
  exact open_row hu (by kernel_rfl) elem_i64 hv hf
end Go.Proofs.Ythbaccmhdffjdaa.Ev


set_option linter.unusedVariables false
set_option linter.unusedSimpArgs false
set_option maxRecDepth 100000
namespace Go.Proofs.Ythbaccmhdffjdaa.Ev
open Go Go.RowKit Go.ChangeShapes Go.WideShapes
def fieldsOf (P : Program) (t : TypeId) : Array Field := match P.underlying t with
  | some (.struct fs) => fs
  | _ => #[]
section
variable {H : Type} {enc : TypeId × Value → H} {P : Program} {W : World} {base : Nat} {spare : Nat → Bool} {held : Bool}
theorem field_of {fs : Array Field} {i o c : Nat} {d : TypeDesc} (h : (fs[i]?).map (fun f => (f.offset, P.cellsOf f.type)) = some (o, c)) (hd : (fs[i]?).bind (fun f => P.underlying f.type) = some d) :
    ∃ f, fs[i]? = some f ∧ f.offset = o ∧ P.cellsOf f.type = c ∧ P.underlying f.type = some d := by
  cases hf : fs[i]? with
  | none => rw [hf] at h; simp at h
  | some f =>
    rw [hf] at h hd
    simp at h hd
    exact ⟨f, rfl, h.1, h.2, hd⟩
theorem xs_get {α : Type} {xs : List α} {i : Nat} (h : i < xs.length) : ∃ y, xs[i]? = some y := ⟨xs[i], List.getElem?_eq_getElem h⟩
end
/-- A struct of a number and four slices of numbers. -/
theorem open_tree {H : Type} {enc : TypeId × Value → H} {W : World} {base : Nat} {spare : Nat → Bool} {held : Bool} {r : Reach} {b0 : Nat} {v : Value} {d : DataW H} {ps : List MemPlace} (hv : Value.okWide Try.prog W r b0 55 v) (h : DataW.Trod enc Try.prog W base spare held 55 v d ps) :
    ∃ (cl : Int) (a1 a2 a3 a4 : Value), v = .agg #[.int .i64 cl, a1, a2, a3, a4] ∧ Opened W eInt I64 a1 ∧ Opened W eInt I64 a2 ∧ Opened W eInt I64 a3 ∧ Opened W eInt I64 a4 := by
  have hu : Try.prog.underlying 55 = some (.struct (fieldsOf Try.prog 55)) := by kernel_rfl
  obtain ⟨fuel, hf⟩ := h
  simp only [Value.okWide, hu] at hv
  obtain ⟨⟨l⟩, rfl, hs, ts, ht1, _, ht2⟩ := hv
  have hl5 : l.length = 5 := by
    have : Try.prog.cellsOf 55 = 5 := by kernel_rfl
    rw [this] at hs
    simpa using hs
  have hct : Try.prog.cellTypes Try.prog.depth 55 = some [3, 43, 43, 43, 43] := by kernel_rfl
  rw [hct] at ht1
  injection ht1 with ht1
  subst ht1
  obtain ⟨xs, k, _, _, hl, hlen, hf⟩ := DataW.trod_struct (P := Try.prog) hu hf
  have hx5 : xs.length = 5 := by rw [hlen]; kernel_rfl
  have hsl : Try.prog.underlying 43 = some (.slice 3) := by kernel_rfl
  obtain ⟨f0, e0, o0, c0, u0⟩ := field_of (P := Try.prog) (fs := fieldsOf Try.prog 55) (i := 0) (o := 0) (c := 1) (d := .int .i64) (by kernel_rfl) (by kernel_rfl)
  obtain ⟨f1, e1, o1, c1, u1⟩ := field_of (P := Try.prog) (fs := fieldsOf Try.prog 55) (i := 1) (o := 1) (c := 1) (d := .slice 3) (by kernel_rfl) (by kernel_rfl)
  obtain ⟨f2, e2, o2, c2, u2⟩ := field_of (P := Try.prog) (fs := fieldsOf Try.prog 55) (i := 2) (o := 2) (c := 1) (d := .slice 3) (by kernel_rfl) (by kernel_rfl)
  obtain ⟨f3, e3, o3, c3, u3⟩ := field_of (P := Try.prog) (fs := fieldsOf Try.prog 55) (i := 3) (o := 3) (c := 1) (d := .slice 3) (by kernel_rfl) (by kernel_rfl)
  obtain ⟨f4, e4, o4, c4, u4⟩ := field_of (P := Try.prog) (fs := fieldsOf Try.prog 55) (i := 4) (o := 4) (c := 1) (d := .slice 3) (by kernel_rfl) (by kernel_rfl)
  have g0 := hf 0 f0 e0
  have g1 := hf 1 f1 e1
  have g2 := hf 2 f2 e2
  have g3 := hf 3 f3 e3
  have g4 := hf 4 f4 e4
  obtain ⟨y0, hy0⟩ := xs_get (xs := xs) (i := 0) (by omega)
  obtain ⟨y1, hy1⟩ := xs_get (xs := xs) (i := 1) (by omega)
  obtain ⟨y2, hy2⟩ := xs_get (xs := xs) (i := 2) (by omega)
  obtain ⟨y3, hy3⟩ := xs_get (xs := xs) (i := 3) (by omega)
  obtain ⟨y4, hy4⟩ := xs_get (xs := xs) (i := 4) (by omega)
  rw [o0, c0, hy0] at g0
  rw [o1, c1, hy1] at g1
  rw [o2, c2, hy2] at g2
  rw [o3, c3, hy3] at g3
  rw [o4, c4, hy4] at g4
  match l, hl5 with
  | [p0, p1, p2, p3, p4], _ =>
    obtain ⟨cl, q0, _, _⟩ := DataW.trod_int u0 g0
    have q1 : [p0] = [Value.int .i64 cl] := q0
    injection q1 with q1 _
    subst q1
    obtain ⟨t1, hq1, w1⟩ := ht2 1 p1 rfl
    simp at hq1
    subst hq1
    obtain ⟨t2, hq2, w2⟩ := ht2 2 p2 rfl
    simp at hq2
    subst hq2
    obtain ⟨t3, hq3, w3⟩ := ht2 3 p3 rfl
    simp at hq3
    subst hq3
    obtain ⟨t4, hq4, w4⟩ := ht2 4 p4 rfl
    simp at hq4
    subst hq4
    have hcell : ∀ (x : Value) (ft : TypeId), Try.prog.underlying ft = some (.slice 3) → Cell.okWide Try.prog W r b0 43 x → Cell.okWide Try.prog W r b0 ft x := by
      intro x ft hft hx
      simp only [Cell.okWide, hsl, hft, Cell.ok] at hx ⊢
      exact hx
    exact ⟨cl, p1, p2, p3, p4, rfl, open_row u1 (by kernel_rfl) elem_i64 (hcell p1 _ u1 w1) g1, open_row u2 (by kernel_rfl) elem_i64 (hcell p2 _ u2 w2) g2, open_row u3 (by kernel_rfl) elem_i64 (hcell p3 _ u3 w3) g3, open_row u4 (by kernel_rfl) elem_i64 (hcell p4 _ u4 w4) g4⟩
end Go.Proofs.Ythbaccmhdffjdaa.Ev


namespace Go.Proofs.Ythbaccmhdffjdaa.leavesAllRow
open Go.ChangeShapes Go.WideShapes Go.ChangeAt Go.RowKit
open Go.ChangeMaps (open_string shut_string)
set_option linter.unusedVariables false
theorem own : ownKnob Try.prog.godebug = none := by kernel_rfl
theorem laidOut : laidOutB Try.prog = true := by kernel_rfl
set_option maxHeartbeats 4000000 in
set_option maxRecDepth 100000 in
theorem lifted (os : Os) (started : os.Started) (H : Type) (enc : TypeId × Value → H) :
    ReturnsInHanded {} Try.checked os 11 .any (Rows.leavesAllSpec.pre6 enc Try.prog Try.f11 Rows.leavesAllRow.domain false) (Rows.leavesAllSpec.post enc Try.prog Try.f11 false true false false) := by
  refine returnsInHanded_of_change_sized (C := Try.checked) own started (by kernel_rfl) Try.func11
    (ChangeSpec.witness6 (enc := enc) (C := Try.checked) false ⟨#[], #[.agg #[.int .i64 0, .slice none 0 0, .slice none 0 0, .slice none 0 0, .slice none 0 0], .agg #[.int .i64 0, .int .i64 0, .int .i64 0, .int .i64 0]], []⟩ 8 (by kernel_rfl) (by kernel_rfl) (by kernel_rfl) (by kernel_rfl)) ?_
  intro W base args ds gs before hval0 hW hcnd hsz0 _
  have hsz : (DataW.weightsEach Try.prog (Try.f11.params.toList ++ Rows.leavesAllSpec.plain.varTypes Try.prog) (ds ++ gs)).all (· ≤ reachBytes) = true := hsz0
  have hval : ∀ (j : Nat) t v, Try.f11.params[j]? = some t → args[j]? = some v → Value.okWide Try.prog W .any base t v := hval0
  have hW' := hW
  obtain ⟨p, q, hA0, hV, rfl, hfz, hnd⟩ := hW
  have hA : DataW.TrodAll enc Try.prog W 0 (fun _ => true) true Try.f11.params.toList args.toList ds p := hA0
  rw [Try.params11] at hA hval hsz
  obtain ⟨v0, vs0, d0, ds0, p0, q0, hargs, rfl, rfl, h0, r0⟩ := trodAll_cons hA
  obtain ⟨v1, vs1, d1, ds1, p1, q1, rfl, rfl, rfl, h1, r1⟩ := trodAll_cons r0
  obtain ⟨rfl, rfl, rfl⟩ := trodAll_nil r1
  obtain rfl : args = #[v0, v1] := by cases args; simp_all
  obtain ⟨rfl, rfl⟩ := trodVars_none hV
  have k0 := h0
  have lt0 : ∀ x ∈ p0, x.block < W.heap.size := by obtain ⟨m, hm⟩ := k0; exact DataW.trod_lt m _ _ _ hm
  obtain ⟨t0y0, t0y1, t0y2, t0y3, t0y4, rfl, w0y1, w0y2, w0y3, w0y4⟩ := Ev.open_tree (hval 0 55 v0 rfl rfl) h0
  have k1 := h1
  have lt1 : ∀ x ∈ p1, x.block < W.heap.size := by obtain ⟨m, hm⟩ := k1; exact DataW.trod_lt m _ _ _ hm
  obtain ⟨x1y0, x1y1, x1y2, x1y3, rfl, w1⟩ := OpenPt.open_point (hval 1 72 v1 rfl rfl)
  clear hA0 hval0 hsz0 hsz
  refine (WkLeavesAll.walk W t0y0 t0y1 t0y2 t0y3 t0y4 w0y1 w0y2 w0y3 w0y4 x1y0 x1y1 x1y2 x1y3 w1).mono fun e W' ⟨he, bel⟩ => ?_
  subst he
  exact ⟨_, rfl, _, _, _, [], _, [], hW', trodAll_mk1 (shut_bool Try.underlying4 _), (trodAll_cons_mk (Below.trod laidOut (by kernel_rfl) (of_decide_eq_true (by kernel_rfl)) k0 bel lt0) (trodAll_cons_mk (Below.trod laidOut (by kernel_rfl) (of_decide_eq_true (by kernel_rfl)) k1 bel lt1) trodAll_mk0)), rfl, bel.frame _, fun h => by cases h⟩
theorem over : Rows.leavesAllRow.holds Try.pinned (OpenSpec.ofChange Rows.leavesAllSpec) :=
  OpenClaim.holds_of_wide 11 Try.f11 rfl rfl rfl rfl rfl rfl rfl ⟨rfl, rfl, rfl, rfl, rfl⟩ rfl rfl rfl rfl rfl (by kernel_rfl) Try.func11 (by kernel_rfl)
    (of_decide_eq_true (by kernel_rfl)) (by unfold Func.isWrapper; first | (rw [if_pos (by decide +kernel)]; kernel_rfl) | (rw [if_neg (by decide +kernel)]; exact ⟨rfl, rfl⟩))
    (fun os started H enc _ => lifted os started H enc)
end Go.Proofs.Ythbaccmhdffjdaa.leavesAllRow
namespace Go.Proofs.Ythbaccmhdffjdaa
theorem leavesAll_holds : Rows.LeavesAllSaid := leavesAllRow.over
#print axioms leavesAll_holds
end Go.Proofs.Ythbaccmhdffjdaa
