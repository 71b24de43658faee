/-
  Rows of lists: stores, appends, slices, copies. No condition.
-/
import Derived.Test.YtmgkmekknhggbaaElt
import Derived.Test.YtmgkmekknhggbaaOpenCan
set_option linter.unusedVariables false
set_option linter.unusedSimpArgs false
namespace Go.Proofs.Ytmgkmekknhggbaa.Ev
open Go Go.RowKit
theorem lset_of : ∀ {cs : List Value} {o : Nat} {vs : List Value}, o + vs.length ≤ cs.length → lset cs o vs = some (cs.take o ++ vs ++ cs.drop (o + vs.length))
  | cs, 0, [], _ => by cases cs <;> simp [lset]
  | [], 0, v :: vs, h => by simp at h
  | [], o + 1, vs, h => by simp at h
  | c :: cs, 0, v :: vs, h => by
    have := lset_of (cs := cs) (o := 0) (vs := vs) (by simp at h ⊢; omega)
    simp only [lset, this]
    simp
  | c :: cs, o + 1, vs, h => by
    have := lset_of (cs := cs) (o := o) (vs := vs) (by simp at h; omega)
    simp only [lset, this]
    rw [show o + 1 + vs.length = (o + vs.length) + 1 by omega]
    simp
theorem lset_mid {a b c vs r : List Value} {f : Nat} (h : lset b f vs = some r) : lset (a ++ (b ++ c)) (a.length + f) vs = some (a ++ (r ++ c)) := by
  obtain ⟨h1, h2⟩ := lset_spec h
  rw [lset_of (by simp; omega), h1]
  congr 1
  rw [List.take_length_add_append, List.take_append_of_le_length (by omega), show a.length + f + vs.length = a.length + (f + vs.length) by omega, List.drop_length_add_append, List.drop_append_of_le_length (by omega)]
  simp
/-- A store into one struct of a row. -/
theorem lset_row {α : Type} {e : Elt α} {l : List α} {k f : Nat} {x y : α} {vs : List Value} (hk : l[k]? = some y) (h : lset (e.cells y) f vs = some (e.cells x)) : lset (e.row l) (k * e.s + f) vs = some (e.row (l.set k x)) := by
  have hlt := (List.getElem?_eq_some_iff.1 hk).1
  have he := (List.getElem?_eq_some_iff.1 hk).2
  have e1 : l = l.take k ++ y :: l.drop (k + 1) := by
    conv => lhs; rw [← List.take_append_drop k l]
    rw [List.drop_eq_getElem_cons hlt, he]
  have e2 : l.set k x = l.take k ++ x :: l.drop (k + 1) := by
    rw [List.set_eq_take_append_cons_drop, if_pos hlt]
  have e3 : e.row l = e.row (l.take k) ++ (e.cells y ++ e.row (l.drop (k + 1))) := by
    conv => lhs; rw [e1]
    rw [Elt.row_app, Elt.row_cons]
  rw [e2, e3, Elt.row_app, Elt.row_cons]
  have hl : (e.row (l.take k)).length = k * e.s := by rw [Elt.row_len, List.length_take, Nat.min_eq_left (by omega)]
  rw [← hl]
  exact lset_mid h
section
variable {α : Type} {e : Elt α}
theorem appG {L M : List α} {ty : TypeId} {own : Option Blk} {n m c size bytes o : Nat} {res : List Value} (hown : (own = some (.vec (e.row L) ty size) ∧ c = mk) ∨ (own = some (.cells [] ty) ∧ n = 0 ∧ c = 0)) (hs : size = e.s) {k : Nat} (ho : o = k * e.s) (hk : k + m ≤ M.length) (hn : n ≤ L.length) (hres : res = e.row (L.take n ++ (M.drop k).take m))
    (h1 : 1 ≤ m) (hb : n + m ≤ 16777216) (hby : (n + m) * bytes ≤ 140737488355328) : AppOK own n c size bytes m (e.row M) o res := by
  subst hs
  subst hres
  subst ho
  have hkm : k * e.s + m * e.s ≤ M.length * e.s := by rw [← Nat.add_mul]; exact Nat.mul_le_mul_right _ hk
  refine ⟨e.row (L.take n), e.row ((M.drop k).take m), ?_, ?_, h1, hb, hby, Elt.row_app _ _, ?_⟩
  · rw [sub_of (by rw [Elt.row_len]; exact hkm), Elt.row_drop, Elt.row_take]
  · exact allB_iff.2 fun c hc => leaf_of_leafG (Elt.row_pl _ c hc)
  · rcases hown with ⟨rfl, rfl⟩ | ⟨rfl, rfl, rfl⟩
    · refine ⟨rfl, ?_, (Elt.row_take L n).symm⟩
      rw [Elt.row_len]; exact Nat.mul_le_mul_right _ hn
    · refine ⟨by simp, by omega, by omega, ?_⟩
      simp [Elt.row]
theorem rowN {L : List α} {n : Nat} (h : n = L.length) : e.Row (e.row L) 0 n := by subst h; exact (Elt.canon0 L).1
theorem rowM {L : List α} {n : Nat} (h : n ≤ L.length) : e.Row (e.row L) 0 n := ((Elt.canon0 L).1.take h).1
theorem listM {L : List α} {n : Nat} (h : n ≤ L.length) : e.list (e.row L) 0 n = L.take n := by rw [((Elt.canon0 L).1.take h).2, (Elt.canon0 L).2]
theorem plain1 {cs : List Value} (h : ∀ x ∈ cs, leafG x = true) : plainR [cs] := by
  intro x hx
  simp at hx
  subst hx
  exact h
end
section
variable {α : Type} {e : Elt α}
theorem appC {L M : List α} {ty : TypeId} {own : Option Blk} {n m c size bytes : Nat} {res : List Value} (hown : own = some (.cells (e.row L) ty)) (hs : size = e.s) (hn : n ≤ c) (hc16 : c ≤ 16777216) (hc : c = L.length) (hres : res = e.row (L.take n ++ M))
    (h1 : 1 ≤ m) (hb : n + m ≤ 16777216) (hby : (n + m) * bytes ≤ 140737488355328) (hm : m = M.length := by rfl) : AppOK own n c size bytes m (e.row M) 0 res := by
  subst hs
  subst hres
  subst hown
  subst hc
  subst hm
  refine ⟨e.row (L.take n), e.row M, ?_, ?_, h1, hb, hby, Elt.row_app _ _, ?_⟩
  · rw [sub_of (by rw [Elt.row_len]; omega), List.drop_zero, List.take_of_length_le (by rw [Elt.row_len]; omega)]
  · exact allB_iff.2 fun c hc => leaf_of_leafG (Elt.row_pl _ c hc)
  · exact ⟨Elt.row_len L, hn, hc16, (Elt.row_take L n).symm⟩
theorem plain2 {cs ds : List Value} (h : ∀ x ∈ cs, leafG x = true) (g : ∀ x ∈ ds, leafG x = true) : plainR [cs, ds] := by
  intro x hx
  simp at hx
  rcases hx with rfl | rfl
  · exact h
  · exact g
end
theorem lsetE {α : Type} {e : Elt α} {l : List α} {k f o : Nat} {x y : α} {vs : List Value} (hk : l[k]? = some y) (h : lset (e.cells y) f vs = some (e.cells x)) (ho : o = k * e.s + f) : lset (e.row l) o vs = some (e.row (l.set k x)) := by
  subst ho; exact lset_row hk h
/-- The rest of a row. -/
theorem slK {i : Int} {α : Type} {e : Elt α} {n h m c : Nat} {L : List α} {ty : TypeId} {nm o size : Nat} (hi : i = (h : Int)) (hh : h + 1 ≤ n) (hm : m = n - h) (hc : c = mk + h) (ho : o = 0 + h * size) (hs : size = e.s) (h1 : 1 ≤ size) (hl : n ≤ L.length := by omega) : SlOK size nm 0 n mk (some i) none (some (.vec (e.row L) ty size)) (.slice (some ⟨nm, o, none⟩) m c) := by
  subst hm
  subst hc
  subst ho
  subst hs
  refine ⟨h, n, hi, rfl, by omega, Nat.le_refl _, Or.inl ⟨Nat.le_refl _, ⟨_, ty, rfl, h1, ?_⟩, Or.inr hh, rfl⟩⟩
  rw [Elt.row_len, Nat.sub_self, Nat.zero_add]
  exact Nat.mul_le_mul_right _ hl
section
variable {α : Type} {e : Elt α}
theorem Elt.Row.eq_row {cs : List Value} {off n : Nat} (h : e.Row cs off n) : (cs.drop off).take (n * e.s) = e.row (e.list cs off n) := by
  induction n with
  | zero => simp [Elt.row, Elt.list]
  | succ n ih =>
    have h1 : e.Row cs off n := (h.take (Nat.le_succ n)).1
    have hn := h.2 n (Nat.lt_succ_self n)
    rw [Nat.succ_mul, List.take_add, ih h1, List.drop_drop, hn]
    simp only [Elt.list, List.range_succ, List.map_append, List.map_cons, List.map_nil, Elt.row_app, Elt.row_one]
theorem repl_row {x : α} {zs : List Value} (h : e.cells x = zs) : ∀ n : Nat, repl zs n = e.row (List.replicate n x)
  | 0 => rfl
  | n + 1 => by simp only [repl, repl_row h n, List.replicate_succ, Elt.row_cons, h]
/-- A copy of a whole list into new memory. -/
theorem copyOK {cs : List Value} {o n m : Nat} {zs : List α} {size : Nat} {res : List Value} (hr : e.Row cs o n) (hs : size = e.s) (hm : n ≤ m) (hz : zs.length = m) (hpl : ∀ c ∈ cs, leafG c = true) (hres : res = e.row (e.list cs o n ++ zs.drop n)) : CopyOK n m size 0 cs o (e.row zs) res := by
  subst hs
  subst hres
  have hmin : Nat.min n m = n := Nat.min_eq_left hm
  have hle : n * e.s ≤ zs.length * e.s := Nat.mul_le_mul_right _ (by omega)
  refine ⟨e.row (e.list cs o n), ?_, allB_iff.2 fun c hc => leaf_of_leafG (Elt.row_pl _ c hc), ?_⟩
  · rw [hmin, sub_of hr.1, hr.eq_row]
  · rw [lset_of (by rw [Elt.row_len, Elt.list_len, Elt.row_len]; omega)]
    rw [Elt.row_len, Elt.list_len, Nat.zero_add, Elt.row_drop, List.take_zero, List.nil_append, Elt.row_app]
end
end Go.Proofs.Ytmgkmekknhggbaa.Ev

