/-
  Stores into rows of structs, as lists; counting of a proof's steps. No condition.
-/
import Derived.Test.YtoeehjfblpmljaaPlain
set_option linter.unusedVariables false
set_option linter.unusedSimpArgs false
namespace Go.Proofs.Ytoeehjfblpmljaa.Ev
open Go Go.RowKit
theorem lset_of : ∀ {cs : List Value} {o : Nat} {vs : List Value}, o + vs.length ≤ cs.length → lset cs o vs = some (cs.take o ++ vs ++ cs.drop (o + vs.length))
  | cs, 0, [], _ => by cases cs <;> simp [lset]
  | [], 0, v :: vs, h => by simp at h
  | [], o + 1, vs, h => by simp at h
  | c :: cs, 0, v :: vs, h => by
    have := lset_of (cs := cs) (o := 0) (vs := vs) (by simp at h ⊢; omega)
    simp only [lset, this]
    simp
  | c :: cs, o + 1, vs, h => by
    have := lset_of (cs := cs) (o := o) (vs := vs) (by simp at h; omega)
    simp only [lset, this]
    rw [show o + 1 + vs.length = (o + vs.length) + 1 by omega]
    simp
theorem lset_mid {a b c vs r : List Value} {f : Nat} (h : lset b f vs = some r) : lset (a ++ (b ++ c)) (a.length + f) vs = some (a ++ (r ++ c)) := by
  obtain ⟨h1, h2⟩ := lset_spec h
  rw [lset_of (by simp; omega), h1]
  congr 1
  rw [List.take_length_add_append, List.take_append_of_le_length (by omega), show a.length + f + vs.length = a.length + (f + vs.length) by omega, List.drop_length_add_append, List.drop_append_of_le_length (by omega)]
  simp
/-- A store into one struct of a row. -/
theorem lset_row {α : Type} {e : Elt α} {l : List α} {k f : Nat} {x y : α} {vs : List Value} (hk : l[k]? = some y) (h : lset (e.cells y) f vs = some (e.cells x)) : lset (e.row l) (k * e.s + f) vs = some (e.row (l.set k x)) := by
  have hlt := (List.getElem?_eq_some_iff.1 hk).1
  have he := (List.getElem?_eq_some_iff.1 hk).2
  have e1 : l = l.take k ++ y :: l.drop (k + 1) := by
    conv => lhs; rw [← List.take_append_drop k l]
    rw [List.drop_eq_getElem_cons hlt, he]
  have e2 : l.set k x = l.take k ++ x :: l.drop (k + 1) := by
    rw [List.set_eq_take_append_cons_drop, if_pos hlt]
  have e3 : e.row l = e.row (l.take k) ++ (e.cells y ++ e.row (l.drop (k + 1))) := by
    conv => lhs; rw [e1]
    rw [Elt.row_app, Elt.row_cons]
  rw [e2, e3, Elt.row_app, Elt.row_cons]
  have hl : (e.row (l.take k)).length = k * e.s := by rw [Elt.row_len, List.length_take, Nat.min_eq_left (by omega)]
  rw [← hl]
  exact lset_mid h
end Go.Proofs.Ytoeehjfblpmljaa.Ev
namespace Go.Proofs.Ytoeehjfblpmljaa.PrA
open Go Go.RowKit Go.Proofs.Ytoeehjfblpmljaa.Ev Go.Proofs.Ytoeehjfblpmljaa.PickE Go.Proofs.Ytoeehjfblpmljaa.BoxF Go.Proofs.Ytoeehjfblpmljaa.Within
/-- One more for a cut, one less for a sum. -/
def net : List Stp → Int
  | [] => 0
  | s :: l => (if s.sum = true then -1 else 1) + net l
theorem net_app (l m : List Stp) : net (l ++ m) = net l + net m := by
  induction l with
  | nil => simp [net]
  | cons s l ih => simp only [List.cons_append, net, ih]; omega
theorem deepGo_net : ∀ {L : List Stp} {l d l' d' : Int}, deepGo L l d = some (l', d') → l' = l + net L ∧ ∀ s ∈ L, rightS s = true
  | [], l, d, l', d', h => by simp [deepGo] at h; exact ⟨by simp [net]; omega, by simp⟩
  | s :: L, l, d, l', d', h => by
    simp only [deepGo] at h
    split at h
    · simp at h
    · rename_i hb
      have hr : rightS s = true := by
        cases hs : rightS s with
        | true => rfl
        | false => exact absurd (Or.inr hs) hb
      split at h
      · rename_i hs
        obtain ⟨h1, h2⟩ := deepGo_net h
        refine ⟨by simp only [net, hs, if_true]; omega, fun t ht => ?_⟩
        rcases List.mem_cons.1 ht with rfl | ht
        · exact hr
        · exact h2 t ht
      · rename_i hs
        obtain ⟨h1, h2⟩ := deepGo_net h
        refine ⟨by rw [net, if_neg hs]; omega, fun t ht => ?_⟩
        rcases List.mem_cons.1 ht with rfl | ht
        · exact hr
        · exact h2 t ht
/-- Steps that are no proof. -/
theorem deepI_zero {L : List Stp} (h : net L ≠ -1 ∨ ∃ s ∈ L, rightS s = false) : deepI L = 0 := by
  unfold deepI
  split
  · rfl
  · cases hd : deepGo L 1 1 with
    | none => rfl
    | some x =>
      obtain ⟨l', d'⟩ := x
      obtain ⟨h1, h2⟩ := deepGo_net hd
      simp only [deepR]
      rw [if_neg]
      rintro ⟨h3, _⟩
      rcases h with h | ⟨s, hs, hr⟩
      · exact h (by omega)
      · rw [h2 s hs] at hr; simp at hr
/-- A cutting of one box: a right proof, whose boxes are those. -/
theorem ran_right {b : Bx} {S : List Stp} {O : List Bx} (R : Ran [b] S O b 0) (hlen : S.length ≤ 65536) : net S = -1 ∧ S ≠ [] ∧ O ≠ [] ∧ sumsI b S = some O ∧ ∃ e : Int, 1 ≤ e ∧ e ≤ 21 ∧ deepI S = e ∧ ∀ (rest : List Stp) (m d : Int), 0 ≤ m → m + 1 ≤ d → deepGo (S ++ rest) (m + 1) d = deepGo rest m (max d (m + e)) := by
  obtain ⟨e, e1, e2, e3⟩ := R.deep
  simp only [List.length_singleton, Int.natCast_one] at e1 e2 e3
  have h := e3 [] 0 1 (by decide) (by decide)
  simp only [List.append_nil, Int.zero_add, deepGo] at h
  obtain ⟨h1, _⟩ := deepGo_net h
  have hl := R.len
  simp at hl
  have hO : O ≠ [] := fun hO => by subst hO; simp at hl
  have hS : S ≠ [] := fun hS => by subst hS; simp [net] at h1
  have hm : max 1 e = e := by omega
  rw [hm] at h
  have hd := deepI_of hlen h (by omega)
  refine ⟨by omega, hS, hO, ?_, e, by omega, by omega, hd, e3⟩
  unfold sumsI
  rw [if_pos (by omega)]
  have := R.sums [] [] []
  simpa [sumsGo] using this
end Go.Proofs.Ytoeehjfblpmljaa.PrA

