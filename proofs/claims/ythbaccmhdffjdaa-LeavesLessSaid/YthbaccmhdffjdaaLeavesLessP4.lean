/-
  LeavesPart: the table, the frame. No condition.
-/
import Derived.Test.YthbaccmhdffjdaaLeavesLessP3
set_option linter.unusedVariables false
set_option linter.unusedSimpArgs false
set_option maxRecDepth 100000
namespace Go.Proofs.Ythbaccmhdffjdaa.Tr
open Go Go.RowKit Go.Proofs.Ythbaccmhdffjdaa.Ev Go.Proofs.Ythbaccmhdffjdaa.Within Go.Proofs.Ythbaccmhdffjdaa.PickE Go.Proofs.Ythbaccmhdffjdaa.NodeE Go.Proofs.Ythbaccmhdffjdaa.Tn
def rightN (n : Nd) : Bool := rightB n.leaf n.v n.f n.a n.x n.y
def namesN (n : Nd) : List Int := bif n.leaf then [] else [n.x, n.y]
def cntN (nodes : List Nd) (k : Int) : Nat := (nodes.flatMap namesN).count k
/-- What the word of a right node tells. -/
theorem pack_tells {n : Nd} (h : rightN n = true) : U64 (packN n) ∧ okB (packN n) = true ∧ lfB (packN n) = n.leaf ∧ (n.leaf = true → low32 (packN n) = n.v) ∧ (n.leaf = false → uF (packN n) = n.f ∧ low32 (packN n) = n.a ∧ uX (packN n) = n.x ∧ uY (packN n) = n.y) := by
  obtain ⟨h1, h2, h3⟩ := pack_unp (l := n.leaf) (v := n.v) (f := n.f) (a := n.a) (x := n.x) (y := n.y) h
  refine ⟨h1, h2, ?_⟩
  show lfB (packN n) = n.leaf ∧ _
  have h3 : unp (packN n) = .tuple ⟨[nd n.leaf n.v n.f n.a n.x n.y, .bool true]⟩ := h3
  have h2 : okB (packN n) = true := h2
  cases hl : lfB (packN n)
  · rw [unp_inner h2 hl] at h3
    simp only [nd, Value.tuple.injEq, Array.mk.injEq, List.cons.injEq, Value.agg.injEq, Value.bool.injEq, Value.int.injEq, true_and, and_true] at h3
    obtain ⟨e0, e1, e2, e3, e4, e5⟩ := h3
    exact ⟨e0, fun h => by rw [← e0] at h; exact absurd h (by simp), fun _ => ⟨e2, e3, e4, e5⟩⟩
  · rw [unp_leaf h2 hl] at h3
    simp only [nd, Value.tuple.injEq, Array.mk.injEq, List.cons.injEq, Value.agg.injEq, Value.bool.injEq, Value.int.injEq, true_and, and_true] at h3
    obtain ⟨e0, e1, e2, e3, e4, e5⟩ := h3
    exact ⟨e0, fun _ => e1, fun h => by rw [← e0] at h; exact absurd h (by simp)⟩
theorem names_pack {n : Nd} (h : rightN n = true) : namesW (packN n) = namesN n := by
  obtain ⟨_, _, h3, _, h5⟩ := pack_tells h
  unfold namesW namesN
  rw [h3]
  cases hl : n.leaf
  · obtain ⟨_, _, e3, e4⟩ := h5 hl
    rw [e3, e4]
  · rfl
theorem named_pack {nodes : List Nd} (h : ∀ n ∈ nodes, rightN n = true) (k : Int) : named (nodes.map packN) k = cntN nodes k := by
  induction nodes with
  | nil => rfl
  | cons n nodes ih =>
    simp only [named, cntN, List.map_cons, List.flatMap_cons, List.count_append] at ih ⊢
    rw [names_pack (h n (by simp)), ih fun m hm => h m (by simp [hm])]
/-- What holds of nodes and leaves, for right trees. -/
structure NdR (dim : Int) (i : Nat) (nodes : List Nd) (leaves : List Int) : Prop where
  nl : nodes.length = 2 * i + 1
  ll : leaves.length = i + 1
  nodup : leaves.Nodup
  leaf : ∀ l ∈ leaves, 0 ≤ l ∧ ∃ n, nodes[l.toNat]? = some n ∧ n.leaf = true
  right : ∀ n ∈ nodes, rightN n = true
  inner : ∀ (j : Nat) (n : Nd), nodes[j]? = some n → n.leaf = false → n.f < dim ∧ n.x ≠ n.y ∧ (j : Int) < n.x ∧ (j : Int) < n.y ∧ n.x < nodes.length ∧ n.y < nodes.length
  once : ∀ k : Nat, 1 ≤ k → k < nodes.length → cntN nodes (k : Int) = 1
  lc : ((nodes.filter fun n => n.leaf).length = i + 1)
theorem cnt_app (l m : List Nd) (k : Int) : cntN (l ++ m) k = cntN l k + cntN m k := by simp [cntN, List.flatMap_append, List.count_append]
theorem set_split {α : Type} {l : List α} {a : Nat} {x y : α} (h : l[a]? = some x) : l = l.take a ++ x :: l.drop (a + 1) ∧ l.set a y = l.take a ++ y :: l.drop (a + 1) := by
  have hlt := (List.getElem?_eq_some_iff.1 h).1
  have he := (List.getElem?_eq_some_iff.1 h).2
  refine ⟨?_, by rw [List.set_eq_take_append_cons_drop, if_pos hlt]⟩
  conv => lhs; rw [← List.take_append_drop a l]
  rw [List.drop_eq_getElem_cons hlt, he]
theorem cnt_set {nodes : List Nd} {a : Nat} {n m : Nd} (h : nodes[a]? = some n) (hl : n.leaf = true) (k : Int) : cntN (nodes.set a m) k = cntN nodes k + (namesN m).count k := by
  obtain ⟨e1, e2⟩ := set_split (y := m) h
  have hn : namesN n = [] := by simp [namesN, hl]
  rw [e2]
  conv => rhs; rw [e1]
  simp only [cntN, List.flatMap_append, List.flatMap_cons, List.count_append, hn, List.count_nil]
  omega
theorem cnt_ge {nodes : List Nd} {N k : Int} (h : ∀ n ∈ nodes, n.leaf = false → n.x < N ∧ n.y < N) (hk : N ≤ k) : cntN nodes k = 0 := by
  unfold cntN
  rw [List.count_eq_zero]
  intro hm
  obtain ⟨n, hn, hm⟩ := List.mem_flatMap.1 hm
  unfold namesN at hm
  cases hl : n.leaf
  · rw [hl] at hm
    have := h n hn hl
    simp at hm
    omega
  · rw [hl] at hm; simp at hm
theorem right_lf {z : Int} (h : -3000 ≤ z ∧ z ≤ 3000) : rightN ⟨true, z, 0, 0, 0, 0⟩ = true := by
  show rightB true z 0 0 0 0 = true
  simp [rightB, fitB]; omega
theorem right_in {f a x y : Int} (hf : 0 ≤ f ∧ f < 4) (ha : 0 ≤ a ∧ a ≤ 9) (hx : 1 ≤ x ∧ x < 31) (hy : 1 ≤ y ∧ y < 31) : rightN ⟨false, 0, f, a, x, y⟩ = true := by
  show rightB false 0 f a x y = true
  simp [rightB, fitB, chB]; omega
theorem ndr0 (dim z : Int) (h : -3000 ≤ z ∧ z ≤ 3000) : NdR dim 0 [⟨true, z, 0, 0, 0, 0⟩] [0] := by
  refine ⟨rfl, rfl, by simp, fun l hl => ?_, fun n hn => ?_, fun j n hj hl => ?_, fun k h1 h2 => ?_, rfl⟩
  · simp at hl; subst hl; exact ⟨Int.le_refl _, ⟨true, z, 0, 0, 0, 0⟩, rfl, rfl⟩
  · simp at hn; subst hn; exact right_lf h
  · cases j with
    | zero => simp at hj; subst hj; exact absurd hl (by simp)
    | succ j => simp at hj
  · simp at h2; omega
theorem ndr_step {bl al vl : List Int} {dim pz : Int} {i : Nat} {nodes : List Nd} {leaves : List Int} (hd : 1 ≤ dim ∧ dim ≤ 4) (hi : i < 7) (h : NdR dim i nodes leaves) : NdR dim (i + 1) (ndNodes bl al vl dim pz i nodes leaves) (ndLeaves pz nodes leaves) := by
  have hne : leaves ≠ [] := fun e => by have := h.ll; rw [e] at this; simp at this
  have hk := (nd_k (pz := pz) hne).2
  have hpl := Go.Proofs.Ythbaccmhdffjdaa.Tn.nd_pl (pz := pz) hne
  have hnl := h.nl
  have hll := h.ll
  have hmem : ndPl pz leaves ∈ leaves := List.mem_of_getElem? hpl
  obtain ⟨p0, n0, hn0, hl0⟩ := h.leaf _ hmem
  have hlt0 := (List.getElem?_eq_some_iff.1 hn0).1
  have hlen : (ndNodes bl al vl dim pz i nodes leaves).length = nodes.length + 2 := by simp [ndNodes]
  have hold : ∀ l ∈ leaves, l < nodes.length := fun l hl => by
    obtain ⟨q0, n, hn, _⟩ := h.leaf l hl
    have := (List.getElem?_eq_some_iff.1 hn).1
    omega
  have hf := within_range (pickI bl i) (show (0 : Int) ≤ dim - 1 by omega)
  have ha := within_range (pickI al i) (show (0 : Int) ≤ 9 by omega)
  have v1 := within_range (pickI vl (2 * i + 1)) (show (-3000 : Int) ≤ 3000 by omega)
  have v2 := within_range (pickI vl (2 * i + 2)) (show (-3000 : Int) ≤ 3000 by omega)
  have hnd : ∀ l ∈ leaves.take (ndK pz leaves) ++ leaves.drop (ndK pz leaves + 1), l ∈ leaves ∧ l ≠ ndPl pz leaves := by
    obtain ⟨e1, _⟩ := set_split (y := (0 : Int)) hpl
    have hd := h.nodup
    rw [e1] at hd
    have hd2 := List.nodup_append.1 hd
    intro l hl
    refine ⟨?_, fun e => ?_⟩
    · rcases List.mem_append.1 hl with hl | hl
      · exact List.mem_of_mem_take hl
      · exact List.mem_of_mem_drop hl
    · subst e
      rcases List.mem_append.1 hl with hl | hl
      · exact hd2.2.2 _ hl _ (List.mem_cons_self ..) rfl
      · exact (List.nodup_cons.1 hd2.2.1).1 hl
  have hnodup : (leaves.take (ndK pz leaves) ++ leaves.drop (ndK pz leaves + 1)).Nodup := by
    obtain ⟨e1, _⟩ := set_split (y := (0 : Int)) hpl
    have hd := h.nodup
    rw [e1] at hd
    have hd2 := List.nodup_append.1 hd
    exact List.nodup_append.2 ⟨hd2.1, (List.nodup_cons.1 hd2.2.1).2, fun a ha b hb => hd2.2.2 a ha b (List.mem_cons_of_mem _ hb)⟩
  refine ⟨by omega, by simp [ndLeaves]; omega, ?_, fun l hl => ?_, fun n hn => ?_, fun j n hj hl => ?_, fun k h1 h2 => ?_, ?_⟩
  · unfold ndLeaves
    refine List.nodup_append.2 ⟨hnodup, by simp; omega, fun a ha b hb => ?_⟩
    have := hold a (hnd a ha).1
    simp at hb
    omega
  · unfold ndLeaves at hl
    rcases List.mem_append.1 hl with hl | hl
    · obtain ⟨m1, m2⟩ := hnd l hl
      obtain ⟨q0, n, hn, hlf⟩ := h.leaf l m1
      have hlt := (List.getElem?_eq_some_iff.1 hn).1
      refine ⟨q0, n, ?_, hlf⟩
      unfold ndNodes
      rw [List.getElem?_append_left (by simpa using hlt), List.getElem?_set_ne (by omega)]
      exact hn
    · simp at hl
      rcases hl with rfl | rfl
      · refine ⟨by omega, ⟨true, withinS (pickI vl (2 * i + 1)) (-3000) 3000, 0, 0, 0, 0⟩, ?_, rfl⟩
        unfold ndNodes
        rw [List.getElem?_append_right (by simp)]
        simp
      · refine ⟨by omega, ⟨true, withinS (pickI vl (2 * i + 2)) (-3000) 3000, 0, 0, 0, 0⟩, ?_, rfl⟩
        unfold ndNodes
        have e : ((nodes.length : Int) + 1).toNat = nodes.length + 1 := by omega
        rw [e, List.getElem?_append_right (by simp)]
        simp
  · simp only [ndNodes, List.mem_append, List.mem_cons, List.not_mem_nil, or_false] at hn
    rcases hn with hn | rfl | rfl
    · rcases List.mem_or_eq_of_mem_set hn with hn | rfl
      · exact h.right n hn
      · exact right_in (by omega) ha (by omega) (by omega)
    · exact right_lf v1
    · exact right_lf v2
  · rw [hlen]
    unfold ndNodes at hj
    by_cases hjl : j < nodes.length
    · rw [List.getElem?_append_left (by simpa using hjl)] at hj
      by_cases e : (ndPl pz leaves).toNat = j
      · rw [← e, List.getElem?_set_self hlt0] at hj
        injection hj with hj
        subst hj
        simp only
        omega
      · rw [List.getElem?_set_ne e] at hj
        have := h.inner j n hj hl
        omega
    · rw [List.getElem?_append_right (by simp; omega)] at hj
      have hm := List.mem_of_getElem? hj
      simp at hm
      rcases hm with rfl | rfl <;> exact absurd hl (by simp)
  · rw [hlen] at h2
    have hold2 : ∀ n ∈ nodes, n.leaf = false → n.x < (nodes.length : Int) ∧ n.y < (nodes.length : Int) := fun n hn hl => by
      obtain ⟨j, hj⟩ := List.mem_iff_getElem?.1 hn
      have := h.inner j n hj hl
      omega
    unfold ndNodes
    rw [cnt_app, cnt_set hn0 hl0]
    have hz : cntN [⟨true, withinS (pickI vl (2 * i + 1)) (-3000) 3000, 0, 0, 0, 0⟩, ⟨true, withinS (pickI vl (2 * i + 2)) (-3000) 3000, 0, 0, 0, 0⟩] (k : Int) = 0 := rfl
    rw [hz]
    simp only [namesN, cond_false, List.count_cons, List.count_nil]
    by_cases hkl : k < nodes.length
    · rw [h.once k h1 hkl]
      have e1 : ((nodes.length : Int) == (k : Int)) = false := by simp; omega
      have e2 : ((nodes.length : Int) + 1 == (k : Int)) = false := by simp; omega
      simp [e1, e2]
    · rw [cnt_ge hold2 (by omega)]
      by_cases e : k = nodes.length
      · subst e
        have e2 : ((nodes.length : Int) + 1 == (nodes.length : Int)) = false := by simp; omega
        simp [e2]
      · have e1 : ((nodes.length : Int) == (k : Int)) = false := by simp; omega
        have e2 : ((nodes.length : Int) + 1 == (k : Int)) = true := by simp; omega
        simp [e1, e2]
  · obtain ⟨e1, e2⟩ := set_split (y := (⟨false, 0, withinS (pickI bl i) 0 (dim - 1), withinS (pickI al i) 0 9, nodes.length, (nodes.length : Int) + 1⟩ : Nd)) hn0
    have hlc := h.lc
    rw [e1] at hlc
    unfold ndNodes
    rw [e2]
    simp only [List.filter_append, List.filter_cons, hl0, List.length_append, if_true, Bool.false_eq_true, if_false, List.filter_nil, List.length_cons, List.length_nil] at hlc ⊢
    omega
theorem ndr_go {bl al vl : List Int} {dim : Int} (hd : 1 ≤ dim ∧ dim ≤ 4) : ∀ {ps : List Int} {i : Nat} {nodes : List Nd} {leaves : List Int}, i + ps.length ≤ 7 → NdR dim i nodes leaves → ∃ leaves', NdR dim (i + ps.length) (ndGo bl al vl dim ps i nodes leaves) leaves'
  | [], i, nodes, leaves, _, h => ⟨leaves, h⟩
  | pz :: ps, i, nodes, leaves, hl, h => by
    simp only [List.length_cons] at hl
    obtain ⟨l', h'⟩ := ndr_go hd (ps := ps) (i := i + 1) (by omega) (ndr_step (bl := bl) (al := al) (vl := vl) (pz := pz) hd (by omega) h)
    refine ⟨l', ?_⟩
    simp only [ndGo, List.length_cons]
    rw [show i + (ps.length + 1) = i + 1 + ps.length by omega]
    exact h'
theorem nodes_ndr (pl bl al vl : List Int) {dim : Int} (hd : 1 ≤ dim ∧ dim ≤ 4) : ∃ i leaves, i ≤ 7 ∧ NdR dim i (nodesI pl bl al vl dim) leaves := by
  obtain ⟨l, h⟩ := ndr_go (bl := bl) (al := al) (vl := vl) hd (ps := pl.take 7) (i := 0) (by rw [List.length_take]; omega) (ndr0 dim _ (within_range (pickI vl 0) (show (-3000 : Int) ≤ 3000 by omega)))
  exact ⟨_, l, by rw [List.length_take]; omega, h⟩
abbrev wordsI (pl bl al vl : List Int) (dim : Int) : List Int := (nodesI pl bl al vl dim).map packN
/-- What Tree.Nodes makes is a right tree. -/
theorem nodes_right (pl bl al vl : List Int) {dim : Int} (hd : 1 ≤ dim ∧ dim ≤ 4) : rightI (wordsI pl bl al vl dim) dim = true ∧ (∀ w ∈ wordsI pl bl al vl dim, U64 w) ∧ (wordsI pl bl al vl dim).length ≤ 15 := by
  obtain ⟨i, leaves, hi, h⟩ := nodes_ndr pl bl al vl hd
  have hnl := h.nl
  refine ⟨right_parts.2 ⟨⟨by simp; omega, by simp; omega⟩, fun j w hw => ?_, fun k h1 h2 => ?_⟩, fun w hw => ?_, by simp; omega⟩
  · rw [List.getElem?_map] at hw
    cases hn : (nodesI pl bl al vl dim)[j]? with
    | none => rw [hn] at hw; simp at hw
    | some n =>
      rw [hn] at hw
      simp at hw
      subst hw
      have hr := h.right n (List.mem_of_getElem? hn)
      obtain ⟨_, t1, t2, _, t4⟩ := pack_tells hr
      cases hl : n.leaf
      · rw [hl] at t2
        obtain ⟨a1, a2, a3, a4⟩ := t4 hl
        obtain ⟨b1, b2, b3, b4, b5, b6⟩ := h.inner j n hn hl
        rw [List.length_map]
        exact good_mk t2 t1 (by omega) (by omega) (by omega) (by omega) (by omega) (by omega)
      · rw [hl] at t2
        exact good_leaf t1 t2
  · rw [named_pack h.right]
    exact h.once k h1 (by simpa using h2)
  · obtain ⟨n, hn, rfl⟩ := List.mem_map.1 hw
    exact (pack_tells (h.right n hn)).1
/-! ### Walks in right trees -/
theorem right_ok {ws : List Int} {dim : Int} (h : rightI ws dim = true) : ∀ w ∈ ws, okB w = true := fun w hw => by
  obtain ⟨j, hj⟩ := List.mem_iff_getElem?.1 hw
  have := (right_parts.1 h).2.1 j w hj
  simp [goodW] at this
  exact this.1
theorem goes_next {ws : List Int} {dim : Int} (h : rightI ws dim = true) {p : Pt} {a : Nat} {w : Int} (hw : ws[a]? = some w) (hl : lfB w = false) : a < (goes p w).toNat ∧ (goes p w).toNat < ws.length := by
  obtain ⟨_, _, _, h3, h4, h5, h6⟩ := good_inner ((right_parts.1 h).2.1 a w hw) hl
  unfold goes
  cases decide (p.at (uF w) ≤ low32 w)
  · simp only [cond_false]; omega
  · simp only [cond_true]; omega
theorem goW_ends {ws : List Int} {dim : Int} (h : rightI ws dim = true) (p : Pt) : ∀ (k a : Nat), a < ws.length → ws.length ≤ k + a → ∃ b, goW ws p k a = some b
  | 0, a, h1, h2 => by omega
  | k + 1, a, h1, h2 => by
    have hw : ws[a]? = some ws[a] := List.getElem?_eq_getElem h1
    have ho := right_ok h _ (List.mem_of_getElem? hw)
    cases hl : lfB ws[a]
    · rw [goW_step hw ho hl]
      obtain ⟨g1, g2⟩ := goes_next h (p := p) hw hl
      exact goW_ends h p k _ g2 (by omega)
    · rw [goW_leaf hw ho hl]; exact ⟨a, rfl⟩
theorem walk_ends {ws : List Int} {dim : Int} (h : rightI ws dim = true) (p : Pt) : ∃ b, goW ws p 31 0 = some b := by
  obtain ⟨⟨h1, h2⟩, _⟩ := right_parts.1 h
  exact goW_ends h p 31 0 (by omega) (by omega)
/-- Points that go the same way at each threshold. -/
theorem goW_same {ws : List Int} {p q : Pt} (h : ∀ w ∈ ws, lfB w = false → decide (p.at (uF w) ≤ low32 w) = decide (q.at (uF w) ≤ low32 w)) : ∀ (k a : Nat), goW ws p k a = goW ws q k a
  | 0, a => rfl
  | k + 1, a => by
    cases hw : ws[a]? with
    | none => simp only [goW, hw]
    | some w =>
      cases ho : okB w with
      | false => rw [goW_bad hw ho, goW_bad hw ho]
      | true =>
        cases hl : lfB w with
        | true => rw [goW_leaf hw ho hl, goW_leaf hw ho hl]
        | false =>
          rw [goW_step hw ho hl, goW_step hw ho hl]
          have : goes p w = goes q w := by unfold goes; rw [h w (List.mem_of_getElem? hw) hl]
          rw [this]
          exact goW_same h k _
theorem walk_same {ws : List Int} {p q : Pt} (h : ∀ w ∈ ws, lfB w = false → decide (p.at (uF w) ≤ low32 w) = decide (q.at (uF w) ≤ low32 w)) : walkI ws p = walkI ws q := by
  unfold walkI; rw [goW_same h]
theorem walk_nn {ws : List Int} {dim : Int} (h : rightI ws dim = true) (p : Pt) : 0 ≤ walkI ws p := by
  obtain ⟨b, hb⟩ := walk_ends h p
  rw [(end_some hb).1]; omega
end Go.Proofs.Ythbaccmhdffjdaa.Tr


set_option linter.unusedVariables false
set_option linter.unusedSimpArgs false
set_option maxRecDepth 100000
namespace Go.Proofs.Ythbaccmhdffjdaa.Tr
open Go Go.RowKit Go.Proofs.Ythbaccmhdffjdaa.Ev Go.Proofs.Ythbaccmhdffjdaa.NodeE Go.Proofs.Ythbaccmhdffjdaa.Tr

theorem last_leaf {ws : List Int} {dim : Int} (h : rightI ws dim = true) {w : Int} (hw : ws[ws.length - 1]? = some w) : lfB w = true := by
  obtain ⟨⟨h1, _⟩, h2, _⟩ := right_parts.1 h
  have hg := h2 _ w hw
  cases hl : lfB w
  · obtain ⟨_, _, _, a, b, c, d⟩ := good_inner hg hl
    omega
  · rfl
theorem leafIx_one (i : Nat) (w : Int) : leafIx i [w] = bif okB w && lfB w then [(i : Int)] else [] := rfl
theorem leafIx_ne {ws : List Int} {dim : Int} (h : rightI ws dim = true) : leafIx 0 ws ≠ [] := by
  obtain ⟨⟨h1, _⟩, _, _⟩ := right_parts.1 h
  have hw : ws[ws.length - 1]? = some (ws[ws.length - 1]'(by omega)) := List.getElem?_eq_getElem (by omega)
  have hl := last_leaf h hw
  have ho := right_ok h _ (List.mem_of_getElem? hw)
  generalize hx : ws[ws.length - 1]'(by omega) = x at hw hl ho
  have e : ws = ws.take (ws.length - 1) ++ [x] := by
    have := List.take_add_one (l := ws) (i := ws.length - 1)
    rw [hw, show ws.length - 1 + 1 = ws.length by omega, List.take_length] at this
    exact this
  rw [e, leafIx_app, leafIx_one, ho, hl]
  simp
theorem leafIx_len : ∀ (i : Nat) (ws : List Int), (leafIx i ws).length ≤ ws.length
  | _, [] => Nat.le_refl _
  | i, w :: ws => by
    have := leafIx_len (i + 1) ws
    simp only [leafIx]
    cases okB w && lfB w <;> simp <;> omega
theorem leaves_spec (cs : List Value) (o n c : Nat) (hr : eWord.Row cs o n) (hpl : ∀ x ∈ cs, leafG x = true) (hU : ∀ w ∈ eWord.list cs o n, U64 w) (hn : n ≤ 65536) (hR : rightI (eWord.list cs o n) 4 = true) :
    CallSpec Try.prog 38 [.slice (some ⟨0, o, none⟩) n c] (roRows [cs]) 1 (.slice (some ⟨100, 0, none⟩) (leafIx 0 (eWord.list cs o n)).length mk) (assocN [100] [.vec (eInt.row (leafIx 0 (eWord.list cs o n))) 3 1]) := by
  refine spec_of_sat Try.func38 rfl fun E hE => ?_
  have hlen : (eWord.list cs o n).length = n := Elt.list_len _ _ _
  generalize hws : eWord.list cs o n = ws at hU hlen hE hR
  obtain ⟨⟨hn1, hn31⟩, hgood, hone⟩ := right_parts.1 hR
  have rnr : ∀ f : Nat → Nat, Blk.rnB f (.ro cs) = .ro cs := fun f => Blk.plain.rnB (b := .ro cs) hpl f
  have hUl : ∀ w ∈ eWord.list cs o n, U64 w := by rw [hws]; exact hU
  have hr1 : Value.bool (rightI (eWord.list cs o n) 4) = .bool true := by rw [hws, hR]
  let Q : Nat → Nat × List Int → Prop := fun z s => s.1 ≤ n ∧ s.2 = leafIx 0 (ws.take s.1) ∧ ((z = 0 ∧ s.2 = []) ∨ (z = 1 ∧ s.2 ≠ []))
  have okL := fLv_ok cs o n c Q hpl
  have rnv : ∀ (f : Nat → Nat) (l : List Int), Blk.rnB f (.vec (eInt.row l) 3 1) = .vec (eInt.row l) 3 1 := fun f l => Blk.plain.rnB (b := .vec (eInt.row l) 3 1) (Elt.row_pl _) f
  refine lvIn cs o n c Q hE okL ⟨rfl, ⟨(0, []), ⟨Nat.zero_le _, rfl, Or.inl ⟨rfl, rfl⟩⟩, trivial, rfl, by simp only [fLv, List.map_cons, List.map_nil, rnr]⟩, hr1, plain1 hpl, hr, hUl, hn, trivial⟩ fun zz hz _ => by_loop (fLv cs o n c Q) (lp Try.f38 0) ?_ 0 zz hz
  rintro b ⟨i, out⟩ hinv J hJ
  have hinv : i ≤ n ∧ out = leafIx 0 (ws.take i) ∧ ((b = 0 ∧ out = []) ∨ (b = 1 ∧ out ≠ [])) := hinv
  obtain ⟨k1, k2, k3⟩ := hinv
  have hJ' : ∀ b' zz, (fLv cs o n c Q).inv b' zz → ltO ((fLv cs o n c Q).mu b' zz) (some (n - i)) → Sat E (mkLp (lp Try.f38 0) J) ((fLv cs o n c Q).st b' zz) := fun b' zz h1 h2 => hJ b' zz h1 h2
  by_cases hin : i < n
  · have hlt : decide ((i : Int) < (n : Int)) = true := decide_eq_true (by omega)
    obtain ⟨w, hw⟩ : ∃ w, ws[i]? = some w := ⟨_, List.getElem?_eq_getElem (by rw [hlen]; omega)⟩
    have hrd := hr.read1 (P := Try.prog) (ty := 83) (by kernel_rfl) rfl (i := i) (x := w) (by rw [hws]; exact hw) rfl rfl
    rw [← Nat.mul_one i] at hrd
    have htk : ws.take (i + 1) = ws.take i ++ [w] := by rw [List.take_add_one, hw]; rfl
    have ho := right_ok hR w (List.mem_of_getElem? hw)
    have htl : (ws.take i).length = i := by rw [List.length_take, hlen]; omega
    have hmu : n - (i + 1) < n - i := by omega
    cases hl : lfB w
    · have hnx : leafIx 0 (ws.take (i + 1)) = out := by rw [htk, leafIx_app, leafIx_one, hl, Bool.and_false, k2]; simp
      rcases k3 with ⟨rfl, ko⟩ | ⟨rfl, ko⟩
      · rw [ko] at hnx ⊢
        exact lvI0 cs o n c Q i w (uF w) (low32 w) (uX w) (uY w) J hE okL ⟨rfl, ⟨(i + 1, []), ⟨hin, hnx.symm, Or.inl ⟨rfl, rfl⟩⟩, hmu, rfl, by simp only [fLv, List.map_cons, List.map_nil, rnr]⟩, i64_succ (by omega), unp_inner ho hl, hU w (List.mem_of_getElem? hw), hrd, ⟨Int.natCast_nonneg _, Int.ofNat_lt.2 hin⟩, hlt, trivial⟩ (hJ' 0)
      · exact lvI1 cs o n c Q i out w (uF w) (low32 w) (uX w) (uY w) J hE okL ⟨rfl, ⟨(i + 1, out), ⟨hin, hnx.symm, Or.inr ⟨rfl, ko⟩⟩, hmu, rfl, by simp only [fLv, List.map_cons, List.map_nil, rnr, rnv]⟩, i64_succ (by omega), unp_inner ho hl, hU w (List.mem_of_getElem? hw), hrd, ⟨Int.natCast_nonneg _, Int.ofNat_lt.2 hin⟩, hlt, trivial⟩ (hJ' 1)
    · have hnx : leafIx 0 (ws.take (i + 1)) = out ++ [(i : Int)] := by rw [htk, leafIx_app, leafIx_one, ho, hl, k2, htl]; simp
      have hol : out.length ≤ i := by
        rw [k2]
        exact Nat.le_trans (leafIx_len 0 _) (by omega)
      rcases k3 with ⟨rfl, ko⟩ | ⟨rfl, ko⟩
      · rw [ko] at hnx ⊢
        exact lvF0 cs o n c Q i w (low32 w) [(i : Int)] J hE okL ⟨rfl, ⟨(i + 1, [(i : Int)]), ⟨hin, hnx.symm, Or.inr ⟨rfl, by simp⟩⟩, hmu, rfl, by simp only [fLv, List.map_cons, List.map_nil, rnr, rnv]⟩, i64_succ (by omega), appOK_nil (e := eInt) (new := [(i : Int)]) rfl rfl rfl rfl (by decide) (by decide) (by decide), unp_leaf ho hl, hU w (List.mem_of_getElem? hw), hrd, ⟨Int.natCast_nonneg _, Int.ofNat_lt.2 hin⟩, hlt, trivial⟩ (hJ' 1)
      · exact lvF1 cs o n c Q i out w (low32 w) (out ++ [(i : Int)]) J hE okL ⟨rfl, ⟨(i + 1, out ++ [(i : Int)]), ⟨hin, hnx.symm, Or.inr ⟨rfl, by simp⟩⟩, hmu, (by simp [fLv]; first | rfl | exact ⟨rfl, rfl, rfl, rfl⟩ | exact ⟨rfl, rfl, rfl⟩ | exact ⟨rfl, rfl⟩), by simp only [fLv, List.map_cons, List.map_nil, rnr, rnv]⟩, i64_succ (by omega), appOK (e := eInt) (L := out) (new := [(i : Int)]) rfl rfl rfl rfl (Nat.le_refl _) (by simp) (by decide) (by omega) (by omega), unp_leaf ho hl, hU w (List.mem_of_getElem? hw), hrd, ⟨Int.natCast_nonneg _, Int.ofNat_lt.2 hin⟩, hlt, trivial⟩ (hJ' 1)
  · have hlt : decide ((i : Int) < (n : Int)) = false := decide_eq_false (by omega)
    rw [List.take_of_length_le (by omega)] at k2
    rcases k3 with ⟨rfl, ko⟩ | ⟨rfl, ko⟩
    · exact absurd (k2.symm.trans ko) (leafIx_ne hR)
    · rw [← k2] at hE
      exact lvE cs o n c Q i out J hE ⟨⟨rfl, by simp only [List.map_cons, List.map_nil, rnv]⟩, hlt, trivial⟩
def leafI0 (ws : List Int) : List Int := leafIx 0 ws
def depI (ws : List Int) (n : Nat) : Int := (depGo 0 ws (dep0 n)).1
def leaves_F (LX : List Int → List Int) : RoF := fun xs css => match xs, css with
  | [.slice (some ⟨0, o, none⟩) n c], [cs] => some (.slice (some ⟨100, 0, none⟩) (LX (eWord.list cs o n)).length mk, [.vec (eInt.row (LX (eWord.list cs o n))) 3 1], [LX = leafI0, eWord.Row cs o n, ∀ w ∈ eWord.list cs o n, U64 w, n ≤ 65536, rightI (eWord.list cs o n) 4 = true])
  | [.slice none 0 0], [] => some (.slice none 0 0, [], [])
  | _, _ => none
theorem leaves_sum (LX : List Int → List Int) : SumOK Try.prog 38 (roSum (leaves_F LX)) := by
  refine roSum_ok (en Try.func38 rfl) ?_ (fun xs css r h => ?_)
  · intro xs css v blks ob h hob hpl hl
    unfold leaves_F at h
    split at h
    · rename_i o n c cs
      simp only [Option.some.injEq, Prod.mk.injEq] at h
      obtain ⟨rfl, rfl, rfl⟩ := h
      obtain rfl : LX = leafI0 := hob _ (List.mem_cons_self ..)
      refine ⟨by simp, fun x hx => by simp at hx; subst hx; exact ⟨Elt.row_pl _, rfl⟩, fun j hj => by simp [nms, nm1, nm0] at hj; subst hj; simp, ?_⟩
      exact leaves_spec cs o n c (hob _ (List.mem_cons_of_mem _ (List.mem_cons_self ..))) (hpl cs (by simp)) (hob _ (List.mem_cons_of_mem _ (List.mem_cons_of_mem _ (List.mem_cons_self ..)))) (hob _ (by simp)) (hob _ (by simp))
    · simp only [Option.some.injEq, Prod.mk.injEq] at h
      obtain ⟨rfl, rfl, rfl⟩ := h
      refine ⟨by simp, by simp, fun j hj => by simp [nms, nm1, nmL, nm0] at hj, ?_⟩
      exact spec_of_sat Try.func38 rfl fun E hE => lvNil () hE ⟨⟨rfl, rfl⟩, (fun x hx => by simp at hx), trivial⟩
    · simp at h
  · unfold leaves_F at h
    split at h <;> simp at h <;> simp
/-! ### Depth -/
structure DpOK (n i : Nat) (d : Int × List Int) : Prop where
  len : d.2.length = n
  mr : 1 ≤ d.1 ∧ d.1 ≤ i + 1
  rr : ∀ v ∈ d.2, 0 ≤ v ∧ v ≤ i + 1
theorem dep0_ok (n : Nat) : DpOK n 0 (dep0 n) := by
  refine ⟨by simp [dep0], by simp [dep0], fun v hv => ?_⟩
  simp only [dep0] at hv
  rcases List.mem_or_eq_of_mem_set hv with hv | rfl
  · have := List.eq_of_mem_replicate hv; omega
  · decide
theorem getD_mem {r : List Int} {i : Nat} (h : i < r.length) : r.getD i 0 ∈ r ∧ r[i]? = some (r.getD i 0) := by
  have e : r.getD i 0 = r[i] := by rw [List.getD_eq_getElem?_getD, List.getElem?_eq_getElem h]; rfl
  rw [e]
  exact ⟨List.getElem_mem h, List.getElem?_eq_getElem h⟩
theorem depS_ok {n i : Nat} {d : Int × List Int} (w : Int) (h : DpOK n i d) (hi : i < n) : DpOK n (i + 1) (depS i w d) := by
  have hg := getD_mem (r := d.2) (i := i) (by rw [h.len]; exact hi)
  have hgr := h.rr _ hg.1
  have hm := h.mr
  refine ⟨?_, ?_, fun v hv => ?_⟩
  · simp only [depS]
    cases okB w && lfB w <;> simp [h.len]
  · simp only [depS]; omega
  · simp only [depS] at hv
    cases hb : okB w && lfB w <;> rw [hb] at hv
    · simp only [cond_false] at hv
      rcases List.mem_or_eq_of_mem_set hv with hv | rfl
      · rcases List.mem_or_eq_of_mem_set hv with hv | rfl
        · have := h.rr v hv; omega
        · omega
      · omega
    · have := h.rr v hv; omega
end Go.Proofs.Ythbaccmhdffjdaa.Tr


set_option linter.unusedVariables false
set_option linter.unusedSimpArgs false
set_option maxRecDepth 100000
namespace Go.Proofs.Ythbaccmhdffjdaa.BoxF
open Go Go.RowKit Go.Proofs.Ythbaccmhdffjdaa.Ev Go.Proofs.Ythbaccmhdffjdaa.Within Go.Proofs.Ythbaccmhdffjdaa.PickE
def ofLo (lo hi : Int) : Int := bif decide (lo > hi) then 1 else lo
def ofHi (lo hi : Int) : Int := bif decide (lo > hi) then 0 else hi
def of_F : List Value → Option (Value × List Prop)
  | [.int .i64 lo, .int .i64 hi] => some (sp (ofLo lo hi) (ofHi lo hi), [])
  | _ => none
theorem of_sum : SumOK Try.prog 61 (sumOf of_F) := by
  refine sumOf_ok (en Try.func61 rfl) fun args v ob h hob => ?_
  unfold of_F at h
  split at h
  · obtain ⟨rfl, rfl⟩ := Prod.mk.inj (Option.some.inj h)
    exact calls_run0 hm (auto0_ok t_pick_ok) noHint [.fork] (by kernel_rfl)
  · exact absurd h (by simp)
noncomputable def t_of : Sums := upd t_pick 61 (some (sumOf of_F))
theorem t_of_ok : SumsOK Try.prog t_of := sums_cons t_pick_ok of_sum
def has_F : List Value → Option (Value × List Prop)
  | [.agg ⟨[.int .i64 a, .int .i64 b]⟩, .int .i64 n] => some (.bool (decide (a ≤ n) && decide (n ≤ b)), [])
  | _ => none
theorem has_sum : SumOK Try.prog 52 (sumOf has_F) := by
  refine sumOf_ok (en Try.func52 rfl) fun args v ob h hob => ?_
  unfold has_F at h
  split at h
  · rename_i a b n
    obtain ⟨rfl, rfl⟩ := Prod.mk.inj (Option.some.inj h)
    clear h
    cases h : decide (a ≤ n)
    · exact calls_runO hm (auto0_ok t_of_ok) (hints [(1, 3, ht false)]) [] [bb (decide (a ≤ n)) false] (by kernel_rfl) ⟨bb_of h, trivial⟩
    · exact calls_runO hm (auto0_ok t_of_ok) (hints [(1, 3, ht true)]) [] [bb (decide (a ≤ n)) true] (by kernel_rfl) ⟨bb_of h, trivial⟩
  · exact absurd h (by simp)
noncomputable def t_has : Sums := upd t_of 52 (some (sumOf has_F))
theorem t_has_ok : SumsOK Try.prog t_has := sums_cons t_of_ok has_sum
def empty_F : List Value → Option (Value × List Prop)
  | [.agg ⟨[.int .i64 a, .int .i64 b]⟩] => some (.bool (decide (a > b)), [])
  | _ => none
theorem empty_sum : SumOK Try.prog 51 (sumOf empty_F) := by
  refine sumOf_ok (en Try.func51 rfl) fun args v ob h hob => ?_
  unfold empty_F at h
  split at h
  · rename_i a b
    obtain ⟨rfl, rfl⟩ := Prod.mk.inj (Option.some.inj h)
    clear h
    exact calls_run0 hm (auto0_ok t_has_ok) noHint [] (by kernel_rfl)
  · exact absurd h (by simp)
noncomputable def t_empty : Sums := upd t_has 51 (some (sumOf empty_F))
theorem t_empty_ok : SumsOK Try.prog t_empty := sums_cons t_has_ok empty_sum
def within_F : List Value → Option (Value × List Prop)
  | [.agg ⟨[.int .i64 a, .int .i64 b]⟩, .agg ⟨[.int .i64 c, .int .i64 d]⟩] => some (.bool (decide (a > b) || (decide (c ≤ a) && decide (b ≤ d))), [])
  | _ => none
theorem within_sum : SumOK Try.prog 49 (sumOf within_F) := by
  refine sumOf_ok (en Try.func49 rfl) fun args v ob h hob => ?_
  unfold within_F at h
  split at h
  · rename_i a b c d
    obtain ⟨rfl, rfl⟩ := Prod.mk.inj (Option.some.inj h)
    clear h
    cases h : decide (a > b)
    · cases h2 : decide (c ≤ a)
      · exact calls_runO hm (auto0_ok t_empty_ok) (hints [(1, 1, ht false), (1, 7, ht false)]) [] [bb (decide (c ≤ a)) false, bb (decide (a > b)) false] (by kernel_rfl) ⟨bb_of h2, bb_of h, trivial⟩
      · exact calls_runO hm (auto0_ok t_empty_ok) (hints [(1, 1, ht false), (1, 7, ht true)]) [] [bb (decide (c ≤ a)) true, bb (decide (a > b)) false] (by kernel_rfl) ⟨bb_of h2, bb_of h, trivial⟩
    · exact calls_runO hm (auto0_ok t_empty_ok) (hints [(1, 1, ht true)]) [] [bb (decide (a > b)) true] (by kernel_rfl) ⟨bb_of h, trivial⟩
  · exact absurd h (by simp)
noncomputable def t_within : Sums := upd t_empty 49 (some (sumOf within_F))
theorem t_within_ok : SumsOK Try.prog t_within := sums_cons t_empty_ok within_sum
def cutLo (a b n : Int) : Int := ofLo a (minI b n)
def cutHi (a b n : Int) : Int := ofHi a (minI b n)
def cutLo' (a b n : Int) : Int := bif decide (n ≥ b) then 1 else ofLo (maxI a (n + 1)) b
def cutHi' (a b n : Int) : Int := bif decide (n ≥ b) then 0 else ofHi (maxI a (n + 1)) b
def cut_F : List Value → Option (Value × List Prop)
  | [.agg ⟨[.int .i64 a, .int .i64 b]⟩, .int .i64 n] => some (.tuple ⟨[sp (cutLo a b n) (cutHi a b n), sp (cutLo' a b n) (cutHi' a b n)]⟩, [I64 n, b ≤ 9223372036854775807])
  | _ => none
theorem cut_sum : SumOK Try.prog 48 (sumOf cut_F) := by
  refine sumOf_ok (en Try.func48 rfl) fun args v ob h hob => ?_
  unfold cut_F at h
  split at h
  · rename_i a b n
    obtain ⟨rfl, rfl⟩ := Prod.mk.inj (Option.some.inj h)
    clear h
    cases h : decide (n ≥ b)
    · have hn := hob (I64 n) (by simp)
      have hb := hob (b ≤ 9223372036854775807) (by simp)
      have e1 : cutLo' a b n = ofLo (maxI a (n + 1)) b := by unfold cutLo'; rw [h]; rfl
      have e2 : cutHi' a b n = ofHi (maxI a (n + 1)) b := by unfold cutHi'; rw [h]; rfl
      rw [e1, e2]
      exact calls_runO hm (auto0_ok t_within_ok) (hints [(2, 3, ht false), (4, 4, { v := some (.int .i64 (n + 1)) })]) [] [Value.int .i64 (IntKind.i64.wrap (n + 1)) = .int .i64 (n + 1), bb (decide (n ≥ b)) false] (by kernel_rfl)
        ⟨int_eq (wrap_id ⟨by omega, by have := of_decide_eq_false h; omega⟩), bb_of h, trivial⟩
    · have e1 : cutLo' a b n = 1 := by unfold cutLo'; rw [h]; rfl
      have e2 : cutHi' a b n = 0 := by unfold cutHi'; rw [h]; rfl
      rw [e1, e2]
      exact calls_runO hm (auto0_ok t_within_ok) (hints [(2, 3, ht true)]) [] [bb (decide (n ≥ b)) true] (by kernel_rfl) ⟨bb_of h, trivial⟩
  · exact absurd h (by simp)
noncomputable def t_cut : Sums := upd t_within 48 (some (sumOf cut_F))
theorem t_cut_ok : SumsOK Try.prog t_cut := sums_cons t_within_ok cut_sum
theorem minI_eq (x y : Int) : minI x y = min x y := by unfold minI; split <;> omega
theorem maxI_eq (x y : Int) : maxI x y = max x y := by unfold maxI; split <;> omega
theorem cut_cases (a b n : Int) : (cutLo a b n = 1 ∧ cutHi a b n = 0 ∧ cutLo' a b n = 1 ∧ cutHi' a b n = 0 ∧ b < a) ∨ (cutLo a b n = 1 ∧ cutHi a b n = 0 ∧ cutLo' a b n = a ∧ cutHi' a b n = b ∧ a ≤ b ∧ n < a) ∨
    (cutLo a b n = a ∧ cutHi a b n = n ∧ cutLo' a b n = n + 1 ∧ cutHi' a b n = b ∧ a ≤ b ∧ a ≤ n ∧ n < b) ∨ (cutLo a b n = a ∧ cutHi a b n = b ∧ cutLo' a b n = 1 ∧ cutHi' a b n = 0 ∧ a ≤ b ∧ b ≤ n) := by
  by_cases h1 : b < a
  · refine Or.inl ⟨?_, ?_, ?_, ?_, h1⟩ <;> first | omega | (simp only [cutLo, cutHi, cutLo', cutHi', ofLo, ofHi, minI_eq, maxI_eq, cond_eq_ite, decide_eq_true_eq] <;> (repeat' split) <;> omega)
  by_cases h2 : n < a
  · refine Or.inr (Or.inl ⟨?_, ?_, ?_, ?_, ?_, h2⟩) <;> first | omega | (simp only [cutLo, cutHi, cutLo', cutHi', ofLo, ofHi, minI_eq, maxI_eq, cond_eq_ite, decide_eq_true_eq] <;> (repeat' split) <;> omega)
  by_cases h3 : n < b
  · refine Or.inr (Or.inr (Or.inl ⟨?_, ?_, ?_, ?_, ?_, ?_, h3⟩)) <;> first | omega | (simp only [cutLo, cutHi, cutLo', cutHi', ofLo, ofHi, minI_eq, maxI_eq, cond_eq_ite, decide_eq_true_eq] <;> (repeat' split) <;> omega)
  · refine Or.inr (Or.inr (Or.inr ⟨?_, ?_, ?_, ?_, ?_, ?_⟩)) <;> first | omega | (simp only [cutLo, cutHi, cutLo', cutHi', ofLo, ofHi, minI_eq, maxI_eq, cond_eq_ite, decide_eq_true_eq] <;> (repeat' split) <;> omega)
def bring_F : List Value → Option (Value × List Prop)
  | [.int .i64 n, .int .i64 lo, .int .i64 hi] => some (.int .i64 (withinS n lo hi), [I64 n, -2305843009213693952 ≤ lo, lo ≤ hi, hi ≤ 2305843009213693952])
  | _ => none
theorem bring_sum : SumOK Try.prog 19 (sumOf bring_F) := by
  refine sumOf_ok (en Try.func19 rfl) fun args v ob h hob => ?_
  unfold bring_F at h
  split at h
  · rename_i n lo hi
    obtain ⟨rfl, rfl⟩ := Prod.mk.inj (Option.some.inj h)
    clear h
    have h1 := hob (I64 n) (by simp)
    have h2 := hob (-2305843009213693952 ≤ lo) (by simp)
    have h3 := hob (lo ≤ hi) (by simp)
    have h4 := hob (hi ≤ 2305843009213693952) (by simp)
    exact ⟨rfl, rfl, fun w => (within_calls n lo hi h1.1 h1.2 h2 h3 h4 w).mono fun e w' ⟨he, hw⟩ => ⟨he, hw ▸ Below.refl _ _⟩⟩
  · exact absurd h (by simp)
noncomputable def t_bring : Sums := upd t_cut 19 (some (sumOf bring_F))
theorem t_bring_ok : SumsOK Try.prog t_bring := sums_cons t_cut_ok bring_sum
abbrev bx (a0 a1 a2 a3 a4 a5 a6 a7 a8 a9 : Int) : Value := .agg ⟨[i64 a0, i64 a1, i64 a2, i64 a3, i64 a4, i64 a5, i64 a6, i64 a7, i64 a8, i64 a9]⟩
abbrev pt (p0 p1 p2 p3 : Int) : Value := .agg ⟨[i64 p0, i64 p1, i64 p2, i64 p3]⟩
def e2 (a b : Int) : Bool := decide (a > b)
def h3 (a b n : Int) : Bool := decide (a ≤ n) && decide (n ≤ b)
def w4 (a b c d : Int) : Bool := decide (a > b) || (decide (c ≤ a) && decide (b ≤ d))
def emptyB (a0 a1 a2 a3 a4 a5 a6 a7 a8 a9 : Int) : Bool := bif e2 a0 a1 then true else bif e2 a2 a3 then true else bif e2 a4 a5 then true else bif e2 a6 a7 then true else bif e2 a8 a9 then true else false
def hasB (a0 a1 a2 a3 a4 a5 a6 a7 a8 a9 p0 p1 p2 p3 n : Int) : Bool := bif !h3 a0 a1 p0 then false else bif !h3 a2 a3 p1 then false else bif !h3 a4 a5 p2 then false else bif !h3 a6 a7 p3 then false else h3 a8 a9 n
def withinB (a0 a1 a2 a3 a4 a5 a6 a7 a8 a9 b0 b1 b2 b3 b4 b5 b6 b7 b8 b9 : Int) : Bool := bif emptyB a0 a1 a2 a3 a4 a5 a6 a7 a8 a9 then true else bif !w4 a0 a1 b0 b1 then false else bif !w4 a2 a3 b2 b3 then false else bif !w4 a4 a5 b4 b5 then false else bif !w4 a6 a7 b6 b7 then false else bif !w4 a8 a9 b8 b9 then false else true
def cL (i p a b n : Int) : Int := bif p == i then cutLo a b n else a
def cH (i p a b n : Int) : Int := bif p == i then cutHi a b n else b
def dL (i p a b n : Int) : Int := bif p == i then cutLo' a b n else a
def dH (i p a b n : Int) : Int := bif p == i then cutHi' a b n else b
def bempty_F : List Value → Option (Value × List Prop)
  | [.agg ⟨[.int .i64 a0, .int .i64 a1, .int .i64 a2, .int .i64 a3, .int .i64 a4, .int .i64 a5, .int .i64 a6, .int .i64 a7, .int .i64 a8, .int .i64 a9]⟩] => some (.bool (emptyB a0 a1 a2 a3 a4 a5 a6 a7 a8 a9), [])
  | _ => none
theorem bempty_sum : SumOK Try.prog 33 (sumOf bempty_F) := by
  refine sumOf_ok (en Try.func33 rfl) fun args v ob h hob => ?_
  unfold bempty_F at h
  split at h
  · obtain ⟨rfl, rfl⟩ := Prod.mk.inj (Option.some.inj h)
    exact calls_run0 hm (auto0_ok t_bring_ok) noHint [.go,.go,.fork,.go,.fork,.go,.fork,.go,.fork,.go,.fork] (by kernel_rfl)
  · exact absurd h (by simp)
noncomputable def t_bempty : Sums := upd t_bring 33 (some (sumOf bempty_F))
theorem t_bempty_ok : SumsOK Try.prog t_bempty := sums_cons t_bring_ok bempty_sum
def bhas_F : List Value → Option (Value × List Prop)
  | [.agg ⟨[.int .i64 a0, .int .i64 a1, .int .i64 a2, .int .i64 a3, .int .i64 a4, .int .i64 a5, .int .i64 a6, .int .i64 a7, .int .i64 a8, .int .i64 a9]⟩, .agg ⟨[.int .i64 p0, .int .i64 p1, .int .i64 p2, .int .i64 p3]⟩, .int .i64 n] => some (.bool (hasB a0 a1 a2 a3 a4 a5 a6 a7 a8 a9 p0 p1 p2 p3 n), [])
  | _ => none
theorem bhas_sum : SumOK Try.prog 34 (sumOf bhas_F) := by
  refine sumOf_ok (en Try.func34 rfl) fun args v ob h hob => ?_
  unfold bhas_F at h
  split at h
  · obtain ⟨rfl, rfl⟩ := Prod.mk.inj (Option.some.inj h)
    exact calls_run0 hm (auto0_ok t_bempty_ok) noHint [.go,.go,.fork,.go,.fork,.go,.fork,.go,.fork] (by kernel_rfl)
  · exact absurd h (by simp)
noncomputable def t_bhas : Sums := upd t_bempty 34 (some (sumOf bhas_F))
theorem t_bhas_ok : SumsOK Try.prog t_bhas := sums_cons t_bempty_ok bhas_sum
def bwithin_F : List Value → Option (Value × List Prop)
  | [.agg ⟨[.int .i64 a0, .int .i64 a1, .int .i64 a2, .int .i64 a3, .int .i64 a4, .int .i64 a5, .int .i64 a6, .int .i64 a7, .int .i64 a8, .int .i64 a9]⟩, .agg ⟨[.int .i64 b0, .int .i64 b1, .int .i64 b2, .int .i64 b3, .int .i64 b4, .int .i64 b5, .int .i64 b6, .int .i64 b7, .int .i64 b8, .int .i64 b9]⟩] => some (.bool (withinB a0 a1 a2 a3 a4 a5 a6 a7 a8 a9 b0 b1 b2 b3 b4 b5 b6 b7 b8 b9), [])
  | _ => none
theorem bwithin_sum : SumOK Try.prog 30 (sumOf bwithin_F) := by
  refine sumOf_ok (en Try.func30 rfl) fun args v ob h hob => ?_
  unfold bwithin_F at h
  split at h
  · obtain ⟨rfl, rfl⟩ := Prod.mk.inj (Option.some.inj h)
    exact calls_run0 hm (auto0_ok t_bhas_ok) noHint [.fork,.go,.go,.fork,.go,.fork,.go,.fork,.go,.fork,.go,.fork] (by kernel_rfl)
  · exact absurd h (by simp)
noncomputable def t_bwithin : Sums := upd t_bhas 30 (some (sumOf bwithin_F))
theorem t_bwithin_ok : SumsOK Try.prog t_bwithin := sums_cons t_bhas_ok bwithin_sum
theorem cut_no {i p : Int} (h : p ≠ i) (a b n : Int) : cL i p a b n = a ∧ cH i p a b n = b ∧ dL i p a b n = a ∧ dH i p a b n = b := by
  have : (p == i) = false := by simpa using h
  simp [cL, cH, dL, dH, this]
abbrev cutPair (a0 a1 a2 a3 a4 a5 a6 a7 a8 a9 p n : Int) : Value := .tuple ⟨[bx (cL 0 p a0 a1 n) (cH 0 p a0 a1 n) (cL 1 p a2 a3 n) (cH 1 p a2 a3 n) (cL 2 p a4 a5 n) (cH 2 p a4 a5 n) (cL 3 p a6 a7 n) (cH 3 p a6 a7 n) (cL 4 p a8 a9 n) (cH 4 p a8 a9 n),
  bx (dL 0 p a0 a1 n) (dH 0 p a0 a1 n) (dL 1 p a2 a3 n) (dH 1 p a2 a3 n) (dL 2 p a4 a5 n) (dH 2 p a4 a5 n) (dL 3 p a6 a7 n) (dH 3 p a6 a7 n) (dL 4 p a8 a9 n) (dH 4 p a8 a9 n)]⟩
abbrev mx : Int := 9223372036854775807
def bcut_F : List Value → Option (Value × List Prop)
  | [.agg ⟨[.int .i64 a0, .int .i64 a1, .int .i64 a2, .int .i64 a3, .int .i64 a4, .int .i64 a5, .int .i64 a6, .int .i64 a7, .int .i64 a8, .int .i64 a9]⟩, .int .i64 p, .int .i64 n] => some (cutPair a0 a1 a2 a3 a4 a5 a6 a7 a8 a9 p n, [I64 n, a1 ≤ mx, a3 ≤ mx, a5 ≤ mx, a7 ≤ mx, a9 ≤ mx])
  | _ => none
theorem bcut_sum : SumOK Try.prog 29 (sumOf bcut_F) := by
  refine sumOf_ok (en Try.func29 rfl) fun args v ob h hob => ?_
  unfold bcut_F at h
  split at h
  · rename_i a0 a1 a2 a3 a4 a5 a6 a7 a8 a9 p n
    obtain ⟨rfl, rfl⟩ := Prod.mk.inj (Option.some.inj h)
    clear h
    have hn := hob (I64 n) (by simp)
    have k1 := hob (a1 ≤ mx) (by simp)
    have k3 := hob (a3 ≤ mx) (by simp)
    have k5 := hob (a5 ≤ mx) (by simp)
    have k7 := hob (a7 ≤ mx) (by simp)
    have k9 := hob (a9 ≤ mx) (by simp)
    by_cases c0 : p = 0
    · subst c0; exact calls_runO hm (auto0_ok t_bwithin_ok) noHint [] [I64 n, a1 ≤ mx] (by kernel_rfl) ⟨hn, k1, trivial⟩
    by_cases c1 : p = 1
    · subst c1; exact calls_runO hm (auto0_ok t_bwithin_ok) noHint [] [I64 n, a3 ≤ mx] (by kernel_rfl) ⟨hn, k3, trivial⟩
    by_cases c2 : p = 2
    · subst c2; exact calls_runO hm (auto0_ok t_bwithin_ok) noHint [] [I64 n, a5 ≤ mx] (by kernel_rfl) ⟨hn, k5, trivial⟩
    by_cases c3 : p = 3
    · subst c3; exact calls_runO hm (auto0_ok t_bwithin_ok) noHint [] [I64 n, a7 ≤ mx] (by kernel_rfl) ⟨hn, k7, trivial⟩
    by_cases c4 : p = 4
    · subst c4; exact calls_runO hm (auto0_ok t_bwithin_ok) noHint [] [I64 n, a9 ≤ mx] (by kernel_rfl) ⟨hn, k9, trivial⟩
    obtain ⟨q1, q2, q3, q4⟩ := cut_no c0 a0 a1 n
    obtain ⟨q5, q6, q7, q8⟩ := cut_no c1 a2 a3 n
    obtain ⟨r1, r2, r3, r4⟩ := cut_no c2 a4 a5 n
    obtain ⟨r5, r6, r7, r8⟩ := cut_no c3 a6 a7 n
    obtain ⟨s1, s2, s3, s4⟩ := cut_no c4 a8 a9 n
    simp only [cutPair, q1, q2, q3, q4, q5, q6, q7, q8, r1, r2, r3, r4, r5, r6, r7, r8, s1, s2, s3, s4]
    cases h : decide (p ≥ 0)
    · exact calls_runO hm (auto0_ok t_bwithin_ok) (hints [(2, 1, ht false)]) [] [bb (decide (p ≥ 0)) false] (by kernel_rfl) ⟨bb_of h, trivial⟩
    · have h' := of_decide_eq_true h
      exact calls_runO hm (auto0_ok t_bwithin_ok) (hints [(2, 1, ht true), (2, 4, ht false)]) [] [bb (decide (p < 5)) false, bb (decide (p ≥ 0)) true] (by kernel_rfl) ⟨bb_of (decide_eq_false (by omega)), bb_of h, trivial⟩
  · exact absurd h (by simp)
noncomputable def t_bcut : Sums := upd t_bwithin 29 (some (sumOf bcut_F))
theorem t_bcut_ok : SumsOK Try.prog t_bcut := sums_cons t_bwithin_ok bcut_sum
def _root_.Go.Proofs.Ythbaccmhdffjdaa.Ev.Bx.lo (x : Bx) (k : Int) : Int := if k = 0 then x.a0 else if k = 1 then x.a1 else if k = 2 then x.a2 else if k = 3 then x.a3 else x.a4
def _root_.Go.Proofs.Ythbaccmhdffjdaa.Ev.Bx.hi (x : Bx) (k : Int) : Int := if k = 0 then x.b0 else if k = 1 then x.b1 else if k = 2 then x.b2 else if k = 3 then x.b3 else x.b4
/-- The lower part of a cut. -/
def _root_.Go.Proofs.Ythbaccmhdffjdaa.Ev.Bx.low (x : Bx) (p n : Int) : Bx := ⟨cL 0 p x.a0 x.b0 n, cH 0 p x.a0 x.b0 n, cL 1 p x.a1 x.b1 n, cH 1 p x.a1 x.b1 n, cL 2 p x.a2 x.b2 n, cH 2 p x.a2 x.b2 n, cL 3 p x.a3 x.b3 n, cH 3 p x.a3 x.b3 n, cL 4 p x.a4 x.b4 n, cH 4 p x.a4 x.b4 n⟩
def _root_.Go.Proofs.Ythbaccmhdffjdaa.Ev.Bx.high (x : Bx) (p n : Int) : Bx := ⟨dL 0 p x.a0 x.b0 n, dH 0 p x.a0 x.b0 n, dL 1 p x.a1 x.b1 n, dH 1 p x.a1 x.b1 n, dL 2 p x.a2 x.b2 n, dH 2 p x.a2 x.b2 n, dL 3 p x.a3 x.b3 n, dH 3 p x.a3 x.b3 n, dL 4 p x.a4 x.b4 n, dH 4 p x.a4 x.b4 n⟩
def _root_.Go.Proofs.Ythbaccmhdffjdaa.Ev.Bx.I64s (x : Bx) : Prop := I64 x.a0 ∧ I64 x.b0 ∧ I64 x.a1 ∧ I64 x.b1 ∧ I64 x.a2 ∧ I64 x.b2 ∧ I64 x.a3 ∧ I64 x.b3 ∧ I64 x.a4 ∧ I64 x.b4
theorem lo_read0 (x : Bx) : readPart Try.prog 3 x.cs (0 + (0 : Int).toNat * 2 + 0) = some (.int .i64 x.a0) := by kernel_rfl
theorem hi_read0 (x : Bx) : readPart Try.prog 3 x.cs (0 + (0 : Int).toNat * 2 + 1) = some (.int .i64 x.b0) := by kernel_rfl
theorem lo_read1 (x : Bx) : readPart Try.prog 3 x.cs (0 + (1 : Int).toNat * 2 + 0) = some (.int .i64 x.a1) := by kernel_rfl
theorem hi_read1 (x : Bx) : readPart Try.prog 3 x.cs (0 + (1 : Int).toNat * 2 + 1) = some (.int .i64 x.b1) := by kernel_rfl
theorem lo_read2 (x : Bx) : readPart Try.prog 3 x.cs (0 + (2 : Int).toNat * 2 + 0) = some (.int .i64 x.a2) := by kernel_rfl
theorem hi_read2 (x : Bx) : readPart Try.prog 3 x.cs (0 + (2 : Int).toNat * 2 + 1) = some (.int .i64 x.b2) := by kernel_rfl
theorem lo_read3 (x : Bx) : readPart Try.prog 3 x.cs (0 + (3 : Int).toNat * 2 + 0) = some (.int .i64 x.a3) := by kernel_rfl
theorem hi_read3 (x : Bx) : readPart Try.prog 3 x.cs (0 + (3 : Int).toNat * 2 + 1) = some (.int .i64 x.b3) := by kernel_rfl
theorem lo_read4 (x : Bx) : readPart Try.prog 3 x.cs (0 + (4 : Int).toNat * 2 + 0) = some (.int .i64 x.a4) := by kernel_rfl
theorem hi_read4 (x : Bx) : readPart Try.prog 3 x.cs (0 + (4 : Int).toNat * 2 + 1) = some (.int .i64 x.b4) := by kernel_rfl
theorem lo_read (x : Bx) {p : Int} (h0 : 0 ≤ p) (h5 : p < 5) : readPart Try.prog 3 x.cs (0 + p.toNat * 2 + 0) = some (.int .i64 (x.lo p)) := by
  have : p = 0 ∨ p = 1 ∨ p = 2 ∨ p = 3 ∨ p = 4 := by omega
  rcases this with h | h | h | h | h <;> rw [h]
  · rw [lo_read0]; simp [Bx.lo]
  · rw [lo_read1]; simp [Bx.lo]
  · rw [lo_read2]; simp [Bx.lo]
  · rw [lo_read3]; simp [Bx.lo]
  · rw [lo_read4]; simp [Bx.lo]
theorem hi_read (x : Bx) {p : Int} (h0 : 0 ≤ p) (h5 : p < 5) : readPart Try.prog 3 x.cs (0 + p.toNat * 2 + 1) = some (.int .i64 (x.hi p)) := by
  have : p = 0 ∨ p = 1 ∨ p = 2 ∨ p = 3 ∨ p = 4 := by omega
  rcases this with h | h | h | h | h <;> rw [h]
  · rw [hi_read0]; simp [Bx.hi]
  · rw [hi_read1]; simp [Bx.hi]
  · rw [hi_read2]; simp [Bx.hi]
  · rw [hi_read3]; simp [Bx.hi]
  · rw [hi_read4]; simp [Bx.hi]
/-- One end told anew. -/
def _root_.Go.Proofs.Ythbaccmhdffjdaa.Ev.Bx.setHi (x : Bx) (k v : Int) : Bx := ⟨x.a0, if k = 0 then v else x.b0, x.a1, if k = 1 then v else x.b1, x.a2, if k = 2 then v else x.b2, x.a3, if k = 3 then v else x.b3, x.a4, if k = 4 then v else x.b4⟩
def _root_.Go.Proofs.Ythbaccmhdffjdaa.Ev.Bx.setLo (x : Bx) (k v : Int) : Bx := ⟨if k = 0 then v else x.a0, x.b0, if k = 1 then v else x.a1, x.b1, if k = 2 then v else x.a2, x.b2, if k = 3 then v else x.a3, x.b3, if k = 4 then v else x.a4, x.b4⟩
/-- A cut that leaves no part empty. -/
theorem cut_in (x : Bx) {p a : Int} (h0 : 0 ≤ p) (h5 : p < 5) (hl : x.lo p ≤ a) (hh : a < x.hi p) : x.low p a = x.setHi p a ∧ x.high p a = x.setLo p (a + 1) := by
  have cc : ∀ u v : Int, u ≤ a → a < v → cutLo u v a = u ∧ cutHi u v a = a ∧ cutLo' u v a = a + 1 ∧ cutHi' u v a = v := fun u v h1 h2 => by
    have := cut_cases u v a
    omega
  have : p = 0 ∨ p = 1 ∨ p = 2 ∨ p = 3 ∨ p = 4 := by omega
  obtain ⟨a0, b0, a1, b1, a2, b2, a3, b3, a4, b4⟩ := x
  rcases this with rfl | rfl | rfl | rfl | rfl <;> simp [Bx.lo, Bx.hi] at hl hh <;> obtain ⟨h1, h2, h3, h4⟩ := cc _ _ hl hh <;> simp [Bx.low, Bx.high, Bx.setHi, Bx.setLo, cL, cH, dL, dH, h1, h2, h3, h4]
theorem i64s_set (x : Bx) {p a : Int} (hx : x.I64s) (h0 : 0 ≤ p) (h5 : p < 5) (hl : x.lo p ≤ a) (hh : a < x.hi p) : (x.setHi p a).I64s ∧ (x.setLo p (a + 1)).I64s ∧ I64 a := by
  have : p = 0 ∨ p = 1 ∨ p = 2 ∨ p = 3 ∨ p = 4 := by omega
  obtain ⟨a0, b0, a1, b1, a2, b2, a3, b3, a4, b4⟩ := x
  obtain ⟨⟨c1, c2⟩, ⟨c3, c4⟩, ⟨c5, c6⟩, ⟨c7, c8⟩, ⟨c9, c10⟩, ⟨c11, c12⟩, ⟨c13, c14⟩, ⟨c15, c16⟩, ⟨c17, c18⟩, ⟨c19, c20⟩⟩ := hx
  simp only at *
  rcases this with rfl | rfl | rfl | rfl | rfl <;> simp [Bx.lo, Bx.hi] at hl hh <;> simp [Bx.setHi, Bx.setLo, Bx.I64s] <;> omega
end Go.Proofs.Ythbaccmhdffjdaa.BoxF


set_option linter.unusedVariables false
set_option linter.unusedSimpArgs false
set_option maxRecDepth 100000
namespace Go.Proofs.Ythbaccmhdffjdaa.Tr
open Go Go.RowKit Go.Proofs.Ythbaccmhdffjdaa.Ev Go.Proofs.Ythbaccmhdffjdaa.NodeE Go.Proofs.Ythbaccmhdffjdaa.Tr Go.Proofs.Ythbaccmhdffjdaa.BoxF

def rempty_F : List Value → Option (Value × List Prop)
  | [.agg ⟨[.int .i64 a0, .int .i64 a1, .int .i64 a2, .int .i64 a3, .int .i64 a4, .int .i64 a5, .int .i64 a6, .int .i64 a7, .int .i64 a8, .int .i64 a9]⟩] => some (.bool (emptyB a0 a1 a2 a3 a4 a5 a6 a7 a8 a9), [])
  | _ => none
theorem rempty_sum : SumOK Try.prog 25 (sumOf rempty_F) := by
  refine sumOf_ok (en Try.func25 rfl) fun args v ob h hob => ?_
  unfold rempty_F at h
  split at h
  · obtain ⟨rfl, rfl⟩ := Prod.mk.inj (Option.some.inj h)
    exact calls_run0 hm (auto0_ok t_bcut_ok) noHint [.go,.go,.fork,.go,.fork,.go,.fork,.go,.fork,.go,.fork] (by kernel_rfl)
  · exact absurd h (by simp)
noncomputable def t_rempty : Sums := upd t_bcut 25 (some (sumOf rempty_F))
theorem t_rempty_ok : SumsOK Try.prog t_rempty := sums_cons t_bcut_ok rempty_sum
def rmeet_F : List Value → Option (Value × List Prop)
  | [.agg ⟨[.int .i64 a, .int .i64 b]⟩, .agg ⟨[.int .i64 c, .int .i64 d]⟩] => some (sp (ofLo (maxI a c) (minI b d)) (ofHi (maxI a c) (minI b d)), [])
  | _ => none
theorem rmeet_sum : SumOK Try.prog 47 (sumOf rmeet_F) := by
  refine sumOf_ok (en Try.func47 rfl) fun args v ob h hob => ?_
  unfold rmeet_F at h
  split at h
  · obtain ⟨rfl, rfl⟩ := Prod.mk.inj (Option.some.inj h)
    exact calls_run0 hm (auto0_ok t_rempty_ok) noHint [.fork] (by kernel_rfl)
  · exact absurd h (by simp)
noncomputable def t_rmeet : Sums := upd t_rempty 47 (some (sumOf rmeet_F))
theorem t_rmeet_ok : SumsOK Try.prog t_rmeet := sums_cons t_rempty_ok rmeet_sum
noncomputable def t_ls1 : Sums := upd t_rmeet 43 (some (sumOf unpack_F))
theorem t_ls1_ok : SumsOK Try.prog t_ls1 := sums_cons t_rmeet_ok unpack_sum
noncomputable def t_ls2 : Sums := upd t_ls1 46 (some (sumOf runpack_F))
theorem t_ls2_ok : SumsOK Try.prog t_ls2 := sums_cons t_ls1_ok runpack_sum
noncomputable def t_ls3 : Sums := upd t_ls2 42 (some (roSum right_F))
theorem t_ls3_ok : SumsOK Try.prog t_ls3 := sums_cons t_ls2_ok right_sum
noncomputable def t_ls : Sums := upd t_ls3 45 (some (roSum right_F))
theorem t_ls_ok : SumsOK Try.prog t_ls := sums_cons t_ls3_ok rtree_sum
structure LS where
  i : Nat
  r : List Bx
  out : List Pc
def ouV (z : Nat) (out : List Pc) : Value := match z with | 0 => .slice none 0 0 | _ => .slice (some ⟨13, 0, none⟩) out.length mk
def fLs (t0 : Nat) (cs : List Value) (o n c : Nat) (Q : Nat → LS → Prop) : LoopF LS where
  ts _ := [5, 6, t0, t0 + 1, t0 + 2]
  hs z := match z with | 0 => [0, 10] | _ => [0, 10, 13]
  tv z := fun ⟨i, r, out⟩ => [.slice (some ⟨10, 0, none⟩) n n, ouV z out, .slice (some ⟨0, o, none⟩) n c, .int .i64 (n : Int), .int .i64 (i : Int)]
  hv z := fun ⟨i, r, out⟩ => match z with | 0 => [.ro cs, .cells (eBox.row r) 25] | _ => [.ro cs, .cells (eBox.row r) 25, .vec (ePc.row out) 27 11]
  inv := Q
  mu _ := fun ⟨i, r, out⟩ => n - i
  nx := 14
theorem fLs_ok (t0 : Nat) (cs : List Value) (o n c : Nat) (Q : Nat → LS → Prop) (hpl : ∀ x ∈ cs, leafG x = true) : (fLs t0 cs o n c Q).OK 1 := by
  refine ⟨(by decide : 1 ≤ 14), fun z i h k hk => ?_, fun z i h v hv k hk => ?_, fun z i h x hx => ?_⟩
  · show k < 14
    match z with
    | 0 => simp [fLs] at hk; omega
    | z + 1 => simp [fLs] at hk; omega
  · show k < 14
    match z with
    | 0 =>
      simp [fLs, ouV] at hv
      repeat' (refine Or.elim hv (fun hv => ?_) (fun hv => ?_))
      all_goals (subst hv; simp [nms, nm1, nm0] at hk; try omega)
    | z + 1 =>
      simp [fLs, ouV] at hv
      repeat' (refine Or.elim hv (fun hv => ?_) (fun hv => ?_))
      all_goals (subst hv; simp [nms, nm1, nm0] at hk; try omega)
  · match z with
    | 0 =>
      simp [fLs] at hx
      rcases hx with rfl | rfl
      · exact Blk.plain.namesLt (b := .ro cs) hpl _
      · exact Blk.plain.namesLt (b := .cells _ 25) (Elt.row_pl _) _
    | z + 1 =>
      simp [fLs] at hx
      rcases hx with rfl | rfl | rfl
      · exact Blk.plain.namesLt (b := .ro cs) hpl _
      · exact Blk.plain.namesLt (b := .cells _ 25) (Elt.row_pl _) _
      · exact Blk.plain.namesLt (b := .vec _ _ _) (Elt.row_pl _) _
end Go.Proofs.Ythbaccmhdffjdaa.Tr


set_option linter.unusedVariables false
set_option linter.unusedSimpArgs false
set_option maxRecDepth 100000
namespace Go.Proofs.Ythbaccmhdffjdaa.Tr
open Go Go.RowKit Go.Proofs.Ythbaccmhdffjdaa.Ev Go.Proofs.Ythbaccmhdffjdaa.NodeE Go.Proofs.Ythbaccmhdffjdaa.Tr Go.Proofs.Ythbaccmhdffjdaa.BoxF

theorem lsNil (b : Bx)  {E : Env} (hE : EnvOK E Try.prog Try.f23 2 0 (.slice none 0 0) [] []) (hob : all ([Back (Value.slice none 0 0) (Value.slice none 0 0) [] [] [], plainR []])) : Sat E [.code (bodyOf Try.f23)] (st0 Try.f23 [.slice none 0 0, .agg ⟨b.cs⟩] (roRows []) 0) :=
  by_ret (T := auto0 t_ls) (h := hints []) (ws := []) (nx' := 0) hE hm (auto0_ok t_ls_ok) (by omega) (by simp) (by simp) (by kernel_rfl) hob
theorem lsNo (cs : List Value) (o n c : Nat) (b : Bx)  {E : Env} (hE : EnvOK E Try.prog Try.f23 2 1 (.slice none 0 0) [] []) (hob : all ([Back (Value.slice none 0 0) (Value.slice none 0 0) [] [] [], Value.bool (rightI (eWord.list cs o n) ((4 : Int))) = Value.bool false, plainR [cs], eWord.Row cs o n, ∀ (w : Int), w ∈ eWord.list cs o n → U64 w, n ≤ 65536])) : Sat E [.code (bodyOf Try.f23)] (st0 Try.f23 [.slice (some ⟨0, o, none⟩) n c, .agg ⟨b.cs⟩] (roRows [cs]) 1) :=
  by_ret (T := auto0 t_ls) (h := hints [(1, 1, {v := some (.bool false)})]) (ws := []) (nx' := 1) hE hm (auto0_ok t_ls_ok) (by omega) (by simp) (by simp) (by kernel_rfl) hob
theorem lsEm (cs : List Value) (o n c : Nat) (b : Bx)  {E : Env} (hE : EnvOK E Try.prog Try.f23 2 1 (.slice none 0 0) [] []) (hob : all ([Back (Value.slice none 0 0) (Value.slice none 0 0) [] [] [], Value.bool (emptyB b.a0 b.b0 b.a1 b.b1 b.a2 b.b2 b.a3 b.b3 b.a4 b.b4) = Value.bool true, Value.bool (rightI (eWord.list cs o n) ((4 : Int))) = Value.bool true, plainR [cs], eWord.Row cs o n, ∀ (w : Int), w ∈ eWord.list cs o n → U64 w, n ≤ 65536])) : Sat E [.code (bodyOf Try.f23)] (st0 Try.f23 [.slice (some ⟨0, o, none⟩) n c, .agg ⟨b.cs⟩] (roRows [cs]) 1) :=
  by_ret (T := auto0 t_ls) (h := hints [(1, 1, {v := some (.bool true)}), (1, 5, {v := some (.bool true)})]) (ws := []) (nx' := 1) hE hm (auto0_ok t_ls_ok) (by omega) (by simp) (by simp) (by kernel_rfl) hob
theorem lsIn (cs : List Value) (o n c : Nat) (Q : Nat → LS → Prop) (b : Bx) (zs r : List Bx)  {E : Env} {rv : Value} {rhs : List Nat} {rhv : List Blk} (hE : EnvOK E Try.prog Try.f23 2 1 rv rhs rhv) (hL : (fLs 24 cs o n c Q).OK 1) (hob : all ([SameK (atLp (lp Try.f23 0)) (atLp (lp Try.f23 0)), Enter (fLs 24 cs o n c Q) 0 none [Value.slice (some (Addr.mk 89 0 none)) ((n : Int)).toNat ((n : Int)).toNat, Value.slice none 0 0, Value.slice (some (Addr.mk 0 o none)) n c, Value.int IntKind.i64 ((n : Int)), Value.int IntKind.i64 ((0 : Int))] [Blk.ro cs, Blk.cells (eBox.row r) 25] [(10, 89), (0, 0)], lset (eBox.row zs) 0 [Value.int IntKind.i64 b.a0, Value.int IntKind.i64 b.b0, Value.int IntKind.i64 b.a1, Value.int IntKind.i64 b.b1, Value.int IntKind.i64 b.a2, Value.int IntKind.i64 b.b2, Value.int IntKind.i64 b.a3, Value.int IntKind.i64 b.b3, Value.int IntKind.i64 b.a4, Value.int IntKind.i64 b.b4] = some (eBox.row r), (0 : Int) ≤ (0 : Int) ∧ (0 : Int) < (n : Int), MkOK ((n : Int)) ((n : Int)) 80 [Value.int IntKind.i64 ((0 : Int)), Value.int IntKind.i64 ((0 : Int)), Value.int IntKind.i64 ((0 : Int)), Value.int IntKind.i64 ((0 : Int)), Value.int IntKind.i64 ((0 : Int)), Value.int IntKind.i64 ((0 : Int)), Value.int IntKind.i64 ((0 : Int)), Value.int IntKind.i64 ((0 : Int)), Value.int IntKind.i64 ((0 : Int)), Value.int IntKind.i64 ((0 : Int))] (eBox.row zs), Value.bool (emptyB b.a0 b.b0 b.a1 b.b1 b.a2 b.b2 b.a3 b.b3 b.a4 b.b4) = Value.bool false, Value.bool (rightI (eWord.list cs o n) ((4 : Int))) = Value.bool true, plainR [cs], eWord.Row cs o n, ∀ (w : Int), w ∈ eWord.list cs o n → U64 w, n ≤ 65536])) (hK : ∀ zz, (fLs 24 cs o n c Q).inv 0 zz → ltO ((fLs 24 cs o n c Q).mu 0 zz) none → Sat E (atLp (lp Try.f23 0)) ((fLs 24 cs o n c Q).st 0 zz)) : Sat E [.code (bodyOf Try.f23)] (st0 Try.f23 [.slice (some ⟨0, o, none⟩) n c, .agg ⟨b.cs⟩] (roRows [cs]) 1) :=
  by_to (T := auto0 t_ls) (h := hints [(1, 1, {v := some (.bool true)}), (1, 5, {v := some (.bool false)}), (3, 2, {c := some (eBox.row zs)}), (4, 2, {p := true}), (4, 3, {c := some (eBox.row r)})]) (ws := [.go, .stop]) (i0 := ⟨0, r, []⟩) hE hm (auto0_ok t_ls_ok) hL (by kernel_rfl) hob hK
theorem lsI0 (cs : List Value) (o n c : Nat) (Q : Nat → LS → Prop) (i : Nat) (r : List Bx) (bo b1 b2 : Bx) (r1 r2 : List Bx) (w f a x y : Int) (J : Act → World → Prop) {E : Env} {rv : Value} {rhs : List Nat} {rhv : List Blk} (hE : EnvOK E Try.prog Try.f23 2 1 rv rhs rhv) (hL : (fLs 24 cs o n c Q).OK 1) (hob : all ([SameK (mkLp (lp Try.f23 0) J) (mkLp (lp Try.f23 0) J), Enter (fLs 24 cs o n c Q) 0 (some (n - i)) [Value.slice (some (Addr.mk 10 0 none)) n n, Value.slice none 0 0, Value.slice (some (Addr.mk 0 o none)) n c, Value.int IntKind.i64 ((n : Int)), Value.int IntKind.i64 (Int.ofNat i.succ)] [Blk.ro cs, Blk.cells (eBox.row r2) 25] [(10, 10), (0, 0)], Value.int IntKind.i64 (IntKind.i64.wrap (Int.ofNat i.succ)) = Value.int IntKind.i64 (Int.ofNat i.succ), lset (eBox.row r1) (0 + y.toNat * 10) b2.cs = some (eBox.row r2), (0 : Int) ≤ y ∧ y < (n : Int), lset (eBox.row r) (0 + x.toNat * 10) b1.cs = some (eBox.row r1), (0 : Int) ≤ x ∧ x < (n : Int), Value.tuple (Array.mk [Value.agg (Array.mk [Value.int IntKind.i64 (cL ((0 : Int)) f bo.a0 bo.b0 a), Value.int IntKind.i64 (cH ((0 : Int)) f bo.a0 bo.b0 a), Value.int IntKind.i64 (cL ((1 : Int)) f bo.a1 bo.b1 a), Value.int IntKind.i64 (cH ((1 : Int)) f bo.a1 bo.b1 a), Value.int IntKind.i64 (cL ((2 : Int)) f bo.a2 bo.b2 a), Value.int IntKind.i64 (cH ((2 : Int)) f bo.a2 bo.b2 a), Value.int IntKind.i64 (cL ((3 : Int)) f bo.a3 bo.b3 a), Value.int IntKind.i64 (cH ((3 : Int)) f bo.a3 bo.b3 a), Value.int IntKind.i64 (cL ((4 : Int)) f bo.a4 bo.b4 a), Value.int IntKind.i64 (cH ((4 : Int)) f bo.a4 bo.b4 a)]), Value.agg (Array.mk [Value.int IntKind.i64 (dL ((0 : Int)) f bo.a0 bo.b0 a), Value.int IntKind.i64 (dH ((0 : Int)) f bo.a0 bo.b0 a), Value.int IntKind.i64 (dL ((1 : Int)) f bo.a1 bo.b1 a), Value.int IntKind.i64 (dH ((1 : Int)) f bo.a1 bo.b1 a), Value.int IntKind.i64 (dL ((2 : Int)) f bo.a2 bo.b2 a), Value.int IntKind.i64 (dH ((2 : Int)) f bo.a2 bo.b2 a), Value.int IntKind.i64 (dL ((3 : Int)) f bo.a3 bo.b3 a), Value.int IntKind.i64 (dH ((3 : Int)) f bo.a3 bo.b3 a), Value.int IntKind.i64 (dL ((4 : Int)) f bo.a4 bo.b4 a), Value.int IntKind.i64 (dH ((4 : Int)) f bo.a4 bo.b4 a)])]) = Value.tuple (Array.mk [Value.agg (Array.mk [Value.int IntKind.i64 b1.a0, Value.int IntKind.i64 b1.b0, Value.int IntKind.i64 b1.a1, Value.int IntKind.i64 b1.b1, Value.int IntKind.i64 b1.a2, Value.int IntKind.i64 b1.b2, Value.int IntKind.i64 b1.a3, Value.int IntKind.i64 b1.b3, Value.int IntKind.i64 b1.a4, Value.int IntKind.i64 b1.b4]), Value.agg (Array.mk [Value.int IntKind.i64 b2.a0, Value.int IntKind.i64 b2.b0, Value.int IntKind.i64 b2.a1, Value.int IntKind.i64 b2.b1, Value.int IntKind.i64 b2.a2, Value.int IntKind.i64 b2.b2, Value.int IntKind.i64 b2.a3, Value.int IntKind.i64 b2.b3, Value.int IntKind.i64 b2.a4, Value.int IntKind.i64 b2.b4])]), I64 a, bo.b0 ≤ (9223372036854775807 : Int), bo.b1 ≤ (9223372036854775807 : Int), bo.b2 ≤ (9223372036854775807 : Int), bo.b3 ≤ (9223372036854775807 : Int), bo.b4 ≤ (9223372036854775807 : Int), readPart Try.prog 25 (eBox.row r) (0 + ((i : Int)).toNat * 10) = some (Value.agg (Array.mk [Value.int IntKind.i64 bo.a0, Value.int IntKind.i64 bo.b0, Value.int IntKind.i64 bo.a1, Value.int IntKind.i64 bo.b1, Value.int IntKind.i64 bo.a2, Value.int IntKind.i64 bo.b2, Value.int IntKind.i64 bo.a3, Value.int IntKind.i64 bo.b3, Value.int IntKind.i64 bo.a4, Value.int IntKind.i64 bo.b4])), (0 : Int) ≤ (i : Int) ∧ (i : Int) < (n : Int), Value.tuple (Array.mk [Value.agg (Array.mk [Value.bool (okB w && lfB w), Value.int IntKind.i64 (sV w), Value.int IntKind.i64 (sF w), Value.int IntKind.i64 (sA w), Value.int IntKind.i64 (sX w), Value.int IntKind.i64 (sY w)]), Value.bool (okB w)]) = Value.tuple (Array.mk [Value.agg (Array.mk [Value.bool false, Value.int IntKind.i64 ((0 : Int)), Value.int IntKind.i64 f, Value.int IntKind.i64 a, Value.int IntKind.i64 x, Value.int IntKind.i64 y]), Value.bool true]), U64 w, readPart Try.prog 83 cs (o + ((i : Int)).toNat * 1) = some (Value.int IntKind.u64 w), (0 : Int) ≤ (i : Int) ∧ (i : Int) < (n : Int), decide ((↑i : Int) < (↑n : Int)) = true])) (hK : ∀ zz, (fLs 24 cs o n c Q).inv 0 zz → ltO ((fLs 24 cs o n c Q).mu 0 zz) (some (n - i)) → Sat E (mkLp (lp Try.f23 0) J) ((fLs 24 cs o n c Q).st 0 zz)) : Sat E (inLp (lp Try.f23 0) J) ((fLs 24 cs o n c Q).st 0 ⟨i, r, []⟩) :=
  by_to (T := auto0 t_ls) (h := hints [(8, 1, {p := true}), (8, 2, {o := some (.int .u64 w)}), (9, 1, {v := some (.tuple ⟨[nd false 0 f a x y, .bool true]⟩)}), (11, 8, {p := true}), (11, 9, {o := some (.agg ⟨bo.cs⟩)}), (11, 14, {v := some (.tuple ⟨[.agg ⟨b1.cs⟩, .agg ⟨b2.cs⟩]⟩)}), (11, 18, {p := true}), (11, 19, {c := some (eBox.row r1)}), (11, 20, {p := true}), (11, 21, {c := some (eBox.row r2)}), (14, 0, {v := some (.int .i64 ((i + 1 : Nat) : Int))})]) (ws := [.b true]) (i0 := ⟨i + 1, r2, []⟩) hE hm (auto0_ok t_ls_ok) hL (by kernel_rfl) hob hK
theorem lsE0 (cs : List Value) (o n c : Nat) (Q : Nat → LS → Prop) (i : Nat) (r : List Bx) (bo : Bx) (w v : Int) (J : Act → World → Prop) {E : Env} {rv : Value} {rhs : List Nat} {rhv : List Blk} (hE : EnvOK E Try.prog Try.f23 2 1 rv rhs rhv) (hL : (fLs 24 cs o n c Q).OK 1) (hob : all ([SameK (mkLp (lp Try.f23 0) J) (mkLp (lp Try.f23 0) J), Enter (fLs 24 cs o n c Q) 0 (some (n - i)) [Value.slice (some (Addr.mk 10 0 none)) n n, Value.slice none 0 0, Value.slice (some (Addr.mk 0 o none)) n c, Value.int IntKind.i64 ((n : Int)), Value.int IntKind.i64 (Int.ofNat i.succ)] [Blk.ro cs, Blk.cells (eBox.row r) 25] [(10, 10), (0, 0)], Value.int IntKind.i64 (IntKind.i64.wrap (Int.ofNat i.succ)) = Value.int IntKind.i64 (Int.ofNat i.succ), Value.bool (emptyB bo.a0 bo.b0 bo.a1 bo.b1 bo.a2 bo.b2 bo.a3 bo.b3 bo.a4 bo.b4) = Value.bool true, readPart Try.prog 25 (eBox.row r) (0 + ((i : Int)).toNat * 10) = some (Value.agg (Array.mk [Value.int IntKind.i64 bo.a0, Value.int IntKind.i64 bo.b0, Value.int IntKind.i64 bo.a1, Value.int IntKind.i64 bo.b1, Value.int IntKind.i64 bo.a2, Value.int IntKind.i64 bo.b2, Value.int IntKind.i64 bo.a3, Value.int IntKind.i64 bo.b3, Value.int IntKind.i64 bo.a4, Value.int IntKind.i64 bo.b4])), (0 : Int) ≤ (i : Int) ∧ (i : Int) < (n : Int), Value.tuple (Array.mk [Value.agg (Array.mk [Value.bool (okB w && lfB w), Value.int IntKind.i64 (sV w), Value.int IntKind.i64 (sF w), Value.int IntKind.i64 (sA w), Value.int IntKind.i64 (sX w), Value.int IntKind.i64 (sY w)]), Value.bool (okB w)]) = Value.tuple (Array.mk [Value.agg (Array.mk [Value.bool true, Value.int IntKind.i64 v, Value.int IntKind.i64 ((0 : Int)), Value.int IntKind.i64 ((0 : Int)), Value.int IntKind.i64 ((0 : Int)), Value.int IntKind.i64 ((0 : Int))]), Value.bool true]), U64 w, readPart Try.prog 83 cs (o + ((i : Int)).toNat * 1) = some (Value.int IntKind.u64 w), (0 : Int) ≤ (i : Int) ∧ (i : Int) < (n : Int), decide ((↑i : Int) < (↑n : Int)) = true])) (hK : ∀ zz, (fLs 24 cs o n c Q).inv 0 zz → ltO ((fLs 24 cs o n c Q).mu 0 zz) (some (n - i)) → Sat E (mkLp (lp Try.f23 0) J) ((fLs 24 cs o n c Q).st 0 zz)) : Sat E (inLp (lp Try.f23 0) J) ((fLs 24 cs o n c Q).st 0 ⟨i, r, []⟩) :=
  by_to (T := auto0 t_ls) (h := hints [(8, 1, {p := true}), (8, 2, {o := some (.int .u64 w)}), (9, 1, {v := some (.tuple ⟨[nd true v 0 0 0 0, .bool true]⟩)}), (12, 2, {p := true}), (12, 3, {o := some (.agg ⟨bo.cs⟩)}), (12, 4, {v := some (.bool true)}), (14, 0, {v := some (.int .i64 ((i + 1 : Nat) : Int))})]) (ws := [.b true]) (i0 := ⟨i + 1, r, []⟩) hE hm (auto0_ok t_ls_ok) hL (by kernel_rfl) hob hK
theorem lsF0 (cs : List Value) (o n c : Nat) (Q : Nat → LS → Prop) (i : Nat) (r : List Bx) (bo : Bx) (out2 : List Pc) (w v : Int) (J : Act → World → Prop) {E : Env} {rv : Value} {rhs : List Nat} {rhv : List Blk} (hE : EnvOK E Try.prog Try.f23 2 1 rv rhs rhv) (hL : (fLs 24 cs o n c Q).OK 1) (hob : all ([SameK (mkLp (lp Try.f23 0) J) (mkLp (lp Try.f23 0) J), Enter (fLs 24 cs o n c Q) 1 (some (n - i)) [Value.slice (some (Addr.mk 10 0 none)) n n, Value.slice (some (Addr.mk 286 0 none)) 1 1267650600228229401496703205376, Value.slice (some (Addr.mk 0 o none)) n c, Value.int IntKind.i64 ((n : Int)), Value.int IntKind.i64 (Int.ofNat i.succ)] [Blk.ro cs, Blk.cells (eBox.row r) 25, Blk.vec (ePc.row out2) 27 11] [(10, 10), (13, 286), (0, 0)], Value.int IntKind.i64 (IntKind.i64.wrap (Int.ofNat i.succ)) = Value.int IntKind.i64 (Int.ofNat i.succ), AppOK none 0 0 11 88 1 [Value.int IntKind.i64 bo.a0, Value.int IntKind.i64 bo.b0, Value.int IntKind.i64 bo.a1, Value.int IntKind.i64 bo.b1, Value.int IntKind.i64 bo.a2, Value.int IntKind.i64 bo.b2, Value.int IntKind.i64 bo.a3, Value.int IntKind.i64 bo.b3, Value.int IntKind.i64 bo.a4, Value.int IntKind.i64 bo.b4, Value.int IntKind.i64 v] 0 (ePc.row out2), readPart Try.prog 25 (eBox.row r) (0 + ((i : Int)).toNat * 10) = some (Value.agg (Array.mk [Value.int IntKind.i64 bo.a0, Value.int IntKind.i64 bo.b0, Value.int IntKind.i64 bo.a1, Value.int IntKind.i64 bo.b1, Value.int IntKind.i64 bo.a2, Value.int IntKind.i64 bo.b2, Value.int IntKind.i64 bo.a3, Value.int IntKind.i64 bo.b3, Value.int IntKind.i64 bo.a4, Value.int IntKind.i64 bo.b4])), (0 : Int) ≤ (i : Int) ∧ (i : Int) < (n : Int), Value.bool (emptyB bo.a0 bo.b0 bo.a1 bo.b1 bo.a2 bo.b2 bo.a3 bo.b3 bo.a4 bo.b4) = Value.bool false, readPart Try.prog 25 (eBox.row r) (0 + ((i : Int)).toNat * 10) = some (Value.agg (Array.mk [Value.int IntKind.i64 bo.a0, Value.int IntKind.i64 bo.b0, Value.int IntKind.i64 bo.a1, Value.int IntKind.i64 bo.b1, Value.int IntKind.i64 bo.a2, Value.int IntKind.i64 bo.b2, Value.int IntKind.i64 bo.a3, Value.int IntKind.i64 bo.b3, Value.int IntKind.i64 bo.a4, Value.int IntKind.i64 bo.b4])), (0 : Int) ≤ (i : Int) ∧ (i : Int) < (n : Int), Value.tuple (Array.mk [Value.agg (Array.mk [Value.bool (okB w && lfB w), Value.int IntKind.i64 (sV w), Value.int IntKind.i64 (sF w), Value.int IntKind.i64 (sA w), Value.int IntKind.i64 (sX w), Value.int IntKind.i64 (sY w)]), Value.bool (okB w)]) = Value.tuple (Array.mk [Value.agg (Array.mk [Value.bool true, Value.int IntKind.i64 v, Value.int IntKind.i64 ((0 : Int)), Value.int IntKind.i64 ((0 : Int)), Value.int IntKind.i64 ((0 : Int)), Value.int IntKind.i64 ((0 : Int))]), Value.bool true]), U64 w, readPart Try.prog 83 cs (o + ((i : Int)).toNat * 1) = some (Value.int IntKind.u64 w), (0 : Int) ≤ (i : Int) ∧ (i : Int) < (n : Int), decide ((↑i : Int) < (↑n : Int)) = true])) (hK : ∀ zz, (fLs 24 cs o n c Q).inv 1 zz → ltO ((fLs 24 cs o n c Q).mu 1 zz) (some (n - i)) → Sat E (mkLp (lp Try.f23 0) J) ((fLs 24 cs o n c Q).st 1 zz)) : Sat E (inLp (lp Try.f23 0) J) ((fLs 24 cs o n c Q).st 0 ⟨i, r, []⟩) :=
  by_to (T := auto0 t_ls) (h := hints [(8, 1, {p := true}), (8, 2, {o := some (.int .u64 w)}), (9, 1, {v := some (.tuple ⟨[nd true v 0 0 0 0, .bool true]⟩)}), (12, 2, {p := true}), (12, 3, {o := some (.agg ⟨bo.cs⟩)}), (12, 4, {v := some (.bool false)}), (13, 3, {p := true}), (13, 4, {o := some (.agg ⟨bo.cs⟩)}), (13, 9, {c := some (ePc.row out2)}), (14, 0, {v := some (.int .i64 ((i + 1 : Nat) : Int))})]) (ws := [.b true]) (i0 := ⟨i + 1, r, out2⟩) hE hm (auto0_ok t_ls_ok) hL (by kernel_rfl) hob hK
theorem lsI1 (cs : List Value) (o n c : Nat) (Q : Nat → LS → Prop) (i : Nat) (r : List Bx) (out : List Pc) (bo b1 b2 : Bx) (r1 r2 : List Bx) (w f a x y : Int) (J : Act → World → Prop) {E : Env} {rv : Value} {rhs : List Nat} {rhv : List Blk} (hE : EnvOK E Try.prog Try.f23 2 1 rv rhs rhv) (hL : (fLs 24 cs o n c Q).OK 1) (hob : all ([SameK (mkLp (lp Try.f23 0) J) (mkLp (lp Try.f23 0) J), Enter (fLs 24 cs o n c Q) 1 (some (n - i)) [Value.slice (some (Addr.mk 10 0 none)) n n, Value.slice (some (Addr.mk 13 0 none)) out.length 1267650600228229401496703205376, Value.slice (some (Addr.mk 0 o none)) n c, Value.int IntKind.i64 ((n : Int)), Value.int IntKind.i64 (Int.ofNat i.succ)] [Blk.ro cs, Blk.cells (eBox.row r2) 25, Blk.vec (ePc.row out) 27 11] [(10, 10), (13, 13), (0, 0)], Value.int IntKind.i64 (IntKind.i64.wrap (Int.ofNat i.succ)) = Value.int IntKind.i64 (Int.ofNat i.succ), lset (eBox.row r1) (0 + y.toNat * 10) b2.cs = some (eBox.row r2), (0 : Int) ≤ y ∧ y < (n : Int), lset (eBox.row r) (0 + x.toNat * 10) b1.cs = some (eBox.row r1), (0 : Int) ≤ x ∧ x < (n : Int), Value.tuple (Array.mk [Value.agg (Array.mk [Value.int IntKind.i64 (cL ((0 : Int)) f bo.a0 bo.b0 a), Value.int IntKind.i64 (cH ((0 : Int)) f bo.a0 bo.b0 a), Value.int IntKind.i64 (cL ((1 : Int)) f bo.a1 bo.b1 a), Value.int IntKind.i64 (cH ((1 : Int)) f bo.a1 bo.b1 a), Value.int IntKind.i64 (cL ((2 : Int)) f bo.a2 bo.b2 a), Value.int IntKind.i64 (cH ((2 : Int)) f bo.a2 bo.b2 a), Value.int IntKind.i64 (cL ((3 : Int)) f bo.a3 bo.b3 a), Value.int IntKind.i64 (cH ((3 : Int)) f bo.a3 bo.b3 a), Value.int IntKind.i64 (cL ((4 : Int)) f bo.a4 bo.b4 a), Value.int IntKind.i64 (cH ((4 : Int)) f bo.a4 bo.b4 a)]), Value.agg (Array.mk [Value.int IntKind.i64 (dL ((0 : Int)) f bo.a0 bo.b0 a), Value.int IntKind.i64 (dH ((0 : Int)) f bo.a0 bo.b0 a), Value.int IntKind.i64 (dL ((1 : Int)) f bo.a1 bo.b1 a), Value.int IntKind.i64 (dH ((1 : Int)) f bo.a1 bo.b1 a), Value.int IntKind.i64 (dL ((2 : Int)) f bo.a2 bo.b2 a), Value.int IntKind.i64 (dH ((2 : Int)) f bo.a2 bo.b2 a), Value.int IntKind.i64 (dL ((3 : Int)) f bo.a3 bo.b3 a), Value.int IntKind.i64 (dH ((3 : Int)) f bo.a3 bo.b3 a), Value.int IntKind.i64 (dL ((4 : Int)) f bo.a4 bo.b4 a), Value.int IntKind.i64 (dH ((4 : Int)) f bo.a4 bo.b4 a)])]) = Value.tuple (Array.mk [Value.agg (Array.mk [Value.int IntKind.i64 b1.a0, Value.int IntKind.i64 b1.b0, Value.int IntKind.i64 b1.a1, Value.int IntKind.i64 b1.b1, Value.int IntKind.i64 b1.a2, Value.int IntKind.i64 b1.b2, Value.int IntKind.i64 b1.a3, Value.int IntKind.i64 b1.b3, Value.int IntKind.i64 b1.a4, Value.int IntKind.i64 b1.b4]), Value.agg (Array.mk [Value.int IntKind.i64 b2.a0, Value.int IntKind.i64 b2.b0, Value.int IntKind.i64 b2.a1, Value.int IntKind.i64 b2.b1, Value.int IntKind.i64 b2.a2, Value.int IntKind.i64 b2.b2, Value.int IntKind.i64 b2.a3, Value.int IntKind.i64 b2.b3, Value.int IntKind.i64 b2.a4, Value.int IntKind.i64 b2.b4])]), I64 a, bo.b0 ≤ (9223372036854775807 : Int), bo.b1 ≤ (9223372036854775807 : Int), bo.b2 ≤ (9223372036854775807 : Int), bo.b3 ≤ (9223372036854775807 : Int), bo.b4 ≤ (9223372036854775807 : Int), readPart Try.prog 25 (eBox.row r) (0 + ((i : Int)).toNat * 10) = some (Value.agg (Array.mk [Value.int IntKind.i64 bo.a0, Value.int IntKind.i64 bo.b0, Value.int IntKind.i64 bo.a1, Value.int IntKind.i64 bo.b1, Value.int IntKind.i64 bo.a2, Value.int IntKind.i64 bo.b2, Value.int IntKind.i64 bo.a3, Value.int IntKind.i64 bo.b3, Value.int IntKind.i64 bo.a4, Value.int IntKind.i64 bo.b4])), (0 : Int) ≤ (i : Int) ∧ (i : Int) < (n : Int), Value.tuple (Array.mk [Value.agg (Array.mk [Value.bool (okB w && lfB w), Value.int IntKind.i64 (sV w), Value.int IntKind.i64 (sF w), Value.int IntKind.i64 (sA w), Value.int IntKind.i64 (sX w), Value.int IntKind.i64 (sY w)]), Value.bool (okB w)]) = Value.tuple (Array.mk [Value.agg (Array.mk [Value.bool false, Value.int IntKind.i64 ((0 : Int)), Value.int IntKind.i64 f, Value.int IntKind.i64 a, Value.int IntKind.i64 x, Value.int IntKind.i64 y]), Value.bool true]), U64 w, readPart Try.prog 83 cs (o + ((i : Int)).toNat * 1) = some (Value.int IntKind.u64 w), (0 : Int) ≤ (i : Int) ∧ (i : Int) < (n : Int), decide ((↑i : Int) < (↑n : Int)) = true])) (hK : ∀ zz, (fLs 24 cs o n c Q).inv 1 zz → ltO ((fLs 24 cs o n c Q).mu 1 zz) (some (n - i)) → Sat E (mkLp (lp Try.f23 0) J) ((fLs 24 cs o n c Q).st 1 zz)) : Sat E (inLp (lp Try.f23 0) J) ((fLs 24 cs o n c Q).st 1 ⟨i, r, out⟩) :=
  by_to (T := auto0 t_ls) (h := hints [(8, 1, {p := true}), (8, 2, {o := some (.int .u64 w)}), (9, 1, {v := some (.tuple ⟨[nd false 0 f a x y, .bool true]⟩)}), (11, 8, {p := true}), (11, 9, {o := some (.agg ⟨bo.cs⟩)}), (11, 14, {v := some (.tuple ⟨[.agg ⟨b1.cs⟩, .agg ⟨b2.cs⟩]⟩)}), (11, 18, {p := true}), (11, 19, {c := some (eBox.row r1)}), (11, 20, {p := true}), (11, 21, {c := some (eBox.row r2)}), (14, 0, {v := some (.int .i64 ((i + 1 : Nat) : Int))})]) (ws := [.b true]) (i0 := ⟨i + 1, r2, out⟩) hE hm (auto0_ok t_ls_ok) hL (by kernel_rfl) hob hK
theorem lsE1 (cs : List Value) (o n c : Nat) (Q : Nat → LS → Prop) (i : Nat) (r : List Bx) (out : List Pc) (bo : Bx) (w v : Int) (J : Act → World → Prop) {E : Env} {rv : Value} {rhs : List Nat} {rhv : List Blk} (hE : EnvOK E Try.prog Try.f23 2 1 rv rhs rhv) (hL : (fLs 24 cs o n c Q).OK 1) (hob : all ([SameK (mkLp (lp Try.f23 0) J) (mkLp (lp Try.f23 0) J), Enter (fLs 24 cs o n c Q) 1 (some (n - i)) [Value.slice (some (Addr.mk 10 0 none)) n n, Value.slice (some (Addr.mk 13 0 none)) out.length 1267650600228229401496703205376, Value.slice (some (Addr.mk 0 o none)) n c, Value.int IntKind.i64 ((n : Int)), Value.int IntKind.i64 (Int.ofNat i.succ)] [Blk.ro cs, Blk.cells (eBox.row r) 25, Blk.vec (ePc.row out) 27 11] [(10, 10), (13, 13), (0, 0)], Value.int IntKind.i64 (IntKind.i64.wrap (Int.ofNat i.succ)) = Value.int IntKind.i64 (Int.ofNat i.succ), Value.bool (emptyB bo.a0 bo.b0 bo.a1 bo.b1 bo.a2 bo.b2 bo.a3 bo.b3 bo.a4 bo.b4) = Value.bool true, readPart Try.prog 25 (eBox.row r) (0 + ((i : Int)).toNat * 10) = some (Value.agg (Array.mk [Value.int IntKind.i64 bo.a0, Value.int IntKind.i64 bo.b0, Value.int IntKind.i64 bo.a1, Value.int IntKind.i64 bo.b1, Value.int IntKind.i64 bo.a2, Value.int IntKind.i64 bo.b2, Value.int IntKind.i64 bo.a3, Value.int IntKind.i64 bo.b3, Value.int IntKind.i64 bo.a4, Value.int IntKind.i64 bo.b4])), (0 : Int) ≤ (i : Int) ∧ (i : Int) < (n : Int), Value.tuple (Array.mk [Value.agg (Array.mk [Value.bool (okB w && lfB w), Value.int IntKind.i64 (sV w), Value.int IntKind.i64 (sF w), Value.int IntKind.i64 (sA w), Value.int IntKind.i64 (sX w), Value.int IntKind.i64 (sY w)]), Value.bool (okB w)]) = Value.tuple (Array.mk [Value.agg (Array.mk [Value.bool true, Value.int IntKind.i64 v, Value.int IntKind.i64 ((0 : Int)), Value.int IntKind.i64 ((0 : Int)), Value.int IntKind.i64 ((0 : Int)), Value.int IntKind.i64 ((0 : Int))]), Value.bool true]), U64 w, readPart Try.prog 83 cs (o + ((i : Int)).toNat * 1) = some (Value.int IntKind.u64 w), (0 : Int) ≤ (i : Int) ∧ (i : Int) < (n : Int), decide ((↑i : Int) < (↑n : Int)) = true])) (hK : ∀ zz, (fLs 24 cs o n c Q).inv 1 zz → ltO ((fLs 24 cs o n c Q).mu 1 zz) (some (n - i)) → Sat E (mkLp (lp Try.f23 0) J) ((fLs 24 cs o n c Q).st 1 zz)) : Sat E (inLp (lp Try.f23 0) J) ((fLs 24 cs o n c Q).st 1 ⟨i, r, out⟩) :=
  by_to (T := auto0 t_ls) (h := hints [(8, 1, {p := true}), (8, 2, {o := some (.int .u64 w)}), (9, 1, {v := some (.tuple ⟨[nd true v 0 0 0 0, .bool true]⟩)}), (12, 2, {p := true}), (12, 3, {o := some (.agg ⟨bo.cs⟩)}), (12, 4, {v := some (.bool true)}), (14, 0, {v := some (.int .i64 ((i + 1 : Nat) : Int))})]) (ws := [.b true]) (i0 := ⟨i + 1, r, out⟩) hE hm (auto0_ok t_ls_ok) hL (by kernel_rfl) hob hK
theorem lsF1 (cs : List Value) (o n c : Nat) (Q : Nat → LS → Prop) (i : Nat) (r : List Bx) (out : List Pc) (bo : Bx) (out2 : List Pc) (w v : Int) (J : Act → World → Prop) {E : Env} {rv : Value} {rhs : List Nat} {rhv : List Blk} (hE : EnvOK E Try.prog Try.f23 2 1 rv rhs rhv) (hL : (fLs 24 cs o n c Q).OK 1) (hob : all ([SameK (mkLp (lp Try.f23 0) J) (mkLp (lp Try.f23 0) J), Enter (fLs 24 cs o n c Q) 1 (some (n - i)) [Value.slice (some (Addr.mk 10 0 none)) n n, Value.slice (some (Addr.mk 286 0 none)) (out.length + 1) 1267650600228229401496703205376, Value.slice (some (Addr.mk 0 o none)) n c, Value.int IntKind.i64 ((n : Int)), Value.int IntKind.i64 (Int.ofNat i.succ)] [Blk.ro cs, Blk.cells (eBox.row r) 25, Blk.vec (ePc.row out2) 27 11] [(10, 10), (13, 286), (0, 0)], Value.int IntKind.i64 (IntKind.i64.wrap (Int.ofNat i.succ)) = Value.int IntKind.i64 (Int.ofNat i.succ), AppOK (some (Blk.vec (ePc.row out) 27 11)) out.length 1267650600228229401496703205376 11 88 1 [Value.int IntKind.i64 bo.a0, Value.int IntKind.i64 bo.b0, Value.int IntKind.i64 bo.a1, Value.int IntKind.i64 bo.b1, Value.int IntKind.i64 bo.a2, Value.int IntKind.i64 bo.b2, Value.int IntKind.i64 bo.a3, Value.int IntKind.i64 bo.b3, Value.int IntKind.i64 bo.a4, Value.int IntKind.i64 bo.b4, Value.int IntKind.i64 v] 0 (ePc.row out2), readPart Try.prog 25 (eBox.row r) (0 + ((i : Int)).toNat * 10) = some (Value.agg (Array.mk [Value.int IntKind.i64 bo.a0, Value.int IntKind.i64 bo.b0, Value.int IntKind.i64 bo.a1, Value.int IntKind.i64 bo.b1, Value.int IntKind.i64 bo.a2, Value.int IntKind.i64 bo.b2, Value.int IntKind.i64 bo.a3, Value.int IntKind.i64 bo.b3, Value.int IntKind.i64 bo.a4, Value.int IntKind.i64 bo.b4])), (0 : Int) ≤ (i : Int) ∧ (i : Int) < (n : Int), Value.bool (emptyB bo.a0 bo.b0 bo.a1 bo.b1 bo.a2 bo.b2 bo.a3 bo.b3 bo.a4 bo.b4) = Value.bool false, readPart Try.prog 25 (eBox.row r) (0 + ((i : Int)).toNat * 10) = some (Value.agg (Array.mk [Value.int IntKind.i64 bo.a0, Value.int IntKind.i64 bo.b0, Value.int IntKind.i64 bo.a1, Value.int IntKind.i64 bo.b1, Value.int IntKind.i64 bo.a2, Value.int IntKind.i64 bo.b2, Value.int IntKind.i64 bo.a3, Value.int IntKind.i64 bo.b3, Value.int IntKind.i64 bo.a4, Value.int IntKind.i64 bo.b4])), (0 : Int) ≤ (i : Int) ∧ (i : Int) < (n : Int), Value.tuple (Array.mk [Value.agg (Array.mk [Value.bool (okB w && lfB w), Value.int IntKind.i64 (sV w), Value.int IntKind.i64 (sF w), Value.int IntKind.i64 (sA w), Value.int IntKind.i64 (sX w), Value.int IntKind.i64 (sY w)]), Value.bool (okB w)]) = Value.tuple (Array.mk [Value.agg (Array.mk [Value.bool true, Value.int IntKind.i64 v, Value.int IntKind.i64 ((0 : Int)), Value.int IntKind.i64 ((0 : Int)), Value.int IntKind.i64 ((0 : Int)), Value.int IntKind.i64 ((0 : Int))]), Value.bool true]), U64 w, readPart Try.prog 83 cs (o + ((i : Int)).toNat * 1) = some (Value.int IntKind.u64 w), (0 : Int) ≤ (i : Int) ∧ (i : Int) < (n : Int), decide ((↑i : Int) < (↑n : Int)) = true])) (hK : ∀ zz, (fLs 24 cs o n c Q).inv 1 zz → ltO ((fLs 24 cs o n c Q).mu 1 zz) (some (n - i)) → Sat E (mkLp (lp Try.f23 0) J) ((fLs 24 cs o n c Q).st 1 zz)) : Sat E (inLp (lp Try.f23 0) J) ((fLs 24 cs o n c Q).st 1 ⟨i, r, out⟩) :=
  by_to (T := auto0 t_ls) (h := hints [(8, 1, {p := true}), (8, 2, {o := some (.int .u64 w)}), (9, 1, {v := some (.tuple ⟨[nd true v 0 0 0 0, .bool true]⟩)}), (12, 2, {p := true}), (12, 3, {o := some (.agg ⟨bo.cs⟩)}), (12, 4, {v := some (.bool false)}), (13, 3, {p := true}), (13, 4, {o := some (.agg ⟨bo.cs⟩)}), (13, 9, {c := some (ePc.row out2)}), (14, 0, {v := some (.int .i64 ((i + 1 : Nat) : Int))})]) (ws := [.b true]) (i0 := ⟨i + 1, r, out2⟩) hE hm (auto0_ok t_ls_ok) hL (by kernel_rfl) hob hK
theorem lsX0 (cs : List Value) (o n c : Nat) (Q : Nat → LS → Prop) (i : Nat) (r : List Bx) (J : Act → World → Prop) {E : Env} (hE : EnvOK E Try.prog Try.f23 2 1 (.slice none 0 0) [] []) (hob : all ([Back (Value.slice none 0 0) (Value.slice none 0 0) [] [] [], decide ((↑i : Int) < (↑n : Int)) = false])) : Sat E (inLp (lp Try.f23 0) J) ((fLs 24 cs o n c Q).st 0 ⟨i, r, []⟩) :=
  by_ret (T := auto0 t_ls) (h := hints []) (ws := [.b false]) (nx' := 101) hE hm (auto0_ok t_ls_ok) (by omega) (by simp) (by simp) (by kernel_rfl) hob
theorem lsX1 (cs : List Value) (o n c : Nat) (Q : Nat → LS → Prop) (i : Nat) (r : List Bx) (out : List Pc) (J : Act → World → Prop) {E : Env} (hE : EnvOK E Try.prog Try.f23 2 1 (.slice (some ⟨100, 0, none⟩) out.length mk) [100] [.vec (ePc.row out) 27 11]) (hob : all ([Back (Value.slice (some (Addr.mk 13 0 none)) out.length 1267650600228229401496703205376) (Value.slice (some (Addr.mk 100 0 none)) out.length 1267650600228229401496703205376) [Blk.vec (ePc.row out) 27 11] [Blk.vec (ePc.row out) 27 11] [(100, 13)], decide ((↑i : Int) < (↑n : Int)) = false])) : Sat E (inLp (lp Try.f23 0) J) ((fLs 24 cs o n c Q).st 1 ⟨i, r, out⟩) :=
  by_ret (T := auto0 t_ls) (h := hints []) (ws := [.b false]) (nx' := 101) hE hm (auto0_ok t_ls_ok) (by omega) (by simp) (by intro x hx; simp at hx; subst hx; exact Blk.plain.namesLt (b := .vec _ _ _) (Elt.row_pl _) _) (by kernel_rfl) hob
theorem rlNil (b : Bx)  {E : Env} (hE : EnvOK E Try.prog Try.f26 2 0 (.slice none 0 0) [] []) (hob : all ([Back (Value.slice none 0 0) (Value.slice none 0 0) [] [] [], plainR []])) : Sat E [.code (bodyOf Try.f26)] (st0 Try.f26 [.slice none 0 0, .agg ⟨b.cs⟩] (roRows []) 0) :=
  by_ret (T := auto0 t_ls) (h := hints []) (ws := []) (nx' := 0) hE hm (auto0_ok t_ls_ok) (by omega) (by simp) (by simp) (by kernel_rfl) hob
theorem rlNo (cs : List Value) (o n c : Nat) (b : Bx)  {E : Env} (hE : EnvOK E Try.prog Try.f26 2 1 (.slice none 0 0) [] []) (hob : all ([Back (Value.slice none 0 0) (Value.slice none 0 0) [] [] [], Value.bool (rightI (eWord.list cs o n) ((4 : Int))) = Value.bool false, plainR [cs], eWord.Row cs o n, ∀ (w : Int), w ∈ eWord.list cs o n → U64 w, n ≤ 65536])) : Sat E [.code (bodyOf Try.f26)] (st0 Try.f26 [.slice (some ⟨0, o, none⟩) n c, .agg ⟨b.cs⟩] (roRows [cs]) 1) :=
  by_ret (T := auto0 t_ls) (h := hints [(1, 1, {v := some (.bool false)})]) (ws := []) (nx' := 1) hE hm (auto0_ok t_ls_ok) (by omega) (by simp) (by simp) (by kernel_rfl) hob
theorem rlIn (cs : List Value) (o n c : Nat) (Q : Nat → LS → Prop) (b : Bx) (zs r : List Bx)  {E : Env} {rv : Value} {rhs : List Nat} {rhv : List Blk} (hE : EnvOK E Try.prog Try.f26 2 1 rv rhs rhv) (hL : (fLs 21 cs o n c Q).OK 1) (hob : all ([SameK (atLp (lp Try.f26 0)) (atLp (lp Try.f26 0)), Enter (fLs 21 cs o n c Q) 0 none [Value.slice (some (Addr.mk 57 0 none)) ((n : Int)).toNat ((n : Int)).toNat, Value.slice none 0 0, Value.slice (some (Addr.mk 0 o none)) n c, Value.int IntKind.i64 ((n : Int)), Value.int IntKind.i64 ((0 : Int))] [Blk.ro cs, Blk.cells (eBox.row r) 25] [(10, 57), (0, 0)], lset (eBox.row zs) 0 [Value.int IntKind.i64 b.a0, Value.int IntKind.i64 b.b0, Value.int IntKind.i64 b.a1, Value.int IntKind.i64 b.b1, Value.int IntKind.i64 b.a2, Value.int IntKind.i64 b.b2, Value.int IntKind.i64 b.a3, Value.int IntKind.i64 b.b3, Value.int IntKind.i64 b.a4, Value.int IntKind.i64 b.b4] = some (eBox.row r), (0 : Int) ≤ (0 : Int) ∧ (0 : Int) < (n : Int), MkOK ((n : Int)) ((n : Int)) 80 [Value.int IntKind.i64 ((0 : Int)), Value.int IntKind.i64 ((0 : Int)), Value.int IntKind.i64 ((0 : Int)), Value.int IntKind.i64 ((0 : Int)), Value.int IntKind.i64 ((0 : Int)), Value.int IntKind.i64 ((0 : Int)), Value.int IntKind.i64 ((0 : Int)), Value.int IntKind.i64 ((0 : Int)), Value.int IntKind.i64 ((0 : Int)), Value.int IntKind.i64 ((0 : Int))] (eBox.row zs), Value.bool (rightI (eWord.list cs o n) ((4 : Int))) = Value.bool true, plainR [cs], eWord.Row cs o n, ∀ (w : Int), w ∈ eWord.list cs o n → U64 w, n ≤ 65536])) (hK : ∀ zz, (fLs 21 cs o n c Q).inv 0 zz → ltO ((fLs 21 cs o n c Q).mu 0 zz) none → Sat E (atLp (lp Try.f26 0)) ((fLs 21 cs o n c Q).st 0 zz)) : Sat E [.code (bodyOf Try.f26)] (st0 Try.f26 [.slice (some ⟨0, o, none⟩) n c, .agg ⟨b.cs⟩] (roRows [cs]) 1) :=
  by_to (T := auto0 t_ls) (h := hints [(1, 1, {v := some (.bool true)}), (3, 2, {c := some (eBox.row zs)}), (4, 2, {p := true}), (4, 3, {c := some (eBox.row r)})]) (ws := [.go, .stop]) (i0 := ⟨0, r, []⟩) hE hm (auto0_ok t_ls_ok) hL (by kernel_rfl) hob hK
theorem rlI0 (cs : List Value) (o n c : Nat) (Q : Nat → LS → Prop) (i : Nat) (r : List Bx) (bo b1 b2 : Bx) (r1 r2 r3 r4 : List Bx) (w f a x y lo hi l1 h1 l2 h2 : Int) (J : Act → World → Prop) {E : Env} {rv : Value} {rhs : List Nat} {rhv : List Blk} (hE : EnvOK E Try.prog Try.f26 2 1 rv rhs rhv) (hL : (fLs 21 cs o n c Q).OK 1) (hob : all ([SameK (mkLp (lp Try.f26 0) J) (mkLp (lp Try.f26 0) J), Enter (fLs 21 cs o n c Q) 0 (some (n - i)) [Value.slice (some (Addr.mk 10 0 none)) n n, Value.slice none 0 0, Value.slice (some (Addr.mk 0 o none)) n c, Value.int IntKind.i64 ((n : Int)), Value.int IntKind.i64 (Int.ofNat i.succ)] [Blk.ro cs, Blk.cells (eBox.row r4) 25] [(10, 10), (0, 0)], Value.int IntKind.i64 (IntKind.i64.wrap (Int.ofNat i.succ)) = Value.int IntKind.i64 (Int.ofNat i.succ), lset (eBox.row r3) (0 + y.toNat * 10 + f.toNat * 2) [Value.int IntKind.i64 l2, Value.int IntKind.i64 h2] = some (eBox.row r4), (0 : Int) ≤ f ∧ f < (5 : Int), (0 : Int) ≤ y ∧ y < (n : Int), Value.agg (Array.mk [Value.int IntKind.i64 (ofLo (maxI lo (a + (1 : Int))) (minI hi hi)), Value.int IntKind.i64 (ofHi (maxI lo (a + (1 : Int))) (minI hi hi))]) = Value.agg (Array.mk [Value.int IntKind.i64 l2, Value.int IntKind.i64 h2]), Value.int IntKind.i64 (IntKind.i64.wrap (a + (1 : Int))) = Value.int IntKind.i64 (a + (1 : Int)), lset (eBox.row r2) (0 + x.toNat * 10 + f.toNat * 2) [Value.int IntKind.i64 l1, Value.int IntKind.i64 h1] = some (eBox.row r3), (0 : Int) ≤ f ∧ f < (5 : Int), (0 : Int) ≤ x ∧ x < (n : Int), Value.agg (Array.mk [Value.int IntKind.i64 (ofLo (maxI lo lo) (minI hi a)), Value.int IntKind.i64 (ofHi (maxI lo lo) (minI hi a))]) = Value.agg (Array.mk [Value.int IntKind.i64 l1, Value.int IntKind.i64 h1]), lset (eBox.row r1) (0 + y.toNat * 10) bo.cs = some (eBox.row r2), (0 : Int) ≤ y ∧ y < (n : Int), lset (eBox.row r) (0 + x.toNat * 10) bo.cs = some (eBox.row r1), (0 : Int) ≤ x ∧ x < (n : Int), readPart Try.prog 25 (eBox.row r) (0 + ((i : Int)).toNat * 10) = some (Value.agg (Array.mk [Value.int IntKind.i64 bo.a0, Value.int IntKind.i64 bo.b0, Value.int IntKind.i64 bo.a1, Value.int IntKind.i64 bo.b1, Value.int IntKind.i64 bo.a2, Value.int IntKind.i64 bo.b2, Value.int IntKind.i64 bo.a3, Value.int IntKind.i64 bo.b3, Value.int IntKind.i64 bo.a4, Value.int IntKind.i64 bo.b4])), (0 : Int) ≤ (i : Int) ∧ (i : Int) < (n : Int), readPart Try.prog 25 (eBox.row r) (0 + ((i : Int)).toNat * 10) = some (Value.agg (Array.mk [Value.int IntKind.i64 bo.a0, Value.int IntKind.i64 bo.b0, Value.int IntKind.i64 bo.a1, Value.int IntKind.i64 bo.b1, Value.int IntKind.i64 bo.a2, Value.int IntKind.i64 bo.b2, Value.int IntKind.i64 bo.a3, Value.int IntKind.i64 bo.b3, Value.int IntKind.i64 bo.a4, Value.int IntKind.i64 bo.b4])), (0 : Int) ≤ (i : Int) ∧ (i : Int) < (n : Int), readPart Try.prog 23 (eBox.row r) (0 + ((i : Int)).toNat * 10 + f.toNat * 2) = some (Value.agg (Array.mk [Value.int IntKind.i64 lo, Value.int IntKind.i64 hi])), (0 : Int) ≤ f ∧ f < (5 : Int), (0 : Int) ≤ (i : Int) ∧ (i : Int) < (n : Int), Value.tuple (Array.mk [Value.agg (Array.mk [Value.bool (okB w && lfB w), Value.int IntKind.i64 (sV w), Value.int IntKind.i64 (sF w), Value.int IntKind.i64 (sA w), Value.int IntKind.i64 (sX w), Value.int IntKind.i64 (sY w)]), Value.bool (okB w)]) = Value.tuple (Array.mk [Value.agg (Array.mk [Value.bool false, Value.int IntKind.i64 ((0 : Int)), Value.int IntKind.i64 f, Value.int IntKind.i64 a, Value.int IntKind.i64 x, Value.int IntKind.i64 y]), Value.bool true]), U64 w, readPart Try.prog 83 cs (o + ((i : Int)).toNat * 1) = some (Value.int IntKind.u64 w), (0 : Int) ≤ (i : Int) ∧ (i : Int) < (n : Int), decide ((↑i : Int) < (↑n : Int)) = true])) (hK : ∀ zz, (fLs 21 cs o n c Q).inv 0 zz → ltO ((fLs 21 cs o n c Q).mu 0 zz) (some (n - i)) → Sat E (mkLp (lp Try.f26 0) J) ((fLs 21 cs o n c Q).st 0 zz)) : Sat E (inLp (lp Try.f26 0) J) ((fLs 21 cs o n c Q).st 0 ⟨i, r, []⟩) :=
  by_to (T := auto0 t_ls) (h := hints [(8, 1, {p := true}), (8, 2, {o := some (.int .u64 w)}), (9, 1, {v := some (.tuple ⟨[nd false 0 f a x y, .bool true]⟩)}), (13, 4, {p := true}), (13, 5, {p := true}), (13, 6, {o := some (.agg ⟨[.int .i64 lo, .int .i64 hi]⟩)}), (14, 8, {p := true}), (14, 9, {o := some (.agg ⟨bo.cs⟩)}), (14, 12, {p := true}), (14, 13, {o := some (.agg ⟨bo.cs⟩)}), (14, 14, {p := true}), (14, 15, {c := some (eBox.row r1)}), (14, 16, {p := true}), (14, 17, {c := some (eBox.row r2)}), (15, 11, {v := some (.agg ⟨[.int .i64 l1, .int .i64 h1]⟩)}), (15, 12, {p := true}), (15, 13, {p := true}), (15, 14, {c := some (eBox.row r3)}), (16, 8, {v := some (.int .i64 (a + 1))}), (16, 12, {v := some (.agg ⟨[.int .i64 l2, .int .i64 h2]⟩)}), (16, 13, {p := true}), (16, 14, {p := true}), (16, 15, {c := some (eBox.row r4)}), (17, 0, {v := some (.int .i64 ((i + 1 : Nat) : Int))})]) (ws := [.b true]) (i0 := ⟨i + 1, r4, []⟩) hE hm (auto0_ok t_ls_ok) hL (by kernel_rfl) hob hK
theorem rlE0 (cs : List Value) (o n c : Nat) (Q : Nat → LS → Prop) (i : Nat) (r : List Bx) (bo : Bx) (w v : Int) (J : Act → World → Prop) {E : Env} {rv : Value} {rhs : List Nat} {rhv : List Blk} (hE : EnvOK E Try.prog Try.f26 2 1 rv rhs rhv) (hL : (fLs 21 cs o n c Q).OK 1) (hob : all ([SameK (mkLp (lp Try.f26 0) J) (mkLp (lp Try.f26 0) J), Enter (fLs 21 cs o n c Q) 0 (some (n - i)) [Value.slice (some (Addr.mk 10 0 none)) n n, Value.slice none 0 0, Value.slice (some (Addr.mk 0 o none)) n c, Value.int IntKind.i64 ((n : Int)), Value.int IntKind.i64 (Int.ofNat i.succ)] [Blk.ro cs, Blk.cells (eBox.row r) 25] [(10, 10), (0, 0)], Value.int IntKind.i64 (IntKind.i64.wrap (Int.ofNat i.succ)) = Value.int IntKind.i64 (Int.ofNat i.succ), Value.bool (emptyB bo.a0 bo.b0 bo.a1 bo.b1 bo.a2 bo.b2 bo.a3 bo.b3 bo.a4 bo.b4) = Value.bool true, readPart Try.prog 25 (eBox.row r) (0 + ((i : Int)).toNat * 10) = some (Value.agg (Array.mk [Value.int IntKind.i64 bo.a0, Value.int IntKind.i64 bo.b0, Value.int IntKind.i64 bo.a1, Value.int IntKind.i64 bo.b1, Value.int IntKind.i64 bo.a2, Value.int IntKind.i64 bo.b2, Value.int IntKind.i64 bo.a3, Value.int IntKind.i64 bo.b3, Value.int IntKind.i64 bo.a4, Value.int IntKind.i64 bo.b4])), (0 : Int) ≤ (i : Int) ∧ (i : Int) < (n : Int), Value.tuple (Array.mk [Value.agg (Array.mk [Value.bool (okB w && lfB w), Value.int IntKind.i64 (sV w), Value.int IntKind.i64 (sF w), Value.int IntKind.i64 (sA w), Value.int IntKind.i64 (sX w), Value.int IntKind.i64 (sY w)]), Value.bool (okB w)]) = Value.tuple (Array.mk [Value.agg (Array.mk [Value.bool true, Value.int IntKind.i64 v, Value.int IntKind.i64 ((0 : Int)), Value.int IntKind.i64 ((0 : Int)), Value.int IntKind.i64 ((0 : Int)), Value.int IntKind.i64 ((0 : Int))]), Value.bool true]), U64 w, readPart Try.prog 83 cs (o + ((i : Int)).toNat * 1) = some (Value.int IntKind.u64 w), (0 : Int) ≤ (i : Int) ∧ (i : Int) < (n : Int), decide ((↑i : Int) < (↑n : Int)) = true])) (hK : ∀ zz, (fLs 21 cs o n c Q).inv 0 zz → ltO ((fLs 21 cs o n c Q).mu 0 zz) (some (n - i)) → Sat E (mkLp (lp Try.f26 0) J) ((fLs 21 cs o n c Q).st 0 zz)) : Sat E (inLp (lp Try.f26 0) J) ((fLs 21 cs o n c Q).st 0 ⟨i, r, []⟩) :=
  by_to (T := auto0 t_ls) (h := hints [(8, 1, {p := true}), (8, 2, {o := some (.int .u64 w)}), (9, 1, {v := some (.tuple ⟨[nd true v 0 0 0 0, .bool true]⟩)}), (11, 2, {p := true}), (11, 3, {o := some (.agg ⟨bo.cs⟩)}), (11, 4, {v := some (.bool true)}), (17, 0, {v := some (.int .i64 ((i + 1 : Nat) : Int))})]) (ws := [.b true]) (i0 := ⟨i + 1, r, []⟩) hE hm (auto0_ok t_ls_ok) hL (by kernel_rfl) hob hK
theorem rlF0 (cs : List Value) (o n c : Nat) (Q : Nat → LS → Prop) (i : Nat) (r : List Bx) (bo : Bx) (out2 : List Pc) (w v : Int) (J : Act → World → Prop) {E : Env} {rv : Value} {rhs : List Nat} {rhv : List Blk} (hE : EnvOK E Try.prog Try.f26 2 1 rv rhs rhv) (hL : (fLs 21 cs o n c Q).OK 1) (hob : all ([SameK (mkLp (lp Try.f26 0) J) (mkLp (lp Try.f26 0) J), Enter (fLs 21 cs o n c Q) 1 (some (n - i)) [Value.slice (some (Addr.mk 10 0 none)) n n, Value.slice (some (Addr.mk 262 0 none)) 1 1267650600228229401496703205376, Value.slice (some (Addr.mk 0 o none)) n c, Value.int IntKind.i64 ((n : Int)), Value.int IntKind.i64 (Int.ofNat i.succ)] [Blk.ro cs, Blk.cells (eBox.row r) 25, Blk.vec (ePc.row out2) 27 11] [(10, 10), (13, 262), (0, 0)], Value.int IntKind.i64 (IntKind.i64.wrap (Int.ofNat i.succ)) = Value.int IntKind.i64 (Int.ofNat i.succ), AppOK none 0 0 11 88 1 [Value.int IntKind.i64 bo.a0, Value.int IntKind.i64 bo.b0, Value.int IntKind.i64 bo.a1, Value.int IntKind.i64 bo.b1, Value.int IntKind.i64 bo.a2, Value.int IntKind.i64 bo.b2, Value.int IntKind.i64 bo.a3, Value.int IntKind.i64 bo.b3, Value.int IntKind.i64 bo.a4, Value.int IntKind.i64 bo.b4, Value.int IntKind.i64 v] 0 (ePc.row out2), readPart Try.prog 25 (eBox.row r) (0 + ((i : Int)).toNat * 10) = some (Value.agg (Array.mk [Value.int IntKind.i64 bo.a0, Value.int IntKind.i64 bo.b0, Value.int IntKind.i64 bo.a1, Value.int IntKind.i64 bo.b1, Value.int IntKind.i64 bo.a2, Value.int IntKind.i64 bo.b2, Value.int IntKind.i64 bo.a3, Value.int IntKind.i64 bo.b3, Value.int IntKind.i64 bo.a4, Value.int IntKind.i64 bo.b4])), (0 : Int) ≤ (i : Int) ∧ (i : Int) < (n : Int), Value.bool (emptyB bo.a0 bo.b0 bo.a1 bo.b1 bo.a2 bo.b2 bo.a3 bo.b3 bo.a4 bo.b4) = Value.bool false, readPart Try.prog 25 (eBox.row r) (0 + ((i : Int)).toNat * 10) = some (Value.agg (Array.mk [Value.int IntKind.i64 bo.a0, Value.int IntKind.i64 bo.b0, Value.int IntKind.i64 bo.a1, Value.int IntKind.i64 bo.b1, Value.int IntKind.i64 bo.a2, Value.int IntKind.i64 bo.b2, Value.int IntKind.i64 bo.a3, Value.int IntKind.i64 bo.b3, Value.int IntKind.i64 bo.a4, Value.int IntKind.i64 bo.b4])), (0 : Int) ≤ (i : Int) ∧ (i : Int) < (n : Int), Value.tuple (Array.mk [Value.agg (Array.mk [Value.bool (okB w && lfB w), Value.int IntKind.i64 (sV w), Value.int IntKind.i64 (sF w), Value.int IntKind.i64 (sA w), Value.int IntKind.i64 (sX w), Value.int IntKind.i64 (sY w)]), Value.bool (okB w)]) = Value.tuple (Array.mk [Value.agg (Array.mk [Value.bool true, Value.int IntKind.i64 v, Value.int IntKind.i64 ((0 : Int)), Value.int IntKind.i64 ((0 : Int)), Value.int IntKind.i64 ((0 : Int)), Value.int IntKind.i64 ((0 : Int))]), Value.bool true]), U64 w, readPart Try.prog 83 cs (o + ((i : Int)).toNat * 1) = some (Value.int IntKind.u64 w), (0 : Int) ≤ (i : Int) ∧ (i : Int) < (n : Int), decide ((↑i : Int) < (↑n : Int)) = true])) (hK : ∀ zz, (fLs 21 cs o n c Q).inv 1 zz → ltO ((fLs 21 cs o n c Q).mu 1 zz) (some (n - i)) → Sat E (mkLp (lp Try.f26 0) J) ((fLs 21 cs o n c Q).st 1 zz)) : Sat E (inLp (lp Try.f26 0) J) ((fLs 21 cs o n c Q).st 0 ⟨i, r, []⟩) :=
  by_to (T := auto0 t_ls) (h := hints [(8, 1, {p := true}), (8, 2, {o := some (.int .u64 w)}), (9, 1, {v := some (.tuple ⟨[nd true v 0 0 0 0, .bool true]⟩)}), (11, 2, {p := true}), (11, 3, {o := some (.agg ⟨bo.cs⟩)}), (11, 4, {v := some (.bool false)}), (12, 3, {p := true}), (12, 4, {o := some (.agg ⟨bo.cs⟩)}), (12, 9, {c := some (ePc.row out2)}), (17, 0, {v := some (.int .i64 ((i + 1 : Nat) : Int))})]) (ws := [.b true]) (i0 := ⟨i + 1, r, out2⟩) hE hm (auto0_ok t_ls_ok) hL (by kernel_rfl) hob hK
theorem rlI1 (cs : List Value) (o n c : Nat) (Q : Nat → LS → Prop) (i : Nat) (r : List Bx) (out : List Pc) (bo b1 b2 : Bx) (r1 r2 r3 r4 : List Bx) (w f a x y lo hi l1 h1 l2 h2 : Int) (J : Act → World → Prop) {E : Env} {rv : Value} {rhs : List Nat} {rhv : List Blk} (hE : EnvOK E Try.prog Try.f26 2 1 rv rhs rhv) (hL : (fLs 21 cs o n c Q).OK 1) (hob : all ([SameK (mkLp (lp Try.f26 0) J) (mkLp (lp Try.f26 0) J), Enter (fLs 21 cs o n c Q) 1 (some (n - i)) [Value.slice (some (Addr.mk 10 0 none)) n n, Value.slice (some (Addr.mk 13 0 none)) out.length 1267650600228229401496703205376, Value.slice (some (Addr.mk 0 o none)) n c, Value.int IntKind.i64 ((n : Int)), Value.int IntKind.i64 (Int.ofNat i.succ)] [Blk.ro cs, Blk.cells (eBox.row r4) 25, Blk.vec (ePc.row out) 27 11] [(10, 10), (13, 13), (0, 0)], Value.int IntKind.i64 (IntKind.i64.wrap (Int.ofNat i.succ)) = Value.int IntKind.i64 (Int.ofNat i.succ), lset (eBox.row r3) (0 + y.toNat * 10 + f.toNat * 2) [Value.int IntKind.i64 l2, Value.int IntKind.i64 h2] = some (eBox.row r4), (0 : Int) ≤ f ∧ f < (5 : Int), (0 : Int) ≤ y ∧ y < (n : Int), Value.agg (Array.mk [Value.int IntKind.i64 (ofLo (maxI lo (a + (1 : Int))) (minI hi hi)), Value.int IntKind.i64 (ofHi (maxI lo (a + (1 : Int))) (minI hi hi))]) = Value.agg (Array.mk [Value.int IntKind.i64 l2, Value.int IntKind.i64 h2]), Value.int IntKind.i64 (IntKind.i64.wrap (a + (1 : Int))) = Value.int IntKind.i64 (a + (1 : Int)), lset (eBox.row r2) (0 + x.toNat * 10 + f.toNat * 2) [Value.int IntKind.i64 l1, Value.int IntKind.i64 h1] = some (eBox.row r3), (0 : Int) ≤ f ∧ f < (5 : Int), (0 : Int) ≤ x ∧ x < (n : Int), Value.agg (Array.mk [Value.int IntKind.i64 (ofLo (maxI lo lo) (minI hi a)), Value.int IntKind.i64 (ofHi (maxI lo lo) (minI hi a))]) = Value.agg (Array.mk [Value.int IntKind.i64 l1, Value.int IntKind.i64 h1]), lset (eBox.row r1) (0 + y.toNat * 10) bo.cs = some (eBox.row r2), (0 : Int) ≤ y ∧ y < (n : Int), lset (eBox.row r) (0 + x.toNat * 10) bo.cs = some (eBox.row r1), (0 : Int) ≤ x ∧ x < (n : Int), readPart Try.prog 25 (eBox.row r) (0 + ((i : Int)).toNat * 10) = some (Value.agg (Array.mk [Value.int IntKind.i64 bo.a0, Value.int IntKind.i64 bo.b0, Value.int IntKind.i64 bo.a1, Value.int IntKind.i64 bo.b1, Value.int IntKind.i64 bo.a2, Value.int IntKind.i64 bo.b2, Value.int IntKind.i64 bo.a3, Value.int IntKind.i64 bo.b3, Value.int IntKind.i64 bo.a4, Value.int IntKind.i64 bo.b4])), (0 : Int) ≤ (i : Int) ∧ (i : Int) < (n : Int), readPart Try.prog 25 (eBox.row r) (0 + ((i : Int)).toNat * 10) = some (Value.agg (Array.mk [Value.int IntKind.i64 bo.a0, Value.int IntKind.i64 bo.b0, Value.int IntKind.i64 bo.a1, Value.int IntKind.i64 bo.b1, Value.int IntKind.i64 bo.a2, Value.int IntKind.i64 bo.b2, Value.int IntKind.i64 bo.a3, Value.int IntKind.i64 bo.b3, Value.int IntKind.i64 bo.a4, Value.int IntKind.i64 bo.b4])), (0 : Int) ≤ (i : Int) ∧ (i : Int) < (n : Int), readPart Try.prog 23 (eBox.row r) (0 + ((i : Int)).toNat * 10 + f.toNat * 2) = some (Value.agg (Array.mk [Value.int IntKind.i64 lo, Value.int IntKind.i64 hi])), (0 : Int) ≤ f ∧ f < (5 : Int), (0 : Int) ≤ (i : Int) ∧ (i : Int) < (n : Int), Value.tuple (Array.mk [Value.agg (Array.mk [Value.bool (okB w && lfB w), Value.int IntKind.i64 (sV w), Value.int IntKind.i64 (sF w), Value.int IntKind.i64 (sA w), Value.int IntKind.i64 (sX w), Value.int IntKind.i64 (sY w)]), Value.bool (okB w)]) = Value.tuple (Array.mk [Value.agg (Array.mk [Value.bool false, Value.int IntKind.i64 ((0 : Int)), Value.int IntKind.i64 f, Value.int IntKind.i64 a, Value.int IntKind.i64 x, Value.int IntKind.i64 y]), Value.bool true]), U64 w, readPart Try.prog 83 cs (o + ((i : Int)).toNat * 1) = some (Value.int IntKind.u64 w), (0 : Int) ≤ (i : Int) ∧ (i : Int) < (n : Int), decide ((↑i : Int) < (↑n : Int)) = true])) (hK : ∀ zz, (fLs 21 cs o n c Q).inv 1 zz → ltO ((fLs 21 cs o n c Q).mu 1 zz) (some (n - i)) → Sat E (mkLp (lp Try.f26 0) J) ((fLs 21 cs o n c Q).st 1 zz)) : Sat E (inLp (lp Try.f26 0) J) ((fLs 21 cs o n c Q).st 1 ⟨i, r, out⟩) :=
  by_to (T := auto0 t_ls) (h := hints [(8, 1, {p := true}), (8, 2, {o := some (.int .u64 w)}), (9, 1, {v := some (.tuple ⟨[nd false 0 f a x y, .bool true]⟩)}), (13, 4, {p := true}), (13, 5, {p := true}), (13, 6, {o := some (.agg ⟨[.int .i64 lo, .int .i64 hi]⟩)}), (14, 8, {p := true}), (14, 9, {o := some (.agg ⟨bo.cs⟩)}), (14, 12, {p := true}), (14, 13, {o := some (.agg ⟨bo.cs⟩)}), (14, 14, {p := true}), (14, 15, {c := some (eBox.row r1)}), (14, 16, {p := true}), (14, 17, {c := some (eBox.row r2)}), (15, 11, {v := some (.agg ⟨[.int .i64 l1, .int .i64 h1]⟩)}), (15, 12, {p := true}), (15, 13, {p := true}), (15, 14, {c := some (eBox.row r3)}), (16, 8, {v := some (.int .i64 (a + 1))}), (16, 12, {v := some (.agg ⟨[.int .i64 l2, .int .i64 h2]⟩)}), (16, 13, {p := true}), (16, 14, {p := true}), (16, 15, {c := some (eBox.row r4)}), (17, 0, {v := some (.int .i64 ((i + 1 : Nat) : Int))})]) (ws := [.b true]) (i0 := ⟨i + 1, r4, out⟩) hE hm (auto0_ok t_ls_ok) hL (by kernel_rfl) hob hK
theorem rlE1 (cs : List Value) (o n c : Nat) (Q : Nat → LS → Prop) (i : Nat) (r : List Bx) (out : List Pc) (bo : Bx) (w v : Int) (J : Act → World → Prop) {E : Env} {rv : Value} {rhs : List Nat} {rhv : List Blk} (hE : EnvOK E Try.prog Try.f26 2 1 rv rhs rhv) (hL : (fLs 21 cs o n c Q).OK 1) (hob : all ([SameK (mkLp (lp Try.f26 0) J) (mkLp (lp Try.f26 0) J), Enter (fLs 21 cs o n c Q) 1 (some (n - i)) [Value.slice (some (Addr.mk 10 0 none)) n n, Value.slice (some (Addr.mk 13 0 none)) out.length 1267650600228229401496703205376, Value.slice (some (Addr.mk 0 o none)) n c, Value.int IntKind.i64 ((n : Int)), Value.int IntKind.i64 (Int.ofNat i.succ)] [Blk.ro cs, Blk.cells (eBox.row r) 25, Blk.vec (ePc.row out) 27 11] [(10, 10), (13, 13), (0, 0)], Value.int IntKind.i64 (IntKind.i64.wrap (Int.ofNat i.succ)) = Value.int IntKind.i64 (Int.ofNat i.succ), Value.bool (emptyB bo.a0 bo.b0 bo.a1 bo.b1 bo.a2 bo.b2 bo.a3 bo.b3 bo.a4 bo.b4) = Value.bool true, readPart Try.prog 25 (eBox.row r) (0 + ((i : Int)).toNat * 10) = some (Value.agg (Array.mk [Value.int IntKind.i64 bo.a0, Value.int IntKind.i64 bo.b0, Value.int IntKind.i64 bo.a1, Value.int IntKind.i64 bo.b1, Value.int IntKind.i64 bo.a2, Value.int IntKind.i64 bo.b2, Value.int IntKind.i64 bo.a3, Value.int IntKind.i64 bo.b3, Value.int IntKind.i64 bo.a4, Value.int IntKind.i64 bo.b4])), (0 : Int) ≤ (i : Int) ∧ (i : Int) < (n : Int), Value.tuple (Array.mk [Value.agg (Array.mk [Value.bool (okB w && lfB w), Value.int IntKind.i64 (sV w), Value.int IntKind.i64 (sF w), Value.int IntKind.i64 (sA w), Value.int IntKind.i64 (sX w), Value.int IntKind.i64 (sY w)]), Value.bool (okB w)]) = Value.tuple (Array.mk [Value.agg (Array.mk [Value.bool true, Value.int IntKind.i64 v, Value.int IntKind.i64 ((0 : Int)), Value.int IntKind.i64 ((0 : Int)), Value.int IntKind.i64 ((0 : Int)), Value.int IntKind.i64 ((0 : Int))]), Value.bool true]), U64 w, readPart Try.prog 83 cs (o + ((i : Int)).toNat * 1) = some (Value.int IntKind.u64 w), (0 : Int) ≤ (i : Int) ∧ (i : Int) < (n : Int), decide ((↑i : Int) < (↑n : Int)) = true])) (hK : ∀ zz, (fLs 21 cs o n c Q).inv 1 zz → ltO ((fLs 21 cs o n c Q).mu 1 zz) (some (n - i)) → Sat E (mkLp (lp Try.f26 0) J) ((fLs 21 cs o n c Q).st 1 zz)) : Sat E (inLp (lp Try.f26 0) J) ((fLs 21 cs o n c Q).st 1 ⟨i, r, out⟩) :=
  by_to (T := auto0 t_ls) (h := hints [(8, 1, {p := true}), (8, 2, {o := some (.int .u64 w)}), (9, 1, {v := some (.tuple ⟨[nd true v 0 0 0 0, .bool true]⟩)}), (11, 2, {p := true}), (11, 3, {o := some (.agg ⟨bo.cs⟩)}), (11, 4, {v := some (.bool true)}), (17, 0, {v := some (.int .i64 ((i + 1 : Nat) : Int))})]) (ws := [.b true]) (i0 := ⟨i + 1, r, out⟩) hE hm (auto0_ok t_ls_ok) hL (by kernel_rfl) hob hK
theorem rlF1 (cs : List Value) (o n c : Nat) (Q : Nat → LS → Prop) (i : Nat) (r : List Bx) (out : List Pc) (bo : Bx) (out2 : List Pc) (w v : Int) (J : Act → World → Prop) {E : Env} {rv : Value} {rhs : List Nat} {rhv : List Blk} (hE : EnvOK E Try.prog Try.f26 2 1 rv rhs rhv) (hL : (fLs 21 cs o n c Q).OK 1) (hob : all ([SameK (mkLp (lp Try.f26 0) J) (mkLp (lp Try.f26 0) J), Enter (fLs 21 cs o n c Q) 1 (some (n - i)) [Value.slice (some (Addr.mk 10 0 none)) n n, Value.slice (some (Addr.mk 262 0 none)) (out.length + 1) 1267650600228229401496703205376, Value.slice (some (Addr.mk 0 o none)) n c, Value.int IntKind.i64 ((n : Int)), Value.int IntKind.i64 (Int.ofNat i.succ)] [Blk.ro cs, Blk.cells (eBox.row r) 25, Blk.vec (ePc.row out2) 27 11] [(10, 10), (13, 262), (0, 0)], Value.int IntKind.i64 (IntKind.i64.wrap (Int.ofNat i.succ)) = Value.int IntKind.i64 (Int.ofNat i.succ), AppOK (some (Blk.vec (ePc.row out) 27 11)) out.length 1267650600228229401496703205376 11 88 1 [Value.int IntKind.i64 bo.a0, Value.int IntKind.i64 bo.b0, Value.int IntKind.i64 bo.a1, Value.int IntKind.i64 bo.b1, Value.int IntKind.i64 bo.a2, Value.int IntKind.i64 bo.b2, Value.int IntKind.i64 bo.a3, Value.int IntKind.i64 bo.b3, Value.int IntKind.i64 bo.a4, Value.int IntKind.i64 bo.b4, Value.int IntKind.i64 v] 0 (ePc.row out2), readPart Try.prog 25 (eBox.row r) (0 + ((i : Int)).toNat * 10) = some (Value.agg (Array.mk [Value.int IntKind.i64 bo.a0, Value.int IntKind.i64 bo.b0, Value.int IntKind.i64 bo.a1, Value.int IntKind.i64 bo.b1, Value.int IntKind.i64 bo.a2, Value.int IntKind.i64 bo.b2, Value.int IntKind.i64 bo.a3, Value.int IntKind.i64 bo.b3, Value.int IntKind.i64 bo.a4, Value.int IntKind.i64 bo.b4])), (0 : Int) ≤ (i : Int) ∧ (i : Int) < (n : Int), Value.bool (emptyB bo.a0 bo.b0 bo.a1 bo.b1 bo.a2 bo.b2 bo.a3 bo.b3 bo.a4 bo.b4) = Value.bool false, readPart Try.prog 25 (eBox.row r) (0 + ((i : Int)).toNat * 10) = some (Value.agg (Array.mk [Value.int IntKind.i64 bo.a0, Value.int IntKind.i64 bo.b0, Value.int IntKind.i64 bo.a1, Value.int IntKind.i64 bo.b1, Value.int IntKind.i64 bo.a2, Value.int IntKind.i64 bo.b2, Value.int IntKind.i64 bo.a3, Value.int IntKind.i64 bo.b3, Value.int IntKind.i64 bo.a4, Value.int IntKind.i64 bo.b4])), (0 : Int) ≤ (i : Int) ∧ (i : Int) < (n : Int), Value.tuple (Array.mk [Value.agg (Array.mk [Value.bool (okB w && lfB w), Value.int IntKind.i64 (sV w), Value.int IntKind.i64 (sF w), Value.int IntKind.i64 (sA w), Value.int IntKind.i64 (sX w), Value.int IntKind.i64 (sY w)]), Value.bool (okB w)]) = Value.tuple (Array.mk [Value.agg (Array.mk [Value.bool true, Value.int IntKind.i64 v, Value.int IntKind.i64 ((0 : Int)), Value.int IntKind.i64 ((0 : Int)), Value.int IntKind.i64 ((0 : Int)), Value.int IntKind.i64 ((0 : Int))]), Value.bool true]), U64 w, readPart Try.prog 83 cs (o + ((i : Int)).toNat * 1) = some (Value.int IntKind.u64 w), (0 : Int) ≤ (i : Int) ∧ (i : Int) < (n : Int), decide ((↑i : Int) < (↑n : Int)) = true])) (hK : ∀ zz, (fLs 21 cs o n c Q).inv 1 zz → ltO ((fLs 21 cs o n c Q).mu 1 zz) (some (n - i)) → Sat E (mkLp (lp Try.f26 0) J) ((fLs 21 cs o n c Q).st 1 zz)) : Sat E (inLp (lp Try.f26 0) J) ((fLs 21 cs o n c Q).st 1 ⟨i, r, out⟩) :=
  by_to (T := auto0 t_ls) (h := hints [(8, 1, {p := true}), (8, 2, {o := some (.int .u64 w)}), (9, 1, {v := some (.tuple ⟨[nd true v 0 0 0 0, .bool true]⟩)}), (11, 2, {p := true}), (11, 3, {o := some (.agg ⟨bo.cs⟩)}), (11, 4, {v := some (.bool false)}), (12, 3, {p := true}), (12, 4, {o := some (.agg ⟨bo.cs⟩)}), (12, 9, {c := some (ePc.row out2)}), (17, 0, {v := some (.int .i64 ((i + 1 : Nat) : Int))})]) (ws := [.b true]) (i0 := ⟨i + 1, r, out2⟩) hE hm (auto0_ok t_ls_ok) hL (by kernel_rfl) hob hK
theorem rlX0 (cs : List Value) (o n c : Nat) (Q : Nat → LS → Prop) (i : Nat) (r : List Bx) (J : Act → World → Prop) {E : Env} (hE : EnvOK E Try.prog Try.f26 2 1 (.slice none 0 0) [] []) (hob : all ([Back (Value.slice none 0 0) (Value.slice none 0 0) [] [] [], decide ((↑i : Int) < (↑n : Int)) = false])) : Sat E (inLp (lp Try.f26 0) J) ((fLs 21 cs o n c Q).st 0 ⟨i, r, []⟩) :=
  by_ret (T := auto0 t_ls) (h := hints []) (ws := [.b false]) (nx' := 101) hE hm (auto0_ok t_ls_ok) (by omega) (by simp) (by simp) (by kernel_rfl) hob
theorem rlX1 (cs : List Value) (o n c : Nat) (Q : Nat → LS → Prop) (i : Nat) (r : List Bx) (out : List Pc) (J : Act → World → Prop) {E : Env} (hE : EnvOK E Try.prog Try.f26 2 1 (.slice (some ⟨100, 0, none⟩) out.length mk) [100] [.vec (ePc.row out) 27 11]) (hob : all ([Back (Value.slice (some (Addr.mk 13 0 none)) out.length 1267650600228229401496703205376) (Value.slice (some (Addr.mk 100 0 none)) out.length 1267650600228229401496703205376) [Blk.vec (ePc.row out) 27 11] [Blk.vec (ePc.row out) 27 11] [(100, 13)], decide ((↑i : Int) < (↑n : Int)) = false])) : Sat E (inLp (lp Try.f26 0) J) ((fLs 21 cs o n c Q).st 1 ⟨i, r, out⟩) :=
  by_ret (T := auto0 t_ls) (h := hints []) (ws := [.b false]) (nx' := 101) hE hm (auto0_ok t_ls_ok) (by omega) (by simp) (by intro x hx; simp at hx; subst hx; exact Blk.plain.namesLt (b := .vec _ _ _) (Elt.row_pl _) _) (by kernel_rfl) hob
end Go.Proofs.Ythbaccmhdffjdaa.Tr


set_option linter.unusedVariables false
set_option linter.unusedSimpArgs false
set_option maxRecDepth 100000
namespace Go.Proofs.Ythbaccmhdffjdaa.Tr
open Go Go.RowKit Go.Proofs.Ythbaccmhdffjdaa.Ev Go.Proofs.Ythbaccmhdffjdaa.NodeE Go.Proofs.Ythbaccmhdffjdaa.Tr Go.Proofs.Ythbaccmhdffjdaa.BoxF

/-! ### The plain law -/
def _root_.Go.Proofs.Ythbaccmhdffjdaa.Ev.Bx.zero : Bx := ⟨0, 0, 0, 0, 0, 0, 0, 0, 0, 0⟩
def _root_.Go.Proofs.Ythbaccmhdffjdaa.Ev.Bx.emp (x : Bx) : Bool := emptyB x.a0 x.b0 x.a1 x.b1 x.a2 x.b2 x.a3 x.b3 x.a4 x.b4
/-- One node: where a box goes. -/
def bxS (i : Nat) (w : Int) (s : List Bx × List Pc) : List Bx × List Pc :=
  bif lfB w then (s.1, bif (s.1.getD i Bx.zero).emp then s.2 else s.2 ++ [⟨s.1.getD i Bx.zero, low32 w⟩])
  else ((s.1.set (uX w).toNat ((s.1.getD i Bx.zero).low (uF w) (low32 w))).set (uY w).toNat ((s.1.getD i Bx.zero).high (uF w) (low32 w)), s.2)
def bxGo : Nat → List Int → List Bx × List Pc → List Bx × List Pc
  | _, [], s => s
  | i, w :: ws, s => bxGo (i + 1) ws (bxS i w s)
theorem bxGo_app : ∀ (l m : List Int) (i : Nat) (s : List Bx × List Pc), bxGo i (l ++ m) s = bxGo (i + l.length) m (bxGo i l s)
  | [], m, i, s => rfl
  | w :: l, m, i, s => by
    simp only [List.cons_append, bxGo, bxGo_app l m (i + 1), List.length_cons]
    rw [show i + (l.length + 1) = i + 1 + l.length by omega]
def bx0 (n : Nat) (b : Bx) : List Bx × List Pc := ((List.replicate n Bx.zero).set 0 b, [])
def pcsI (ws : List Int) (b : Bx) : List Pc := (bxGo 0 ws (bx0 ws.length b)).2
def listP (ws : List Int) (b : Bx) : List Pc := bif rightI ws 4 && !b.emp then pcsI ws b else []
def rlvP (ws : List Int) (b : Bx) : List Pc := bif rightI ws 4 then pcsI ws b else []
structure BsOK (n : Nat) (r : List Bx) : Prop where
  len : r.length = n
  rr : ∀ x ∈ r, x.I64s
theorem zero_ok : Bx.zero.I64s := by simp [Bx.zero, Bx.I64s, I64]
theorem cut_ok {a b n : Int} (ha : I64 a) (hb : I64 b) (hn : I64 n) (i p : Int) : I64 (cL i p a b n) ∧ I64 (cH i p a b n) ∧ I64 (dL i p a b n) ∧ I64 (dH i p a b n) := by
  simp only [cL, cH, dL, dH]
  cases p == i
  · exact ⟨ha, hb, ha, hb⟩
  · have := cut_cases a b n
    simp only [cond_true]
    unfold I64 at *
    omega
theorem low_ok {x : Bx} (h : x.I64s) {n : Int} (hn : I64 n) (p : Int) : (x.low p n).I64s ∧ (x.high p n).I64s := by
  obtain ⟨c0, c1, c2, c3, c4, c5, c6, c7, c8, c9⟩ := h
  obtain ⟨x0, x1, x2, x3⟩ := cut_ok c0 c1 hn 0 p
  obtain ⟨y0, y1, y2, y3⟩ := cut_ok c2 c3 hn 1 p
  obtain ⟨z0, z1, z2, z3⟩ := cut_ok c4 c5 hn 2 p
  obtain ⟨u0, u1, u2, u3⟩ := cut_ok c6 c7 hn 3 p
  obtain ⟨v0, v1, v2, v3⟩ := cut_ok c8 c9 hn 4 p
  exact ⟨⟨x0, x1, y0, y1, z0, z1, u0, u1, v0, v1⟩, ⟨x2, x3, y2, y3, z2, z3, u2, u3, v2, v3⟩⟩
theorem getB {r : List Bx} {i : Nat} (h : i < r.length) : r.getD i Bx.zero ∈ r ∧ r[i]? = some (r.getD i Bx.zero) := by
  have e : r.getD i Bx.zero = r[i] := by rw [List.getD_eq_getElem?_getD, List.getElem?_eq_getElem h]; rfl
  rw [e]
  exact ⟨List.getElem_mem h, List.getElem?_eq_getElem h⟩
theorem set_ok {n : Nat} {r : List Bx} {x : Bx} (h : BsOK n r) (hx : x.I64s) (k : Nat) : BsOK n (r.set k x) := by
  refine ⟨by rw [List.length_set]; exact h.len, fun y hy => ?_⟩
  rcases List.mem_or_eq_of_mem_set hy with hy | rfl
  · exact h.rr y hy
  · exact hx
theorem low32_64 (w : Int) : I64 (low32 w) := by
  have := low32_r w
  unfold I64
  omega
theorem bxS_ok {n i : Nat} {s : List Bx × List Pc} (w : Int) (h : BsOK n s.1) (hi : i < n) : BsOK n (bxS i w s).1 := by
  have hg := getB (r := s.1) (i := i) (by rw [h.len]; exact hi)
  obtain ⟨h1, h2⟩ := low_ok (h.rr _ hg.1) (low32_64 w) (uF w)
  simp only [bxS]
  cases lfB w
  · exact set_ok (set_ok h h1 _) h2 _
  · exact h
theorem bx0_ok (n : Nat) {b : Bx} (h : b.I64s) : BsOK n (bx0 n b).1 := by
  refine set_ok ⟨List.length_replicate, fun x hx => ?_⟩ h 0
  rw [List.eq_of_mem_replicate hx]
  exact zero_ok
/-! ### A span of a box -/
theorem sub_in {cs : List Value} {k s d m : Nat} {ys : List Value} (h : sub cs k s = some ys) (hs : k + s ≤ cs.length) (hd : d + m ≤ s) : sub cs (k + d) m = some ((ys.drop d).take m) := by
  rw [sub_of hs] at h
  injection h with h
  rw [sub_of (by omega), ← h, List.drop_take, List.drop_drop, List.take_take, Nat.min_eq_left (by omega)]
theorem span_read {r : List Bx} {i : Nat} {x : Bx} {p : Int} (hx : r[i]? = some x) (h0 : 0 ≤ p) (h5 : p < 5) : readPart Try.prog 23 (eBox.row r) (0 + (Int.ofNat i).toNat * 10 + p.toNat * 2) = some (.agg ⟨[.int .i64 (x.lo p), .int .i64 (x.hi p)]⟩) := by
  have hlt := (List.getElem?_eq_some_iff.1 hx).1
  have hs : sub (eBox.row r) (i * 10) 10 = some x.cs := by
    have := (Elt.row_sub (e := eBox) r [] hx)
    rw [List.append_nil] at this
    exact this
  have hl : i * 10 + 10 ≤ (eBox.row r).length := by rw [Elt.row_len]; show _ ≤ r.length * 10; omega
  have ha : aggT Try.prog 23 = some true := by kernel_rfl
  have hz : sizeOfT Try.prog 23 = some 2 := by kernel_rfl
  have key : ∀ d : Nat, d + 2 ≤ 10 → readPart Try.prog 23 (eBox.row r) (i * 10 + d) = some (.agg ⟨(x.cs.drop d).take 2⟩) := fun d hd => by
    simp only [readPart, ha, hz, sub_in hs hl hd]
  have e : 0 + (Int.ofNat i).toNat * 10 = i * 10 := by rw [Nat.zero_add]; rfl
  rw [e]
  have : p = 0 ∨ p = 1 ∨ p = 2 ∨ p = 3 ∨ p = 4 := by omega
  rcases this with h | h | h | h | h <;> rw [h]
  · exact key 0 (by omega)
  · exact key 2 (by omega)
  · exact key 4 (by omega)
  · exact key 6 (by omega)
  · exact key 8 (by omega)
def _root_.Go.Proofs.Ythbaccmhdffjdaa.Ev.Bx.put (x : Bx) (p l h : Int) : Bx := (x.setLo p l).setHi p h
theorem put_set (x : Bx) {p : Int} (l h : Int) (h0 : 0 ≤ p) (h5 : p < 5) : lset x.cs (p.toNat * 2) [.int .i64 l, .int .i64 h] = some (x.put p l h).cs := by
  have : p = 0 ∨ p = 1 ∨ p = 2 ∨ p = 3 ∨ p = 4 := by omega
  rcases this with h | h | h | h | h <;> rw [h] <;> simp [Bx.put, Bx.setLo, Bx.setHi, Bx.cs, lset]
theorem meet_low (a b n : Int) : ofLo (maxI a a) (minI b n) = cutLo a b n ∧ ofHi (maxI a a) (minI b n) = cutHi a b n := by
  have : maxI a a = a := by rw [maxI_eq]; omega
  rw [this]
  exact ⟨rfl, rfl⟩
theorem meet_high (a b n : Int) : ofLo (maxI a (n + 1)) (minI b b) = cutLo' a b n ∧ ofHi (maxI a (n + 1)) (minI b b) = cutHi' a b n := by
  have e : minI b b = b := by rw [minI_eq]; omega
  rw [e]
  have hm := maxI_eq a (n + 1)
  simp only [cutLo', cutHi', ofLo, ofHi, cond_eq_ite, decide_eq_true_eq]
  constructor <;> (repeat' split) <;> omega
theorem low_put (x : Bx) {p : Int} (n : Int) (h0 : 0 ≤ p) (h5 : p < 5) : x.low p n = x.put p (cutLo (x.lo p) (x.hi p) n) (cutHi (x.lo p) (x.hi p) n) ∧ x.high p n = x.put p (cutLo' (x.lo p) (x.hi p) n) (cutHi' (x.lo p) (x.hi p) n) := by
  have : p = 0 ∨ p = 1 ∨ p = 2 ∨ p = 3 ∨ p = 4 := by omega
  rcases this with h | h | h | h | h <;> rw [h] <;> simp [Bx.put, Bx.setLo, Bx.setHi, Bx.lo, Bx.hi, Bx.low, Bx.high, cL, cH, dL, dH]

def lsQ (n : Nat) (ws : List Int) (b : Bx) : Nat → LS → Prop := fun z s => s.i ≤ n ∧ BsOK n s.r ∧ (s.r, s.out) = bxGo 0 (ws.take s.i) (bx0 n b) ∧ s.out.length ≤ s.i ∧ ((z = 0 ∧ s.out = []) ∨ (z = 1 ∧ s.out ≠ []))

theorem lset_all (cs vs : List Value) (h : cs.length = vs.length) : lset cs 0 vs = some vs := by
  rw [lset_of (by omega), List.take_zero, List.nil_append, Nat.zero_add, List.drop_of_length_le (by omega), List.append_nil]

theorem ls_loop {cs : List Value} {o n c : Nat} {b : Bx} (hr : eWord.Row cs o n) (hpl : ∀ x ∈ cs, leafG x = true) (hU : ∀ w ∈ eWord.list cs o n, U64 w) (hn : n ≤ 65536) (hR : rightI (eWord.list cs o n) 4 = true) (hb : b.I64s) (hem : b.emp = false) {E : Env} {rv : Value} {rhs : List Nat} {rhv : List Blk} (hE : EnvOK E Try.prog Try.f23 2 1 rv rhs rhv)
    (hX0 : pcsI (eWord.list cs o n) b = [] → ∀ r J, Sat E (inLp (lp Try.f23 0) J) ((fLs 24 cs o n c (lsQ n (eWord.list cs o n) b)).st 0 ⟨n, r, []⟩)) (hX1 : pcsI (eWord.list cs o n) b ≠ [] → ∀ r J, Sat E (inLp (lp Try.f23 0) J) ((fLs 24 cs o n c (lsQ n (eWord.list cs o n) b)).st 1 ⟨n, r, pcsI (eWord.list cs o n) b⟩)) :
    Sat E [.code (bodyOf Try.f23)] (st0 Try.f23 [.slice (some ⟨0, o, none⟩) n c, .agg ⟨b.cs⟩] (roRows [cs]) 1) := by
  have okL := fLs_ok 24 cs o n c (lsQ n (eWord.list cs o n) b) hpl
  have hQ : ∀ z s, (s.i ≤ n ∧ BsOK n s.r ∧ (s.r, s.out) = bxGo 0 ((eWord.list cs o n).take s.i) (bx0 n b) ∧ s.out.length ≤ s.i ∧ ((z = 0 ∧ s.out = []) ∨ (z = 1 ∧ s.out ≠ []))) → (fLs 24 cs o n c (lsQ n (eWord.list cs o n) b)).inv z s := fun z s h => h
  have hlen : (eWord.list cs o n).length = n := Elt.list_len _ _ _
  have hUl : ∀ w ∈ eWord.list cs o n, U64 w := hU
  have hr1 : Value.bool (rightI (eWord.list cs o n) 4) = .bool true := by rw [hR]
  generalize hws : eWord.list cs o n = ws at hU hlen hR hX0 hX1
  obtain ⟨⟨hn1, hn31⟩, hgood, hone⟩ := right_parts.1 hR
  have rnr : ∀ f : Nat → Nat, Blk.rnB f (.ro cs) = .ro cs := fun f => Blk.plain.rnB (b := .ro cs) hpl f
  rw [hws] at hQ okL
  have hz : repl [.int .i64 0, .int .i64 0, .int .i64 0, .int .i64 0, .int .i64 0, .int .i64 0, .int .i64 0, .int .i64 0, .int .i64 0, .int .i64 0] n = eBox.row (List.replicate n Bx.zero) := repl_row (e := eBox) (x := Bx.zero) rfl _
  have hst : lset (eBox.row (List.replicate n Bx.zero)) 0 b.cs = some (eBox.row ((List.replicate n Bx.zero).set 0 b)) := lsetE (e := eBox) (l := List.replicate n Bx.zero) (k := 0) (f := 0) (x := b) (y := Bx.zero) (by rw [List.getElem?_replicate, if_pos (by omega)]) (lset_all _ _ rfl) (by simp)
  have rni : ∀ (f : Nat → Nat) (l : List Bx), Blk.rnB f (.cells (eBox.row l) 25) = .cells (eBox.row l) 25 := fun f l => Blk.plain.rnB (b := .cells (eBox.row l) 25) (Elt.row_pl _) f
  have rnv : ∀ (f : Nat → Nat) (l : List Pc), Blk.rnB f (.vec (ePc.row l) 27 11) = .vec (ePc.row l) 27 11 := fun f l => Blk.plain.rnB (b := .vec (ePc.row l) 27 11) (Elt.row_pl _) f
  refine lsIn cs o n c (lsQ n ws b) b (List.replicate n Bx.zero) ((List.replicate n Bx.zero).set 0 b) hE okL ⟨rfl, ⟨⟨0, (List.replicate n Bx.zero).set 0 b, []⟩, hQ 0 ⟨0, _, []⟩ ⟨Nat.zero_le _, bx0_ok n hb, rfl, Nat.le_refl _, Or.inl ⟨rfl, rfl⟩⟩, trivial, rfl, (by first | (simp only [fLs, ouV, List.map_cons, List.map_nil, rnr, rni, rnv]) | (simp only [fLs, List.map_cons, List.map_nil, rnr, rni]))⟩, hst, ⟨by decide, by omega⟩, ⟨rfl, Int.natCast_nonneg _, by show (n : Int) ≤ _; omega, by show (80 : Int) * (n : Int) ≤ _; omega, hz.symm⟩, (congrArg Value.bool hem), hr1, plain1 hpl, hr, hUl, hn, trivial⟩ fun zz hz _ => by_loop (fLs 24 cs o n c (lsQ n ws b)) (lp Try.f23 0) ?_ 0 zz hz
  rintro z ⟨i, r, out⟩ hinv J hJ
  have hinv : i ≤ n ∧ BsOK n r ∧ (r, out) = bxGo 0 (ws.take i) (bx0 n b) ∧ out.length ≤ i ∧ ((z = 0 ∧ out = []) ∨ (z = 1 ∧ out ≠ [])) := hinv
  obtain ⟨k1, k2, k3, k4, k5⟩ := hinv
  have hJ' : ∀ b' zz, (fLs 24 cs o n c (lsQ n ws b)).inv b' zz → ltO ((fLs 24 cs o n c (lsQ n ws b)).mu b' zz) (some (n - i)) → Sat E (mkLp (lp Try.f23 0) J) ((fLs 24 cs o n c (lsQ n ws b)).st b' zz) := fun b' zz h1 h2 => hJ b' zz h1 h2
  have hrl : r.length = n := k2.len
  by_cases hin : i < n
  · have hlt : decide ((i : Int) < (n : Int)) = true := decide_eq_true (by omega)
    obtain ⟨w, hw⟩ : ∃ w, ws[i]? = some w := ⟨_, List.getElem?_eq_getElem (by rw [hlen]; omega)⟩
    have hrd := hr.read1 (P := Try.prog) (ty := 83) (by kernel_rfl) rfl (i := i) (x := w) (by rw [hws]; exact hw) rfl rfl
    rw [← Nat.mul_one i] at hrd
    have htk : ws.take (i + 1) = ws.take i ++ [w] := by rw [List.take_add_one, hw]; rfl
    have ho := right_ok hR w (List.mem_of_getElem? hw)
    have htl : (ws.take i).length = i := by rw [List.length_take, hlen]; omega
    have hmu : n - (i + 1) < n - i := by omega
    obtain ⟨g1, g2⟩ := getB (r := r) (i := i) (by omega)
    have gI := k2.rr _ g1
    have hnx : bxGo 0 (ws.take (i + 1)) (bx0 n b) = bxS i w (r, out) := by rw [htk, bxGo_app, ← k3, htl, Nat.zero_add]; rfl
    have hok := bxS_ok (s := (r, out)) w k2 hin
    cases hl : lfB w
    · obtain ⟨_, d1, d2, d3, d4, d5, d6⟩ := good_inner (hgood i w hw) hl
      obtain ⟨⟨d0, _⟩, _⟩ := inner_bounds ho hl
      have d0b : uF w < 5 := by omega
      rw [hlen] at d5 d6
      obtain ⟨X, hX⟩ := Int.eq_ofNat_of_zero_le (show 0 ≤ uX w by omega)
      obtain ⟨Y, hY⟩ := Int.eq_ofNat_of_zero_le (show 0 ≤ uY w by omega)
      have hun := unp_inner ho hl
      rw [hX, hY] at hun
      have s1 := lsetE (e := eBox) (l := r) (k := X) (f := 0) (o := 0 + X * 10) (x := (r.getD i Bx.zero).low (uF w) (low32 w)) (vs := ((r.getD i Bx.zero).low (uF w) (low32 w)).cs) (List.getElem?_eq_getElem (by omega)) (lset_all _ _ rfl) (by show _ = _ * 10 + 0; omega)
      have s2 := lsetE (e := eBox) (l := r.set X ((r.getD i Bx.zero).low (uF w) (low32 w))) (k := Y) (f := 0) (o := 0 + Y * 10) (x := (r.getD i Bx.zero).high (uF w) (low32 w)) (vs := ((r.getD i Bx.zero).high (uF w) (low32 w)).cs) (List.getElem?_eq_getElem (by rw [List.length_set]; omega)) (lset_all _ _ rfl) (by show _ = _ * 10 + 0; omega)
      have hdS : bxS i w (r, out) = ((r.set X ((r.getD i Bx.zero).low (uF w) (low32 w))).set Y ((r.getD i Bx.zero).high (uF w) (low32 w)), out) := by
        simp only [bxS, hl, cond_false, hX, hY, Int.toNat_natCast]
      rw [hdS] at hnx hok
      rcases k5 with ⟨rfl, ko⟩ | ⟨rfl, ko⟩
      · subst ko
        exact lsI0 cs o n c (lsQ n ws b) i r (r.getD i Bx.zero) _ _ _ _ w (uF w) (low32 w) X Y J hE okL ⟨rfl, ⟨⟨i + 1, _, []⟩, hQ 0 ⟨i + 1, _, []⟩ ⟨hin, hok, hnx.symm, (by simp only [List.length_nil] at *; show _ ≤ i + 1; first | omega | exact Nat.zero_le _), Or.inl ⟨rfl, rfl⟩⟩, hmu, rfl, (by first | (simp only [fLs, ouV, List.map_cons, List.map_nil, rnr, rni, rnv]) | (simp only [fLs, List.map_cons, List.map_nil, rnr, rni]))⟩, i64_succ (by omega), s2, ⟨Int.natCast_nonneg _, Int.ofNat_lt.2 (by omega)⟩, s1, ⟨Int.natCast_nonneg _, Int.ofNat_lt.2 (by omega)⟩, rfl, low32_64 w, gI.2.1.2, gI.2.2.2.1.2, gI.2.2.2.2.2.1.2, gI.2.2.2.2.2.2.2.1.2, gI.2.2.2.2.2.2.2.2.2.2, read_row (e := eBox) (by kernel_rfl) (by kernel_rfl) g2, ⟨Int.natCast_nonneg _, Int.ofNat_lt.2 hin⟩, hun, hU w (List.mem_of_getElem? hw), hrd, ⟨Int.natCast_nonneg _, Int.ofNat_lt.2 hin⟩, hlt, trivial⟩ (hJ' 0)
      · exact lsI1 cs o n c (lsQ n ws b) i r out (r.getD i Bx.zero) _ _ _ _ w (uF w) (low32 w) X Y J hE okL ⟨rfl, ⟨⟨i + 1, _, out⟩, hQ 1 ⟨i + 1, _, out⟩ ⟨hin, hok, hnx.symm, (by simp only [List.length_nil] at *; show _ ≤ i + 1; first | omega | exact Nat.zero_le _), Or.inr ⟨rfl, ko⟩⟩, hmu, rfl, (by first | (simp only [fLs, ouV, List.map_cons, List.map_nil, rnr, rni, rnv]) | (simp only [fLs, List.map_cons, List.map_nil, rnr, rni]))⟩, i64_succ (by omega), s2, ⟨Int.natCast_nonneg _, Int.ofNat_lt.2 (by omega)⟩, s1, ⟨Int.natCast_nonneg _, Int.ofNat_lt.2 (by omega)⟩, rfl, low32_64 w, gI.2.1.2, gI.2.2.2.1.2, gI.2.2.2.2.2.1.2, gI.2.2.2.2.2.2.2.1.2, gI.2.2.2.2.2.2.2.2.2.2, read_row (e := eBox) (by kernel_rfl) (by kernel_rfl) g2, ⟨Int.natCast_nonneg _, Int.ofNat_lt.2 hin⟩, hun, hU w (List.mem_of_getElem? hw), hrd, ⟨Int.natCast_nonneg _, Int.ofNat_lt.2 hin⟩, hlt, trivial⟩ (hJ' 1)
    · cases he : (r.getD i Bx.zero).emp
      · have hdS : bxS i w (r, out) = (r, out ++ [⟨r.getD i Bx.zero, low32 w⟩]) := by simp only [bxS, hl, he, cond_true, cond_false]
        rw [hdS] at hnx hok
        rcases k5 with ⟨rfl, ko⟩ | ⟨rfl, ko⟩
        · subst ko
          exact lsF0 cs o n c (lsQ n ws b) i r (r.getD i Bx.zero) [(⟨r.getD i Bx.zero, low32 w⟩ : Pc)] w (low32 w) J hE okL ⟨rfl, ⟨⟨i + 1, r, [(⟨r.getD i Bx.zero, low32 w⟩ : Pc)]⟩, hQ 1 ⟨i + 1, r, [(⟨r.getD i Bx.zero, low32 w⟩ : Pc)]⟩ ⟨hin, hok, hnx.symm, (by simp; try omega), Or.inr ⟨rfl, by simp⟩⟩, hmu, rfl, (by first | (simp only [fLs, ouV, List.map_cons, List.map_nil, rnr, rni, rnv]) | (simp only [fLs, List.map_cons, List.map_nil, rnr, rni]))⟩, i64_succ (by omega), appOK_nil (e := ePc) (new := [(⟨r.getD i Bx.zero, low32 w⟩ : Pc)]) rfl rfl rfl rfl (by decide) (by decide) (by decide), read_row (e := eBox) (by kernel_rfl) (by kernel_rfl) g2, ⟨Int.natCast_nonneg _, Int.ofNat_lt.2 hin⟩, (congrArg Value.bool he), read_row (e := eBox) (by kernel_rfl) (by kernel_rfl) g2, ⟨Int.natCast_nonneg _, Int.ofNat_lt.2 hin⟩, unp_leaf ho hl, hU w (List.mem_of_getElem? hw), hrd, ⟨Int.natCast_nonneg _, Int.ofNat_lt.2 hin⟩, hlt, trivial⟩ (hJ' 1)
        · exact lsF1 cs o n c (lsQ n ws b) i r out (r.getD i Bx.zero) (out ++ [(⟨r.getD i Bx.zero, low32 w⟩ : Pc)]) w (low32 w) J hE okL ⟨rfl, ⟨⟨i + 1, r, (out ++ [(⟨r.getD i Bx.zero, low32 w⟩ : Pc)])⟩, hQ 1 ⟨i + 1, r, (out ++ [(⟨r.getD i Bx.zero, low32 w⟩ : Pc)])⟩ ⟨hin, hok, hnx.symm, (by simp; try omega), Or.inr ⟨rfl, by simp⟩⟩, hmu, (by simp [fLs, ouV]; first | rfl | exact ⟨rfl, rfl, rfl, rfl, rfl⟩), (by first | (simp only [fLs, ouV, List.map_cons, List.map_nil, rnr, rni, rnv]) | (simp only [fLs, List.map_cons, List.map_nil, rnr, rni]))⟩, i64_succ (by omega), appOK (e := ePc) (L := out) (new := [(⟨r.getD i Bx.zero, low32 w⟩ : Pc)]) rfl rfl rfl rfl (Nat.le_refl _) (by simp) (by decide) (by omega) (by omega), read_row (e := eBox) (by kernel_rfl) (by kernel_rfl) g2, ⟨Int.natCast_nonneg _, Int.ofNat_lt.2 hin⟩, (congrArg Value.bool he), read_row (e := eBox) (by kernel_rfl) (by kernel_rfl) g2, ⟨Int.natCast_nonneg _, Int.ofNat_lt.2 hin⟩, unp_leaf ho hl, hU w (List.mem_of_getElem? hw), hrd, ⟨Int.natCast_nonneg _, Int.ofNat_lt.2 hin⟩, hlt, trivial⟩ (hJ' 1)
      · have hdS : bxS i w (r, out) = (r, out) := by simp only [bxS, hl, he, cond_true]
        rw [hdS] at hnx hok
        rcases k5 with ⟨rfl, ko⟩ | ⟨rfl, ko⟩
        · subst ko
          exact lsE0 cs o n c (lsQ n ws b) i r (r.getD i Bx.zero) w (low32 w) J hE okL ⟨rfl, ⟨⟨i + 1, r, []⟩, hQ 0 ⟨i + 1, r, []⟩ ⟨hin, hok, hnx.symm, (by simp only [List.length_nil] at *; show _ ≤ i + 1; first | omega | exact Nat.zero_le _), Or.inl ⟨rfl, rfl⟩⟩, hmu, rfl, (by first | (simp only [fLs, ouV, List.map_cons, List.map_nil, rnr, rni, rnv]) | (simp only [fLs, List.map_cons, List.map_nil, rnr, rni]))⟩, i64_succ (by omega), (congrArg Value.bool he), read_row (e := eBox) (by kernel_rfl) (by kernel_rfl) g2, ⟨Int.natCast_nonneg _, Int.ofNat_lt.2 hin⟩, unp_leaf ho hl, hU w (List.mem_of_getElem? hw), hrd, ⟨Int.natCast_nonneg _, Int.ofNat_lt.2 hin⟩, hlt, trivial⟩ (hJ' 0)
        · exact lsE1 cs o n c (lsQ n ws b) i r out (r.getD i Bx.zero) w (low32 w) J hE okL ⟨rfl, ⟨⟨i + 1, r, out⟩, hQ 1 ⟨i + 1, r, out⟩ ⟨hin, hok, hnx.symm, (by simp only [List.length_nil] at *; show _ ≤ i + 1; first | omega | exact Nat.zero_le _), Or.inr ⟨rfl, ko⟩⟩, hmu, rfl, (by first | (simp only [fLs, ouV, List.map_cons, List.map_nil, rnr, rni, rnv]) | (simp only [fLs, List.map_cons, List.map_nil, rnr, rni]))⟩, i64_succ (by omega), (congrArg Value.bool he), read_row (e := eBox) (by kernel_rfl) (by kernel_rfl) g2, ⟨Int.natCast_nonneg _, Int.ofNat_lt.2 hin⟩, unp_leaf ho hl, hU w (List.mem_of_getElem? hw), hrd, ⟨Int.natCast_nonneg _, Int.ofNat_lt.2 hin⟩, hlt, trivial⟩ (hJ' 1)
  · obtain rfl : i = n := by omega
    rw [List.take_of_length_le (by omega)] at k3
    have hp : pcsI ws b = out := by unfold pcsI; rw [hlen, ← k3]
    rcases k5 with ⟨rfl, ko⟩ | ⟨rfl, ko⟩
    · rw [ko]
      exact hX0 (by rw [hp, ko]) r J
    · have := hX1 (by rw [hp]; exact ko) r J
      rw [hp] at this
      exact this

theorem rl_loop {cs : List Value} {o n c : Nat} {b : Bx} (hr : eWord.Row cs o n) (hpl : ∀ x ∈ cs, leafG x = true) (hU : ∀ w ∈ eWord.list cs o n, U64 w) (hn : n ≤ 65536) (hR : rightI (eWord.list cs o n) 4 = true) (hb : b.I64s) {E : Env} {rv : Value} {rhs : List Nat} {rhv : List Blk} (hE : EnvOK E Try.prog Try.f26 2 1 rv rhs rhv)
    (hX0 : pcsI (eWord.list cs o n) b = [] → ∀ r J, Sat E (inLp (lp Try.f26 0) J) ((fLs 21 cs o n c (lsQ n (eWord.list cs o n) b)).st 0 ⟨n, r, []⟩)) (hX1 : pcsI (eWord.list cs o n) b ≠ [] → ∀ r J, Sat E (inLp (lp Try.f26 0) J) ((fLs 21 cs o n c (lsQ n (eWord.list cs o n) b)).st 1 ⟨n, r, pcsI (eWord.list cs o n) b⟩)) :
    Sat E [.code (bodyOf Try.f26)] (st0 Try.f26 [.slice (some ⟨0, o, none⟩) n c, .agg ⟨b.cs⟩] (roRows [cs]) 1) := by
  have okL := fLs_ok 21 cs o n c (lsQ n (eWord.list cs o n) b) hpl
  have hQ : ∀ z s, (s.i ≤ n ∧ BsOK n s.r ∧ (s.r, s.out) = bxGo 0 ((eWord.list cs o n).take s.i) (bx0 n b) ∧ s.out.length ≤ s.i ∧ ((z = 0 ∧ s.out = []) ∨ (z = 1 ∧ s.out ≠ []))) → (fLs 21 cs o n c (lsQ n (eWord.list cs o n) b)).inv z s := fun z s h => h
  have hlen : (eWord.list cs o n).length = n := Elt.list_len _ _ _
  have hUl : ∀ w ∈ eWord.list cs o n, U64 w := hU
  have hr1 : Value.bool (rightI (eWord.list cs o n) 4) = .bool true := by rw [hR]
  generalize hws : eWord.list cs o n = ws at hU hlen hR hX0 hX1
  obtain ⟨⟨hn1, hn31⟩, hgood, hone⟩ := right_parts.1 hR
  have rnr : ∀ f : Nat → Nat, Blk.rnB f (.ro cs) = .ro cs := fun f => Blk.plain.rnB (b := .ro cs) hpl f
  rw [hws] at hQ okL
  have hz : repl [.int .i64 0, .int .i64 0, .int .i64 0, .int .i64 0, .int .i64 0, .int .i64 0, .int .i64 0, .int .i64 0, .int .i64 0, .int .i64 0] n = eBox.row (List.replicate n Bx.zero) := repl_row (e := eBox) (x := Bx.zero) rfl _
  have hst : lset (eBox.row (List.replicate n Bx.zero)) 0 b.cs = some (eBox.row ((List.replicate n Bx.zero).set 0 b)) := lsetE (e := eBox) (l := List.replicate n Bx.zero) (k := 0) (f := 0) (x := b) (y := Bx.zero) (by rw [List.getElem?_replicate, if_pos (by omega)]) (lset_all _ _ rfl) (by simp)
  have rni : ∀ (f : Nat → Nat) (l : List Bx), Blk.rnB f (.cells (eBox.row l) 25) = .cells (eBox.row l) 25 := fun f l => Blk.plain.rnB (b := .cells (eBox.row l) 25) (Elt.row_pl _) f
  have rnv : ∀ (f : Nat → Nat) (l : List Pc), Blk.rnB f (.vec (ePc.row l) 27 11) = .vec (ePc.row l) 27 11 := fun f l => Blk.plain.rnB (b := .vec (ePc.row l) 27 11) (Elt.row_pl _) f
  refine rlIn cs o n c (lsQ n ws b) b (List.replicate n Bx.zero) ((List.replicate n Bx.zero).set 0 b) hE okL ⟨rfl, ⟨⟨0, (List.replicate n Bx.zero).set 0 b, []⟩, hQ 0 ⟨0, _, []⟩ ⟨Nat.zero_le _, bx0_ok n hb, rfl, Nat.le_refl _, Or.inl ⟨rfl, rfl⟩⟩, trivial, rfl, (by first | (simp only [fLs, ouV, List.map_cons, List.map_nil, rnr, rni, rnv]) | (simp only [fLs, List.map_cons, List.map_nil, rnr, rni]))⟩, hst, ⟨by decide, by omega⟩, ⟨rfl, Int.natCast_nonneg _, by show (n : Int) ≤ _; omega, by show (80 : Int) * (n : Int) ≤ _; omega, hz.symm⟩, hr1, plain1 hpl, hr, hUl, hn, trivial⟩ fun zz hz _ => by_loop (fLs 21 cs o n c (lsQ n ws b)) (lp Try.f26 0) ?_ 0 zz hz
  rintro z ⟨i, r, out⟩ hinv J hJ
  have hinv : i ≤ n ∧ BsOK n r ∧ (r, out) = bxGo 0 (ws.take i) (bx0 n b) ∧ out.length ≤ i ∧ ((z = 0 ∧ out = []) ∨ (z = 1 ∧ out ≠ [])) := hinv
  obtain ⟨k1, k2, k3, k4, k5⟩ := hinv
  have hJ' : ∀ b' zz, (fLs 21 cs o n c (lsQ n ws b)).inv b' zz → ltO ((fLs 21 cs o n c (lsQ n ws b)).mu b' zz) (some (n - i)) → Sat E (mkLp (lp Try.f26 0) J) ((fLs 21 cs o n c (lsQ n ws b)).st b' zz) := fun b' zz h1 h2 => hJ b' zz h1 h2
  have hrl : r.length = n := k2.len
  by_cases hin : i < n
  · have hlt : decide ((i : Int) < (n : Int)) = true := decide_eq_true (by omega)
    obtain ⟨w, hw⟩ : ∃ w, ws[i]? = some w := ⟨_, List.getElem?_eq_getElem (by rw [hlen]; omega)⟩
    have hrd := hr.read1 (P := Try.prog) (ty := 83) (by kernel_rfl) rfl (i := i) (x := w) (by rw [hws]; exact hw) rfl rfl
    rw [← Nat.mul_one i] at hrd
    have htk : ws.take (i + 1) = ws.take i ++ [w] := by rw [List.take_add_one, hw]; rfl
    have ho := right_ok hR w (List.mem_of_getElem? hw)
    have htl : (ws.take i).length = i := by rw [List.length_take, hlen]; omega
    have hmu : n - (i + 1) < n - i := by omega
    obtain ⟨g1, g2⟩ := getB (r := r) (i := i) (by omega)
    have gI := k2.rr _ g1
    have hnx : bxGo 0 (ws.take (i + 1)) (bx0 n b) = bxS i w (r, out) := by rw [htk, bxGo_app, ← k3, htl, Nat.zero_add]; rfl
    have hok := bxS_ok (s := (r, out)) w k2 hin
    cases hl : lfB w
    · obtain ⟨_, d1, d2, d3, d4, d5, d6⟩ := good_inner (hgood i w hw) hl
      obtain ⟨⟨d0, _⟩, _⟩ := inner_bounds ho hl
      have d0b : uF w < 5 := by omega
      rw [hlen] at d5 d6
      obtain ⟨X, hX⟩ := Int.eq_ofNat_of_zero_le (show 0 ≤ uX w by omega)
      obtain ⟨Y, hY⟩ := Int.eq_ofNat_of_zero_le (show 0 ≤ uY w by omega)
      have hun := unp_inner ho hl
      rw [hX, hY] at hun
      have ha1 : Value.int .i64 (IntKind.i64.wrap (low32 w + 1)) = .int .i64 (low32 w + 1) := i64_id rfl (by have := low32_r w; omega) (by have := low32_r w; omega)
      have ml : Value.agg ⟨[.int .i64 (ofLo (maxI ((r.getD i Bx.zero).lo (uF w)) ((r.getD i Bx.zero).lo (uF w))) (minI ((r.getD i Bx.zero).hi (uF w)) (low32 w))), .int .i64 (ofHi (maxI ((r.getD i Bx.zero).lo (uF w)) ((r.getD i Bx.zero).lo (uF w))) (minI ((r.getD i Bx.zero).hi (uF w)) (low32 w)))]⟩ = .agg ⟨[.int .i64 (cutLo ((r.getD i Bx.zero).lo (uF w)) ((r.getD i Bx.zero).hi (uF w)) (low32 w)), .int .i64 (cutHi ((r.getD i Bx.zero).lo (uF w)) ((r.getD i Bx.zero).hi (uF w)) (low32 w))]⟩ := by
        rw [(meet_low _ _ _).1, (meet_low _ _ _).2]
      have mh : Value.agg ⟨[.int .i64 (ofLo (maxI ((r.getD i Bx.zero).lo (uF w)) (low32 w + 1)) (minI ((r.getD i Bx.zero).hi (uF w)) ((r.getD i Bx.zero).hi (uF w)))), .int .i64 (ofHi (maxI ((r.getD i Bx.zero).lo (uF w)) (low32 w + 1)) (minI ((r.getD i Bx.zero).hi (uF w)) ((r.getD i Bx.zero).hi (uF w))))]⟩ = .agg ⟨[.int .i64 (cutLo' ((r.getD i Bx.zero).lo (uF w)) ((r.getD i Bx.zero).hi (uF w)) (low32 w)), .int .i64 (cutHi' ((r.getD i Bx.zero).lo (uF w)) ((r.getD i Bx.zero).hi (uF w)) (low32 w))]⟩ := by
        rw [(meet_high _ _ _).1, (meet_high _ _ _).2]
      have hXY : X ≠ Y := by omega
      have s1 := lsetE (e := eBox) (l := r) (k := X) (f := 0) (o := 0 + X * 10) (x := r.getD i Bx.zero) (vs := (r.getD i Bx.zero).cs) (List.getElem?_eq_getElem (by omega)) (lset_all _ _ rfl) (by show _ = _ * 10 + 0; omega)
      have s2 := lsetE (e := eBox) (l := r.set X (r.getD i Bx.zero)) (k := Y) (f := 0) (o := 0 + Y * 10) (x := r.getD i Bx.zero) (vs := (r.getD i Bx.zero).cs) (List.getElem?_eq_getElem (by rw [List.length_set]; omega)) (lset_all _ _ rfl) (by show _ = _ * 10 + 0; omega)
      have s3 := lsetE (e := eBox) (l := (r.set X (r.getD i Bx.zero)).set Y (r.getD i Bx.zero)) (k := X) (f := (uF w).toNat * 2) (o := 0 + X * 10 + (uF w).toNat * 2) (y := r.getD i Bx.zero) (by rw [List.getElem?_set_ne (by omega), List.getElem?_set_self (by omega)]) (put_set (r.getD i Bx.zero) (cutLo ((r.getD i Bx.zero).lo (uF w)) ((r.getD i Bx.zero).hi (uF w)) (low32 w)) (cutHi ((r.getD i Bx.zero).lo (uF w)) ((r.getD i Bx.zero).hi (uF w)) (low32 w)) d0 d0b) (by show _ = _ * 10 + _; omega)
      have s4 := lsetE (e := eBox) (l := (((r.set X (r.getD i Bx.zero)).set Y (r.getD i Bx.zero)).set X ((r.getD i Bx.zero).put (uF w) (cutLo ((r.getD i Bx.zero).lo (uF w)) ((r.getD i Bx.zero).hi (uF w)) (low32 w)) (cutHi ((r.getD i Bx.zero).lo (uF w)) ((r.getD i Bx.zero).hi (uF w)) (low32 w))))) (k := Y) (f := (uF w).toNat * 2) (o := 0 + Y * 10 + (uF w).toNat * 2) (y := r.getD i Bx.zero) (by rw [List.getElem?_set_ne (by omega), List.getElem?_set_self (by rw [List.length_set]; omega)]) (put_set (r.getD i Bx.zero) (cutLo' ((r.getD i Bx.zero).lo (uF w)) ((r.getD i Bx.zero).hi (uF w)) (low32 w)) (cutHi' ((r.getD i Bx.zero).lo (uF w)) ((r.getD i Bx.zero).hi (uF w)) (low32 w)) d0 d0b) (by show _ = _ * 10 + _; omega)
      rw [← (low_put (r.getD i Bx.zero) (low32 w) d0 d0b).1] at s4 s3
      rw [← (low_put (r.getD i Bx.zero) (low32 w) d0 d0b).2] at s4
      rw [show (((r.set X (r.getD i Bx.zero)).set Y (r.getD i Bx.zero)).set X ((r.getD i Bx.zero).low (uF w) (low32 w))).set Y ((r.getD i Bx.zero).high (uF w) (low32 w)) = (r.set X ((r.getD i Bx.zero).low (uF w) (low32 w))).set Y ((r.getD i Bx.zero).high (uF w) (low32 w)) by rw [List.set_comm _ _ hXY.symm, List.set_set, List.set_set]] at s4
      have hdS : bxS i w (r, out) = ((r.set X ((r.getD i Bx.zero).low (uF w) (low32 w))).set Y ((r.getD i Bx.zero).high (uF w) (low32 w)), out) := by
        simp only [bxS, hl, cond_false, hX, hY, Int.toNat_natCast]
      rw [hdS] at hnx hok
      rcases k5 with ⟨rfl, ko⟩ | ⟨rfl, ko⟩
      · subst ko
        exact rlI0 cs o n c (lsQ n ws b) i r (r.getD i Bx.zero) (r.getD i Bx.zero) (r.getD i Bx.zero) _ _ _ _ w (uF w) (low32 w) X Y _ _ _ _ _ _ J hE okL ⟨rfl, ⟨⟨i + 1, _, []⟩, hQ 0 ⟨i + 1, _, []⟩ ⟨hin, hok, hnx.symm, (by simp only [List.length_nil] at *; show _ ≤ i + 1; first | omega | exact Nat.zero_le _), Or.inl ⟨rfl, rfl⟩⟩, hmu, rfl, (by first | (simp only [fLs, ouV, List.map_cons, List.map_nil, rnr, rni, rnv]) | (simp only [fLs, List.map_cons, List.map_nil, rnr, rni]))⟩, i64_succ (by omega), s4, ⟨d0, d0b⟩, ⟨Int.natCast_nonneg _, Int.ofNat_lt.2 (by omega)⟩, mh, ha1, s3, ⟨d0, d0b⟩, ⟨Int.natCast_nonneg _, Int.ofNat_lt.2 (by omega)⟩, ml, s2, ⟨Int.natCast_nonneg _, Int.ofNat_lt.2 (by omega)⟩, s1, ⟨Int.natCast_nonneg _, Int.ofNat_lt.2 (by omega)⟩, read_row (e := eBox) (by kernel_rfl) (by kernel_rfl) g2, ⟨Int.natCast_nonneg _, Int.ofNat_lt.2 hin⟩, read_row (e := eBox) (by kernel_rfl) (by kernel_rfl) g2, ⟨Int.natCast_nonneg _, Int.ofNat_lt.2 hin⟩, span_read g2 d0 d0b, ⟨d0, d0b⟩, ⟨Int.natCast_nonneg _, Int.ofNat_lt.2 hin⟩, hun, hU w (List.mem_of_getElem? hw), hrd, ⟨Int.natCast_nonneg _, Int.ofNat_lt.2 hin⟩, hlt, trivial⟩ (hJ' 0)
      · exact rlI1 cs o n c (lsQ n ws b) i r out (r.getD i Bx.zero) (r.getD i Bx.zero) (r.getD i Bx.zero) _ _ _ _ w (uF w) (low32 w) X Y _ _ _ _ _ _ J hE okL ⟨rfl, ⟨⟨i + 1, _, out⟩, hQ 1 ⟨i + 1, _, out⟩ ⟨hin, hok, hnx.symm, (by simp only [List.length_nil] at *; show _ ≤ i + 1; first | omega | exact Nat.zero_le _), Or.inr ⟨rfl, ko⟩⟩, hmu, rfl, (by first | (simp only [fLs, ouV, List.map_cons, List.map_nil, rnr, rni, rnv]) | (simp only [fLs, List.map_cons, List.map_nil, rnr, rni]))⟩, i64_succ (by omega), s4, ⟨d0, d0b⟩, ⟨Int.natCast_nonneg _, Int.ofNat_lt.2 (by omega)⟩, mh, ha1, s3, ⟨d0, d0b⟩, ⟨Int.natCast_nonneg _, Int.ofNat_lt.2 (by omega)⟩, ml, s2, ⟨Int.natCast_nonneg _, Int.ofNat_lt.2 (by omega)⟩, s1, ⟨Int.natCast_nonneg _, Int.ofNat_lt.2 (by omega)⟩, read_row (e := eBox) (by kernel_rfl) (by kernel_rfl) g2, ⟨Int.natCast_nonneg _, Int.ofNat_lt.2 hin⟩, read_row (e := eBox) (by kernel_rfl) (by kernel_rfl) g2, ⟨Int.natCast_nonneg _, Int.ofNat_lt.2 hin⟩, span_read g2 d0 d0b, ⟨d0, d0b⟩, ⟨Int.natCast_nonneg _, Int.ofNat_lt.2 hin⟩, hun, hU w (List.mem_of_getElem? hw), hrd, ⟨Int.natCast_nonneg _, Int.ofNat_lt.2 hin⟩, hlt, trivial⟩ (hJ' 1)
    · cases he : (r.getD i Bx.zero).emp
      · have hdS : bxS i w (r, out) = (r, out ++ [⟨r.getD i Bx.zero, low32 w⟩]) := by simp only [bxS, hl, he, cond_true, cond_false]
        rw [hdS] at hnx hok
        rcases k5 with ⟨rfl, ko⟩ | ⟨rfl, ko⟩
        · subst ko
          exact rlF0 cs o n c (lsQ n ws b) i r (r.getD i Bx.zero) [(⟨r.getD i Bx.zero, low32 w⟩ : Pc)] w (low32 w) J hE okL ⟨rfl, ⟨⟨i + 1, r, [(⟨r.getD i Bx.zero, low32 w⟩ : Pc)]⟩, hQ 1 ⟨i + 1, r, [(⟨r.getD i Bx.zero, low32 w⟩ : Pc)]⟩ ⟨hin, hok, hnx.symm, (by simp; try omega), Or.inr ⟨rfl, by simp⟩⟩, hmu, rfl, (by first | (simp only [fLs, ouV, List.map_cons, List.map_nil, rnr, rni, rnv]) | (simp only [fLs, List.map_cons, List.map_nil, rnr, rni]))⟩, i64_succ (by omega), appOK_nil (e := ePc) (new := [(⟨r.getD i Bx.zero, low32 w⟩ : Pc)]) rfl rfl rfl rfl (by decide) (by decide) (by decide), read_row (e := eBox) (by kernel_rfl) (by kernel_rfl) g2, ⟨Int.natCast_nonneg _, Int.ofNat_lt.2 hin⟩, (congrArg Value.bool he), read_row (e := eBox) (by kernel_rfl) (by kernel_rfl) g2, ⟨Int.natCast_nonneg _, Int.ofNat_lt.2 hin⟩, unp_leaf ho hl, hU w (List.mem_of_getElem? hw), hrd, ⟨Int.natCast_nonneg _, Int.ofNat_lt.2 hin⟩, hlt, trivial⟩ (hJ' 1)
        · exact rlF1 cs o n c (lsQ n ws b) i r out (r.getD i Bx.zero) (out ++ [(⟨r.getD i Bx.zero, low32 w⟩ : Pc)]) w (low32 w) J hE okL ⟨rfl, ⟨⟨i + 1, r, (out ++ [(⟨r.getD i Bx.zero, low32 w⟩ : Pc)])⟩, hQ 1 ⟨i + 1, r, (out ++ [(⟨r.getD i Bx.zero, low32 w⟩ : Pc)])⟩ ⟨hin, hok, hnx.symm, (by simp; try omega), Or.inr ⟨rfl, by simp⟩⟩, hmu, (by simp [fLs, ouV]; first | rfl | exact ⟨rfl, rfl, rfl, rfl, rfl⟩), (by first | (simp only [fLs, ouV, List.map_cons, List.map_nil, rnr, rni, rnv]) | (simp only [fLs, List.map_cons, List.map_nil, rnr, rni]))⟩, i64_succ (by omega), appOK (e := ePc) (L := out) (new := [(⟨r.getD i Bx.zero, low32 w⟩ : Pc)]) rfl rfl rfl rfl (Nat.le_refl _) (by simp) (by decide) (by omega) (by omega), read_row (e := eBox) (by kernel_rfl) (by kernel_rfl) g2, ⟨Int.natCast_nonneg _, Int.ofNat_lt.2 hin⟩, (congrArg Value.bool he), read_row (e := eBox) (by kernel_rfl) (by kernel_rfl) g2, ⟨Int.natCast_nonneg _, Int.ofNat_lt.2 hin⟩, unp_leaf ho hl, hU w (List.mem_of_getElem? hw), hrd, ⟨Int.natCast_nonneg _, Int.ofNat_lt.2 hin⟩, hlt, trivial⟩ (hJ' 1)
      · have hdS : bxS i w (r, out) = (r, out) := by simp only [bxS, hl, he, cond_true]
        rw [hdS] at hnx hok
        rcases k5 with ⟨rfl, ko⟩ | ⟨rfl, ko⟩
        · subst ko
          exact rlE0 cs o n c (lsQ n ws b) i r (r.getD i Bx.zero) w (low32 w) J hE okL ⟨rfl, ⟨⟨i + 1, r, []⟩, hQ 0 ⟨i + 1, r, []⟩ ⟨hin, hok, hnx.symm, (by simp only [List.length_nil] at *; show _ ≤ i + 1; first | omega | exact Nat.zero_le _), Or.inl ⟨rfl, rfl⟩⟩, hmu, rfl, (by first | (simp only [fLs, ouV, List.map_cons, List.map_nil, rnr, rni, rnv]) | (simp only [fLs, List.map_cons, List.map_nil, rnr, rni]))⟩, i64_succ (by omega), (congrArg Value.bool he), read_row (e := eBox) (by kernel_rfl) (by kernel_rfl) g2, ⟨Int.natCast_nonneg _, Int.ofNat_lt.2 hin⟩, unp_leaf ho hl, hU w (List.mem_of_getElem? hw), hrd, ⟨Int.natCast_nonneg _, Int.ofNat_lt.2 hin⟩, hlt, trivial⟩ (hJ' 0)
        · exact rlE1 cs o n c (lsQ n ws b) i r out (r.getD i Bx.zero) w (low32 w) J hE okL ⟨rfl, ⟨⟨i + 1, r, out⟩, hQ 1 ⟨i + 1, r, out⟩ ⟨hin, hok, hnx.symm, (by simp only [List.length_nil] at *; show _ ≤ i + 1; first | omega | exact Nat.zero_le _), Or.inr ⟨rfl, ko⟩⟩, hmu, rfl, (by first | (simp only [fLs, ouV, List.map_cons, List.map_nil, rnr, rni, rnv]) | (simp only [fLs, List.map_cons, List.map_nil, rnr, rni]))⟩, i64_succ (by omega), (congrArg Value.bool he), read_row (e := eBox) (by kernel_rfl) (by kernel_rfl) g2, ⟨Int.natCast_nonneg _, Int.ofNat_lt.2 hin⟩, unp_leaf ho hl, hU w (List.mem_of_getElem? hw), hrd, ⟨Int.natCast_nonneg _, Int.ofNat_lt.2 hin⟩, hlt, trivial⟩ (hJ' 1)
  · obtain rfl : i = n := by omega
    rw [List.take_of_length_le (by omega)] at k3
    have hp : pcsI ws b = out := by unfold pcsI; rw [hlen, ← k3]
    rcases k5 with ⟨rfl, ko⟩ | ⟨rfl, ko⟩
    · rw [ko]
      exact hX0 (by rw [hp, ko]) r J
    · have := hX1 (by rw [hp]; exact ko) r J
      rw [hp] at this
      exact this

end Go.Proofs.Ythbaccmhdffjdaa.Tr


set_option linter.unusedVariables false
set_option linter.unusedSimpArgs false
set_option maxRecDepth 100000
namespace Go.Proofs.Ythbaccmhdffjdaa.Lv
open Go Go.RowKit Go.Proofs.Ythbaccmhdffjdaa.Ev Go.Proofs.Ythbaccmhdffjdaa.NodeE Go.Proofs.Ythbaccmhdffjdaa.Tr Go.Proofs.Ythbaccmhdffjdaa.BoxF
/-! ### Points in boxes -/
def _root_.Go.Proofs.Ythbaccmhdffjdaa.Ev.Bx.In (x : Bx) (p : Pt) (t : Int) : Prop := (x.a0 ≤ p.p0 ∧ p.p0 ≤ x.b0) ∧ (x.a1 ≤ p.p1 ∧ p.p1 ≤ x.b1) ∧ (x.a2 ≤ p.p2 ∧ p.p2 ≤ x.b2) ∧ (x.a3 ≤ p.p3 ∧ p.p3 ≤ x.b3) ∧ (x.a4 ≤ t ∧ t ≤ x.b4)
def _root_.Go.Proofs.Ythbaccmhdffjdaa.Ev.Bx.hs (x : Bx) (p : Pt) (t : Int) : Bool := BoxF.hasB x.a0 x.b0 x.a1 x.b1 x.a2 x.b2 x.a3 x.b3 x.a4 x.b4 p.p0 p.p1 p.p2 p.p3 t
/-- Within, where the inner one is not empty. -/
def _root_.Go.Proofs.Ythbaccmhdffjdaa.Ev.Bx.Le (x y : Bx) : Prop := (y.a0 ≤ x.a0 ∧ x.b0 ≤ y.b0) ∧ (y.a1 ≤ x.a1 ∧ x.b1 ≤ y.b1) ∧ (y.a2 ≤ x.a2 ∧ x.b2 ≤ y.b2) ∧ (y.a3 ≤ x.a3 ∧ x.b3 ≤ y.b3) ∧ (y.a4 ≤ x.a4 ∧ x.b4 ≤ y.b4)
theorem hs_iff {x : Bx} {p : Pt} {t : Int} : x.hs p t = true ↔ x.In p t := by
  simp [Bx.hs, Bx.In, BoxF.hasB, h3, cond_eq_ite]
theorem emp_iff {x : Bx} : x.emp = false ↔ x.a0 ≤ x.b0 ∧ x.a1 ≤ x.b1 ∧ x.a2 ≤ x.b2 ∧ x.a3 ≤ x.b3 ∧ x.a4 ≤ x.b4 := by
  simp [Bx.emp, emptyB, e2, cond_eq_ite]
theorem in_emp {x : Bx} {p : Pt} {t : Int} (h : x.In p t) : x.emp = false := by
  obtain ⟨h0, h1, h2, h3, h4⟩ := h
  exact emp_iff.2 ⟨by omega, by omega, by omega, by omega, by omega⟩
def _root_.Go.Proofs.Ythbaccmhdffjdaa.Ev.Bx.pt (x : Bx) : Pt := ⟨x.a0, x.a1, x.a2, x.a3⟩
def _root_.Go.Proofs.Ythbaccmhdffjdaa.Ev.Bx.top (x : Bx) : Pt := ⟨x.b0, x.b1, x.b2, x.b3⟩
theorem pt_in {x : Bx} (h : x.emp = false) : x.In x.pt x.a4 ∧ x.In x.top x.b4 := by
  obtain ⟨h0, h1, h2, h3, h4⟩ := emp_iff.1 h
  exact ⟨⟨⟨Int.le_refl _, h0⟩, ⟨Int.le_refl _, h1⟩, ⟨Int.le_refl _, h2⟩, ⟨Int.le_refl _, h3⟩, ⟨Int.le_refl _, h4⟩⟩, ⟨⟨h0, Int.le_refl _⟩, ⟨h1, Int.le_refl _⟩, ⟨h2, Int.le_refl _⟩, ⟨h3, Int.le_refl _⟩, ⟨h4, Int.le_refl _⟩⟩⟩
theorem le_refl (x : Bx) : x.Le x := ⟨⟨Int.le_refl _, Int.le_refl _⟩, ⟨Int.le_refl _, Int.le_refl _⟩, ⟨Int.le_refl _, Int.le_refl _⟩, ⟨Int.le_refl _, Int.le_refl _⟩, ⟨Int.le_refl _, Int.le_refl _⟩⟩
theorem le_trans {x y z : Bx} (h : x.Le y) (g : y.Le z) : x.Le z := by
  obtain ⟨h0, h1, h2, h3, h4⟩ := h
  obtain ⟨g0, g1, g2, g3, g4⟩ := g
  exact ⟨by omega, by omega, by omega, by omega, by omega⟩
theorem le_in {x y : Bx} {p : Pt} {t : Int} (h : x.Le y) (g : x.In p t) : y.In p t := by
  obtain ⟨h0, h1, h2, h3, h4⟩ := h
  obtain ⟨g0, g1, g2, g3, g4⟩ := g
  exact ⟨by omega, by omega, by omega, by omega, by omega⟩
theorem le_emp {x y : Bx} (h : x.Le y) (g : x.emp = false) : y.emp = false := in_emp (le_in h (pt_in g).1)
theorem span_low (a b n v : Int) : (cutLo a b n ≤ v ∧ v ≤ cutHi a b n) ↔ (a ≤ v ∧ v ≤ b) ∧ v ≤ n := by
  have := cut_cases a b n; omega
theorem span_high (a b n v : Int) : (cutLo' a b n ≤ v ∧ v ≤ cutHi' a b n) ↔ (a ≤ v ∧ v ≤ b) ∧ n < v := by
  have := cut_cases a b n; omega
theorem span_le (a b n : Int) : (cutLo a b n ≤ cutHi a b n → a ≤ cutLo a b n ∧ cutHi a b n ≤ b) ∧ (cutLo' a b n ≤ cutHi' a b n → a ≤ cutLo' a b n ∧ cutHi' a b n ≤ b) := by
  have := cut_cases a b n; omega
theorem in_low (x : Bx) (p : Pt) (t n : Int) {f : Int} (h0 : 0 ≤ f) (h4 : f < 4) : (x.low f n).In p t ↔ x.In p t ∧ p.at f ≤ n := by
  have : f = 0 ∨ f = 1 ∨ f = 2 ∨ f = 3 := by omega
  rcases this with h | h | h | h <;> subst h <;> simp [Bx.low, Bx.In, cL, cH, Pt.at, span_low] <;> omega
theorem in_high (x : Bx) (p : Pt) (t n : Int) {f : Int} (h0 : 0 ≤ f) (h4 : f < 4) : (x.high f n).In p t ↔ x.In p t ∧ n < p.at f := by
  have : f = 0 ∨ f = 1 ∨ f = 2 ∨ f = 3 := by omega
  rcases this with h | h | h | h <;> subst h <;> simp [Bx.high, Bx.In, dL, dH, Pt.at, span_high] <;> omega
theorem cut_le {x : Bx} {n : Int} {f : Int} (h0 : 0 ≤ f) (h5 : f < 5) : ((x.low f n).emp = false → (x.low f n).Le x) ∧ ((x.high f n).emp = false → (x.high f n).Le x) := by
  rw [emp_iff, emp_iff]
  obtain ⟨l0, l1, l2, l3, l4⟩ := le_refl x
  have : f = 0 ∨ f = 1 ∨ f = 2 ∨ f = 3 ∨ f = 4 := by omega
  rcases this with h | h | h | h | h <;> subst h
  · exact ⟨fun e => ⟨(span_le _ _ _).1 e.1, l1, l2, l3, l4⟩, fun e => ⟨(span_le _ _ _).2 e.1, l1, l2, l3, l4⟩⟩
  · exact ⟨fun e => ⟨l0, (span_le _ _ _).1 e.2.1, l2, l3, l4⟩, fun e => ⟨l0, (span_le _ _ _).2 e.2.1, l2, l3, l4⟩⟩
  · exact ⟨fun e => ⟨l0, l1, (span_le _ _ _).1 e.2.2.1, l3, l4⟩, fun e => ⟨l0, l1, (span_le _ _ _).2 e.2.2.1, l3, l4⟩⟩
  · exact ⟨fun e => ⟨l0, l1, l2, (span_le _ _ _).1 e.2.2.2.1, l4⟩, fun e => ⟨l0, l1, l2, (span_le _ _ _).2 e.2.2.2.1, l4⟩⟩
  · exact ⟨fun e => ⟨l0, l1, l2, l3, (span_le _ _ _).1 e.2.2.2.2⟩, fun e => ⟨l0, l1, l2, l3, (span_le _ _ _).2 e.2.2.2.2⟩⟩
/-- A cut of a lesser box is less than the cut of the greater one. -/
theorem span_mono {a b c d n : Int} (h : c ≤ a ∧ b ≤ d) : (cutLo a b n ≤ cutHi a b n → cutLo c d n ≤ cutLo a b n ∧ cutHi a b n ≤ cutHi c d n) ∧ (cutLo' a b n ≤ cutHi' a b n → cutLo' c d n ≤ cutLo' a b n ∧ cutHi' a b n ≤ cutHi' c d n) := by
  have h1 := cut_cases a b n
  have h2 := cut_cases c d n
  omega
theorem cut_mono {x y : Bx} {n : Int} {f : Int} (h0 : 0 ≤ f) (h5 : f < 5) (h : x.Le y) : ((x.low f n).emp = false → (x.low f n).Le (y.low f n)) ∧ ((x.high f n).emp = false → (x.high f n).Le (y.high f n)) := by
  rw [emp_iff, emp_iff]
  obtain ⟨l0, l1, l2, l3, l4⟩ := h
  have : f = 0 ∨ f = 1 ∨ f = 2 ∨ f = 3 ∨ f = 4 := by omega
  rcases this with h | h | h | h | h <;> subst h
  · exact ⟨fun e => ⟨(span_mono l0).1 e.1, l1, l2, l3, l4⟩, fun e => ⟨(span_mono l0).2 e.1, l1, l2, l3, l4⟩⟩
  · exact ⟨fun e => ⟨l0, (span_mono l1).1 e.2.1, l2, l3, l4⟩, fun e => ⟨l0, (span_mono l1).2 e.2.1, l2, l3, l4⟩⟩
  · exact ⟨fun e => ⟨l0, l1, (span_mono l2).1 e.2.2.1, l3, l4⟩, fun e => ⟨l0, l1, (span_mono l2).2 e.2.2.1, l3, l4⟩⟩
  · exact ⟨fun e => ⟨l0, l1, l2, (span_mono l3).1 e.2.2.2.1, l4⟩, fun e => ⟨l0, l1, l2, (span_mono l3).2 e.2.2.2.1, l4⟩⟩
  · exact ⟨fun e => ⟨l0, l1, l2, l3, (span_mono l4).1 e.2.2.2.2⟩, fun e => ⟨l0, l1, l2, l3, (span_mono l4).2 e.2.2.2.2⟩⟩
/-! ### The box of each node -/
/-- A name is given once. -/
theorem named_once {ws : List Int} {dim : Int} (h : rightI ws dim = true) {i j : Nat} {w v c : Int} (hij : i < j) (hw : ws[i]? = some w) (hv : ws[j]? = some v) (h1 : c ∈ namesW w) (h2 : c ∈ namesW v) : False := by
  have hj := (List.getElem?_eq_some_iff.1 hv).1
  have hc : 1 ≤ c ∧ c < ws.length := by
    cases hl : lfB w
    · obtain ⟨_, _, _, a, b, p, q⟩ := good_inner ((right_parts.1 h).2.1 i w hw) hl
      simp only [namesW, hl, cond_false, List.mem_cons, List.not_mem_nil, or_false] at h1
      omega
    · simp [namesW, hl] at h1
  obtain ⟨k, rfl⟩ := Int.eq_ofNat_of_zero_le (show 0 ≤ c by omega)
  have ho := (right_parts.1 h).2.2 k (by omega) (by omega)
  have e : ws = ws.take j ++ (v :: ws.drop (j + 1)) := by
    conv => lhs; rw [← List.take_append_drop j ws]
    rw [List.drop_eq_getElem_cons hj, (List.getElem?_eq_some_iff.1 hv).2]
  have c1 : 1 ≤ ((ws.take j).flatMap namesW).count (k : Int) := List.count_pos_iff.2 (List.mem_flatMap.2 ⟨w, List.mem_of_getElem? (i := i) (by rw [List.getElem?_take, if_pos hij]; exact hw), h1⟩)
  have c2 : 1 ≤ (namesW v).count (k : Int) := List.count_pos_iff.2 h2
  unfold named at ho
  rw [e, List.flatMap_append, List.flatMap_cons, List.count_append, List.count_append] at ho
  omega
structure Boxes (ws : List Int) (b : Bx) (R : List Bx) : Prop where
  len : R.length = ws.length
  root : R[0]? = some b
  left : ∀ (i : Nat) (w : Int) (x : Bx), ws[i]? = some w → lfB w = false → R[i]? = some x → R[(uX w).toNat]? = some (x.low (uF w) (low32 w))
  right : ∀ (i : Nat) (w : Int) (x : Bx), ws[i]? = some w → lfB w = false → R[i]? = some x → R[(uY w).toNat]? = some (x.high (uF w) (low32 w))
def outR (R : List Bx) : Nat → List Int → List Pc
  | _, [] => []
  | i, w :: ws => (bif lfB w && !(R.getD i Bx.zero).emp then [⟨R.getD i Bx.zero, low32 w⟩] else []) ++ outR R (i + 1) ws
theorem outR_congr {R S : List Bx} : ∀ {ws : List Int} {i : Nat}, (∀ k, k < ws.length → R[i + k]? = S[i + k]?) → outR R i ws = outR S i ws
  | [], _, _ => rfl
  | w :: ws, i, h => by
    have h0 := h 0 (by simp)
    have e : R.getD i Bx.zero = S.getD i Bx.zero := by
      rw [List.getD_eq_getElem?_getD, List.getD_eq_getElem?_getD]
      rw [Nat.add_zero] at h0
      rw [h0]
    simp only [outR, e]
    have hr := outR_congr (R := R) (S := S) (ws := ws) (i := i + 1) fun k hk => by
      have := h (k + 1) (by rw [List.length_cons]; omega)
      rw [show i + (k + 1) = i + 1 + k by omega] at this
      exact this
    rw [hr]
theorem outR_app {R : List Bx} : ∀ (l m : List Int) (i : Nat), outR R i (l ++ m) = outR R i l ++ outR R (i + l.length) m
  | [], m, i => by simp [outR]
  | w :: l, m, i => by
    simp only [List.cons_append, outR, outR_app l m (i + 1), List.length_cons, List.append_assoc]
    rw [show i + (l.length + 1) = i + 1 + l.length by omega]
theorem outR_len {R : List Bx} : ∀ (ws : List Int) (i : Nat), (∀ w ∈ ws, okB w = true) → (outR R i ws).length ≤ (leafIx i ws).length
  | [], i, _ => Nat.le_refl _
  | w :: ws, i, h => by
    have := outR_len (R := R) ws (i + 1) fun v hv => h v (List.mem_cons_of_mem _ hv)
    have ho := h w (List.mem_cons_self ..)
    simp only [outR, leafIx, ho, Bool.true_and]
    cases lfB w
    · simpa using this
    · cases (R.getD i Bx.zero).emp <;> simp <;> omega
theorem boxes_at {ws : List Int} {dim : Int} (h : rightI ws dim = true) (b : Bx) : ∀ i, i ≤ ws.length → ∃ R : List Bx, ∃ O : List Pc, bxGo 0 (ws.take i) (bx0 ws.length b) = (R, O) ∧ R.length = ws.length ∧ R[0]? = some b ∧
    (∀ (j : Nat) (w : Int) (x : Bx), j < i → ws[j]? = some w → lfB w = false → R[j]? = some x → R[(uX w).toNat]? = some (x.low (uF w) (low32 w)) ∧ R[(uY w).toNat]? = some (x.high (uF w) (low32 w))) ∧ O = outR R 0 (ws.take i)
  | 0, _ => by
    obtain ⟨⟨h1, _⟩, _, _⟩ := right_parts.1 h
    refine ⟨_, _, rfl, by simp, ?_, fun j w x hj => absurd hj (Nat.not_lt_zero _), rfl⟩
    rw [List.getElem?_set_self (by simp; omega)]
  | i + 1, hi => by
    obtain ⟨R, O, e, l, r0, hb, ho⟩ := boxes_at h b i (by omega)
    obtain ⟨w, hw⟩ : ∃ w, ws[i]? = some w := ⟨_, List.getElem?_eq_getElem (by omega)⟩
    have htk : ws.take (i + 1) = ws.take i ++ [w] := by rw [List.take_add_one, hw]; rfl
    have htl : (ws.take i).length = i := by rw [List.length_take]; omega
    have en : bxGo 0 (ws.take (i + 1)) (bx0 ws.length b) = bxS i w (R, O) := by rw [htk, bxGo_app, e, htl, Nat.zero_add]; rfl
    have eo : ∀ S : List Bx, outR S 0 (ws.take (i + 1)) = outR S 0 (ws.take i) ++ outR S i [w] := fun S => by rw [htk, outR_app, htl, Nat.zero_add]
    cases hl : lfB w
    · obtain ⟨_, d1, d2, d3, d4, d5, d6⟩ := good_inner ((right_parts.1 h).2.1 i w hw) hl
      obtain ⟨X, hX⟩ := Int.eq_ofNat_of_zero_le (show 0 ≤ uX w by omega)
      obtain ⟨Y, hY⟩ := Int.eq_ofNat_of_zero_le (show 0 ≤ uY w by omega)
      obtain ⟨x, hx⟩ : ∃ x, R[i]? = some x := ⟨_, List.getElem?_eq_getElem (by omega)⟩
      have hg : R.getD i Bx.zero = x := by rw [List.getD_eq_getElem?_getD, hx]; rfl
      have es : bxS i w (R, O) = ((R.set X (x.low (uF w) (low32 w))).set Y (x.high (uF w) (low32 w)), O) := by
        simp only [bxS, hl, cond_false, hX, hY, Int.toNat_natCast, hg]
      have get : ∀ k, k ≠ X → k ≠ Y → ((R.set X (x.low (uF w) (low32 w))).set Y (x.high (uF w) (low32 w)))[k]? = R[k]? := fun k k1 k2 => by
        rw [List.getElem?_set_ne (by omega), List.getElem?_set_ne (by omega)]
      have getX : ((R.set X (x.low (uF w) (low32 w))).set Y (x.high (uF w) (low32 w)))[X]? = some (x.low (uF w) (low32 w)) := by
        rw [List.getElem?_set_ne (by omega), List.getElem?_set_self (by omega)]
      have getY : ((R.set X (x.low (uF w) (low32 w))).set Y (x.high (uF w) (low32 w)))[Y]? = some (x.high (uF w) (low32 w)) := by
        rw [List.getElem?_set_self (by rw [List.length_set]; omega)]
      refine ⟨_, _, en.trans es, by simp [l], by rw [get 0 (by omega) (by omega)]; exact r0, fun j v z hj hv hvl hz => ?_, ?_⟩
      · by_cases hji : j = i
        · subst hji
          rw [hw] at hv
          injection hv with hv
          subst hv
          rw [get j (by omega) (by omega), hx] at hz
          injection hz with hz
          subst hz
          rw [hX, hY, Int.toNat_natCast, Int.toNat_natCast]
          exact ⟨getX, getY⟩
        · rw [get j (by omega) (by omega)] at hz
          obtain ⟨c1, c2⟩ := hb j v z (by omega) hv hvl hz
          obtain ⟨_, f1, f2, f3, f4, f5, f6⟩ := good_inner ((right_parts.1 h).2.1 j v hv) hvl
          have n1 : ∀ c, c ∈ namesW v → c ≠ uX w ∧ c ≠ uY w := fun c hc => by
            constructor
            · intro h1; subst h1; exact named_once h (show j < i by omega) hv hw hc (by simp [namesW, hl])
            · intro h1; subst h1; exact named_once h (show j < i by omega) hv hw hc (by simp [namesW, hl])
          obtain ⟨a1, a2⟩ := n1 (uX v) (by simp [namesW, hvl])
          obtain ⟨a3, a4⟩ := n1 (uY v) (by simp [namesW, hvl])
          rw [get _ (by omega) (by omega), get _ (by omega) (by omega)]
          exact ⟨c1, c2⟩
      · rw [eo, ho]
        have e1 : outR ((R.set X (x.low (uF w) (low32 w))).set Y (x.high (uF w) (low32 w))) i [w] = [] := by simp [outR, hl]
        rw [e1, List.append_nil]
        exact outR_congr fun k hk => by rw [htl] at hk; rw [Nat.zero_add, get k (by omega) (by omega)]
    · have es : bxS i w (R, O) = (R, O ++ outR R i [w]) := by
        simp only [bxS, hl, cond_true, outR, Bool.true_and, List.append_nil]
        cases (R.getD i Bx.zero).emp <;> simp
      refine ⟨_, _, en.trans es, l, r0, fun j v z hj hv hvl hz => ?_, by rw [eo, ho]⟩
      by_cases hji : j = i
      · subst hji
        rw [hw] at hv
        injection hv with hv
        subst hv
        rw [hl] at hvl
        exact absurd hvl (by simp)
      · exact hb j v z (by omega) hv hvl hz
theorem boxes {ws : List Int} {dim : Int} (h : rightI ws dim = true) (b : Bx) : ∃ R, Boxes ws b R ∧ pcsI ws b = outR R 0 ws := by
  obtain ⟨R, O, e, l, r0, hb, ho⟩ := boxes_at h b ws.length (Nat.le_refl _)
  rw [List.take_length] at e ho
  exact ⟨R, ⟨l, r0, fun i w x hw hl hx => (hb i w x (List.getElem?_eq_some_iff.1 hw).1 hw hl hx).1, fun i w x hw hl hx => (hb i w x (List.getElem?_eq_some_iff.1 hw).1 hw hl hx).2⟩, by unfold pcsI; rw [e, ho]⟩
/-! ### A point's way -/
inductive On (ws : List Int) (p : Pt) : Nat → Prop
  | root : On ws p 0
  | step (i : Nat) (w : Int) : On ws p i → ws[i]? = some w → lfB w = false → On ws p (goes p w).toNat
theorem on_go {ws : List Int} {dim : Int} (h : rightI ws dim = true) {p : Pt} {j : Nat} (ho : On ws p j) : ∃ t, t ≤ j ∧ ∀ k, goW ws p (t + k) 0 = goW ws p k j := by
  induction ho with
  | root => exact ⟨0, Nat.le_refl _, fun k => by rw [Nat.zero_add]⟩
  | step i w _ hw hl ih =>
    obtain ⟨t, ht, he⟩ := ih
    have hn := goes_next h (p := p) hw hl
    refine ⟨t + 1, by omega, fun k => ?_⟩
    rw [show t + 1 + k = t + (k + 1) by omega, he, goW_step hw (right_ok h w (List.mem_of_getElem? hw)) hl]
theorem on_lt {ws : List Int} {dim : Int} (h : rightI ws dim = true) {p : Pt} {j : Nat} (ho : On ws p j) : j < ws.length := by
  cases ho with
  | root => have := (right_parts.1 h).1; omega
  | step i w _ hw hl => exact (goes_next h (p := p) hw hl).2
theorem on_leaf {ws : List Int} {dim : Int} (h : rightI ws dim = true) {p : Pt} {j : Nat} {w : Int} (ho : On ws p j) (hw : ws[j]? = some w) (hl : lfB w = true) : goW ws p 31 0 = some j := by
  obtain ⟨t, ht, he⟩ := on_go h ho
  have hj := on_lt h ho
  have h31 := (right_parts.1 h).1
  have := he (31 - t - 1 + 1)
  rw [show t + (31 - t - 1 + 1) = 31 by omega, goW_leaf hw (right_ok h w (List.mem_of_getElem? hw)) hl] at this
  exact this
theorem go_on {ws : List Int} {p : Pt} : ∀ {k i j : Nat}, On ws p i → goW ws p k i = some j → On ws p j
  | 0, i, j, _, h => by simp [goW] at h
  | k + 1, i, j, ho, h => by
    cases hw : ws[i]? with
    | none => simp only [goW, hw] at h; exact absurd h (by simp)
    | some w =>
      cases hk : okB w with
      | false => rw [goW_bad hw hk] at h; exact absurd h (by simp)
      | true =>
        cases hl : lfB w with
        | false => rw [goW_step hw hk hl] at h; exact go_on (On.step i w ho hw hl) h
        | true => rw [goW_leaf hw hk hl] at h; injection h with h; subst h; exact ho
section
variable {ws : List Int} {dim : Int} {b : Bx} {R : List Bx}
theorem in_on (h : rightI ws dim = true) (hB : Boxes ws b R) {p : Pt} {t : Int} (hb : b.In p t) {j : Nat} (ho : On ws p j) : ∃ x, R[j]? = some x ∧ x.In p t := by
  induction ho with
  | root => exact ⟨b, hB.root, hb⟩
  | step i w _ hw hl ih =>
    obtain ⟨x, hx, hin⟩ := ih
    obtain ⟨⟨f0, f4⟩, _⟩ := inner_bounds (right_ok h w (List.mem_of_getElem? hw)) hl
    cases hg : decide (p.at (uF w) ≤ low32 w)
    · have := of_decide_eq_false hg
      refine ⟨_, by unfold goes; rw [hg]; exact hB.right i w x hw hl hx, (in_high x p t _ f0 f4).2 ⟨hin, by omega⟩⟩
    · have := of_decide_eq_true hg
      exact ⟨_, by unfold goes; rw [hg]; exact hB.left i w x hw hl hx, (in_low x p t _ f0 f4).2 ⟨hin, this⟩⟩
/-- Each node but the first is named by a lesser one. -/
theorem parent (h : rightI ws dim = true) {j : Nat} (h1 : 1 ≤ j) (h2 : j < ws.length) : ∃ i w, i < j ∧ ws[i]? = some w ∧ lfB w = false ∧ ((uX w).toNat = j ∨ (uY w).toNat = j) := by
  have hn := (right_parts.1 h).2.2 j h1 h2
  have hm : (j : Int) ∈ ws.flatMap namesW := List.count_pos_iff.1 (by unfold named at hn; omega)
  obtain ⟨w, hw, hj⟩ := List.mem_flatMap.1 hm
  obtain ⟨i, hi⟩ := List.mem_iff_getElem?.1 hw
  cases hl : lfB w
  · obtain ⟨_, d1, d2, d3, d4, d5, d6⟩ := good_inner ((right_parts.1 h).2.1 i w hi) hl
    simp only [namesW, hl, cond_false, List.mem_cons, List.not_mem_nil, or_false] at hj
    exact ⟨i, w, by omega, hi, hl, by omega⟩
  · simp [namesW, hl] at hj
theorem on_in (h : rightI ws dim = true) (hB : Boxes ws b R) {p : Pt} {t : Int} : ∀ (j : Nat) (x : Bx), R[j]? = some x → x.In p t → On ws p j ∧ b.In p t := by
  intro j
  induction j using Nat.strongRecOn with
  | ind j ih =>
    intro x hx hin
    have hj := (List.getElem?_eq_some_iff.1 hx).1
    rw [hB.len] at hj
    by_cases h0 : j = 0
    · subst h0
      have := hB.root
      rw [hx] at this
      injection this with this
      subst this
      exact ⟨On.root, hin⟩
    · obtain ⟨i, w, hij, hw, hl, hc⟩ := parent h (show 1 ≤ j by omega) hj
      obtain ⟨y, hy⟩ : ∃ y, R[i]? = some y := ⟨_, List.getElem?_eq_getElem (by rw [hB.len]; omega)⟩
      obtain ⟨⟨f0, f4⟩, _⟩ := inner_bounds (right_ok h w (List.mem_of_getElem? hw)) hl
      rcases hc with hc | hc
      · have := hB.left i w y hw hl hy
        rw [hc, hx] at this
        injection this with this
        subst this
        obtain ⟨g1, g2⟩ := (in_low y p t _ f0 f4).1 hin
        obtain ⟨o, hb⟩ := ih i hij y hy g1
        have := On.step i w o hw hl
        unfold goes at this
        rw [decide_eq_true g2, cond_true, hc] at this
        exact ⟨this, hb⟩
      · have := hB.right i w y hw hl hy
        rw [hc, hx] at this
        injection this with this
        subst this
        obtain ⟨g1, g2⟩ := (in_high y p t _ f0 f4).1 hin
        obtain ⟨o, hb⟩ := ih i hij y hy g1
        have := On.step i w o hw hl
        unfold goes at this
        rw [decide_eq_false (by omega), cond_false, hc] at this
        exact ⟨this, hb⟩
/-- A node's box that is not empty is within the whole. -/
theorem box_le (h : rightI ws dim = true) (hB : Boxes ws b R) : ∀ (j : Nat) (x : Bx), R[j]? = some x → x.emp = false → x.Le b := by
  intro j
  induction j using Nat.strongRecOn with
  | ind j ih =>
    intro x hx he
    have hj := (List.getElem?_eq_some_iff.1 hx).1
    rw [hB.len] at hj
    by_cases h0 : j = 0
    · subst h0
      have := hB.root
      rw [hx] at this
      injection this with this
      subst this
      exact le_refl _
    · obtain ⟨i, w, hij, hw, hl, hc⟩ := parent h (show 1 ≤ j by omega) hj
      obtain ⟨y, hy⟩ : ∃ y, R[i]? = some y := ⟨_, List.getElem?_eq_getElem (by rw [hB.len]; omega)⟩
      obtain ⟨⟨f0, f4⟩, _⟩ := inner_bounds (right_ok h w (List.mem_of_getElem? hw)) hl
      rcases hc with hc | hc
      · have := hB.left i w y hw hl hy
        rw [hc, hx] at this
        injection this with this
        subst this
        have hle := (cut_le f0 (by omega)).1 he
        exact le_trans hle (ih i hij y hy (le_emp hle he))
      · have := hB.right i w y hw hl hy
        rw [hc, hx] at this
        injection this with this
        subst this
        have hle := (cut_le f0 (by omega)).2 he
        exact le_trans hle (ih i hij y hy (le_emp hle he))
/-- Within a part of the box each node has a part of its box. -/
theorem box_part (h : rightI ws dim = true) (hB : Boxes ws b R) {b' : Bx} {S : List Bx} (hS : Boxes ws b' S) (hbb : b'.emp = false → b'.Le b) : ∀ (j : Nat) (x y : Bx), S[j]? = some x → R[j]? = some y → x.emp = false → x.Le y := by
  intro j
  induction j using Nat.strongRecOn with
  | ind j ih =>
    intro x y hx hy he
    have hj := (List.getElem?_eq_some_iff.1 hx).1
    rw [hS.len] at hj
    by_cases h0 : j = 0
    · subst h0
      have h1 := hS.root
      have h2 := hB.root
      rw [hx] at h1
      rw [hy] at h2
      injection h1 with h1
      injection h2 with h2
      subst h1
      subst h2
      exact hbb he
    · obtain ⟨i, w, hij, hw, hl, hc⟩ := parent h (show 1 ≤ j by omega) hj
      obtain ⟨u, hu⟩ : ∃ u, S[i]? = some u := ⟨_, List.getElem?_eq_getElem (by rw [hS.len]; omega)⟩
      obtain ⟨v, hv⟩ : ∃ v, R[i]? = some v := ⟨_, List.getElem?_eq_getElem (by rw [hB.len]; omega)⟩
      obtain ⟨⟨f0, f4⟩, _⟩ := inner_bounds (right_ok h w (List.mem_of_getElem? hw)) hl
      rcases hc with hc | hc
      · have e1 := hS.left i w u hw hl hu
        have e2 := hB.left i w v hw hl hv
        rw [hc, hx] at e1
        rw [hc, hy] at e2
        injection e1 with e1
        injection e2 with e2
        subst e1
        subst e2
        have hle := (cut_le f0 (by omega)).1 he
        exact (cut_mono f0 (by omega) (ih i hij u v hu hv (le_emp hle he))).1 he
      · have e1 := hS.right i w u hw hl hu
        have e2 := hB.right i w v hw hl hv
        rw [hc, hx] at e1
        rw [hc, hy] at e2
        injection e1 with e1
        injection e2 with e2
        subst e1
        subst e2
        have hle := (cut_le f0 (by omega)).2 he
        exact (cut_mono f0 (by omega) (ih i hij u v hu hv (le_emp hle he))).2 he
/-- What is among the pieces. -/
theorem mem_outR {y : Pc} : ∀ {ws : List Int} {i : Nat}, y ∈ outR R i ws ↔ ∃ k w, ws[k]? = some w ∧ lfB w = true ∧ (R.getD (i + k) Bx.zero).emp = false ∧ y = ⟨R.getD (i + k) Bx.zero, low32 w⟩
  | [], i => by simp [outR]
  | w :: ws, i => by
    rw [outR, List.mem_append, mem_outR (ws := ws) (i := i + 1)]
    constructor
    · rintro (h | ⟨k, v, h1, h2, h3, h4⟩)
      · cases hc : lfB w && !(R.getD i Bx.zero).emp
        · rw [hc] at h; simp at h
        · rw [hc] at h
          simp at h hc
          exact ⟨0, w, rfl, hc.1, hc.2, h⟩
      · exact ⟨k + 1, v, by simpa using h1, h2, by rw [show i + (k + 1) = i + 1 + k by omega]; exact h3, by rw [show i + (k + 1) = i + 1 + k by omega]; exact h4⟩
    · rintro ⟨k, v, h1, h2, h3, h4⟩
      cases k with
      | zero =>
        simp at h1
        subst h1
        left
        rw [Nat.add_zero] at h3 h4
        rw [h2, h3]
        simp [h4]
      | succ k =>
        right
        exact ⟨k, v, by simpa using h1, h2, by rw [show i + 1 + k = i + (k + 1) by omega]; exact h3, by rw [show i + 1 + k = i + (k + 1) by omega]; exact h4⟩
theorem mem_out {y : Pc} (hB : Boxes ws b R) (hy : y ∈ outR R 0 ws) : ∃ (j : Nat) (w : Int), ws[j]? = some w ∧ lfB w = true ∧ R[j]? = some y.box ∧ y.box.emp = false ∧ y.val = low32 w := by
  obtain ⟨k, w, h1, h2, h3, h4⟩ := mem_outR.1 hy
  rw [Nat.zero_add] at h3 h4
  have hk := (List.getElem?_eq_some_iff.1 h1).1
  have e := (getB (r := R) (i := k) (by rw [hB.len]; exact hk)).2
  subst h4
  exact ⟨k, w, h1, h2, e, h3, rfl⟩
theorem out_mem (hB : Boxes ws b R) {j : Nat} {w : Int} {x : Bx} (hw : ws[j]? = some w) (hl : lfB w = true) (hx : R[j]? = some x) (he : x.emp = false) : (⟨x, low32 w⟩ : Pc) ∈ outR R 0 ws := by
  have hj := (List.getElem?_eq_some_iff.1 hw).1
  have e := (getB (r := R) (i := j) (by rw [hB.len]; exact hj)).2
  rw [hx] at e
  injection e with e
  refine mem_outR.2 ⟨j, w, hw, hl, ?_, ?_⟩
  · rw [Nat.zero_add, ← e]; exact he
  · rw [Nat.zero_add, ← e]
/-- The pieces that have a point: one, of the leaf that the tree sends it to. -/
theorem piece_val (h : rightI ws dim = true) (hB : Boxes ws b R) {p : Pt} {t : Int} {y : Pc} (hy : y ∈ outR R 0 ws) (hin : y.box.In p t) : y.val = endV ws p ∧ b.In p t := by
  obtain ⟨j, w, hw, hl, hx, he, hv⟩ := mem_out hB hy
  obtain ⟨ho, hb⟩ := on_in h hB j y.box hx hin
  have hg := on_leaf h ho hw hl
  obtain ⟨_, hend, _⟩ := end_some hg
  refine ⟨?_, hb⟩
  rw [hv, hend, List.getD_eq_getElem?_getD, hw]
  rfl
theorem piece_is (h : rightI ws dim = true) (hB : Boxes ws b R) {p : Pt} {t : Int} (hb : b.In p t) : ∃ y ∈ outR R 0 ws, y.box.In p t := by
  obtain ⟨j, hj⟩ := walk_ends h p
  obtain ⟨w, hw, _, hl⟩ := goW_is hj
  obtain ⟨x, hx, hin⟩ := in_on h hB hb (go_on On.root hj)
  exact ⟨⟨x, low32 w⟩, out_mem hB hw hl hx (in_emp hin), hin⟩
theorem count_outR {f : Pc → Bool} {j : Nat} : ∀ {ws : List Int} {i : Nat}, i ≤ j → (∀ k w, ws[k]? = some w → lfB w = true → (R.getD (i + k) Bx.zero).emp = false → f ⟨R.getD (i + k) Bx.zero, low32 w⟩ = decide (i + k = j)) → (∃ w, ws[j - i]? = some w ∧ lfB w = true ∧ (R.getD j Bx.zero).emp = false) → (outR R i ws).countP f = 1
  | [], i, _, _, ⟨w, h, _⟩ => by simp at h
  | w :: ws, i, hij, hf, ⟨v, h1, h2, h3⟩ => by
    rw [outR, List.countP_append]
    by_cases he : i = j
    · subst he
      rw [Nat.sub_self] at h1
      simp at h1
      subst h1
      have hf0 := hf 0 w rfl h2 (by simpa using h3)
      simp only [Nat.add_zero, decide_true] at hf0
      rw [h2, h3]
      have hz : (outR R (i + 1) ws).countP f = 0 := by
        rw [List.countP_eq_zero]
        intro y hy
        obtain ⟨k, u, g1, g2, g3, g4⟩ := mem_outR.1 hy
        have := hf (k + 1) u (by simpa using g1) g2 (by rw [show i + (k + 1) = i + 1 + k by omega]; exact g3)
        rw [show i + (k + 1) = i + 1 + k by omega] at this
        rw [g4, this]
        simp
        omega
      rw [hz]
      rw [List.getD_eq_getElem?_getD] at hf0
      simp [hf0]
    · have hrest := count_outR (ws := ws) (i := i + 1) (f := f) (j := j) (by omega) (fun k u g1 g2 g3 => by
        have := hf (k + 1) u (by simpa using g1) g2 (by rw [show i + (k + 1) = i + 1 + k by omega]; exact g3)
        rw [show i + (k + 1) = i + 1 + k by omega] at this
        exact this) ⟨v, by rw [show j - i = (j - (i + 1)) + 1 by omega] at h1; simpa using h1, h2, h3⟩
      rw [hrest]
      cases hc : lfB w && !(R.getD i Bx.zero).emp
      · simp
      · simp at hc
        have := hf 0 w rfl hc.1 (by simpa using hc.2)
        rw [Nat.add_zero, List.getD_eq_getElem?_getD, decide_eq_false he] at this
        simp [this]
theorem piece_one (h : rightI ws dim = true) (hB : Boxes ws b R) {p : Pt} {t : Int} (hb : b.In p t) : (outR R 0 ws).countP (fun y => y.box.hs p t) = 1 := by
  obtain ⟨j, hj⟩ := walk_ends h p
  obtain ⟨w, hw, _, hl⟩ := goW_is hj
  obtain ⟨x, hx, hin⟩ := in_on h hB hb (go_on On.root hj)
  have hxd : R.getD j Bx.zero = x := by rw [List.getD_eq_getElem?_getD, hx]; rfl
  refine count_outR (j := j) (Nat.zero_le _) (fun k v hv hvl he => ?_) ⟨w, hw, hl, by rw [hxd]; exact in_emp hin⟩
  rw [Nat.zero_add] at he ⊢
  have hk := (List.getElem?_eq_some_iff.1 hv).1
  have hR := (getB (r := R) (i := k) (by rw [hB.len]; exact hk)).2
  by_cases hkj : k = j
  · subst hkj
    rw [decide_eq_true rfl, hxd]
    exact hs_iff.2 hin
  · rw [decide_eq_false hkj]
    cases hh : (R.getD k Bx.zero).hs p t
    · rfl
    · obtain ⟨ho, _⟩ := on_in h hB k _ hR (hs_iff.1 hh)
      have := on_leaf h ho hv hvl
      rw [hj] at this
      injection this with this
      exact absurd this.symm hkj
end
/-! ### What the statements ask -/
/-- The value of the first piece that has a point. -/
def atV (ps : List Pc) (p : Pt) (t : Int) : Int := match ps.find? (fun y => y.box.hs p t) with
  | some y => y.val
  | none => 0
def atB (ps : List Pc) (p : Pt) (t : Int) : Bool := ps.any fun y => y.box.hs p t
def _root_.Go.Proofs.Ythbaccmhdffjdaa.Ev.Bx.join (x y : Bx) : Bx := ⟨minI x.a0 y.a0, maxI x.b0 y.b0, minI x.a1 y.a1, maxI x.b1 y.b1, minI x.a2 y.a2, maxI x.b2 y.b2, minI x.a3 y.a3, maxI x.b3 y.b3, minI x.a4 y.a4, maxI x.b4 y.b4⟩
def hullGo (b : Bx) (l : List Pc) : Bx := l.foldl (fun b y => b.join y.box) b
def hullI (ps : List Pc) : Bx := match ps with
  | [] => Bx.zero
  | y :: l => hullGo y.box l
theorem join_le {x y b : Bx} (h : x.Le b) (g : y.Le b) : (x.join y).Le b ∧ x.Le (x.join y) ∧ y.Le (x.join y) := by
  obtain ⟨h0, h1, h2, h3, h4⟩ := h
  obtain ⟨g0, g1, g2, g3, g4⟩ := g
  simp only [Bx.Le, Bx.join, minI_eq, maxI_eq]
  omega
theorem hullGo_le {b : Bx} : ∀ {l : List Pc} {x : Bx}, x.Le b → (∀ y ∈ l, y.box.Le b) → (hullGo x l).Le b ∧ x.Le (hullGo x l) ∧ ∀ y ∈ l, y.box.Le (hullGo x l)
  | [], x, h, _ => ⟨h, le_refl _, fun y hy => by simp at hy⟩
  | y :: l, x, h, g => by
    obtain ⟨j1, j2, j3⟩ := join_le h (g y (List.mem_cons_self ..))
    obtain ⟨k1, k2, k3⟩ := hullGo_le (l := l) j1 fun z hz => g z (List.mem_cons_of_mem _ hz)
    refine ⟨k1, le_trans j2 k2, fun z hz => ?_⟩
    rcases List.mem_cons.1 hz with rfl | hz
    · exact le_trans j3 k2
    · exact k3 z hz
theorem hull_le {ps : List Pc} {b : Bx} (hne : ps ≠ []) (h : ∀ y ∈ ps, y.box.Le b) : (hullI ps).Le b ∧ ∀ y ∈ ps, y.box.Le (hullI ps) := by
  cases ps with
  | nil => exact absurd rfl hne
  | cons y l =>
    obtain ⟨k1, k2, k3⟩ := hullGo_le (l := l) (h y (List.mem_cons_self ..)) fun z hz => h z (List.mem_cons_of_mem _ hz)
    refine ⟨k1, fun z hz => ?_⟩
    rcases List.mem_cons.1 hz with rfl | hz
    · exact k2
    · exact k3 z hz
theorem box_ext {x y : Bx} (h : x.Le y) (hl : x.In y.pt y.a4) (hh : x.In y.top y.b4) : x = y := by
  obtain ⟨a0, b0, a1, b1, a2, b2, a3, b3, a4, b4⟩ := x
  obtain ⟨c0, d0, c1, d1, c2, d2, c3, d3, c4, d4⟩ := y
  simp only [Bx.Le, Bx.In, Bx.pt, Bx.top] at *
  simp only [Bx.mk.injEq]
  omega
section
variable {ws : List Int} {dim : Int} {b : Bx}
theorem list_pcs (h : rightI ws 4 = true) (he : b.emp = false) : listP ws b = pcsI ws b := by simp only [listP, h, he, Bool.not_false, Bool.and_self, cond_true]
theorem list_ne (h : rightI ws 4 = true) (he : b.emp = false) : listP ws b ≠ [] := by
  obtain ⟨R, hB, hp⟩ := boxes h b
  rw [list_pcs h he, hp]
  obtain ⟨y, hy, _⟩ := piece_is h hB (pt_in he).1
  intro hn
  rw [hn] at hy
  simp at hy
theorem list_in (h : rightI ws 4 = true) (he : b.emp = false) : ∀ y ∈ listP ws b, y.box.emp = false ∧ y.box.Le b := by
  obtain ⟨R, hB, hp⟩ := boxes h b
  rw [list_pcs h he, hp]
  intro y hy
  obtain ⟨j, w, _, _, hx, hye, _⟩ := mem_out hB hy
  exact ⟨hye, box_le h hB j _ hx hye⟩
theorem list_val (h : rightI ws 4 = true) (he : b.emp = false) {p : Pt} {t : Int} : ∀ y ∈ listP ws b, y.box.In p t → y.val = endV ws p := by
  obtain ⟨R, hB, hp⟩ := boxes h b
  rw [list_pcs h he, hp]
  exact fun y hy hin => (piece_val h hB hy hin).1
theorem list_one (h : rightI ws 4 = true) {p : Pt} {t : Int} (hb : b.In p t) : (listP ws b).countP (fun y => y.box.hs p t) = 1 := by
  obtain ⟨R, hB, hp⟩ := boxes h b
  rw [list_pcs h (in_emp hb), hp]
  exact piece_one h hB hb
theorem list_at (h : rightI ws 4 = true) {p : Pt} {t : Int} (hb : b.In p t) : atB (listP ws b) p t = true ∧ atV (listP ws b) p t = endV ws p := by
  have he := in_emp hb
  obtain ⟨y, hy, hin⟩ : ∃ y ∈ listP ws b, y.box.In p t := by
    obtain ⟨R, hB, hp⟩ := boxes h b
    rw [list_pcs h he, hp]
    exact piece_is h hB hb
  refine ⟨List.any_eq_true.2 ⟨y, hy, hs_iff.2 hin⟩, ?_⟩
  unfold atV
  cases hf : (listP ws b).find? (fun y => y.box.hs p t) with
  | none => exact absurd (hs_iff.2 hin) (by simpa using List.find?_eq_none.1 hf y hy)
  | some z =>
    have h1 := List.find?_some hf
    exact list_val h he z (List.mem_of_find?_eq_some hf) (hs_iff.1 h1)
theorem list_hull (h : rightI ws 4 = true) (he : b.emp = false) : hullI (listP ws b) = b := by
  have hin := list_in h he
  obtain ⟨k1, k2⟩ := hull_le (list_ne h he) fun y hy => (hin y hy).2
  obtain ⟨R, hB, hp⟩ := boxes h b
  have e := list_pcs h he
  obtain ⟨y, hy, hyi⟩ := piece_is h hB (pt_in he).1
  obtain ⟨z, hz, hzi⟩ := piece_is h hB (pt_in he).2
  rw [← hp, ← e] at hy hz
  exact box_ext k1 (le_in (k2 y hy) hyi) (le_in (k2 z hz) hzi)
theorem list_len_le (h : rightI ws 4 = true) : (listP ws b).length ≤ (leafIx 0 ws).length := by
  cases he : b.emp
  · obtain ⟨R, hB, hp⟩ := boxes h b
    rw [list_pcs h he, hp]
    exact outR_len ws 0 (right_ok h)
  · simp [listP, he]
/-- Over one point there is one piece: the point. -/
theorem list_point (h : rightI ws 4 = true) {p : Pt} {t : Int} (hb : b.In p t) (h1 : b.pt = b.top) (h2 : b.a4 = b.b4) : listP ws b = [⟨b, endV ws p⟩] := by
  have he := in_emp hb
  have hin := list_in h he
  have hone := list_one h hb
  have hall : ∀ y ∈ listP ws b, y.box = b := fun y hy => by
    obtain ⟨g1, g2⟩ := hin y hy
    obtain ⟨a0, b0, a1, b1, a2, b2, a3, b3, a4, b4⟩ := b
    obtain ⟨⟨c0, d0, c1, d1, c2, d2, c3, d3, c4, d4⟩, v⟩ := y
    have g1 := emp_iff.1 g1
    simp only [Bx.Le, Bx.pt, Bx.top, Pt.mk.injEq] at *
    simp only [Bx.mk.injEq]
    omega
  have hc : (listP ws b).countP (fun y => y.box.hs p t) = (listP ws b).length := List.countP_eq_length.2 fun y hy => by rw [hall y hy]; exact hs_iff.2 hb
  rw [hc] at hone
  match hl : listP ws b, hone with
  | [y], _ =>
    have hy : y ∈ listP ws b := by rw [hl]; exact List.mem_cons_self ..
    have h3 := hall y hy
    have h4 := list_val h he y hy (by rw [h3]; exact hb)
    obtain ⟨bx, v⟩ := y
    simp only at h3 h4
    rw [h3, h4]
end
end Go.Proofs.Ythbaccmhdffjdaa.Lv


set_option linter.unusedVariables false
set_option linter.unusedSimpArgs false
set_option maxRecDepth 100000
namespace Go.Proofs.Ythbaccmhdffjdaa.Fo
open Go Go.RowKit Go.Proofs.Ythbaccmhdffjdaa.Ev Go.Proofs.Ythbaccmhdffjdaa.NodeE Go.Proofs.Ythbaccmhdffjdaa.BoxF Go.Proofs.Ythbaccmhdffjdaa.Within Go.Proofs.Ythbaccmhdffjdaa.PickE Go.Proofs.Ythbaccmhdffjdaa.Tn Go.Proofs.Ythbaccmhdffjdaa.Fo

theorem rg1 (PV : Value → Int → Int) (R0 : List Value) (c0 b0 b1 b2 : Int) (zm zs : Option Addr) (lm cm ns cs : Nat) (l0 h0 : Int)  {E : Env} (hE : EnvOK E Try.prog Try.f28 2 2 (.agg ⟨[.int .i64 l0, .int .i64 h0, .int .i64 0, .int .i64 0, .int .i64 0, .int .i64 0, .int .i64 0, .int .i64 0, .int .i64 0, .int .i64 0]⟩) [] []) (hob : all ([Back (Value.agg (Array.mk [Value.int IntKind.i64 l0, Value.int IntKind.i64 h0, Value.int IntKind.i64 ((0 : Int)), Value.int IntKind.i64 ((0 : Int)), Value.int IntKind.i64 ((0 : Int)), Value.int IntKind.i64 ((0 : Int)), Value.int IntKind.i64 ((0 : Int)), Value.int IntKind.i64 ((0 : Int)), Value.int IntKind.i64 ((0 : Int)), Value.int IntKind.i64 ((0 : Int))])) (Value.agg (Array.mk [Value.int IntKind.i64 l0, Value.int IntKind.i64 h0, Value.int IntKind.i64 ((0 : Int)), Value.int IntKind.i64 ((0 : Int)), Value.int IntKind.i64 ((0 : Int)), Value.int IntKind.i64 ((0 : Int)), Value.int IntKind.i64 ((0 : Int)), Value.int IntKind.i64 ((0 : Int)), Value.int IntKind.i64 ((0 : Int)), Value.int IntKind.i64 ((0 : Int))])) [] [] [], Value.int IntKind.i64 (IntKind.i64.wrap (l0 + withinS (PV (Value.slice zs ns cs) (IntKind.i64.wrap (IntKind.i64.wrap (2 * 0) + 1))) ((0 : Int)) ((11 : Int)))) = Value.int IntKind.i64 h0, I64 (PV (Value.slice zs ns cs) (IntKind.i64.wrap (IntKind.i64.wrap (2 * 0) + 1))), (-2305843009213693952 : Int) ≤ (0 : Int), (0 : Int) ≤ (11 : Int), (11 : Int) ≤ (2305843009213693952 : Int), PickOK PV (Value.slice zs ns cs) ((1 : Int)) 0 (some (Blk.ro R0)), Value.int IntKind.i64 (withinS (PV (Value.slice zs ns cs) (IntKind.i64.wrap (2 * 0))) ((-2 : Int)) ((9 : Int))) = Value.int IntKind.i64 l0, I64 (PV (Value.slice zs ns cs) (IntKind.i64.wrap (2 * 0))), (-2305843009213693952 : Int) ≤ (-2 : Int), (-2 : Int) ≤ (9 : Int), (9 : Int) ≤ (2305843009213693952 : Int), PickOK PV (Value.slice zs ns cs) ((0 : Int)) 0 (some (Blk.ro R0))])) : Sat E [.code (bodyOf Try.f28)] (st0 Try.f28 [.agg ⟨[.int .i64 1, .int .i64 c0, .int .i64 b0, .int .i64 b1, .int .i64 b2, .slice zm lm cm]⟩, .slice zs ns cs] (roRows [R0]) 2) :=
  by_ret (T := auto0 (t_rg PV)) (h := hintsC [(5, 5, 4, {v := some (.int .i64 l0)}), (6, 6, 9, {v := some (.int .i64 h0)})] (hints [])) (ws := []) (nx' := 2) hE hm (auto0_ok (t_rg_ok PV)) (by omega) (by simp) (by simp) (by kernel_rfl) hob
theorem rg2 (PV : Value → Int → Int) (R0 : List Value) (c0 b0 b1 b2 : Int) (zm zs : Option Addr) (lm cm ns cs : Nat) (l0 h0 l1 h1 : Int)  {E : Env} (hE : EnvOK E Try.prog Try.f28 2 2 (.agg ⟨[.int .i64 l0, .int .i64 h0, .int .i64 l1, .int .i64 h1, .int .i64 0, .int .i64 0, .int .i64 0, .int .i64 0, .int .i64 0, .int .i64 0]⟩) [] []) (hob : all ([Back (Value.agg (Array.mk [Value.int IntKind.i64 l0, Value.int IntKind.i64 h0, Value.int IntKind.i64 l1, Value.int IntKind.i64 h1, Value.int IntKind.i64 ((0 : Int)), Value.int IntKind.i64 ((0 : Int)), Value.int IntKind.i64 ((0 : Int)), Value.int IntKind.i64 ((0 : Int)), Value.int IntKind.i64 ((0 : Int)), Value.int IntKind.i64 ((0 : Int))])) (Value.agg (Array.mk [Value.int IntKind.i64 l0, Value.int IntKind.i64 h0, Value.int IntKind.i64 l1, Value.int IntKind.i64 h1, Value.int IntKind.i64 ((0 : Int)), Value.int IntKind.i64 ((0 : Int)), Value.int IntKind.i64 ((0 : Int)), Value.int IntKind.i64 ((0 : Int)), Value.int IntKind.i64 ((0 : Int)), Value.int IntKind.i64 ((0 : Int))])) [] [] [], Value.int IntKind.i64 (IntKind.i64.wrap (l1 + withinS (PV (Value.slice zs ns cs) (IntKind.i64.wrap (IntKind.i64.wrap (2 * IntKind.i64.wrap (0 + 1)) + 1))) ((0 : Int)) ((11 : Int)))) = Value.int IntKind.i64 h1, I64 (PV (Value.slice zs ns cs) (IntKind.i64.wrap (IntKind.i64.wrap (2 * IntKind.i64.wrap (0 + 1)) + 1))), (-2305843009213693952 : Int) ≤ (0 : Int), (0 : Int) ≤ (11 : Int), (11 : Int) ≤ (2305843009213693952 : Int), PickOK PV (Value.slice zs ns cs) ((3 : Int)) 0 (some (Blk.ro R0)), Value.int IntKind.i64 (withinS (PV (Value.slice zs ns cs) (IntKind.i64.wrap (2 * IntKind.i64.wrap (0 + 1)))) ((-2 : Int)) ((9 : Int))) = Value.int IntKind.i64 l1, I64 (PV (Value.slice zs ns cs) (IntKind.i64.wrap (2 * IntKind.i64.wrap (0 + 1)))), (-2305843009213693952 : Int) ≤ (-2 : Int), (-2 : Int) ≤ (9 : Int), (9 : Int) ≤ (2305843009213693952 : Int), PickOK PV (Value.slice zs ns cs) ((2 : Int)) 0 (some (Blk.ro R0)), Value.int IntKind.i64 (IntKind.i64.wrap (l0 + withinS (PV (Value.slice zs ns cs) (IntKind.i64.wrap (IntKind.i64.wrap (2 * 0) + 1))) ((0 : Int)) ((11 : Int)))) = Value.int IntKind.i64 h0, I64 (PV (Value.slice zs ns cs) (IntKind.i64.wrap (IntKind.i64.wrap (2 * 0) + 1))), (-2305843009213693952 : Int) ≤ (0 : Int), (0 : Int) ≤ (11 : Int), (11 : Int) ≤ (2305843009213693952 : Int), PickOK PV (Value.slice zs ns cs) ((1 : Int)) 0 (some (Blk.ro R0)), Value.int IntKind.i64 (withinS (PV (Value.slice zs ns cs) (IntKind.i64.wrap (2 * 0))) ((-2 : Int)) ((9 : Int))) = Value.int IntKind.i64 l0, I64 (PV (Value.slice zs ns cs) (IntKind.i64.wrap (2 * 0))), (-2305843009213693952 : Int) ≤ (-2 : Int), (-2 : Int) ≤ (9 : Int), (9 : Int) ≤ (2305843009213693952 : Int), PickOK PV (Value.slice zs ns cs) ((0 : Int)) 0 (some (Blk.ro R0))])) : Sat E [.code (bodyOf Try.f28)] (st0 Try.f28 [.agg ⟨[.int .i64 2, .int .i64 c0, .int .i64 b0, .int .i64 b1, .int .i64 b2, .slice zm lm cm]⟩, .slice zs ns cs] (roRows [R0]) 2) :=
  by_ret (T := auto0 (t_rg PV)) (h := hintsC [(5, 5, 4, {v := some (.int .i64 l0)}), (6, 6, 9, {v := some (.int .i64 h0)}), (10, 5, 4, {v := some (.int .i64 l1)}), (11, 6, 9, {v := some (.int .i64 h1)})] (hints [])) (ws := []) (nx' := 2) hE hm (auto0_ok (t_rg_ok PV)) (by omega) (by simp) (by simp) (by kernel_rfl) hob
theorem rg3 (PV : Value → Int → Int) (R0 : List Value) (c0 b0 b1 b2 : Int) (zm zs : Option Addr) (lm cm ns cs : Nat) (l0 h0 l1 h1 l2 h2 : Int)  {E : Env} (hE : EnvOK E Try.prog Try.f28 2 2 (.agg ⟨[.int .i64 l0, .int .i64 h0, .int .i64 l1, .int .i64 h1, .int .i64 l2, .int .i64 h2, .int .i64 0, .int .i64 0, .int .i64 0, .int .i64 0]⟩) [] []) (hob : all ([Back (Value.agg (Array.mk [Value.int IntKind.i64 l0, Value.int IntKind.i64 h0, Value.int IntKind.i64 l1, Value.int IntKind.i64 h1, Value.int IntKind.i64 l2, Value.int IntKind.i64 h2, Value.int IntKind.i64 ((0 : Int)), Value.int IntKind.i64 ((0 : Int)), Value.int IntKind.i64 ((0 : Int)), Value.int IntKind.i64 ((0 : Int))])) (Value.agg (Array.mk [Value.int IntKind.i64 l0, Value.int IntKind.i64 h0, Value.int IntKind.i64 l1, Value.int IntKind.i64 h1, Value.int IntKind.i64 l2, Value.int IntKind.i64 h2, Value.int IntKind.i64 ((0 : Int)), Value.int IntKind.i64 ((0 : Int)), Value.int IntKind.i64 ((0 : Int)), Value.int IntKind.i64 ((0 : Int))])) [] [] [], Value.int IntKind.i64 (IntKind.i64.wrap (l2 + withinS (PV (Value.slice zs ns cs) (IntKind.i64.wrap (IntKind.i64.wrap (2 * IntKind.i64.wrap (IntKind.i64.wrap (0 + 1) + 1)) + 1))) ((0 : Int)) ((11 : Int)))) = Value.int IntKind.i64 h2, I64 (PV (Value.slice zs ns cs) (IntKind.i64.wrap (IntKind.i64.wrap (2 * IntKind.i64.wrap (IntKind.i64.wrap (0 + 1) + 1)) + 1))), (-2305843009213693952 : Int) ≤ (0 : Int), (0 : Int) ≤ (11 : Int), (11 : Int) ≤ (2305843009213693952 : Int), PickOK PV (Value.slice zs ns cs) ((5 : Int)) 0 (some (Blk.ro R0)), Value.int IntKind.i64 (withinS (PV (Value.slice zs ns cs) (IntKind.i64.wrap (2 * IntKind.i64.wrap (IntKind.i64.wrap (0 + 1) + 1)))) ((-2 : Int)) ((9 : Int))) = Value.int IntKind.i64 l2, I64 (PV (Value.slice zs ns cs) (IntKind.i64.wrap (2 * IntKind.i64.wrap (IntKind.i64.wrap (0 + 1) + 1)))), (-2305843009213693952 : Int) ≤ (-2 : Int), (-2 : Int) ≤ (9 : Int), (9 : Int) ≤ (2305843009213693952 : Int), PickOK PV (Value.slice zs ns cs) ((4 : Int)) 0 (some (Blk.ro R0)), Value.int IntKind.i64 (IntKind.i64.wrap (l1 + withinS (PV (Value.slice zs ns cs) (IntKind.i64.wrap (IntKind.i64.wrap (2 * IntKind.i64.wrap (0 + 1)) + 1))) ((0 : Int)) ((11 : Int)))) = Value.int IntKind.i64 h1, I64 (PV (Value.slice zs ns cs) (IntKind.i64.wrap (IntKind.i64.wrap (2 * IntKind.i64.wrap (0 + 1)) + 1))), (-2305843009213693952 : Int) ≤ (0 : Int), (0 : Int) ≤ (11 : Int), (11 : Int) ≤ (2305843009213693952 : Int), PickOK PV (Value.slice zs ns cs) ((3 : Int)) 0 (some (Blk.ro R0)), Value.int IntKind.i64 (withinS (PV (Value.slice zs ns cs) (IntKind.i64.wrap (2 * IntKind.i64.wrap (0 + 1)))) ((-2 : Int)) ((9 : Int))) = Value.int IntKind.i64 l1, I64 (PV (Value.slice zs ns cs) (IntKind.i64.wrap (2 * IntKind.i64.wrap (0 + 1)))), (-2305843009213693952 : Int) ≤ (-2 : Int), (-2 : Int) ≤ (9 : Int), (9 : Int) ≤ (2305843009213693952 : Int), PickOK PV (Value.slice zs ns cs) ((2 : Int)) 0 (some (Blk.ro R0)), Value.int IntKind.i64 (IntKind.i64.wrap (l0 + withinS (PV (Value.slice zs ns cs) (IntKind.i64.wrap (IntKind.i64.wrap (2 * 0) + 1))) ((0 : Int)) ((11 : Int)))) = Value.int IntKind.i64 h0, I64 (PV (Value.slice zs ns cs) (IntKind.i64.wrap (IntKind.i64.wrap (2 * 0) + 1))), (-2305843009213693952 : Int) ≤ (0 : Int), (0 : Int) ≤ (11 : Int), (11 : Int) ≤ (2305843009213693952 : Int), PickOK PV (Value.slice zs ns cs) ((1 : Int)) 0 (some (Blk.ro R0)), Value.int IntKind.i64 (withinS (PV (Value.slice zs ns cs) (IntKind.i64.wrap (2 * 0))) ((-2 : Int)) ((9 : Int))) = Value.int IntKind.i64 l0, I64 (PV (Value.slice zs ns cs) (IntKind.i64.wrap (2 * 0))), (-2305843009213693952 : Int) ≤ (-2 : Int), (-2 : Int) ≤ (9 : Int), (9 : Int) ≤ (2305843009213693952 : Int), PickOK PV (Value.slice zs ns cs) ((0 : Int)) 0 (some (Blk.ro R0))])) : Sat E [.code (bodyOf Try.f28)] (st0 Try.f28 [.agg ⟨[.int .i64 3, .int .i64 c0, .int .i64 b0, .int .i64 b1, .int .i64 b2, .slice zm lm cm]⟩, .slice zs ns cs] (roRows [R0]) 2) :=
  by_ret (T := auto0 (t_rg PV)) (h := hintsC [(5, 5, 4, {v := some (.int .i64 l0)}), (6, 6, 9, {v := some (.int .i64 h0)}), (10, 5, 4, {v := some (.int .i64 l1)}), (11, 6, 9, {v := some (.int .i64 h1)}), (15, 5, 4, {v := some (.int .i64 l2)}), (16, 6, 9, {v := some (.int .i64 h2)})] (hints [])) (ws := []) (nx' := 2) hE hm (auto0_ok (t_rg_ok PV)) (by omega) (by simp) (by simp) (by kernel_rfl) hob
theorem ins (PV : Value → Int → Int) (R0 : List Value) (l0 h0 l1 h1 l2 h2 l3 h3 l4 h4 m0 m1 m2 m3 p0 p1 p2 p3 : Int) (zs : Option Addr) (ns cs : Nat)  {E : Env} (hE : EnvOK E Try.prog Try.f32 2 2 (.agg ⟨[.int .i64 p0, .int .i64 p1, .int .i64 p2, .int .i64 p3]⟩) [] []) (hob : all ([Back (Value.agg (Array.mk [Value.int IntKind.i64 p0, Value.int IntKind.i64 p1, Value.int IntKind.i64 p2, Value.int IntKind.i64 p3])) (Value.agg (Array.mk [Value.int IntKind.i64 p0, Value.int IntKind.i64 p1, Value.int IntKind.i64 p2, Value.int IntKind.i64 p3])) [] [] [], Value.int IntKind.i64 (withinS (PV (Value.slice zs ns cs) (IntKind.i64.wrap (IntKind.i64.wrap (IntKind.i64.wrap (0 + 1) + 1) + 1))) l3 m3) = Value.int IntKind.i64 p3, I64 (PV (Value.slice zs ns cs) (IntKind.i64.wrap (IntKind.i64.wrap (IntKind.i64.wrap (0 + 1) + 1) + 1))), (-2305843009213693952 : Int) ≤ l3, l3 ≤ m3, m3 ≤ (2305843009213693952 : Int), Value.int IntKind.i64 (maxI l3 h3) = Value.int IntKind.i64 m3, PickOK PV (Value.slice zs ns cs) ((3 : Int)) 0 (some (Blk.ro R0)), Value.int IntKind.i64 (withinS (PV (Value.slice zs ns cs) (IntKind.i64.wrap (IntKind.i64.wrap (0 + 1) + 1))) l2 m2) = Value.int IntKind.i64 p2, I64 (PV (Value.slice zs ns cs) (IntKind.i64.wrap (IntKind.i64.wrap (0 + 1) + 1))), (-2305843009213693952 : Int) ≤ l2, l2 ≤ m2, m2 ≤ (2305843009213693952 : Int), Value.int IntKind.i64 (maxI l2 h2) = Value.int IntKind.i64 m2, PickOK PV (Value.slice zs ns cs) ((2 : Int)) 0 (some (Blk.ro R0)), Value.int IntKind.i64 (withinS (PV (Value.slice zs ns cs) (IntKind.i64.wrap (0 + 1))) l1 m1) = Value.int IntKind.i64 p1, I64 (PV (Value.slice zs ns cs) (IntKind.i64.wrap (0 + 1))), (-2305843009213693952 : Int) ≤ l1, l1 ≤ m1, m1 ≤ (2305843009213693952 : Int), Value.int IntKind.i64 (maxI l1 h1) = Value.int IntKind.i64 m1, PickOK PV (Value.slice zs ns cs) ((1 : Int)) 0 (some (Blk.ro R0)), Value.int IntKind.i64 (withinS (PV (Value.slice zs ns cs) 0) l0 m0) = Value.int IntKind.i64 p0, I64 (PV (Value.slice zs ns cs) 0), (-2305843009213693952 : Int) ≤ l0, l0 ≤ m0, m0 ≤ (2305843009213693952 : Int), Value.int IntKind.i64 (maxI l0 h0) = Value.int IntKind.i64 m0, PickOK PV (Value.slice zs ns cs) ((0 : Int)) 0 (some (Blk.ro R0))])) : Sat E [.code (bodyOf Try.f32)] (st0 Try.f32 [.agg ⟨[.int .i64 l0, .int .i64 h0, .int .i64 l1, .int .i64 h1, .int .i64 l2, .int .i64 h2, .int .i64 l3, .int .i64 h3, .int .i64 l4, .int .i64 h4]⟩, .slice zs ns cs] (roRows [R0]) 2) :=
  by_ret (T := auto0 (t_rg PV)) (h := hintsC [(5, 5, 16, {v := some (.int .i64 m0)}), (5, 5, 17, {v := some (.int .i64 p0)}), (9, 5, 16, {v := some (.int .i64 m1)}), (9, 5, 17, {v := some (.int .i64 p1)}), (13, 5, 16, {v := some (.int .i64 m2)}), (13, 5, 17, {v := some (.int .i64 p2)}), (17, 5, 16, {v := some (.int .i64 m3)}), (17, 5, 17, {v := some (.int .i64 p3)})] (hints [])) (ws := []) (nx' := 2) hE hm (auto0_ok (t_rg_ok PV)) (by omega) (by simp) (by simp) (by kernel_rfl) hob
end Go.Proofs.Ythbaccmhdffjdaa.Fo


set_option linter.unusedVariables false
set_option linter.unusedSimpArgs false
set_option maxRecDepth 100000
namespace Go.Proofs.Ythbaccmhdffjdaa.Tn
open Go Go.RowKit Go.Proofs.Ythbaccmhdffjdaa.Ev Go.Proofs.Ythbaccmhdffjdaa.NodeE Go.Proofs.Ythbaccmhdffjdaa.BoxF Go.Proofs.Ythbaccmhdffjdaa.Within Go.Proofs.Ythbaccmhdffjdaa.PickE Go.Proofs.Ythbaccmhdffjdaa.Tn

def Rw.sz (r : Rw) (k : Nat) : Option Addr := bif r.z then some ⟨k, 0, none⟩ else none
def Rw.sm (r : Rw) : Nat := bif r.z then r.n else 0
def Rw.sc (r : Rw) : Nat := bif r.z then r.c else 0
theorem Rw.sv (r : Rw) (k : Nat) : Value.slice (r.sz k) r.sm r.sc = r.v k := by
  unfold Rw.sz Rw.sm Rw.sc Rw.v
  cases r.z <;> rfl
theorem Rw.v_nm (r : Rw) (k : Nat) : ∀ j ∈ nm0 (r.v k), j = k := by
  intro j hj
  unfold Rw.v at hj
  cases h : r.z <;> rw [h] at hj <;> simp [nm0] at hj
  exact hj
theorem Rw.v_rn (r : Rw) (k : Nat) (f : Nat → Nat) : rn f (r.v k) = r.v (f k) := by
  unfold Rw.v
  cases r.z <;> rfl
theorem Rw.v_rn0 (r : Rw) (k : Nat) (f : Nat → Nat) : rn0 f (r.v k) = r.v (f k) := by
  unfold Rw.v
  cases r.z <;> rfl
/-- A slice that comes in, under a name that is always there. -/
def RwOn (r : Rw) (x : Option Blk) : Prop := r.good ∧ (r.z = false → r.cs = []) ∧ ∃ b, x = some b ∧ b.row = some r.cs
theorem RwOn.pl {r : Rw} {x : Option Blk} (h : RwOn r x) : ∀ c ∈ r.cs, leafG c = true := by
  cases hz : r.z with
  | false => rw [h.2.1 hz]; intro c hc; simp at hc
  | true => exact (h.1 hz).2.2
theorem Rw.good64 {r : Rw} (h : r.good) : ∀ z ∈ r.l, I64 z := by
  intro z hz
  unfold Rw.l at hz
  cases h' : r.z <;> rw [h'] at hz
  · simp at hz
  · exact (h h').2.1 z hz
end Go.Proofs.Ythbaccmhdffjdaa.Tn


set_option linter.unusedVariables false
set_option linter.unusedSimpArgs false
set_option maxRecDepth 100000
namespace Go.Proofs.Ythbaccmhdffjdaa.Fo
open Go Go.RowKit Go.Proofs.Ythbaccmhdffjdaa.Ev Go.Proofs.Ythbaccmhdffjdaa.NodeE Go.Proofs.Ythbaccmhdffjdaa.BoxF Go.Proofs.Ythbaccmhdffjdaa.Within Go.Proofs.Ythbaccmhdffjdaa.PickE Go.Proofs.Ythbaccmhdffjdaa.Tn Go.Proofs.Ythbaccmhdffjdaa.Fo Go.Proofs.Ythbaccmhdffjdaa.Tr

def rgLo (l : List Int) (i : Int) : Int := withinS (pickI l (2 * i)) (-2) 9
def rgHi (l : List Int) (i : Int) : Int := rgLo l i + withinS (pickI l (2 * i + 1)) 0 11
/-- What Region makes of numbers. -/
def regI (l : List Int) (dim : Int) : Bx := ⟨if 0 < dim then rgLo l 0 else 0, if 0 < dim then rgHi l 0 else 0, if 1 < dim then rgLo l 1 else 0, if 1 < dim then rgHi l 1 else 0, if 2 < dim then rgLo l 2 else 0, if 2 < dim then rgHi l 2 else 0, 0, 0, 0, 0⟩
theorem rg_in (l : List Int) (i : Int) : -2 ≤ rgLo l i ∧ rgLo l i ≤ rgHi l i ∧ rgHi l i ≤ 20 := by
  have h1 := within_range (pickI l (2 * i)) (show (-2 : Int) ≤ 9 by decide)
  have h2 := within_range (pickI l (2 * i + 1)) (show (0 : Int) ≤ 11 by decide)
  unfold rgHi rgLo
  omega
/-- The spans of what Region makes: in bounds, none empty. -/
theorem reg_in (l : List Int) (dim : Int) : let b := regI l dim; (-2 ≤ b.a0 ∧ b.a0 ≤ b.b0 ∧ b.b0 ≤ 20) ∧ (-2 ≤ b.a1 ∧ b.a1 ≤ b.b1 ∧ b.b1 ≤ 20) ∧ (-2 ≤ b.a2 ∧ b.a2 ≤ b.b2 ∧ b.b2 ≤ 20) ∧ (-2 ≤ b.a3 ∧ b.a3 ≤ b.b3 ∧ b.b3 ≤ 20) ∧ (-2 ≤ b.a4 ∧ b.a4 ≤ b.b4 ∧ b.b4 ≤ 20) := by
  have h0 := rg_in l 0
  have h1 := rg_in l 1
  have h2 := rg_in l 2
  unfold regI
  refine ⟨?_, ?_, ?_, (by show (-2 : Int) ≤ 0 ∧ (0 : Int) ≤ 0 ∧ (0 : Int) ≤ 20; decide), (by show (-2 : Int) ≤ 0 ∧ (0 : Int) ≤ 0 ∧ (0 : Int) ≤ 20; decide)⟩
  · show -2 ≤ (if (0 : Int) < dim then _ else _) ∧ (if (0 : Int) < dim then _ else _) ≤ (if (0 : Int) < dim then _ else _) ∧ (if (0 : Int) < dim then _ else _) ≤ (20 : Int)
    split <;> omega
  · show -2 ≤ (if (1 : Int) < dim then _ else _) ∧ (if (1 : Int) < dim then _ else _) ≤ (if (1 : Int) < dim then _ else _) ∧ (if (1 : Int) < dim then _ else _) ≤ (20 : Int)
    split <;> omega
  · show -2 ≤ (if (2 : Int) < dim then _ else _) ∧ (if (2 : Int) < dim then _ else _) ≤ (if (2 : Int) < dim then _ else _) ∧ (if (2 : Int) < dim then _ else _) ≤ (20 : Int)
    split <;> omega
def insX (l : List Int) (i a b : Int) : Int := withinS (pickI l i) a (maxI a b)
def insI (l : List Int) (b : Bx) : Pt := ⟨insX l 0 b.a0 b.b0, insX l 1 b.a1 b.b1, insX l 2 b.a2 b.b2, insX l 3 b.a3 b.b3⟩
theorem pick0 {r : Rw} (h : r.good) {i : Int} (hi : 0 ≤ i) : PickOK (fun _ i => pickI r.l i) (.slice (r.sz 0) r.sm r.sc) i 0 (some (.ro r.cs)) := ⟨r, ⟨Rw.sv r 0, h, fun _ => ⟨_, rfl, rfl⟩⟩, rfl, hi⟩

theorem region_spec (r : Rw) (hg : r.good) (dim c0 b0 b1 b2 : Int) (h1 : 1 ≤ dim) (h2 : dim ≤ 3) (zm : Option Addr) (lm cm : Nat) :
    CallSpec Try.prog 28 [.agg ⟨[.int .i64 dim, .int .i64 c0, .int .i64 b0, .int .i64 b1, .int .i64 b2, .slice zm lm cm]⟩, r.v 0] (roRows [r.cs]) 2 (.agg ⟨(regI r.l dim).cs⟩) (assocN [] []) := by
  refine spec_of_sat Try.func28 rfl fun E hE => ?_
  rw [← Rw.sv]
  have h3 : dim = 1 ∨ dim = 2 ∨ dim = 3 := by omega
  rcases h3 with rfl | rfl | rfl
  · exact rg1 (fun _ i => pickI r.l i) r.cs c0 b0 b1 b2 zm (r.sz 0) lm cm r.sm r.sc (rgLo r.l 0) (rgHi r.l 0) hE ⟨⟨rfl, rfl⟩, i64_id rfl (by have := rg_in r.l 0; show -9223372036854775808 ≤ rgHi r.l 0; omega) (by have := rg_in r.l 0; show rgHi r.l 0 ≤ 9223372036854775807; omega), pick_i64 (Rw.good64 hg) _, by decide, by decide, by decide, pick0 hg (i := 1) (by decide), rfl, pick_i64 (Rw.good64 hg) _, by decide, by decide, by decide, pick0 hg (i := 0) (by decide), trivial⟩
  · exact rg2 (fun _ i => pickI r.l i) r.cs c0 b0 b1 b2 zm (r.sz 0) lm cm r.sm r.sc (rgLo r.l 0) (rgHi r.l 0) (rgLo r.l 1) (rgHi r.l 1) hE ⟨⟨rfl, rfl⟩, i64_id rfl (by have := rg_in r.l 1; show -9223372036854775808 ≤ rgHi r.l 1; omega) (by have := rg_in r.l 1; show rgHi r.l 1 ≤ 9223372036854775807; omega), pick_i64 (Rw.good64 hg) _, by decide, by decide, by decide, pick0 hg (i := 3) (by decide), rfl, pick_i64 (Rw.good64 hg) _, by decide, by decide, by decide, pick0 hg (i := 2) (by decide), i64_id rfl (by have := rg_in r.l 0; show -9223372036854775808 ≤ rgHi r.l 0; omega) (by have := rg_in r.l 0; show rgHi r.l 0 ≤ 9223372036854775807; omega), pick_i64 (Rw.good64 hg) _, by decide, by decide, by decide, pick0 hg (i := 1) (by decide), rfl, pick_i64 (Rw.good64 hg) _, by decide, by decide, by decide, pick0 hg (i := 0) (by decide), trivial⟩
  · exact rg3 (fun _ i => pickI r.l i) r.cs c0 b0 b1 b2 zm (r.sz 0) lm cm r.sm r.sc (rgLo r.l 0) (rgHi r.l 0) (rgLo r.l 1) (rgHi r.l 1) (rgLo r.l 2) (rgHi r.l 2) hE ⟨⟨rfl, rfl⟩, i64_id rfl (by have := rg_in r.l 2; show -9223372036854775808 ≤ rgHi r.l 2; omega) (by have := rg_in r.l 2; show rgHi r.l 2 ≤ 9223372036854775807; omega), pick_i64 (Rw.good64 hg) _, by decide, by decide, by decide, pick0 hg (i := 5) (by decide), rfl, pick_i64 (Rw.good64 hg) _, by decide, by decide, by decide, pick0 hg (i := 4) (by decide), i64_id rfl (by have := rg_in r.l 1; show -9223372036854775808 ≤ rgHi r.l 1; omega) (by have := rg_in r.l 1; show rgHi r.l 1 ≤ 9223372036854775807; omega), pick_i64 (Rw.good64 hg) _, by decide, by decide, by decide, pick0 hg (i := 3) (by decide), rfl, pick_i64 (Rw.good64 hg) _, by decide, by decide, by decide, pick0 hg (i := 2) (by decide), i64_id rfl (by have := rg_in r.l 0; show -9223372036854775808 ≤ rgHi r.l 0; omega) (by have := rg_in r.l 0; show rgHi r.l 0 ≤ 9223372036854775807; omega), pick_i64 (Rw.good64 hg) _, by decide, by decide, by decide, pick0 hg (i := 1) (by decide), rfl, pick_i64 (Rw.good64 hg) _, by decide, by decide, by decide, pick0 hg (i := 0) (by decide), trivial⟩
theorem inside_spec (r : Rw) (hg : r.good) (b : Bx) (hb : (-1000000 ≤ b.a0 ∧ b.a0 ≤ 1000000 ∧ b.b0 ≤ 1000000) ∧ (-1000000 ≤ b.a1 ∧ b.a1 ≤ 1000000 ∧ b.b1 ≤ 1000000) ∧ (-1000000 ≤ b.a2 ∧ b.a2 ≤ 1000000 ∧ b.b2 ≤ 1000000) ∧ (-1000000 ≤ b.a3 ∧ b.a3 ≤ 1000000 ∧ b.b3 ≤ 1000000)) :
    CallSpec Try.prog 32 [.agg ⟨b.cs⟩, r.v 0] (roRows [r.cs]) 2 (.agg ⟨(insI r.l b).cs⟩) (assocN [] []) := by
  refine spec_of_sat Try.func32 rfl fun E hE => ?_
  rw [← Rw.sv]
  have hm : ∀ a c : Int, a ≤ 1000000 → c ≤ 1000000 → a ≤ maxI a c ∧ maxI a c ≤ 2305843009213693952 := fun a c h1 h2 => by unfold maxI; split <;> omega
  obtain ⟨a0, b0, a1, b1, a2, b2, a3, b3, a4, b4⟩ := b
  obtain ⟨⟨p0, q0, s0⟩, ⟨p1, q1, s1⟩, ⟨p2, q2, s2⟩, ⟨p3, q3, s3⟩⟩ := hb
  simp only at *
  have m0 := hm a0 b0 q0 s0
  have m1 := hm a1 b1 q1 s1
  have m2 := hm a2 b2 q2 s2
  have m3 := hm a3 b3 q3 s3
  exact ins (fun _ i => pickI r.l i) r.cs a0 b0 a1 b1 a2 b2 a3 b3 a4 b4 (maxI a0 b0) (maxI a1 b1) (maxI a2 b2) (maxI a3 b3) (insX r.l 0 a0 b0) (insX r.l 1 a1 b1) (insX r.l 2 a2 b2) (insX r.l 3 a3 b3) (r.sz 0) r.sm r.sc hE ⟨⟨rfl, rfl⟩, rfl, pick_i64 (Rw.good64 hg) _, (by omega), m3.1, m3.2, rfl, pick0 hg (i := 3) (by decide), rfl, pick_i64 (Rw.good64 hg) _, (by omega), m2.1, m2.2, rfl, pick0 hg (i := 2) (by decide), rfl, pick_i64 (Rw.good64 hg) _, (by omega), m1.1, m1.2, rfl, pick0 hg (i := 1) (by decide), rfl, pick_i64 (Rw.good64 hg) _, (by omega), m0.1, m0.2, rfl, pick0 hg (i := 0) (by decide), trivial⟩
def RegOK (b : Bx) (q : Nat) (xs : List Value) (x : Option Blk) : Prop :=
  ∃ (dim c0 b0 b1 b2 : Int) (zm : Option Nat) (lm cm : Nat) (r : Rw), xs = [.agg ⟨[.int .i64 dim, .int .i64 c0, .int .i64 b0, .int .i64 b1, .int .i64 b2, .slice (zm.map fun j => ⟨j, 0, none⟩) lm cm]⟩, r.v q] ∧ 1 ≤ dim ∧ dim ≤ 3 ∧ RwOn r x ∧ b = regI r.l dim
def region_F (b : Bx) (q : Nat) : List Value → Heap → Nat → Option Res := fun xs H nm => some ⟨.agg ⟨b.cs⟩, [], [q], [RegOK b q xs (H q)]⟩
def InsOK (p : Pt) (q : Nat) (xs : List Value) (x : Option Blk) : Prop :=
  ∃ (b : Bx) (r : Rw), xs = [.agg ⟨b.cs⟩, r.v q] ∧ RwOn r x ∧ p = insI r.l b ∧ (-1000000 ≤ b.a0 ∧ b.a0 ≤ 1000000 ∧ b.b0 ≤ 1000000) ∧ (-1000000 ≤ b.a1 ∧ b.a1 ≤ 1000000 ∧ b.b1 ≤ 1000000) ∧ (-1000000 ≤ b.a2 ∧ b.a2 ≤ 1000000 ∧ b.b2 ≤ 1000000) ∧ (-1000000 ≤ b.a3 ∧ b.a3 ≤ 1000000 ∧ b.b3 ≤ 1000000)
def inside_F (p : Pt) (q : Nat) : List Value → Heap → Nat → Option Res := fun xs H nm => some ⟨.agg ⟨p.cs⟩, [], [q], [InsOK p q xs (H q)]⟩
theorem bcs_pl (b : Bx) : ∀ c ∈ b.cs, leafG c = true := by
  intro c hc
  simp only [Bx.cs, List.mem_cons, List.not_mem_nil, or_false] at hc
  rcases hc with rfl | rfl | rfl | rfl | rfl | rfl | rfl | rfl | rfl | rfl <;> rfl
theorem one_lt {cs : List Value} {j : Nat} {b : Blk} (h : roRows [cs] j = some b) : j = 0 ∧ b = .ro cs := by
  match j with
  | 0 => exact ⟨rfl, (Option.some.inj h).symm⟩
  | j + 1 => simp [roRows] at h
theorem region_sum (b : Bx) (q : Nat) : SumOK Try.prog 28 (region_F b q) := by
  refine gen_sum (en Try.func28 rfl) (fun xs H nm r h hob => ?_) (fun xs H nm r h H' hH => ?_)
  · unfold region_F at h
    simp only [Option.some.injEq] at h
    subst h
    obtain ⟨dim, c0, b0, b1, b2, zm, lm, cm, r, rfl, h1, h2, hr, rfl⟩ := hob _ (List.mem_cons_self ..)
    obtain ⟨bq, hq1, hq2⟩ := hr.2.2
    have hpl := hr.pl
    have hrow : ∀ (f : Nat → Nat), mapL (rn0 f) r.cs = r.cs := fun f => mapL_id fun c hc => rn0_leafG f (hpl c hc)
    have hnb : ∀ j ∈ nms (Value.agg ⟨(regI r.l dim).cs⟩), False := fun j hj => by
      obtain ⟨c, hc, hj⟩ := mem_nmL' (f := nm0) (show j ∈ nmL nm0 (regI r.l dim).cs from hj)
      rw [nm0_leafG (bcs_pl _ c hc)] at hj
      simp at hj
    cases zm with
    | none =>
      refine ⟨⟨[.agg ⟨[.int .i64 dim, .int .i64 c0, .int .i64 b0, .int .i64 b1, .int .i64 b2, .slice none lm cm]⟩, r.v 0], roRows [r.cs], 2, .agg ⟨(regI r.l dim).cs⟩, assocN [] [], [(0, q)], [], region_spec r hr.1 dim c0 b0 b1 b2 h1 h2 none lm cm, by simp, by simp, fun j k h => ?_, fun j k h => ?_, fun j b hb => ?_, fun m k h => by simp at h, fun j hj => (hnb j hj).elim, fun u hu j hj => ?_, ?_, rfl, rfl⟩⟩
      · simp at h
        obtain ⟨rfl, rfl⟩ := h
        refine ⟨by omega, fun b0 hb0 => ?_⟩
        obtain ⟨_, rfl⟩ := one_lt hb0
        exact ⟨bq, r.cs, hq1, by rw [hq2, hrow], rfl, fun c hc i hi => by rw [nm0_leafG (hpl c hc)] at hi; simp at hi⟩
      · simp at h
        obtain ⟨rfl, rfl⟩ := h
        exact Or.inl ⟨bq, hq1⟩
      · obtain ⟨rfl, _⟩ := one_lt hb
        exact ⟨q, by simp⟩
      · simp only [List.mem_cons, List.not_mem_nil, or_false] at hu
        rcases hu with rfl | rfl
        · simp [nms, nm1, nmL, nm0] at hj
        · have : j = 0 := Rw.v_nm r 0 j (by unfold Rw.v at hj ⊢; cases hz : r.z <;> rw [hz] at hj <;> exact hj)
          subst this
          exact ⟨q, by simp⟩
      · show _ = [rn _ _, rn _ (r.v 0)]
        rw [Rw.v_rn]
        rfl
    | some jm =>
      refine ⟨⟨[.agg ⟨[.int .i64 dim, .int .i64 c0, .int .i64 b0, .int .i64 b1, .int .i64 b2, .slice (some ⟨1, 0, none⟩) lm cm]⟩, r.v 0], roRows [r.cs], 2, .agg ⟨(regI r.l dim).cs⟩, assocN [] [], [(0, q), (1, jm)], [], region_spec r hr.1 dim c0 b0 b1 b2 h1 h2 _ lm cm, by simp, by simp, fun j k h => ?_, fun j k h => ?_, fun j b hb => ?_, fun m k h => by simp at h, fun j hj => (hnb j hj).elim, fun u hu j hj => ?_, ?_, rfl, rfl⟩⟩
      · simp at h
        rcases h with ⟨rfl, rfl⟩ | ⟨rfl, rfl⟩
        · refine ⟨by omega, fun b0 hb0 => ?_⟩
          obtain ⟨_, rfl⟩ := one_lt hb0
          exact ⟨bq, r.cs, hq1, by rw [hq2, hrow], rfl, fun c hc i hi => by rw [nm0_leafG (hpl c hc)] at hi; simp at hi⟩
        · refine ⟨by omega, fun b0 hb0 => ?_⟩
          obtain ⟨h, _⟩ := one_lt hb0
          omega
      · simp at h
        rcases h with ⟨rfl, rfl⟩ | ⟨rfl, rfl⟩
        · exact Or.inl ⟨bq, hq1⟩
        · exact Or.inr (Or.inl ⟨_, List.mem_cons_self .., by simp [nms, nm1, nmL, nm0]⟩)
      · obtain ⟨rfl, _⟩ := one_lt hb
        exact ⟨q, by simp⟩
      · simp only [List.mem_cons, List.not_mem_nil, or_false] at hu
        rcases hu with rfl | rfl
        · simp [nms, nm1, nmL, nm0] at hj
          subst hj
          exact ⟨jm, by simp⟩
        · have : j = 0 := Rw.v_nm r 0 j (by unfold Rw.v at hj ⊢; cases hz : r.z <;> rw [hz] at hj <;> exact hj)
          subst this
          exact ⟨q, by simp⟩
      · show _ = [rn _ _, rn _ (r.v 0)]
        rw [Rw.v_rn]
        rfl
  · unfold region_F at h ⊢
    simp only [Option.some.injEq] at h
    subst h
    simp only [hH q (by simp)]
theorem inside_sum (p : Pt) (q : Nat) : SumOK Try.prog 32 (inside_F p q) := by
  refine gen_sum (en Try.func32 rfl) (fun xs H nm r h hob => ?_) (fun xs H nm r h H' hH => ?_)
  · unfold inside_F at h
    simp only [Option.some.injEq] at h
    subst h
    obtain ⟨b, r, rfl, hr, rfl, hb⟩ := hob _ (List.mem_cons_self ..)
    obtain ⟨bq, hq1, hq2⟩ := hr.2.2
    have hpl := hr.pl
    have hrow : ∀ (f : Nat → Nat), mapL (rn0 f) r.cs = r.cs := fun f => mapL_id fun c hc => rn0_leafG f (hpl c hc)
    have hnb : ∀ j ∈ nms (Value.agg ⟨(insI r.l b).cs⟩), False := fun j hj => by
      simp [nms, nm1, Pt.cs, nmL, nm0] at hj
    refine ⟨⟨[.agg ⟨b.cs⟩, r.v 0], roRows [r.cs], 2, .agg ⟨(insI r.l b).cs⟩, assocN [] [], [(0, q)], [], inside_spec r hr.1 b hb, by simp, by simp, fun j k h => ?_, fun j k h => ?_, fun j b hb => ?_, fun m k h => by simp at h, fun j hj => (hnb j hj).elim, fun u hu j hj => ?_, ?_, rfl, rfl⟩⟩
    · simp at h
      obtain ⟨rfl, rfl⟩ := h
      refine ⟨by omega, fun b0 hb0 => ?_⟩
      obtain ⟨_, rfl⟩ := one_lt hb0
      exact ⟨bq, r.cs, hq1, by rw [hq2, hrow], rfl, fun c hc i hi => by rw [nm0_leafG (hpl c hc)] at hi; simp at hi⟩
    · simp at h
      obtain ⟨rfl, rfl⟩ := h
      exact Or.inl ⟨bq, hq1⟩
    · obtain ⟨rfl, _⟩ := one_lt hb
      exact ⟨q, by simp⟩
    · simp only [List.mem_cons, List.not_mem_nil, or_false] at hu
      rcases hu with rfl | rfl
      · simp [nms, nm1, Bx.cs, nmL, nm0] at hj
      · have : j = 0 := Rw.v_nm r 0 j (by unfold Rw.v at hj ⊢; cases hz : r.z <;> rw [hz] at hj <;> exact hj)
        subst this
        exact ⟨q, by simp⟩
    · show _ = [rn _ _, rn _ (r.v 0)]
      rw [Rw.v_rn]
      rfl
  · unfold inside_F at h ⊢
    simp only [Option.some.injEq] at h
    subst h
    simp only [hH q (by simp)]
end Go.Proofs.Ythbaccmhdffjdaa.Fo


set_option linter.unusedVariables false
set_option linter.unusedSimpArgs false
set_option maxRecDepth 100000
namespace Go.Proofs.Ythbaccmhdffjdaa.Tr
open Go Go.RowKit Go.Proofs.Ythbaccmhdffjdaa.Ev Go.Proofs.Ythbaccmhdffjdaa.NodeE Go.Proofs.Ythbaccmhdffjdaa.Tr Go.Proofs.Ythbaccmhdffjdaa.BoxF

theorem ls_nil (cs : List Value) (o n c : Nat) (b : Bx) (hr : eWord.Row cs o n) (hpl : ∀ x ∈ cs, leafG x = true) (hU : ∀ w ∈ eWord.list cs o n, U64 w) (hn : n ≤ 65536) (hb : b.I64s) (hp : listP (eWord.list cs o n) b = []) :
    CallSpec Try.prog 23 [.slice (some ⟨0, o, none⟩) n c, .agg ⟨b.cs⟩] (roRows [cs]) 1 (.slice none 0 0) (assocN [] []) := by
  refine spec_of_sat Try.func23 rfl fun E hE => ?_
  cases hR : rightI (eWord.list cs o n) 4
  · exact lsNo cs o n c b hE ⟨⟨rfl, rfl⟩, (congrArg Value.bool hR), plain1 hpl, hr, hU, hn, trivial⟩
  cases hem : b.emp
  · have hP : pcsI (eWord.list cs o n) b = [] := by simpa only [listP, hR, hem, Bool.true_and, Bool.not_false, Bool.not_true, Bool.and_true, Bool.and_false, cond_true, cond_false] using hp
    exact ls_loop hr hpl hU hn hR hb hem hE (fun _ r J => lsX0 cs o n c (lsQ n (eWord.list cs o n) b) n r J hE ⟨⟨rfl, rfl⟩, decide_eq_false (by omega), trivial⟩) fun h => absurd hP h
  · exact lsEm cs o n c b hE ⟨⟨rfl, rfl⟩, (congrArg Value.bool hem), (congrArg Value.bool hR), plain1 hpl, hr, hU, hn, trivial⟩
theorem ls_row (cs : List Value) (o n c : Nat) (b : Bx) (hr : eWord.Row cs o n) (hpl : ∀ x ∈ cs, leafG x = true) (hU : ∀ w ∈ eWord.list cs o n, U64 w) (hn : n ≤ 65536) (hb : b.I64s) (hp : listP (eWord.list cs o n) b ≠ []) :
    CallSpec Try.prog 23 [.slice (some ⟨0, o, none⟩) n c, .agg ⟨b.cs⟩] (roRows [cs]) 1 (.slice (some ⟨100, 0, none⟩) (listP (eWord.list cs o n) b).length mk) (assocN [100] [.vec (ePc.row (listP (eWord.list cs o n) b)) 27 11]) := by
  refine spec_of_sat Try.func23 rfl fun E hE => ?_
  have hRe : rightI (eWord.list cs o n) 4 = true ∧ b.emp = false := by
    cases hR : rightI (eWord.list cs o n) 4
    · exact absurd (by simp only [listP, hR, Bool.false_and, cond_false]) hp
    · cases hem : b.emp
      · exact ⟨rfl, rfl⟩
      · exact absurd (by simp only [listP, hem, Bool.not_true, Bool.and_false, cond_false]) hp
  obtain ⟨hR, hem⟩ := hRe
  have hP : listP (eWord.list cs o n) b = pcsI (eWord.list cs o n) b := by simp only [listP, hR, hem, Bool.true_and, Bool.not_false, Bool.not_true, Bool.and_true, Bool.and_false, cond_true, cond_false]
  rw [hP] at hE hp
  exact ls_loop hr hpl hU hn hR hb hem hE (fun h => absurd h hp) fun _ r J => lsX1 cs o n c (lsQ n (eWord.list cs o n) b) n r (pcsI (eWord.list cs o n) b) J hE ⟨⟨rfl, by simp only [List.map_cons, List.map_nil]; exact congrArg (· :: []) (Blk.plain.rnB (b := .vec (ePc.row (pcsI (eWord.list cs o n) b)) 27 11) (Elt.row_pl _) _).symm⟩, decide_eq_false (by omega), trivial⟩
/-- K: are there pieces? -/
def ls_F (K : Bool) (PL : List Int → Bx → List Pc) : RoF := fun xs css => match xs, css with
  | [.slice (some ⟨0, o, none⟩) n c, .agg ⟨[.int .i64 a0, .int .i64 b0, .int .i64 a1, .int .i64 b1, .int .i64 a2, .int .i64 b2, .int .i64 a3, .int .i64 b3, .int .i64 a4, .int .i64 b4]⟩], [cs] => match K with
    | true => some (.slice (some ⟨100, 0, none⟩) (PL (eWord.list cs o n) ⟨a0, b0, a1, b1, a2, b2, a3, b3, a4, b4⟩).length mk, [.vec (ePc.row (PL (eWord.list cs o n) ⟨a0, b0, a1, b1, a2, b2, a3, b3, a4, b4⟩)) 27 11], [PL = listP, PL (eWord.list cs o n) ⟨a0, b0, a1, b1, a2, b2, a3, b3, a4, b4⟩ ≠ [], eWord.Row cs o n, ∀ w ∈ eWord.list cs o n, U64 w, n ≤ 65536, Bx.I64s ⟨a0, b0, a1, b1, a2, b2, a3, b3, a4, b4⟩])
    | false => some (.slice none 0 0, [], [PL = listP, PL (eWord.list cs o n) ⟨a0, b0, a1, b1, a2, b2, a3, b3, a4, b4⟩ = [], eWord.Row cs o n, ∀ w ∈ eWord.list cs o n, U64 w, n ≤ 65536, Bx.I64s ⟨a0, b0, a1, b1, a2, b2, a3, b3, a4, b4⟩])
  | [.slice none 0 0, .agg ⟨[.int .i64 a0, .int .i64 b0, .int .i64 a1, .int .i64 b1, .int .i64 a2, .int .i64 b2, .int .i64 a3, .int .i64 b3, .int .i64 a4, .int .i64 b4]⟩], [] => some (.slice none 0 0, [], [])
  | _, _ => none
theorem ls_sum (K : Bool) (PL : List Int → Bx → List Pc) : SumOK Try.prog 23 (roSum (ls_F K PL)) := by
  refine roSum_ok (en Try.func23 rfl) ?_ (fun xs css r h => ?_)
  · intro xs css v blks ob h hob hpl hl
    unfold ls_F at h
    split at h
    · rename_i o n c a0 b0 a1 b1 a2 b2 a3 b3 a4 b4 cs
      cases K
      · simp only [Option.some.injEq, Prod.mk.injEq] at h
        obtain ⟨rfl, rfl, rfl⟩ := h
        obtain rfl : PL = listP := hob _ (List.mem_cons_self ..)
        refine ⟨by simp, by simp, fun j hj => by simp [nms, nm1, nmL, nm0] at hj, ?_⟩
        exact ls_nil cs o n c ⟨a0, b0, a1, b1, a2, b2, a3, b3, a4, b4⟩ (hob _ (by simp)) (hpl cs (by simp)) (hob _ (List.mem_cons_of_mem _ (List.mem_cons_of_mem _ (List.mem_cons_of_mem _ (List.mem_cons_self ..))))) (hob _ (by simp)) (hob _ (by simp)) (hob _ (List.mem_cons_of_mem _ (List.mem_cons_self ..)))
      · simp only [Option.some.injEq, Prod.mk.injEq] at h
        obtain ⟨rfl, rfl, rfl⟩ := h
        obtain rfl : PL = listP := hob _ (List.mem_cons_self ..)
        refine ⟨by simp, fun x hx => by simp at hx; subst hx; exact ⟨Elt.row_pl _, rfl⟩, fun j hj => by simp [nms, nm1, nm0] at hj; subst hj; simp, ?_⟩
        exact ls_row cs o n c ⟨a0, b0, a1, b1, a2, b2, a3, b3, a4, b4⟩ (hob _ (by simp)) (hpl cs (by simp)) (hob _ (List.mem_cons_of_mem _ (List.mem_cons_of_mem _ (List.mem_cons_of_mem _ (List.mem_cons_self ..))))) (hob _ (by simp)) (hob _ (by simp)) (hob _ (List.mem_cons_of_mem _ (List.mem_cons_self ..)))
    · rename_i a0 b0 a1 b1 a2 b2 a3 b3 a4 b4
      simp only [Option.some.injEq, Prod.mk.injEq] at h
      obtain ⟨rfl, rfl, rfl⟩ := h
      refine ⟨by simp, by simp, fun j hj => by simp [nms, nm1, nmL, nm0] at hj, ?_⟩
      exact spec_of_sat Try.func23 rfl fun E hE => lsNil ⟨a0, b0, a1, b1, a2, b2, a3, b3, a4, b4⟩ hE ⟨⟨rfl, rfl⟩, (fun x hx => by simp at hx), trivial⟩
    · simp at h
  · unfold ls_F at h
    split at h
    · cases K <;> simp at h <;> simp
    all_goals (simp at h <;> simp)

theorem rl_nil (cs : List Value) (o n c : Nat) (b : Bx) (hr : eWord.Row cs o n) (hpl : ∀ x ∈ cs, leafG x = true) (hU : ∀ w ∈ eWord.list cs o n, U64 w) (hn : n ≤ 65536) (hb : b.I64s) (hp : rlvP (eWord.list cs o n) b = []) :
    CallSpec Try.prog 26 [.slice (some ⟨0, o, none⟩) n c, .agg ⟨b.cs⟩] (roRows [cs]) 1 (.slice none 0 0) (assocN [] []) := by
  refine spec_of_sat Try.func26 rfl fun E hE => ?_
  cases hR : rightI (eWord.list cs o n) 4
  · exact rlNo cs o n c b hE ⟨⟨rfl, rfl⟩, (congrArg Value.bool hR), plain1 hpl, hr, hU, hn, trivial⟩
  · have hP : pcsI (eWord.list cs o n) b = [] := by simpa only [rlvP, hR, cond_true] using hp
    exact rl_loop hr hpl hU hn hR hb hE (fun _ r J => rlX0 cs o n c (lsQ n (eWord.list cs o n) b) n r J hE ⟨⟨rfl, rfl⟩, decide_eq_false (by omega), trivial⟩) fun h => absurd hP h
theorem rl_row (cs : List Value) (o n c : Nat) (b : Bx) (hr : eWord.Row cs o n) (hpl : ∀ x ∈ cs, leafG x = true) (hU : ∀ w ∈ eWord.list cs o n, U64 w) (hn : n ≤ 65536) (hb : b.I64s) (hp : rlvP (eWord.list cs o n) b ≠ []) :
    CallSpec Try.prog 26 [.slice (some ⟨0, o, none⟩) n c, .agg ⟨b.cs⟩] (roRows [cs]) 1 (.slice (some ⟨100, 0, none⟩) (rlvP (eWord.list cs o n) b).length mk) (assocN [100] [.vec (ePc.row (rlvP (eWord.list cs o n) b)) 27 11]) := by
  refine spec_of_sat Try.func26 rfl fun E hE => ?_
  have hR : rightI (eWord.list cs o n) 4 = true := by
    cases hR : rightI (eWord.list cs o n) 4
    · exact absurd (by simp only [rlvP, hR, cond_false]) hp
    · rfl
  have hP : rlvP (eWord.list cs o n) b = pcsI (eWord.list cs o n) b := by simp only [rlvP, hR, cond_true]
  rw [hP] at hE hp
  exact rl_loop hr hpl hU hn hR hb hE (fun h => absurd h hp) fun _ r J => rlX1 cs o n c (lsQ n (eWord.list cs o n) b) n r (pcsI (eWord.list cs o n) b) J hE ⟨⟨rfl, by simp only [List.map_cons, List.map_nil]; exact congrArg (· :: []) (Blk.plain.rnB (b := .vec (ePc.row (pcsI (eWord.list cs o n) b)) 27 11) (Elt.row_pl _) _).symm⟩, decide_eq_false (by omega), trivial⟩
/-- K: are there pieces? -/
def rl_F (K : Bool) (PL : List Int → Bx → List Pc) : RoF := fun xs css => match xs, css with
  | [.slice (some ⟨0, o, none⟩) n c, .agg ⟨[.int .i64 a0, .int .i64 b0, .int .i64 a1, .int .i64 b1, .int .i64 a2, .int .i64 b2, .int .i64 a3, .int .i64 b3, .int .i64 a4, .int .i64 b4]⟩], [cs] => match K with
    | true => some (.slice (some ⟨100, 0, none⟩) (PL (eWord.list cs o n) ⟨a0, b0, a1, b1, a2, b2, a3, b3, a4, b4⟩).length mk, [.vec (ePc.row (PL (eWord.list cs o n) ⟨a0, b0, a1, b1, a2, b2, a3, b3, a4, b4⟩)) 27 11], [PL = rlvP, PL (eWord.list cs o n) ⟨a0, b0, a1, b1, a2, b2, a3, b3, a4, b4⟩ ≠ [], eWord.Row cs o n, ∀ w ∈ eWord.list cs o n, U64 w, n ≤ 65536, Bx.I64s ⟨a0, b0, a1, b1, a2, b2, a3, b3, a4, b4⟩])
    | false => some (.slice none 0 0, [], [PL = rlvP, PL (eWord.list cs o n) ⟨a0, b0, a1, b1, a2, b2, a3, b3, a4, b4⟩ = [], eWord.Row cs o n, ∀ w ∈ eWord.list cs o n, U64 w, n ≤ 65536, Bx.I64s ⟨a0, b0, a1, b1, a2, b2, a3, b3, a4, b4⟩])
  | [.slice none 0 0, .agg ⟨[.int .i64 a0, .int .i64 b0, .int .i64 a1, .int .i64 b1, .int .i64 a2, .int .i64 b2, .int .i64 a3, .int .i64 b3, .int .i64 a4, .int .i64 b4]⟩], [] => some (.slice none 0 0, [], [])
  | _, _ => none
theorem rl_sum (K : Bool) (PL : List Int → Bx → List Pc) : SumOK Try.prog 26 (roSum (rl_F K PL)) := by
  refine roSum_ok (en Try.func26 rfl) ?_ (fun xs css r h => ?_)
  · intro xs css v blks ob h hob hpl hl
    unfold rl_F at h
    split at h
    · rename_i o n c a0 b0 a1 b1 a2 b2 a3 b3 a4 b4 cs
      cases K
      · simp only [Option.some.injEq, Prod.mk.injEq] at h
        obtain ⟨rfl, rfl, rfl⟩ := h
        obtain rfl : PL = rlvP := hob _ (List.mem_cons_self ..)
        refine ⟨by simp, by simp, fun j hj => by simp [nms, nm1, nmL, nm0] at hj, ?_⟩
        exact rl_nil cs o n c ⟨a0, b0, a1, b1, a2, b2, a3, b3, a4, b4⟩ (hob _ (by simp)) (hpl cs (by simp)) (hob _ (List.mem_cons_of_mem _ (List.mem_cons_of_mem _ (List.mem_cons_of_mem _ (List.mem_cons_self ..))))) (hob _ (by simp)) (hob _ (by simp)) (hob _ (List.mem_cons_of_mem _ (List.mem_cons_self ..)))
      · simp only [Option.some.injEq, Prod.mk.injEq] at h
        obtain ⟨rfl, rfl, rfl⟩ := h
        obtain rfl : PL = rlvP := hob _ (List.mem_cons_self ..)
        refine ⟨by simp, fun x hx => by simp at hx; subst hx; exact ⟨Elt.row_pl _, rfl⟩, fun j hj => by simp [nms, nm1, nm0] at hj; subst hj; simp, ?_⟩
        exact rl_row cs o n c ⟨a0, b0, a1, b1, a2, b2, a3, b3, a4, b4⟩ (hob _ (by simp)) (hpl cs (by simp)) (hob _ (List.mem_cons_of_mem _ (List.mem_cons_of_mem _ (List.mem_cons_of_mem _ (List.mem_cons_self ..))))) (hob _ (by simp)) (hob _ (by simp)) (hob _ (List.mem_cons_of_mem _ (List.mem_cons_self ..)))
    · rename_i a0 b0 a1 b1 a2 b2 a3 b3 a4 b4
      simp only [Option.some.injEq, Prod.mk.injEq] at h
      obtain ⟨rfl, rfl, rfl⟩ := h
      refine ⟨by simp, by simp, fun j hj => by simp [nms, nm1, nmL, nm0] at hj, ?_⟩
      exact spec_of_sat Try.func26 rfl fun E hE => rlNil ⟨a0, b0, a1, b1, a2, b2, a3, b3, a4, b4⟩ hE ⟨⟨rfl, rfl⟩, (fun x hx => by simp at hx), trivial⟩
    · simp at h
  · unfold rl_F at h
    split at h
    · cases K <;> simp at h <;> simp
    all_goals (simp at h <;> simp)

end Go.Proofs.Ythbaccmhdffjdaa.Tr


set_option linter.unusedVariables false
set_option linter.unusedSimpArgs false
namespace Go.Proofs.Ythbaccmhdffjdaa.Ev
open Go Go.RowKit
abbrev VcF := List Value → Option Blk → Option (Value × List Prop)
noncomputable def vcSum (F : VcF) : List Value → Heap → Nat → Option Res := fun args H nm =>
  match canL can1 args 0 with
  | some (ar, []) => match F ar none with
    | some (v, ob) => some ⟨v, [], [], ob⟩
    | none => none
  | some (ar, [k]) => match H k with
    | some b => match F ar (some b) with
      | some (v, ob) => some ⟨v, [], [k], b.plain :: ob⟩
      | none => none
    | none => none
  | _ => none
theorem apU_same {H : Heap} {k : Nat} {b : Blk} (h : H k = some b) : apU (usOf [(0, k)] (assocN [0] [b])) H = H := by
  funext j
  have := apU_usOf (H1 := assocN [0] [b]) (pr := [(0, k)]) (H := H) (k := j) (by simp)
  by_cases hj : j = k
  · subst hj
    rw [this.1 0 (by simp), h]
    rfl
  · exact this.2 fun i hi => hj (by simp at hi; exact hi.2)
theorem vcSum_ok {P : Program} {f : FuncId} (he : Enters P f) {F : VcF}
    (h0 : ∀ ar v ob, F ar none = some (v, ob) → (∀ p ∈ ob, p) → (∀ g, rn g v = v) ∧ (∀ g1 g2 : Nm, ren g1 v = ren g2 v) ∧ CallSpec P f ar (assocN [] []) 0 v (assocN [] []))
    (h1 : ∀ ar b v ob, F ar (some b) = some (v, ob) → (∀ p ∈ ob, p) → b.plain → (∀ g, rn g v = v) ∧ (∀ g1 g2 : Nm, ren g1 v = ren g2 v) ∧ CallSpec P f ar (assocN [0] [b]) 1 v (assocN [0] [b])) : SumOK P f (vcSum F) := by
  refine ⟨he, ?_, ?_⟩
  · intro args H nm r hr hob M w0 g B w hH hargs hn
    unfold vcSum at hr
    split at hr
    · rename_i ar hc
      split at hr
      · rename_i v ob hF
        simp only [Option.some.injEq] at hr
        subst hr
        obtain ⟨e1, e2, e3⟩ := h0 ar v ob hF hob
        obtain ⟨c1, c2⟩ := canL_ok can1_ok hc
        have := spec_calls (old := []) (new := []) (H := H) (nm := nm) e3 (by simp) (by simp) (fun j k hjk => by simp at hjk) (fun j b hb => by simp [assocN] at hb) (fun m k hmk => by simp at hmk) (fun j k hjk => by simp at hjk)
          (fun g1 g2 _ => e2 g1 g2) (fun u hu g1 g2 _ => ren_names fun j hj => absurd (c2 u hu j hj) (by simp)) hH hn
        rw [c1 (look []) (fun j k hj => by simp at hj)] at this
        rw [e1] at this
        exact this
      · simp at hr
    · rename_i ar k hc
      split at hr
      · rename_i b hb
        split at hr
        · rename_i v ob hF
          simp only [Option.some.injEq] at hr
          subst hr
          have hpl : b.plain := hob _ (List.mem_cons_self ..)
          obtain ⟨e1, e2, e3⟩ := h1 ar b v ob hF (fun p hp => hob p (List.mem_cons_of_mem _ hp)) hpl
          obtain ⟨c1, c2⟩ := canL_ok can1_ok hc
          have := spec_calls (old := [(0, k)]) (new := []) (H := H) (nm := nm) e3 (by simp) (by simp)
            (fun j l hjl => by simp at hjl; obtain ⟨rfl, rfl⟩ := hjl; exact ⟨Nat.zero_lt_one, b, hb, rfl, hpl⟩)
            (fun j c hc => by
              have : j = 0 := by
                simp only [assocN] at hc
                cases hz : Nat.beq j 0
                · rw [hz] at hc; simp at hc
                · exact Nat.eq_of_beq_eq_true hz
              subst this; exact ⟨k, by simp⟩)
            (fun m l hml => by simp at hml)
            (fun j l hjl c hcc => by
              simp at hjl; obtain ⟨rfl, rfl⟩ := hjl
              have hc' : some b = some c := hcc
              injection hc' with this
              exact ⟨this ▸ hpl, fun hw => ⟨c, by rw [← this]; rfl, hw⟩⟩)
            (fun g1 g2 _ => e2 g1 g2)
            (fun u hu g1 g2 ag => ren_names fun j hj => by
              have := c2 u hu j hj
              have hj0 : j = 0 := by simp at this; omega
              subst hj0
              exact ag 0 k (by simp)) hH hn
          have hlk : At (look [(0, k)]) 0 [k] := fun j l hj => by
            cases j with
            | zero => simp at hj; subst hj; rfl
            | succ j => simp at hj
          rw [c1 _ hlk, e1, List.append_nil, apU_same hb] at this
          exact this
        · simp at hr
      · simp at hr
    · simp at hr
  · intro args H nm r hr H' hH'
    unfold vcSum at hr ⊢
    split at hr
    · rename_i ar hc
      exact hr
    · rename_i ar k hc
      split at hr
      · rename_i b hb
        split at hr
        · rename_i v ob hF
          simp only [Option.some.injEq] at hr
          have : H' k = H k := hH' k (by rw [← hr]; simp)
          simp only [this, hb, hF, hr]
        · simp at hr
      · simp at hr
    · simp at hr
end Go.Proofs.Ythbaccmhdffjdaa.Ev


set_option linter.unusedVariables false
set_option linter.unusedSimpArgs false
set_option maxRecDepth 100000
namespace Go.Proofs.Ythbaccmhdffjdaa.Lv
open Go Go.RowKit Go.Proofs.Ythbaccmhdffjdaa.Ev Go.Proofs.Ythbaccmhdffjdaa.NodeE Go.Proofs.Ythbaccmhdffjdaa.Tr Go.Proofs.Ythbaccmhdffjdaa.BoxF Go.Proofs.Ythbaccmhdffjdaa.Lv

def fAt (cs : List Value) (o n c : Nat) (p : Pt) (t : Int) (Q : Nat → Prop) : LoopF Nat where
  ts _ := [2, 4, 10, 11, 12]
  hs _ := [0, 10]
  tv _ i := [.int .i64 t, .pointer (some ⟨10, 0, none⟩), .slice (some ⟨0, o, none⟩) n c, .int .i64 (n : Int), .int .i64 (i : Int)]
  hv _ _ := [.ro cs, .cells p.cs 72]
  inv _ := Q
  mu _ i := n - i
  nx := 12

theorem fAt_ok (cs : List Value) (o n c : Nat) (p : Pt) (t : Int) (Q : Nat → Prop) (hpl : ∀ x ∈ cs, leafG x = true) : (fAt cs o n c p t Q).OK 1 := by
  refine ⟨(by decide : 1 ≤ 12), fun z i h k hk => ?_, fun z i h v hv k hk => ?_, fun z i h x hx => ?_⟩
  · show k < 12
    simp [fAt] at hk; omega
  · show k < 12
    simp [fAt] at hv
    repeat' (refine Or.elim hv (fun hv => ?_) (fun hv => ?_))
    all_goals (subst hv; simp [nms, nm1, nm0] at hk; try omega)
  · simp [fAt] at hx
    rcases hx with rfl | rfl
    · exact Blk.plain.namesLt (b := .ro cs) hpl _
    · exact Blk.plain.namesLt (b := .cells p.cs 72) (pt_pl p) _

def fHl (cs : List Value) (ty : TypeId) (m : Nat) (Q : Nat × Bx → Prop) : LoopF (Nat × Bx) where
  ts _ := [2, 3, 17, 18, 19]
  hs _ := [0, 10, 11]
  tv _ := fun ⟨i, x⟩ => [.pointer (some ⟨10, 0, none⟩), .pointer (some ⟨11, 0, none⟩), .slice (some ⟨0, 11, none⟩) m (mk + 1), .int .i64 (m : Int), .int .i64 (i : Int)]
  hv _ := fun ⟨i, x⟩ => [.vec cs ty 11, .cells Bx.zero.cs 25, .cells x.cs 25]
  inv _ := Q
  mu _ := fun ⟨i, x⟩ => m - i
  nx := 12

theorem fHl_ok (cs : List Value) (ty : TypeId) (m : Nat) (Q : Nat × Bx → Prop) (hpl : ∀ x ∈ cs, leafG x = true) : (fHl cs ty m Q).OK 1 := by
  refine ⟨(by decide : 1 ≤ 12), fun z i h k hk => ?_, fun z i h v hv k hk => ?_, fun z i h x hx => ?_⟩
  · show k < 12
    simp [fHl] at hk; omega
  · show k < 12
    simp [fHl] at hv
    repeat' (refine Or.elim hv (fun hv => ?_) (fun hv => ?_))
    all_goals (subst hv; simp [nms, nm1, nm0] at hk; try omega)
  · simp [fHl] at hx
    rcases hx with rfl | rfl | rfl
    · exact Blk.plain.namesLt (b := .vec cs ty 11) hpl _
    · exact Blk.plain.namesLt (b := .cells Bx.zero.cs 25) (eBox.pl _) _
    · exact Blk.plain.namesLt (b := .cells _ 25) (eBox.pl _) _

end Go.Proofs.Ythbaccmhdffjdaa.Lv


set_option linter.unusedVariables false
set_option linter.unusedSimpArgs false
set_option maxRecDepth 100000
namespace Go.Proofs.Ythbaccmhdffjdaa.Lv
open Go Go.RowKit Go.Proofs.Ythbaccmhdffjdaa.Ev Go.Proofs.Ythbaccmhdffjdaa.NodeE Go.Proofs.Ythbaccmhdffjdaa.Tr Go.Proofs.Ythbaccmhdffjdaa.BoxF Go.Proofs.Ythbaccmhdffjdaa.Lv

theorem atNil (p : Pt) (t : Int)  {E : Env} (hE : EnvOK E Try.prog Try.f36 3 0 (.tuple ⟨[.int .i64 0, .bool false]⟩) [] []) (hob : all ([Back (Value.tuple (Array.mk [Value.int IntKind.i64 ((0 : Int)), Value.bool false])) (Value.tuple (Array.mk [Value.int IntKind.i64 ((0 : Int)), Value.bool false])) [] [] []])) : Sat E [.code (bodyOf Try.f36)] (st0 Try.f36 [.slice none 0 0, .agg ⟨p.cs⟩, .int .i64 t] (roRows []) 0) :=
  by_ret (T := auto0 t_bcut) (h := hints []) (ws := []) (nx' := 0) hE hm (auto0_ok t_bcut_ok) (by omega) (by simp) (by simp) (by kernel_rfl) hob
theorem atIn (cs : List Value) (o n c : Nat) (p : Pt) (t : Int) (Q : Nat → Prop)  {E : Env} {rv : Value} {rhs : List Nat} {rhv : List Blk} (hE : EnvOK E Try.prog Try.f36 3 1 rv rhs rhv) (hL : (fAt cs o n c p t Q).OK 1) (hob : all ([SameK (atLp (lp Try.f36 0)) (atLp (lp Try.f36 0)), Enter (fAt cs o n c p t Q) 0 none [Value.int IntKind.i64 t, Value.pointer (some (Addr.mk 1 0 none)), Value.slice (some (Addr.mk 0 o none)) n c, Value.int IntKind.i64 ((n : Int)), Value.int IntKind.i64 ((0 : Int))] [Blk.ro cs, Blk.cells [Value.int IntKind.i64 p.p0, Value.int IntKind.i64 p.p1, Value.int IntKind.i64 p.p2, Value.int IntKind.i64 p.p3] 72] [(10, 1), (0, 0)]])) (hK : ∀ zz, (fAt cs o n c p t Q).inv 0 zz → ltO ((fAt cs o n c p t Q).mu 0 zz) none → Sat E (atLp (lp Try.f36 0)) ((fAt cs o n c p t Q).st 0 zz)) : Sat E [.code (bodyOf Try.f36)] (st0 Try.f36 [.slice (some ⟨0, o, none⟩) n c, .agg ⟨p.cs⟩, .int .i64 t] (roRows [cs]) 1) :=
  by_to (T := auto0 t_bcut) (h := hints []) (ws := [.stop]) (i0 := 0) hE hm (auto0_ok t_bcut_ok) hL (by kernel_rfl) hob hK
theorem atY (cs : List Value) (o n c : Nat) (p : Pt) (t : Int) (Q : Nat → Prop) (i : Nat) (bo : Bx) (v : Int) (J : Act → World → Prop) {E : Env} (hE : EnvOK E Try.prog Try.f36 3 1 (.tuple ⟨[.int .i64 v, .bool true]⟩) [] []) (hob : all ([Back (Value.tuple (Array.mk [Value.int IntKind.i64 v, Value.bool true])) (Value.tuple (Array.mk [Value.int IntKind.i64 v, Value.bool true])) [] [] [], Value.bool (Ythbaccmhdffjdaa.BoxF.hasB bo.a0 bo.b0 bo.a1 bo.b1 bo.a2 bo.b2 bo.a3 bo.b3 bo.a4 bo.b4 p.p0 p.p1 p.p2 p.p3 t) = Value.bool true, readPart Try.prog 27 cs (o + ((i : Int)).toNat * 11) = some (Value.agg (Array.mk [Value.int IntKind.i64 bo.a0, Value.int IntKind.i64 bo.b0, Value.int IntKind.i64 bo.a1, Value.int IntKind.i64 bo.b1, Value.int IntKind.i64 bo.a2, Value.int IntKind.i64 bo.b2, Value.int IntKind.i64 bo.a3, Value.int IntKind.i64 bo.b3, Value.int IntKind.i64 bo.a4, Value.int IntKind.i64 bo.b4, Value.int IntKind.i64 v])), (0 : Int) ≤ (i : Int) ∧ (i : Int) < (n : Int), decide ((↑i : Int) < (↑n : Int)) = true])) : Sat E (inLp (lp Try.f36 0) J) ((fAt cs o n c p t Q).st 0 i) :=
  by_ret (T := auto0 t_bcut) (h := hints [(3, 0, {p := true}), (3, 1, {o := some (.agg ⟨bo.cs ++ [.int .i64 v]⟩)}), (4, 4, {v := some (.bool true)})]) (ws := [.b true]) (nx' := 1) hE hm (auto0_ok t_bcut_ok) (by omega) (by simp) (by simp) (by kernel_rfl) hob
theorem atN (cs : List Value) (o n c : Nat) (p : Pt) (t : Int) (Q : Nat → Prop) (i : Nat) (bo : Bx) (v : Int) (J : Act → World → Prop) {E : Env} {rv : Value} {rhs : List Nat} {rhv : List Blk} (hE : EnvOK E Try.prog Try.f36 3 1 rv rhs rhv) (hL : (fAt cs o n c p t Q).OK 1) (hob : all ([SameK (mkLp (lp Try.f36 0) J) (mkLp (lp Try.f36 0) J), Enter (fAt cs o n c p t Q) 0 (some (n - i)) [Value.int IntKind.i64 t, Value.pointer (some (Addr.mk 10 0 none)), Value.slice (some (Addr.mk 0 o none)) n c, Value.int IntKind.i64 ((n : Int)), Value.int IntKind.i64 (Int.ofNat i.succ)] [Blk.ro cs, Blk.cells [Value.int IntKind.i64 p.p0, Value.int IntKind.i64 p.p1, Value.int IntKind.i64 p.p2, Value.int IntKind.i64 p.p3] 72] [(10, 10), (0, 0)], Value.int IntKind.i64 (IntKind.i64.wrap (Int.ofNat i.succ)) = Value.int IntKind.i64 (Int.ofNat i.succ), Value.bool (Ythbaccmhdffjdaa.BoxF.hasB bo.a0 bo.b0 bo.a1 bo.b1 bo.a2 bo.b2 bo.a3 bo.b3 bo.a4 bo.b4 p.p0 p.p1 p.p2 p.p3 t) = Value.bool false, readPart Try.prog 27 cs (o + ((i : Int)).toNat * 11) = some (Value.agg (Array.mk [Value.int IntKind.i64 bo.a0, Value.int IntKind.i64 bo.b0, Value.int IntKind.i64 bo.a1, Value.int IntKind.i64 bo.b1, Value.int IntKind.i64 bo.a2, Value.int IntKind.i64 bo.b2, Value.int IntKind.i64 bo.a3, Value.int IntKind.i64 bo.b3, Value.int IntKind.i64 bo.a4, Value.int IntKind.i64 bo.b4, Value.int IntKind.i64 v])), (0 : Int) ≤ (i : Int) ∧ (i : Int) < (n : Int), decide ((↑i : Int) < (↑n : Int)) = true])) (hK : ∀ zz, (fAt cs o n c p t Q).inv 0 zz → ltO ((fAt cs o n c p t Q).mu 0 zz) (some (n - i)) → Sat E (mkLp (lp Try.f36 0) J) ((fAt cs o n c p t Q).st 0 zz)) : Sat E (inLp (lp Try.f36 0) J) ((fAt cs o n c p t Q).st 0 i) :=
  by_to (T := auto0 t_bcut) (h := hints [(3, 0, {p := true}), (3, 1, {o := some (.agg ⟨bo.cs ++ [.int .i64 v]⟩)}), (4, 4, {v := some (.bool false)}), (6, 0, {v := some (.int .i64 ((i + 1 : Nat) : Int))})]) (ws := [.b true]) (i0 := (i + 1)) hE hm (auto0_ok t_bcut_ok) hL (by kernel_rfl) hob hK
theorem atE (cs : List Value) (o n c : Nat) (p : Pt) (t : Int) (Q : Nat → Prop) (i : Nat) (J : Act → World → Prop) {E : Env} (hE : EnvOK E Try.prog Try.f36 3 1 (.tuple ⟨[.int .i64 0, .bool false]⟩) [] []) (hob : all ([Back (Value.tuple (Array.mk [Value.int IntKind.i64 ((0 : Int)), Value.bool false])) (Value.tuple (Array.mk [Value.int IntKind.i64 ((0 : Int)), Value.bool false])) [] [] [], decide ((↑i : Int) < (↑n : Int)) = false])) : Sat E (inLp (lp Try.f36 0) J) ((fAt cs o n c p t Q).st 0 i) :=
  by_ret (T := auto0 t_bcut) (h := hints []) (ws := [.b false]) (nx' := 1) hE hm (auto0_ok t_bcut_ok) (by omega) (by simp) (by simp) (by kernel_rfl) hob
theorem hlNil (u : Unit)  {E : Env} (hE : EnvOK E Try.prog Try.f37 1 0 (.agg ⟨Bx.zero.cs⟩) [] []) (hob : all ([Back (Value.agg (Array.mk [Value.int IntKind.i64 ((0 : Int)), Value.int IntKind.i64 ((0 : Int)), Value.int IntKind.i64 ((0 : Int)), Value.int IntKind.i64 ((0 : Int)), Value.int IntKind.i64 ((0 : Int)), Value.int IntKind.i64 ((0 : Int)), Value.int IntKind.i64 ((0 : Int)), Value.int IntKind.i64 ((0 : Int)), Value.int IntKind.i64 ((0 : Int)), Value.int IntKind.i64 ((0 : Int))])) (Value.agg (Array.mk [Value.int IntKind.i64 ((0 : Int)), Value.int IntKind.i64 ((0 : Int)), Value.int IntKind.i64 ((0 : Int)), Value.int IntKind.i64 ((0 : Int)), Value.int IntKind.i64 ((0 : Int)), Value.int IntKind.i64 ((0 : Int)), Value.int IntKind.i64 ((0 : Int)), Value.int IntKind.i64 ((0 : Int)), Value.int IntKind.i64 ((0 : Int)), Value.int IntKind.i64 ((0 : Int))])) [] [] []])) : Sat E [.code (bodyOf Try.f37)] (st0 Try.f37 [.slice none 0 0] (assocN [] []) 0) :=
  by_ret (T := auto0 t_bcut) (h := hints []) (ws := []) (nx' := 0) hE hm (auto0_ok t_bcut_ok) (by omega) (by simp) (by simp) (by kernel_rfl) hob
theorem hlOne (cs : List Value) (ty : TypeId) (n : Nat) (bo : Bx) (hpl : ∀ x ∈ cs, leafG x = true)  {E : Env} (hE : EnvOK E Try.prog Try.f37 1 1 (.agg ⟨bo.cs⟩) [0] [.vec cs ty 11]) (hob : all ([Back (Value.agg (Array.mk [Value.int IntKind.i64 bo.a0, Value.int IntKind.i64 bo.b0, Value.int IntKind.i64 bo.a1, Value.int IntKind.i64 bo.b1, Value.int IntKind.i64 bo.a2, Value.int IntKind.i64 bo.b2, Value.int IntKind.i64 bo.a3, Value.int IntKind.i64 bo.b3, Value.int IntKind.i64 bo.a4, Value.int IntKind.i64 bo.b4])) (Value.agg (Array.mk [Value.int IntKind.i64 bo.a0, Value.int IntKind.i64 bo.b0, Value.int IntKind.i64 bo.a1, Value.int IntKind.i64 bo.b1, Value.int IntKind.i64 bo.a2, Value.int IntKind.i64 bo.b2, Value.int IntKind.i64 bo.a3, Value.int IntKind.i64 bo.b3, Value.int IntKind.i64 bo.a4, Value.int IntKind.i64 bo.b4])) [Blk.vec cs ty 11] [Blk.vec cs ty 11] [], EndOK 11 n 1267650600228229401496703205376 (some ((1 : Int))) none (some (Blk.vec cs ty 11)), readPart Try.prog 25 cs 0 = some (Value.agg (Array.mk [Value.int IntKind.i64 bo.a0, Value.int IntKind.i64 bo.b0, Value.int IntKind.i64 bo.a1, Value.int IntKind.i64 bo.b1, Value.int IntKind.i64 bo.a2, Value.int IntKind.i64 bo.b2, Value.int IntKind.i64 bo.a3, Value.int IntKind.i64 bo.b3, Value.int IntKind.i64 bo.a4, Value.int IntKind.i64 bo.b4])), (0 : Int) ≤ (0 : Int) ∧ (0 : Int) < (n : Int), Value.bool ((n : Int) == (0 : Int)) = Value.bool false])) : Sat E [.code (bodyOf Try.f37)] (st0 Try.f37 [.slice (some ⟨0, 0, none⟩) n mk] (assocN [0] [.vec cs ty 11]) 1) :=
  by_ret (T := auto0 t_bcut) (h := hints [(1, 2, ht false), (3, 1, {p := true}), (3, 3, {o := some (.agg ⟨bo.cs⟩)}), (4, 1, {p := true})]) (ws := []) (nx' := 1) hE hm (auto0_ok t_bcut_ok) (by omega) (by simp) (by intro x hx; simp at hx; subst hx; exact Blk.plain.namesLt (b := .vec _ _ _) hpl _) (by kernel_rfl) hob
theorem hlIn (cs : List Value) (ty : TypeId) (m : Nat) (Q : Nat × Bx → Prop) (n : Nat) (bo : Bx)  {E : Env} {rv : Value} {rhs : List Nat} {rhv : List Blk} (hE : EnvOK E Try.prog Try.f37 1 1 rv rhs rhv) (hL : (fHl cs ty m Q).OK 1) (hob : all ([SameK (atLp (lp Try.f37 0)) (atLp (lp Try.f37 0)), Enter (fHl cs ty m Q) 0 none [Value.pointer (some (Addr.mk 1 0 none)), Value.pointer (some (Addr.mk 65 0 none)), Value.slice (some (Addr.mk 0 11 none)) m 1267650600228229401496703205377, Value.int IntKind.i64 ((m : Int)), Value.int IntKind.i64 ((0 : Int))] [Blk.vec cs ty 11, Blk.cells [Value.int IntKind.i64 ((0 : Int)), Value.int IntKind.i64 ((0 : Int)), Value.int IntKind.i64 ((0 : Int)), Value.int IntKind.i64 ((0 : Int)), Value.int IntKind.i64 ((0 : Int)), Value.int IntKind.i64 ((0 : Int)), Value.int IntKind.i64 ((0 : Int)), Value.int IntKind.i64 ((0 : Int)), Value.int IntKind.i64 ((0 : Int)), Value.int IntKind.i64 ((0 : Int))] 25, Blk.cells [Value.int IntKind.i64 bo.a0, Value.int IntKind.i64 bo.b0, Value.int IntKind.i64 bo.a1, Value.int IntKind.i64 bo.b1, Value.int IntKind.i64 bo.a2, Value.int IntKind.i64 bo.b2, Value.int IntKind.i64 bo.a3, Value.int IntKind.i64 bo.b3, Value.int IntKind.i64 bo.a4, Value.int IntKind.i64 bo.b4] 25] [(10, 1), (11, 65), (0, 0)], SlOK 11 0 0 n 1267650600228229401496703205376 (some ((1 : Int))) none (some (Blk.vec cs ty 11)) (Value.slice (some (Addr.mk 0 11 none)) m 1267650600228229401496703205377), readPart Try.prog 25 cs 0 = some (Value.agg (Array.mk [Value.int IntKind.i64 bo.a0, Value.int IntKind.i64 bo.b0, Value.int IntKind.i64 bo.a1, Value.int IntKind.i64 bo.b1, Value.int IntKind.i64 bo.a2, Value.int IntKind.i64 bo.b2, Value.int IntKind.i64 bo.a3, Value.int IntKind.i64 bo.b3, Value.int IntKind.i64 bo.a4, Value.int IntKind.i64 bo.b4])), (0 : Int) ≤ (0 : Int) ∧ (0 : Int) < (n : Int), Value.bool ((n : Int) == (0 : Int)) = Value.bool false])) (hK : ∀ zz, (fHl cs ty m Q).inv 0 zz → ltO ((fHl cs ty m Q).mu 0 zz) none → Sat E (atLp (lp Try.f37 0)) ((fHl cs ty m Q).st 0 zz)) : Sat E [.code (bodyOf Try.f37)] (st0 Try.f37 [.slice (some ⟨0, 0, none⟩) n mk] (assocN [0] [.vec cs ty 11]) 1) :=
  by_to (T := auto0 t_bcut) (h := hints [(1, 2, ht false), (3, 1, {p := true}), (3, 3, {o := some (.agg ⟨bo.cs⟩)}), (4, 1, {o := some (.slice (some ⟨0, 11, none⟩) m (mk + 1))})]) (ws := [.go, .stop]) (i0 := (0, bo)) hE hm (auto0_ok t_bcut_ok) hL (by kernel_rfl) hob hK
theorem hlB (cs : List Value) (ty : TypeId) (m : Nat) (Q : Nat × Bx → Prop) (i : Nat) (x bo : Bx) (v : Int) (J : Act → World → Prop) {E : Env} {rv : Value} {rhs : List Nat} {rhv : List Blk} (hE : EnvOK E Try.prog Try.f37 1 1 rv rhs rhv) (hL : (fHl cs ty m Q).OK 1) (hob : all ([SameK (mkLp (lp Try.f37 0) J) (mkLp (lp Try.f37 0) J), Enter (fHl cs ty m Q) 0 (some (m - i)) [Value.pointer (some (Addr.mk 10 0 none)), Value.pointer (some (Addr.mk 11 0 none)), Value.slice (some (Addr.mk 0 11 none)) m 1267650600228229401496703205377, Value.int IntKind.i64 ((m : Int)), Value.int IntKind.i64 (Int.ofNat i.succ)] [Blk.vec cs ty 11, Blk.cells [Value.int IntKind.i64 ((0 : Int)), Value.int IntKind.i64 ((0 : Int)), Value.int IntKind.i64 ((0 : Int)), Value.int IntKind.i64 ((0 : Int)), Value.int IntKind.i64 ((0 : Int)), Value.int IntKind.i64 ((0 : Int)), Value.int IntKind.i64 ((0 : Int)), Value.int IntKind.i64 ((0 : Int)), Value.int IntKind.i64 ((0 : Int)), Value.int IntKind.i64 ((0 : Int))] 25, Blk.cells [Value.int IntKind.i64 (minI x.a0 bo.a0), Value.int IntKind.i64 (maxI x.b0 bo.b0), Value.int IntKind.i64 (minI x.a1 bo.a1), Value.int IntKind.i64 (maxI x.b1 bo.b1), Value.int IntKind.i64 (minI x.a2 bo.a2), Value.int IntKind.i64 (maxI x.b2 bo.b2), Value.int IntKind.i64 (minI x.a3 bo.a3), Value.int IntKind.i64 (maxI x.b3 bo.b3), Value.int IntKind.i64 (minI x.a4 bo.a4), Value.int IntKind.i64 (maxI x.b4 bo.b4)] 25] [(10, 10), (11, 11), (0, 0)], Value.int IntKind.i64 (IntKind.i64.wrap (Int.ofNat i.succ)) = Value.int IntKind.i64 (Int.ofNat i.succ), readPart Try.prog 27 cs (11 + ((i : Int)).toNat * 11) = some (Value.agg (Array.mk [Value.int IntKind.i64 bo.a0, Value.int IntKind.i64 bo.b0, Value.int IntKind.i64 bo.a1, Value.int IntKind.i64 bo.b1, Value.int IntKind.i64 bo.a2, Value.int IntKind.i64 bo.b2, Value.int IntKind.i64 bo.a3, Value.int IntKind.i64 bo.b3, Value.int IntKind.i64 bo.a4, Value.int IntKind.i64 bo.b4, Value.int IntKind.i64 v])), (0 : Int) ≤ (i : Int) ∧ (i : Int) < (m : Int), decide ((↑i : Int) < (↑m : Int)) = true])) (hK : ∀ zz, (fHl cs ty m Q).inv 0 zz → ltO ((fHl cs ty m Q).mu 0 zz) (some (m - i)) → Sat E (mkLp (lp Try.f37 0) J) ((fHl cs ty m Q).st 0 zz)) : Sat E (inLp (lp Try.f37 0) J) ((fHl cs ty m Q).st 0 (i, x)) :=
  by_to (T := auto0 t_bcut) (h := hints [(6, 0, {p := true}), (6, 1, {o := some (.agg ⟨bo.cs ++ [.int .i64 v]⟩)}), (12, 0, {v := some (.int .i64 ((i + 1 : Nat) : Int))})]) (ws := [.b true]) (i0 := (i + 1, x.join bo)) hE hm (auto0_ok t_bcut_ok) hL (by kernel_rfl) hob hK
theorem hlE (cs : List Value) (ty : TypeId) (m : Nat) (Q : Nat × Bx → Prop) (i : Nat) (x : Bx) (hpl : ∀ x ∈ cs, leafG x = true) (J : Act → World → Prop) {E : Env} (hE : EnvOK E Try.prog Try.f37 1 1 (.agg ⟨x.cs⟩) [0] [.vec cs ty 11]) (hob : all ([Back (Value.agg (Array.mk [Value.int IntKind.i64 x.a0, Value.int IntKind.i64 x.b0, Value.int IntKind.i64 x.a1, Value.int IntKind.i64 x.b1, Value.int IntKind.i64 x.a2, Value.int IntKind.i64 x.b2, Value.int IntKind.i64 x.a3, Value.int IntKind.i64 x.b3, Value.int IntKind.i64 x.a4, Value.int IntKind.i64 x.b4])) (Value.agg (Array.mk [Value.int IntKind.i64 x.a0, Value.int IntKind.i64 x.b0, Value.int IntKind.i64 x.a1, Value.int IntKind.i64 x.b1, Value.int IntKind.i64 x.a2, Value.int IntKind.i64 x.b2, Value.int IntKind.i64 x.a3, Value.int IntKind.i64 x.b3, Value.int IntKind.i64 x.a4, Value.int IntKind.i64 x.b4])) [Blk.vec cs ty 11] [Blk.vec cs ty 11] [], decide ((↑i : Int) < (↑m : Int)) = false])) : Sat E (inLp (lp Try.f37 0) J) ((fHl cs ty m Q).st 0 (i, x)) :=
  by_ret (T := auto0 t_bcut) (h := hints []) (ws := [.b false]) (nx' := 1) hE hm (auto0_ok t_bcut_ok) (by omega) (by simp) (by intro x hx; simp at hx; subst hx; exact Blk.plain.namesLt (b := .vec _ _ _) hpl _) (by kernel_rfl) hob
end Go.Proofs.Ythbaccmhdffjdaa.Lv


set_option linter.unusedVariables false
set_option linter.unusedSimpArgs false
set_option maxRecDepth 100000
namespace Go.Proofs.Ythbaccmhdffjdaa.Lv
open Go Go.RowKit Go.Proofs.Ythbaccmhdffjdaa.Ev Go.Proofs.Ythbaccmhdffjdaa.NodeE Go.Proofs.Ythbaccmhdffjdaa.Tr Go.Proofs.Ythbaccmhdffjdaa.BoxF Go.Proofs.Ythbaccmhdffjdaa.Lv

theorem sub_in2 {cs : List Value} {s m : Nat} {ys : List Value} (h : sub cs 0 s = some ys) (hs : 0 + s ≤ cs.length) (hd : m ≤ s) : sub cs 0 m = some (ys.take m) := by
  have := Tr.sub_in h (d := 0) (m := m) hs (by omega)
  rw [Nat.add_zero, List.drop_zero] at this
  exact this
theorem at_spec (cs : List Value) (o n c : Nat) (p : Pt) (t : Int) (hr : ePc.Row cs o n) (hpl : ∀ x ∈ cs, leafG x = true) (hn : n ≤ 65536) :
    CallSpec Try.prog 36 [.slice (some ⟨0, o, none⟩) n c, .agg ⟨p.cs⟩, .int .i64 t] (roRows [cs]) 1 (.tuple ⟨[.int .i64 (atV (ePc.list cs o n) p t), .bool (atB (ePc.list cs o n) p t)]⟩) (assocN [] []) := by
  refine spec_of_sat Try.func36 rfl fun E hE => ?_
  have hlen : (ePc.list cs o n).length = n := Elt.list_len _ _ _
  have hget : ∀ i y, (ePc.list cs o n)[i]? = some y → readPart Try.prog 27 cs (o + (Int.ofNat i).toNat * 11) = some (.agg ⟨y.box.cs ++ [.int .i64 y.val]⟩) := fun i y hy => hr.read (P := Try.prog) (ty := 27) (by kernel_rfl) (by kernel_rfl) (i := i) (x := y) hy
  generalize hps : ePc.list cs o n = ps at hE hlen hget
  let Q : Nat → Prop := fun i => i ≤ n ∧ ∀ k y, k < i → ps[k]? = some y → y.box.hs p t = false
  have okL := fAt_ok cs o n c p t Q hpl
  have rnr : ∀ f : Nat → Nat, Blk.rnB f (.ro cs) = .ro cs := fun f => Blk.plain.rnB (b := .ro cs) hpl f
  have rnp : ∀ (f : Nat → Nat), Blk.rnB f (.cells p.cs 72) = .cells [.int .i64 p.p0, .int .i64 p.p1, .int .i64 p.p2, .int .i64 p.p3] 72 := fun f => rfl
  refine atIn cs o n c p t Q hE okL ⟨rfl, ⟨0, ⟨Nat.zero_le _, fun k y hk => absurd hk (Nat.not_lt_zero _)⟩, trivial, rfl, by simp only [fAt, List.map_cons, List.map_nil, rnr, rnp]⟩, trivial⟩ fun zz hz _ => by_loop (fAt cs o n c p t Q) (lp Try.f36 0) ?_ 0 zz hz
  rintro b i hinv J hJ
  have hinv : i ≤ n ∧ ∀ k y, k < i → ps[k]? = some y → y.box.hs p t = false := hinv
  obtain ⟨k1, k2⟩ := hinv
  show Sat E (inLp (lp Try.f36 0) J) ((fAt cs o n c p t Q).st 0 i)
  have hJ' : ∀ zz, (fAt cs o n c p t Q).inv 0 zz → ltO ((fAt cs o n c p t Q).mu 0 zz) (some (n - i)) → Sat E (mkLp (lp Try.f36 0) J) ((fAt cs o n c p t Q).st 0 zz) := fun zz h1 h2 => hJ 0 zz h1 h2
  by_cases hin : i < n
  · have hlt : decide ((i : Int) < (n : Int)) = true := decide_eq_true (by omega)
    obtain ⟨y, hy⟩ : ∃ y, ps[i]? = some y := ⟨_, List.getElem?_eq_getElem (by omega)⟩
    cases hh : y.box.hs p t
    · exact atN cs o n c p t Q i y.box y.val J hE okL ⟨rfl, ⟨i + 1, ⟨hin, fun k z hk hz => by
        by_cases hki : k = i
        · subst hki; rw [hy] at hz; injection hz with hz; subst hz; exact hh
        · exact k2 k z (by omega) hz⟩, (by show n - (i + 1) < n - i; omega), rfl, by simp only [fAt, List.map_cons, List.map_nil, rnr, rnp]⟩, i64_succ (by omega), (congrArg Value.bool hh), hget i y hy, ⟨Int.natCast_nonneg _, Int.ofNat_lt.2 hin⟩, hlt, trivial⟩ hJ'
    · have hf : ps.find? (fun y => y.box.hs p t) = some y := by
        have e : ps = ps.take i ++ y :: ps.drop (i + 1) := by
          conv => lhs; rw [← List.take_append_drop i ps]
          rw [List.drop_eq_getElem_cons (by omega), (List.getElem?_eq_some_iff.1 hy).2]
        have hz : (ps.take i).find? (fun y => y.box.hs p t) = none := by
          rw [List.find?_eq_none]
          intro z hz
          obtain ⟨k, hk⟩ := List.mem_iff_getElem?.1 hz
          have hki : k < i := by have := (List.getElem?_eq_some_iff.1 hk).1; rw [List.length_take] at this; omega
          rw [List.getElem?_take, if_pos hki] at hk
          simp [k2 k z hki hk]
        rw [e, List.find?_append, hz, List.find?_cons, hh]
        rfl
      have hv : atV ps p t = y.val := by unfold atV; rw [hf]
      have hb : atB ps p t = true := List.any_eq_true.2 ⟨y, List.mem_of_getElem? hy, hh⟩
      rw [hv, hb] at hE
      exact atY cs o n c p t Q i y.box y.val J hE ⟨⟨rfl, rfl⟩, (congrArg Value.bool hh), hget i y hy, ⟨Int.natCast_nonneg _, Int.ofNat_lt.2 hin⟩, hlt, trivial⟩
  · have hlt : decide ((i : Int) < (n : Int)) = false := decide_eq_false (by omega)
    have hall : ∀ y ∈ ps, y.box.hs p t = false := fun y hy => by
      obtain ⟨k, hk⟩ := List.mem_iff_getElem?.1 hy
      exact k2 k y (by have := (List.getElem?_eq_some_iff.1 hk).1; omega) hk
    have hf : ps.find? (fun y => y.box.hs p t) = none := List.find?_eq_none.2 fun y hy => by simp [hall y hy]
    have hv : atV ps p t = 0 := by unfold atV; rw [hf]
    have hb : atB ps p t = false := by
      cases hq : atB ps p t
      · rfl
      · obtain ⟨y, hy, hh⟩ := List.any_eq_true.1 hq
        simp only [hall y hy] at hh
        exact absurd hh (by simp)
    rw [hv, hb] at hE
    exact atE cs o n c p t Q i J hE ⟨⟨rfl, rfl⟩, hlt, trivial⟩
def at_F : RoF := fun xs css => match xs, css with
  | [.slice (some ⟨0, o, none⟩) n c, .agg ⟨[.int .i64 p0, .int .i64 p1, .int .i64 p2, .int .i64 p3]⟩, .int .i64 t], [cs] => some (.tuple ⟨[.int .i64 (atV (ePc.list cs o n) ⟨p0, p1, p2, p3⟩ t), .bool (atB (ePc.list cs o n) ⟨p0, p1, p2, p3⟩ t)]⟩, [], [ePc.Row cs o n, n ≤ 65536])
  | [.slice none 0 0, .agg ⟨[.int .i64 p0, .int .i64 p1, .int .i64 p2, .int .i64 p3]⟩, .int .i64 t], [] => some (.tuple ⟨[.int .i64 0, .bool false]⟩, [], [])
  | _, _ => none
theorem at_sum : SumOK Try.prog 36 (roSum at_F) := by
  refine roSum_ok (en Try.func36 rfl) ?_ (fun xs css r h => ?_)
  · intro xs css v blks ob h hob hpl hl
    unfold at_F at h
    split at h
    · rename_i o n c p0 p1 p2 p3 t cs
      simp only [Option.some.injEq, Prod.mk.injEq] at h
      obtain ⟨rfl, rfl, rfl⟩ := h
      refine ⟨by simp, by simp, fun j hj => by simp [nms, nm1, nmL, nm0] at hj, ?_⟩
      exact at_spec cs o n c ⟨p0, p1, p2, p3⟩ t (hob _ (List.mem_cons_self ..)) (hpl cs (by simp)) (hob _ (by simp))
    · rename_i p0 p1 p2 p3 t
      simp only [Option.some.injEq, Prod.mk.injEq] at h
      obtain ⟨rfl, rfl, rfl⟩ := h
      refine ⟨by simp, by simp, fun j hj => by simp [nms, nm1, nmL, nm0] at hj, ?_⟩
      exact spec_of_sat Try.func36 rfl fun E hE => atNil ⟨p0, p1, p2, p3⟩ t hE ⟨⟨rfl, rfl⟩, trivial⟩
    · simp at h
  · unfold at_F at h
    split at h <;> simp at h <;> simp
theorem hull_spec (L : List Pc) (ty : TypeId) (hn : L.length ≤ 65536) (h1 : 1 ≤ L.length) :
    CallSpec Try.prog 37 [.slice (some ⟨0, 0, none⟩) L.length mk] (assocN [0] [.vec (ePc.row L) ty 11]) 1 (.agg ⟨(hullI L).cs⟩) (assocN [0] [.vec (ePc.row L) ty 11]) := by
  refine spec_of_sat Try.func37 rfl fun E hE => ?_
  have hpl : ∀ x ∈ ePc.row L, leafG x = true := Elt.row_pl L
  have rnv : ∀ f : Nat → Nat, Blk.rnB f (.vec (ePc.row L) ty 11) = .vec (ePc.row L) ty 11 := fun f => Blk.plain.rnB (b := .vec (ePc.row L) ty 11) hpl f
  obtain ⟨y, l, rfl⟩ : ∃ y l, L = y :: l := by cases L with | nil => simp at h1 | cons y l => exact ⟨y, l, rfl⟩
  have hb0 : readPart Try.prog 25 (ePc.row (y :: l)) 0 = some (.agg ⟨y.box.cs⟩) := by
    have hs : sub (ePc.row (y :: l)) 0 11 = some (ePc.cells y) := by
      have := Elt.row_sub (e := ePc) (y :: l) [] (i := 0) (x := y) rfl
      rw [List.append_nil] at this
      exact this
    have h2 := Lv.sub_in2 hs (m := 10) (by rw [Elt.row_len]; show 0 + 11 ≤ (l.length + 1) * 11; omega) (by omega)
    have ha : aggT Try.prog 25 = some true := by kernel_rfl
    have hz : sizeOfT Try.prog 25 = some 10 := by kernel_rfl
    simp only [readPart, ha, hz, h2]
    rfl
  have hz0 : Value.bool (((y :: l).length : Int) == 0) = .bool false := congrArg _ (by rw [beq_eq_false_iff_ne]; simp; omega)
  by_cases hl : l = []
  · subst hl
    exact hlOne (ePc.row [y]) ty 1 y.box hpl hE ⟨⟨rfl, by simp only [List.map_cons, List.map_nil, rnv]⟩, ⟨rfl, rfl, rfl, _, _, rfl, by decide, by rw [Elt.row_len]; show 1 * 11 ≤ 1 * 11; omega⟩, hb0, ⟨by decide, by decide⟩, hz0, trivial⟩
  have hl2 : l.length ≤ 65536 := by rw [List.length_cons] at hn; omega
  have hl1 : 1 ≤ l.length := by cases l with | nil => exact absurd rfl hl | cons _ _ => simp
  let Q : Nat × Bx → Prop := fun s => s.1 ≤ l.length ∧ s.2 = hullGo y.box (l.take s.1)
  have okL := fHl_ok (ePc.row (y :: l)) ty l.length Q hpl
  have rnz : ∀ (f : Nat → Nat) (x : Bx), Blk.rnB f (.cells x.cs 25) = .cells x.cs 25 := fun f x => rfl
  have rnw : ∀ (f : Nat → Nat) (x : Bx), Blk.rnB f (.cells x.cs 25) = .cells [.int .i64 x.a0, .int .i64 x.b0, .int .i64 x.a1, .int .i64 x.b1, .int .i64 x.a2, .int .i64 x.b2, .int .i64 x.a3, .int .i64 x.b3, .int .i64 x.a4, .int .i64 x.b4] 25 := fun f x => rfl
  have hsl : SlOK 11 0 0 (y :: l).length mk (some 1) none (some (.vec (ePc.row (y :: l)) ty 11)) (.slice (some ⟨0, 11, none⟩) l.length (mk + 1)) := by
    refine ⟨1, (y :: l).length, rfl, rfl, by simp, Nat.le_refl _, Or.inl ⟨Nat.le_refl _, ⟨_, _, rfl, by decide, ?_⟩, Or.inr (by simp; omega), ?_⟩⟩
    · rw [Elt.row_len, Nat.sub_self, Nat.zero_add]; exact Nat.le_refl _
    · rw [List.length_cons, Nat.add_sub_cancel]
  refine hlIn (ePc.row (y :: l)) ty l.length Q (y :: l).length y.box hE okL ⟨rfl, ⟨(0, y.box), ⟨Nat.zero_le _, rfl⟩, trivial, rfl, by simp only [fHl, List.map_cons, List.map_nil, rnv, rnw]; try rfl⟩, hsl, hb0, ⟨by decide, by rw [List.length_cons]; omega⟩, hz0, trivial⟩ fun zz hz _ => by_loop (fHl (ePc.row (y :: l)) ty l.length Q) (lp Try.f37 0) ?_ 0 zz hz
  rintro b ⟨i, x⟩ hinv J hJ
  have hinv : i ≤ l.length ∧ x = hullGo y.box (l.take i) := hinv
  obtain ⟨k1, k2⟩ := hinv
  show Sat E (inLp (lp Try.f37 0) J) ((fHl (ePc.row (y :: l)) ty l.length Q).st 0 (i, x))
  have hJ' : ∀ zz, (fHl (ePc.row (y :: l)) ty l.length Q).inv 0 zz → ltO ((fHl (ePc.row (y :: l)) ty l.length Q).mu 0 zz) (some (l.length - i)) → Sat E (mkLp (lp Try.f37 0) J) ((fHl (ePc.row (y :: l)) ty l.length Q).st 0 zz) := fun zz h1 h2 => hJ 0 zz h1 h2
  by_cases hin : i < l.length
  · have hlt : decide ((i : Int) < (l.length : Int)) = true := decide_eq_true (by omega)
    obtain ⟨z, hz⟩ : ∃ z, l[i]? = some z := ⟨_, List.getElem?_eq_getElem (by omega)⟩
    have hrd : readPart Try.prog 27 (ePc.row (y :: l)) (11 + (Int.ofNat i).toNat * 11) = some (.agg ⟨z.box.cs ++ [.int .i64 z.val]⟩) := by
      have := read_row (e := ePc) (P := Try.prog) (ty := 27) (by kernel_rfl) (by kernel_rfl) (L := y :: l) (i := i + 1) (x := z) (by simpa using hz)
      rw [show 0 + (Int.ofNat (i + 1)).toNat * ePc.s = 11 + (Int.ofNat i).toNat * 11 by show 0 + (i + 1) * 11 = 11 + i * 11; omega] at this
      exact this
    have htk : l.take (i + 1) = l.take i ++ [z] := by rw [List.take_add_one, hz]; rfl
    exact hlB (ePc.row (y :: l)) ty l.length Q i x z.box z.val J hE okL ⟨rfl, ⟨(i + 1, x.join z.box), ⟨hin, by rw [htk]; unfold hullGo; rw [List.foldl_append]; unfold hullGo at k2; rw [← k2]; rfl⟩, (by show l.length - (i + 1) < l.length - i; omega), rfl, by simp only [fHl, List.map_cons, List.map_nil, rnv, rnw]; try rfl⟩, i64_succ (by omega), hrd, ⟨Int.natCast_nonneg _, Int.ofNat_lt.2 hin⟩, hlt, trivial⟩ hJ'
  · have hlt : decide ((i : Int) < (l.length : Int)) = false := decide_eq_false (by omega)
    rw [List.take_of_length_le (by omega)] at k2
    have hx : hullI (y :: l) = x := k2.symm
    rw [hx] at hE
    exact hlE (ePc.row (y :: l)) ty l.length Q i x hpl J hE ⟨⟨rfl, by simp only [List.map_cons, List.map_nil, rnv]⟩, hlt, trivial⟩
noncomputable def hull_F : VcF := fun xs b => match xs, b with
  | [.slice (some ⟨0, 0, none⟩) n c], some (.vec cs ty 11) => some (.agg ⟨(hullI (ePc.list cs 0 n)).cs⟩, [c = mk, cs = ePc.row (ePc.list cs 0 n), 1 ≤ n, n ≤ 65536])
  | [.slice none 0 0], none => some (.agg ⟨Bx.zero.cs⟩, [])
  | _, _ => none
theorem hull_sum : SumOK Try.prog 37 (vcSum hull_F) := by
  refine vcSum_ok (en Try.func37 rfl) (fun ar v ob h hob => ?_) (fun ar b v ob h hob hpl => ?_)
  · unfold hull_F at h
    split at h
    · simp at *
    · simp only [Option.some.injEq, Prod.mk.injEq] at h
      obtain ⟨rfl, rfl⟩ := h
      exact ⟨fun g => rfl, fun g1 g2 => ren_names fun k hk => by simp [nms, nm1, nmL, nm0, Bx.cs] at hk, spec_of_sat Try.func37 rfl fun E hE => hlNil () hE ⟨⟨rfl, rfl⟩, trivial⟩⟩
    · simp at h
  · unfold hull_F at h
    split at h
    · rename_i n c cs ty hb
      injection hb with hb
      subst hb
      simp only [Option.some.injEq, Prod.mk.injEq] at h
      obtain ⟨rfl, rfl⟩ := h
      obtain rfl : c = mk := hob _ (List.mem_cons_self ..)
      have h1 := hob (cs = ePc.row (ePc.list cs 0 n)) (by simp)
      have h2 := hob (1 ≤ n) (by simp)
      have h3 := hob (n ≤ 65536) (by simp)
      have hlen : (ePc.list cs 0 n).length = n := Elt.list_len _ _ _
      generalize ePc.list cs 0 n = L at h1 hlen
      subst h1
      subst hlen
      exact ⟨fun g => rfl, fun g1 g2 => ren_names fun k hk => by simp [nms, nm1, nmL, nm0, Bx.cs] at hk, hull_spec L ty h3 h2⟩
    · simp at *
    · simp at h
end Go.Proofs.Ythbaccmhdffjdaa.Lv


set_option linter.unusedVariables false
set_option linter.unusedSimpArgs false
set_option maxRecDepth 100000
namespace Go.Proofs.Ythbaccmhdffjdaa.WkLeavesRuns
open Go Go.RowKit Go.Proofs.Ythbaccmhdffjdaa.Ev
theorem walk (w : World) : Calls Try.prog 6 #[] w fun e w' => e = .returned (.bool true) ∧ Below w.heap.size w w' :=
  (calls_runO hm (autoM_ok t_none_ok) noHint [] [] (by kernel_rfl) trivial).2.2 w
end Go.Proofs.Ythbaccmhdffjdaa.WkLeavesRuns


set_option linter.unusedVariables false
set_option linter.unusedSimpArgs false
set_option maxRecDepth 100000
namespace Go.Proofs.Ythbaccmhdffjdaa.Lp
open Go Go.RowKit Go.Proofs.Ythbaccmhdffjdaa.Ev Go.Proofs.Ythbaccmhdffjdaa.NodeE Go.Proofs.Ythbaccmhdffjdaa.BoxF Go.Proofs.Ythbaccmhdffjdaa.Lv Go.Proofs.Ythbaccmhdffjdaa.Tr Go.Proofs.Ythbaccmhdffjdaa.Within Go.Proofs.Ythbaccmhdffjdaa.PickE Go.Proofs.Ythbaccmhdffjdaa.Tn Go.Proofs.Ythbaccmhdffjdaa.Fo

def lruns_F : List Value → Option (Value × List Prop)
  | [] => some (.bool true, [])
  | _ => none
theorem lruns_sum : SumOK Try.prog 6 (sumOf lruns_F) := by
  refine sumOf_ok (en Try.func6 rfl) fun args v ob h hob => ?_
  unfold lruns_F at h
  split at h
  · obtain ⟨rfl, rfl⟩ := Prod.mk.inj (Option.some.inj h)
    exact ⟨rfl, rfl, WkLeavesRuns.walk⟩
  · exact absurd h (by simp)
noncomputable def t_lruns : Sums := upd t_runpack 6 (some (sumOf lruns_F))
theorem t_lruns_ok : SumsOK Try.prog t_lruns := sums_cons t_runpack_ok lruns_sum
noncomputable def t_lp (p : FP) (K : Nat) (NI : List Nd) (b : Bx) (x : Pt) (PL : List Int → Bx → List Pc) : Sums := (upd (upd (upd (upd (upd (upd (upd (upd (upd t_bcut 24 (some (nodesT_F 20 NI))) 27 (some (model_F p K))) 28 (some (region_F b 18))) 32 (some (inside_F x 19))) 23 (some (roSum (ls_F true PL)))) 35 (some (roSum value_F))) 36 (some (roSum at_F))) 37 (some (vcSum hull_F))) 6 (some (sumOf lruns_F)))
theorem t_lp_ok (p : FP) (K : Nat) (NI : List Nd) (b : Bx) (x : Pt) (PL : List Int → Bx → List Pc) : SumsOK Try.prog (t_lp p K NI b x PL) := (sums_cons (sums_cons (sums_cons (sums_cons (sums_cons (sums_cons (sums_cons (sums_cons (sums_cons t_bcut_ok (nodesT_sum 20 NI)) (model_sum p K)) (region_sum b 18)) (inside_sum x 19)) (ls_sum true PL)) value_sum) at_sum) hull_sum) lruns_sum)

/-- Along the pieces. -/
structure LQ where
  i : Nat
  k : Nat
def lpL (W : List Int) (m : Nat) (b : Bx) (x : Pt) (S : List Pc) (Q : LQ → Prop) : LoopF LQ where
  ts _ := [10, 11, 12, 13, 14, 36, 37, 38]
  hs _ := [80, 81, 82, 83]
  tv _ := fun ⟨i, k⟩ => [.slice (some ⟨80, 0, none⟩) m mk, ptr 81, ptr 82, .slice (some ⟨83, 0, none⟩) S.length mk, .int .i64 (k : Int), .slice (some ⟨83, 0, none⟩) S.length mk, .int .i64 (S.length : Int), .int .i64 (i : Int)]
  hv _ _ := [.vec (eWord.row W) 83 1, .cells b.cs 25, .cells x.cs 72, .vec (ePc.row S) 27 11]
  inv _ := Q
  mu _ := fun ⟨i, k⟩ => S.length - i
  nx := 84
theorem lpL_ok (W : List Int) (m : Nat) (b : Bx) (x : Pt) (S : List Pc) (Q : LQ → Prop) {n : Nat} (hn : n ≤ 84 := by decide) : (lpL W m b x S Q).OK n := by
  refine ⟨hn, fun z i h k hk => ?_, fun z i h v hv k hk => ?_, fun z i h y hy => ?_⟩
  · show k < 84
    simp [lpL] at hk; omega
  · show k < 84
    simp only [lpL, ptr, List.mem_cons, List.not_mem_nil, or_false] at hv
    rcases hv with rfl | rfl | rfl | rfl | rfl | rfl | rfl | rfl <;> simp [nms, nm1, nm0] at hk <;> omega
  · simp only [lpL, List.mem_cons, List.not_mem_nil, or_false] at hy
    rcases hy with rfl | rfl | rfl | rfl
    · exact Blk.plain.namesLt (b := .vec _ _ _) (Elt.row_pl _) _
    · exact Blk.plain.namesLt (b := .cells _ _) (bcs_pl b) _
    · exact Blk.plain.namesLt (b := .cells _ _) (pt_pl x) _
    · exact Blk.plain.namesLt (b := .vec _ _ _) (Elt.row_pl _) _
/-- All slices nil. -/
def ztc (tcl : Int) : List Value := [.int .i64 tcl, .slice none 0 0, .slice none 0 0, .slice none 0 0, .slice none 0 0]
def zfc (d cl : Int) : List Value := [.int .i64 d, .int .i64 cl, .slice none 0 0, .slice none 0 0]
def z1L (bt bf : Blk) : LoopF Unit where
  ts _ := [2, 3, 4, 5]
  hs _ := [80, 81]
  tv _ _ := [.slice none 0 0, .slice none 0 0, ptr 80, ptr 81]
  hv _ _ := [bt, bf]
  inv _ _ := True
  mu _ _ := 0
  nx := 82
theorem z1L_ok (bt bf : Blk) (h1 : bt.plain) (h2 : bf.plain) : (z1L bt bf).OK 0 := by
  refine ⟨(by decide : 0 ≤ 82), fun z i h k hk => ?_, fun z i h v hv k hk => ?_, fun z i h y hy => ?_⟩
  · show k < 82
    simp [z1L] at hk; omega
  · show k < 82
    simp only [z1L, ptr, List.mem_cons, List.not_mem_nil, or_false] at hv
    rcases hv with rfl | rfl | rfl | rfl <;> simp [nms, nm1, nm0] at hk <;> omega
  · simp only [z1L, List.mem_cons, List.not_mem_nil, or_false] at hy
    rcases hy with rfl | rfl
    · exact h1.namesLt _
    · exact h2.namesLt _
def z2L (tcl d cl : Int) : LoopF Unit where
  ts _ := [2, 3, 4, 5]
  hs _ := [0, 1, 2, 3, 4, 5, 6, 7, 8, 9, 10, 11, 12, 13, 14, 15, 16, 17, 18, 19, 20, 21, 22, 23, 80, 81]
  tv _ _ := [.slice none 0 0, .slice none 0 0, ptr 80, ptr 81]
  hv _ _ := [.ro [], .ro [], .ro [], .ro [], .ro [], .ro [], .ro [], .ro [], .ro [], .ro [], .ro [], .ro [], .ro [], .ro [], .ro [], .ro [], .ro [], .ro [], .ro [], .ro [], .ro [], .ro [], .ro [], .ro [], .ro (ztc tcl), .ro (zfc d cl)]
  inv _ _ := True
  mu _ _ := 0
  nx := 82
end Go.Proofs.Ythbaccmhdffjdaa.Lp

