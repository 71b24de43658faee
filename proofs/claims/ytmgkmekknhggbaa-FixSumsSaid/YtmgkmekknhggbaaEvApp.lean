/-
  append onto a row of the call's own, as the evaluator tells it: sound.
-/
import Derived.Test.YtmgkmekknhggbaaEvSound
import Derived.Maps.AppendAt
set_option linter.unusedVariables false
set_option linter.unusedSimpArgs false
namespace Go.Proofs.Ytmgkmekknhggbaa.Ev
open Go Go.RowKit
section
variable {P : Program} {M : Nat → Prop} {w0 w : World} {g : Nm} {B : Nat → Prop} {H : Heap}
def ownBlk (g : Nm) : Option Nat → Option Nat
  | some k => some (g.blk k)
  | none => none
theorem ble_self (n : Nat) : Nat.ble n n = true := Nat.ble_eq_true_of_le (Nat.le_refl n)
theorem bifN {a b : Nat} {α : Type} {x : Option α} {r : α} (h : (bif Nat.beq a b then x else none) = some r) : a = b ∧ x = some r := by
  cases e : Nat.beq a b <;> simp only [e, cond_true, cond_false, reduceCtorEq] at h
  exact ⟨Nat.eq_of_beq_eq_true e, h⟩
theorem bifL {a b : Nat} {α : Type} {x : Option α} {r : α} (h : (bif Nat.ble a b then x else none) = some r) : a ≤ b ∧ x = some r := by
  cases e : Nat.ble a b <;> simp only [e, cond_true, cond_false, reduceCtorEq] at h
  exact ⟨Nat.le_of_ble_eq_true e, h⟩
theorem bifB {a : Bool} {α : Type} {x : Option α} {r : α} (h : (bif a then x else none) = some r) : a = true ∧ x = some r := by
  cases a <;> simp only [cond_true, cond_false, reduceCtorEq] at h
  exact ⟨rfl, h⟩
theorem ownOf_ok (hH : HC M w0 g B H w) {size n : Nat} {e : TypeId} {s : Value} {xs : List Value} {ko : Option Nat} (hsz : 1 ≤ size) (h : ownOf size e H s = some (n, xs, ko)) :
    w.ownsRow 0 e size (ren g s) n (xs.map (ren0 g)) ∧ (ren g s).ownBlock = ownBlk g ko ∧ (∀ v ∈ xs, In0 B v) ∧ (∀ k, ko = some k → ∃ b, H k = some b ∧ b.wr = true) := by
  unfold ownOf at h
  split at h
  · simp at h; obtain ⟨rfl, rfl, rfl⟩ := h
    exact ⟨⟨by simp, Or.inl ⟨rfl, rfl⟩⟩, rfl, by simp, by simp⟩
  · rename_i k n' c
    split at h
    · rename_i cs ty sz hb
      have q := bifN h
      obtain ⟨q1, h1⟩ := q
      have q := bifN h1
      obtain ⟨q2, h2⟩ := q
      have q := bifN h2
      obtain ⟨q3, h3⟩ := q
      have q := bifL h3
      obtain ⟨hle, h4⟩ := q
      clear h h1 h2 h3
      subst q1; subst q2; subst q3
      simp only [Option.some.injEq, Prod.mk.injEq] at h4; obtain ⟨rfl, rfl, rfl⟩ := h4
      obtain ⟨h0, rest, ho, hlen, hcap⟩ := hH.holds k _ hb
      have hr : ren g (.slice (some ⟨k, 0, none⟩) n' mark) = .slice (some ⟨g.blk k, 0, none⟩) n' (g.cap k) := by
        simp [ren, ren1, ren0, renA, h0, capOf, ble_self]
      have hn : n' ≤ g.cap k := by
        have : n' * sz ≤ g.cap k * sz := by omega
        exact Nat.le_of_mul_le_mul_right this (by omega)
      rw [hr]
      refine ⟨⟨by simp; omega, Or.inr ⟨g.blk k, g.cap k, _, rfl, Nat.zero_le _, ho, hn, hcap, ?_, ?_⟩⟩, rfl, fun v hv => hH.scope k _ hb v (List.mem_of_mem_take hv), fun k' hk => by simp at hk; subst hk; exact ⟨_, hb, rfl⟩⟩
      · simpa using hlen
      · simp only [List.toList_toArray]
        rw [List.take_append_of_le_length (by simpa using hle), List.map_take]
    · rename_i cs ty hb
      have q := bifN h
      obtain ⟨q1, h1⟩ := q
      have q := bifN h1
      obtain ⟨hl, h2⟩ := q
      have q := bifL h2
      obtain ⟨hle, h3⟩ := q
      have q := bifL h3
      obtain ⟨hc, h4⟩ := q
      clear h h1 h2 h3
      subst q1
      simp only [Option.some.injEq, Prod.mk.injEq] at h4; obtain ⟨rfl, rfl, rfl⟩ := h4
      obtain ⟨h0, ho⟩ := hH.holds k _ hb
      have hr : ren g (.slice (some ⟨k, 0, none⟩) n' c) = .slice (some ⟨g.blk k, 0, none⟩) n' c := by
        have : Nat.ble mark c = false := by
          cases hbl : Nat.ble mark c with
          | false => rfl
          | true => have := Nat.le_of_ble_eq_true hbl; unfold mark at this; omega
        simp [ren, ren1, ren0, renA, h0, capOf, this]
      have hml : n' * size ≤ c * size := Nat.mul_le_mul_right _ hle
      rw [hr]
      refine ⟨⟨by simp; omega, Or.inr ⟨g.blk k, c, _, rfl, Nat.zero_le _, ho, hle, by unfold maxLen; omega, by simp [hl], ?_⟩⟩, rfl, fun v hv => hH.scope k _ hb v (List.mem_of_mem_take hv), fun k' hk => by simp at hk; subst hk; exact ⟨_, hb, rfl⟩⟩
      simp only [List.toList_toArray, List.map_take]
    · simp at h
  · simp at h
theorem srcOf_ok (hH : HC M w0 g B H w) {size m : Nat} {x : Value} {vs : List Value} {kx : Nat} (h : srcOf size H x = some (m, vs, kx)) :
    ∃ a c, ren g x = .slice (some a) m c ∧ vs.length = m * size ∧ (∀ j u, (vs.map (ren0 g))[j]? = some u → w.cell? (a.add j) = some u) ∧ (∀ v ∈ vs, In0 B v) := by
  unfold srcOf at h
  split at h
  · rename_i k off m' c
    split at h
    · rename_i b hb
      split at h
      · rename_i cs hcs
        split at h
        · rename_i vs' hvs
          simp at h; obtain ⟨rfl, rfl, rfl⟩ := h
          obtain ⟨h1, h2, h3⟩ := sub_spec hvs
          refine ⟨⟨g.blk k, g.base k + off, none⟩, _, rfl, h1, fun j u hu => ?_, fun v hv => ?_⟩
          · rw [List.getElem?_map] at hu
            cases hj : vs'[j]? with
            | none => simp [hj] at hu
            | some v =>
              simp [hj] at hu; subst hu
              rw [plain_add, Nat.add_assoc]
              exact hH.cell hb hcs (h3 j v hj)
          · obtain ⟨j, hj, he⟩ := List.getElem_of_mem hv
            exact row_in hH hb hcs v (List.mem_of_getElem? (h3 j v (by rw [List.getElem?_eq_getElem hj, he])))
        · simp at h
      · simp at h
    · simp at h
  · simp at h
theorem apU_kept (ko : Option Nat) (nm : Nat) (b : Blk) (H : Heap) : ∀ l c, apU (keptOf ko ++ [(nm, some b)]) H l = some c → (l = nm ∧ c = b) ∨ (l ≠ nm ∧ H l = some c ∧ ko ≠ some l) := by
  intro l c h
  cases ko with
  | none =>
    simp only [keptOf, List.nil_append, apU] at h
    by_cases e : l = nm
    · subst e; rw [upd_self] at h; simp at h; exact Or.inl ⟨rfl, h.symm⟩
    · rw [upd_ne _ _ e] at h; exact Or.inr ⟨e, h, by simp⟩
  | some k =>
    simp only [keptOf, List.cons_append, List.nil_append, apU] at h
    by_cases e : l = nm
    · subst e; rw [upd_self] at h; simp at h; exact Or.inl ⟨rfl, h.symm⟩
    · rw [upd_ne _ _ e] at h
      by_cases e' : l = k
      · subst e'; rw [upd_self] at h; simp at h
      · rw [upd_ne _ _ e'] at h; exact Or.inr ⟨e, h, by simp; exact fun h => e' h.symm⟩
theorem append_core (hH : HC M w0 g B H w) {nm : Nat} (hnB : ¬ B nm) {B' : Nat → Prop} (hBB : ∀ k, B k → B' k) (hB' : B' nm) {t e ty : TypeId} {i : TypeInfo} {z : Value} (hu : P.underlying t = some (.slice e)) (hi : P.info? e = some i) (hz : i.zero = some z) (hzs : z.cells.size = i.size) (hsz : 1 ≤ i.size)
    {s x : Value} {n m : Nat} {xs vs : List Value} {ko : Option Nat} {kx : Nat} (ho : ownOf i.size e H s = some (n, xs, ko)) (hs : srcOf i.size H x = some (m, vs, kx)) (hlf : allB leaf vs = true) (hm : 1 ≤ m) (hnm : n + m ≤ 16777216) (hby : (n + m) * i.bytes ≤ 140737488355328) :
    ∃ g' w', (Builtin.append_ #[t, t] ty #[ren g s, ren g x]).run P w = .ok (ren g' (.slice (some ⟨nm, 0, none⟩) (n + m) mark)) w' ∧ Agree B g g' ∧ HC M w0 g' B' (apU (keptOf ko ++ [(nm, some (.vec (xs ++ vs) e i.size))]) H) w' := by
  obtain ⟨hown, hblk, hxs, hko⟩ := ownOf_ok hH hsz ho
  obtain ⟨a, c, hx, hvl, hnews, hvs⟩ := srcOf_ok hH hs
  have h1 : ∀ u ∈ vs.map (ren0 g), u.oneCell' = true := by
    intro v hv
    obtain ⟨u, hu, rfl⟩ := List.mem_map.1 hv
    exact one_of_leaf (by rw [leaf_ren0]; exact allB_iff.1 hlf u hu)
  obtain ⟨v', w', hrun, hown', hgrow, _, hat⟩ := run_append_own_at (P := P) w 0 t ty e i z i.size i.bytes hu hi hz rfl rfl hzs (by omega) (ren g s) n _ hown a m c (vs.map (ren0 g)) (by simpa using hvl) hnews h1 (by unfold maxLen; omega) hby (Nat.zero_le _)
  obtain ⟨hlen, ⟨_, hbad⟩ | ⟨g1, cap, cur, rfl, _, hg1, hnc, hcm, hcs, htake⟩⟩ := hown'
  · omega
  have hne : ∀ k, B k → k ≠ nm := fun k hk e => hnB (e ▸ hk)
  let g' : Nm := ⟨upd g.blk nm g1, upd g.base nm 0, upd g.cap nm cap⟩
  have hag : Agree B g g' := fun k hk => by simp [g', upd_ne _ _ (hne k hk)]
  have hall : ∀ v ∈ xs ++ vs, In0 B v := fun v hv => by
    rcases List.mem_append.1 hv with h | h
    · exact hxs v h
    · exact hvs v h
  have hg1at : (∃ k, ko = some k ∧ g1 = g.blk k) ∨ g1 = w.heap.size := by
    rcases hat with h | h
    · left
      rw [hblk] at h
      cases ko with
      | none => simp [ownBlk, Value.ownBlock] at h
      | some k => simp [ownBlk, Value.ownBlock] at h; exact ⟨k, rfl, h⟩
    · right; simpa [Value.ownBlock] using h
  have hold := apU_kept ko nm (.vec (xs ++ vs) e i.size) H
  have hfree : ∀ l b, H l = some b → ko ≠ some l → w'.heap[g.blk l]? = w.heap[g.blk l]? := fun l b hl hn => by
    refine hgrow.block _ (hH.lt hl) fun he => ?_
    rw [hblk] at he
    cases ko with
    | none => simp [ownBlk] at he
    | some k =>
      simp only [ownBlk, Option.some.injEq] at he
      obtain ⟨b', hb', hw⟩ := hko k rfl
      exact hn (by rw [hH.inj k l b' b hb' hl hw he.symm])
  refine ⟨g', w', ?_, hag, ?_⟩
  · rw [hx, hrun]
    have : ren g' (.slice (some ⟨nm, 0, none⟩) (n + m) mark) = .slice (some ⟨g1, 0, none⟩) (n + m) cap := by
      simp [ren, ren1, ren0, renA, g', upd_self, capOf, ble_self]
    rw [this]
  refine ⟨⟨hgrow.os.trans hH.below.os, hgrow.tape.trans hH.below.tape, hgrow.output.trans hH.below.output, Nat.le_trans hH.below.size hgrow.size, fun j hj hM => ?_⟩, fun l b hl => ?_, fun l b hl => ?_, fun l b hl => ?_, fun l b hl hw => ?_, fun l j b d hl hj hw he => ?_⟩
  · rw [hgrow.block j (Nat.lt_of_lt_of_le hj hH.below.size) ?_]
    · exact hH.below.block j hj hM
    · intro he
      rw [hblk] at he
      cases ko with
      | none => simp [ownBlk] at he
      | some k =>
        simp only [ownBlk, Option.some.injEq] at he
        obtain ⟨b', hb', hw⟩ := hko k rfl
        rcases hH.own k b' hb' hw with h | h
        · omega
        · exact hM (he ▸ h)
  · rcases hold l b hl with ⟨rfl, rfl⟩ | ⟨_, h, _⟩
    · exact hB'
    · exact hBB l (hH.dom l b h)
  · rcases hold l b hl with ⟨rfl, rfl⟩ | ⟨_, h, _⟩
    · exact fun v hv => (hall v hv).mono hBB
    · exact (hH.scope l b h).mono hBB
  · rcases hold l b hl with ⟨rfl, rfl⟩ | ⟨hn, h, hk⟩
    · have e1 : g'.blk l = g1 := by simp [g', upd_self]
      have e2 : g'.base l = 0 := by simp [g', upd_self]
      have e3 : g'.cap l = cap := by simp [g', upd_self]
      refine ⟨e2, cur.toList.drop ((n + m) * i.size), ?_, ?_, by rw [e3]; exact hcm⟩
      · rw [e1, hg1, ← map_ren0_congr hag hall, List.map_append, ← htake, List.take_append_drop]
      · rw [e3]
        have hl2 : (xs ++ vs).length = (n + m) * i.size := by simpa using hlen
        have hle : (n + m) * i.size ≤ cap * i.size := Nat.mul_le_mul_right _ hnc
        rw [hl2, List.length_drop, Array.length_toList, hcs]
        omega
    · have e1 : g'.blk l = g.blk l := by simp [g', upd_ne _ _ hn]
      rw [e1, hfree l b h hk]
      exact (hH.holds l b h).congr hag (hH.dom l b h) (hH.scope l b h)
  · rcases hold l b hl with ⟨rfl, rfl⟩ | ⟨hn, h, _⟩
    · have e1 : g'.blk l = g1 := by simp [g', upd_self]
      rw [e1]
      rcases hg1at with ⟨k, hk, rfl⟩ | rfl
      · obtain ⟨b', hb', hw'⟩ := hko k hk
        exact hH.own k b' hb' hw'
      · exact Or.inl hH.below.size
    · have e1 : g'.blk l = g.blk l := by simp [g', upd_ne _ _ hn]
      rw [e1]; exact hH.own l b h hw
  · rcases hold l b hl with ⟨rfl, rfl⟩ | ⟨hn, h, hk⟩ <;> rcases hold j d hj with ⟨rfl, rfl⟩ | ⟨hn', h', hk'⟩
    · rfl
    · exfalso
      have e1 : g'.blk l = g1 := by simp [g', upd_self]
      have e2 : g'.blk j = g.blk j := by simp [g', upd_ne _ _ hn']
      rw [e1, e2] at he
      rcases hg1at with ⟨k, hkk, rfl⟩ | rfl
      · obtain ⟨b', hb', hw'⟩ := hko k hkk
        exact hk' (by rw [hkk, hH.inj k j b' d hb' h' hw' he])
      · have := hH.lt h'; omega
    · exfalso
      have e1 : g'.blk j = g1 := by simp [g', upd_self]
      have e2 : g'.blk l = g.blk l := by simp [g', upd_ne _ _ hn]
      rw [e1, e2] at he
      rcases hg1at with ⟨k, hkk, rfl⟩ | rfl
      · obtain ⟨b', hb', hw'⟩ := hko k hkk
        exact hk (by rw [hkk, hH.inj l k b b' h hb' hw he])
      · have := hH.lt h; omega
    · have e1 : g'.blk l = g.blk l := by simp [g', upd_ne _ _ hn]
      have e2 : g'.blk j = g.blk j := by simp [g', upd_ne _ _ hn']
      rw [e1, e2] at he
      exact hH.inj l j b d h h' hw he
end
end Go.Proofs.Ytmgkmekknhggbaa.Ev
