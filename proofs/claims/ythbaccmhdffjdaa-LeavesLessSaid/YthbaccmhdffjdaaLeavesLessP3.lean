/-
  The laws of packed nodes in plain numbers.
-/
import Derived.Test.YthbaccmhdffjdaaLeavesLessP2
set_option linter.unusedVariables false
set_option linter.unusedSimpArgs false
set_option maxRecDepth 100000
namespace Go.Proofs.Ythbaccmhdffjdaa.Tn
open Go Go.RowKit Go.Proofs.Ythbaccmhdffjdaa.Ev Go.Proofs.Ythbaccmhdffjdaa.Within Go.Proofs.Ythbaccmhdffjdaa.PickE Go.Proofs.Ythbaccmhdffjdaa.NodeE Go.Proofs.Ythbaccmhdffjdaa.Tn

theorem w_inj {r s : Rw} {a b : Option Addr} {j k h g : Nat} (e : r.w a j = s.w b k) (ha : hat a h) (hb : hat b g) (h1 : j ≠ k) (h2 : j ≠ g) (h3 : k ≠ h) : r.l = s.l := by
  unfold Rw.w at e
  unfold Rw.l
  cases hr : r.z <;> cases hs : s.z <;> rw [hr, hs] at e <;> simp only [cond_true, cond_false, Value.slice.injEq] at e
  · rfl
  · exfalso
    rcases ha with rfl | ⟨sp, rfl⟩
    · simp at e
    · simp at e <;> omega
  · exfalso
    rcases hb with rfl | ⟨sp, rfl⟩
    · simp at e
    · simp at e <;> omega
  · exfalso
    simp at e <;> omega
open Classical in
theorem nodesH_spec (cl dim : Int) (hd : 1 ≤ dim ∧ dim ≤ 1000) (r0 r1 r2 r3 : Rw) (x0 x1 x2 x3 : Option Addr) (y0 : hat x0 4) (y1 : hat x1 5) (y2 : hat x2 6) (y3 : hat x3 7) (i0 : RwIn r0 (some (.ro r0.cs))) (i1 : RwIn r1 (some (.ro r1.cs))) (i2 : RwIn r2 (some (.ro r2.cs))) (i3 : RwIn r3 (some (.ro r3.cs))) :
    CallSpec Try.prog 24 [.agg ⟨[.int .i64 cl, r0.w x0 0, r1.w x1 1, r2.w x2 2, r3.w x3 3]⟩, .int .i64 dim] (roRows [r0.cs, r1.cs, r2.cs, r3.cs]) 8 (.slice (some ⟨100, 0, none⟩) (nodesI r0.l r1.l r2.l r3.l dim).length mk) (assocN [100] [.vec (eWord.row ((nodesI r0.l r1.l r2.l r3.l dim).map packN)) 83 1]) := by
  refine spec_of_sat Try.func24 rfl fun E hE => ?_
  obtain ⟨PV, hPV⟩ : ∃ PV : Value → Int → Int, PV = fun v i => pickI (if v = r1.w x1 1 then r1.l else if v = r2.w x2 2 then r2.l else r3.l) i := ⟨_, rfl⟩
  have pe1 : ∀ i, PV (.slice (r1.wz x1 1) r1.wn r1.wc) i = pickI r1.l i := fun i => by rw [Rw.w_eq, hPV]; simp
  have pe2 : ∀ i, PV (.slice (r2.wz x2 2) r2.wn r2.wc) i = pickI r2.l i := fun i => by
    rw [Rw.w_eq, hPV]
    show pickI (if r2.w x2 2 = r1.w x1 1 then r1.l else if r2.w x2 2 = r2.w x2 2 then r2.l else r3.l) i = _
    split
    · rename_i h
      rw [w_inj h y2 y1 (by decide) (by decide) (by decide)]
    · rw [if_pos rfl]
  have pe3 : ∀ i, PV (.slice (r3.wz x3 3) r3.wn r3.wc) i = pickI r3.l i := fun i => by
    rw [Rw.w_eq, hPV]
    show pickI (if r3.w x3 3 = r1.w x1 1 then r1.l else if r3.w x3 3 = r2.w x2 2 then r2.l else r3.l) i = _
    split
    · rename_i h
      rw [w_inj h y3 y1 (by decide) (by decide) (by decide)]
    · split
      · rename_i h
        rw [w_inj h y3 y2 (by decide) (by decide) (by decide)]
      · rfl
  have g0 := i0.1
  have g1 := i1.1
  have g2 := i2.1
  have g3 := i3.1
  rw [← Rw.w_eq, ← Rw.w_eq, ← Rw.w_eq, ← Rw.w_eq]
  have hv0 : I64 (withinS (pickI r3.l 0) (-3000) 3000) := within_i64 _ (by decide) (by decide) (by decide)
  have pq3 : PickQ PV (.slice (r3.wz x3 3) r3.wn r3.wc) 0 [some (.ro r0.cs), some (.ro r1.cs), some (.ro r2.cs), some (.ro r3.cs)] := ⟨3, 7, r3, x3, by decide, y3, Rw.w_eq r3 x3 3, i3, pe3 0, by decide⟩
  exact tnh PV (tnQ r0.l r1.l r2.l r3.l dim) cl dim (withinS (pickI r3.l 0) (-3000) 3000) (r0.wz x0 0) (r1.wz x1 1) (r2.wz x2 2) (r3.wz x3 3) r0.wn r0.wc r1.wn r1.wc r2.wn r2.wc r3.wn r3.wc r0.cs r1.cs r2.cs r3.cs hE (tnL_ok (by decide) _ _ _ _ _ (by decide) (vsH_lt cl r0 r1 r2 r3 y0 y1 y2 y3) (fun x hx => Blk.plain.namesLt (rsH_pl i0 i1 i2 i3 x hx) _))
    ⟨rfl, ⟨⟨0, [⟨true, (withinS (pickI r3.l 0) (-3000) 3000), 0, 0, 0, 0⟩], [0]⟩, ⟨Nat.zero_le _, Nat.zero_le _, nd0 _ hv0, rfl⟩, trivial, rfl, blkH cl r0 r1 r2 r3 y0 y1 y2 y3 i0 i1 i2 i3 _ [⟨true, (withinS (pickI r3.l 0) (-3000) 3000), 0, 0, 0, 0⟩] [0] (by decide)⟩, (by rw [pe3]), (by rw [pe3]; exact pick_i64 g3.l64 _), by decide, by decide, by decide, pq3, trivial⟩
    fun zz hz _ => tn_looph PV cl dim hd r0 r1 r2 r3 x0 x1 x2 x3 y0 y1 y2 y3 i0 i1 i2 i3 pe1 pe2 pe3 g0 g1 g2 g3 hE zz hz
/-- Under names of the caller's. -/
theorem nodesH_gs {H : Heap} {nm k h0 h1 h2 h3 : Nat} (cl dim : Int) (hd : 1 ≤ dim ∧ dim ≤ 1000) (r0 r1 r2 r3 : Rw) {x0 x1 x2 x3 : Option Addr} (y0 : hat x0 h0) (y1 : hat x1 h1) (y2 : hat x2 h2) (y3 : hat x3 h3)
    (z0 : r0.z = true → x0 = none) (z1 : r1.z = true → x1 = none) (z2 : r2.z = true → x2 = none) (z3 : r3.z = true → x3 = none)
    (i0 : RwIn r0 (H k)) (i1 : RwIn r1 (H (k + 1))) (i2 : RwIn r2 (H (k + 2))) (i3 : RwIn r3 (H (k + 3))) (rs : List Nat) (ob : List Prop) :
    Nonempty (GS Try.prog 24 [.agg ⟨[.int .i64 cl, r0.w x0 k, r1.w x1 (k + 1), r2.w x2 (k + 2), r3.w x3 (k + 3)]⟩, .int .i64 dim] H nm ⟨.slice (some ⟨nm, 0, none⟩) (nodesI r0.l r1.l r2.l r3.l dim).length mk, [(nm, some (.vec (eWord.row ((nodesI r0.l r1.l r2.l r3.l dim).map packN)) 83 1))], rs, ob⟩) := by
  have c : ∀ (r : Rw) (x : Option Blk), RwIn r x → RwIn r (some (.ro r.cs)) := fun r x h => ⟨h.1, h.2.1, _, rfl, rfl⟩
  have hvn : ∀ j ∈ nms (Value.slice (some ⟨100, 0, none⟩) (nodesI r0.l r1.l r2.l r3.l dim).length mk), j = 100 := fun j hj => by simpa [nms, nm1, nm0] using hj
  have hrn : ∀ (f : Nat → Nat) (r : Rw) (x : Option Addr) (j : Nat), rn0 f (r.w x j) = bif r.z then .slice (some ⟨f j, 0, none⟩) r.n r.c else rn0 f (.slice x 0 0) := fun f r x j => by unfold Rw.w; cases r.z <;> rfl
  have hrow : ∀ (r : Rw) (x : Option Blk), RwIn r x → ∀ (f : Nat → Nat), mapL (rn0 f) r.cs = r.cs := fun r x h f => mapL_id fun c hc => rn0_leafG f (h.pl c hc)
  have hnone : ∀ (r : Rw) (x : Option Blk), RwIn r x → ∀ c ∈ r.cs, ∀ i ∈ nm0 c, False := fun r x h c hc i hi => by rw [nm0_leafG (h.pl c hc)] at hi; simp at hi
  have hrows : ∀ j b, roRows [r0.cs, r1.cs, r2.cs, r3.cs] j = some b → (j = 0 ∧ b = .ro r0.cs) ∨ (j = 1 ∧ b = .ro r1.cs) ∨ (j = 2 ∧ b = .ro r2.cs) ∨ (j = 3 ∧ b = .ro r3.cs) := fun j b h => by
    match j with
    | 0 => exact Or.inl ⟨rfl, (Option.some.inj h).symm⟩
    | 1 => exact Or.inr (Or.inl ⟨rfl, (Option.some.inj h).symm⟩)
    | 2 => exact Or.inr (Or.inr (Or.inl ⟨rfl, (Option.some.inj h).symm⟩))
    | 3 => exact Or.inr (Or.inr (Or.inr ⟨rfl, (Option.some.inj h).symm⟩))
    | j + 4 => simp [roRows] at h
  obtain ⟨w0, g0⟩ : ∃ w : Option Addr, w = x0.map fun a => ⟨4, 0, a.spot⟩ := ⟨_, rfl⟩
  obtain ⟨w1, g1⟩ : ∃ w : Option Addr, w = x1.map fun a => ⟨5, 0, a.spot⟩ := ⟨_, rfl⟩
  obtain ⟨w2, g2⟩ : ∃ w : Option Addr, w = x2.map fun a => ⟨6, 0, a.spot⟩ := ⟨_, rfl⟩
  obtain ⟨w3, g3⟩ : ∃ w : Option Addr, w = x3.map fun a => ⟨7, 0, a.spot⟩ := ⟨_, rfl⟩
  have hh : ∀ (x w : Option Addr) (n : Nat), w = x.map (fun a => (⟨n, 0, a.spot⟩ : Addr)) → hat w n := fun x w n e => by
    cases x with
    | none => exact Or.inl e
    | some a => exact Or.inr ⟨_, e⟩
  obtain ⟨op, hop⟩ : ∃ op : Option Addr → Nat → Nat → List (Nat × Nat), op = fun x n h => match x with | none => [] | some _ => [(n, h)] := ⟨_, rfl⟩
  have hom : ∀ x n h j i, (j, i) ∈ op x n h → j = n ∧ i = h ∧ x ≠ none := fun x n h j i hm => by
    rw [hop] at hm
    cases x with
    | none => simp at hm
    | some a => simp at hm; exact ⟨hm.1, hm.2, by simp⟩
  have hos : ∀ x n h, x ≠ none → (n, h) ∈ op x n h := fun x n h hx => by
    rw [hop]
    cases x with
    | none => exact absurd rfl hx
    | some a => simp
  obtain ⟨old, hold⟩ : ∃ old : List (Nat × Nat), old = [(0, k), (1, k + 1), (2, k + 2), (3, k + 3)] ++ (op x0 4 h0 ++ (op x1 5 h1 ++ (op x2 6 h2 ++ op x3 7 h3))) := ⟨_, rfl⟩
  have hmem : ∀ j i, (j, i) ∈ old → (j = 0 ∧ i = k) ∨ (j = 1 ∧ i = k + 1) ∨ (j = 2 ∧ i = k + 2) ∨ (j = 3 ∧ i = k + 3) ∨ (j = 4 ∧ i = h0 ∧ x0 ≠ none) ∨ (j = 5 ∧ i = h1 ∧ x1 ≠ none) ∨ (j = 6 ∧ i = h2 ∧ x2 ≠ none) ∨ (j = 7 ∧ i = h3 ∧ x3 ≠ none) := fun j i hm => by
    rw [hold] at hm
    simp only [List.mem_append, List.mem_cons, List.not_mem_nil, or_false, Prod.mk.injEq] at hm
    rcases hm with (h | h | h | h) | h | h | h | h
    · exact Or.inl h
    · exact Or.inr (Or.inl h)
    · exact Or.inr (Or.inr (Or.inl h))
    · exact Or.inr (Or.inr (Or.inr (Or.inl h)))
    · exact Or.inr (Or.inr (Or.inr (Or.inr (Or.inl (hom _ _ _ _ _ h)))))
    · exact Or.inr (Or.inr (Or.inr (Or.inr (Or.inr (Or.inl (hom _ _ _ _ _ h))))))
    · exact Or.inr (Or.inr (Or.inr (Or.inr (Or.inr (Or.inr (Or.inl (hom _ _ _ _ _ h)))))))
    · exact Or.inr (Or.inr (Or.inr (Or.inr (Or.inr (Or.inr (Or.inr (hom _ _ _ _ _ h)))))))
  have hnd : (old.map (·.1)).Nodup := by
    rw [hold, hop]
    cases x0 <;> cases x1 <;> cases x2 <;> cases x3 <;> simp
  have hlk : ∀ j i, (j, i) ∈ old → Ev.look old j = i := fun j i hm => look_spec hnd hm
  have m0 : (0, k) ∈ old := by rw [hold]; simp
  have m1 : (1, k + 1) ∈ old := by rw [hold]; simp
  have m2 : (2, k + 2) ∈ old := by rw [hold]; simp
  have m3 : (3, k + 3) ∈ old := by rw [hold]; simp
  have n0 : x0 ≠ none → (4, h0) ∈ old := fun hx => by rw [hold]; simp [hos _ _ _ hx]
  have n1 : x1 ≠ none → (5, h1) ∈ old := fun hx => by rw [hold]; simp [hos _ _ _ hx]
  have n2 : x2 ≠ none → (6, h2) ∈ old := fun hx => by rw [hold]; simp [hos _ _ _ hx]
  have n3 : x3 ≠ none → (7, h3) ∈ old := fun hx => by rw [hold]; simp [hos _ _ _ hx]
  -- a slice told anew
  have hval : ∀ (r : Rw) (x w : Option Addr) (j n i h : Nat), w = x.map (fun a => (⟨n, 0, a.spot⟩ : Addr)) → hat x h → (j, i) ∈ old → (x ≠ none → (n, h) ∈ old) → rn0 (Ev.look old) (r.w w j) = r.w x i := fun r x w j n i h hw hx hj hn => by
    rw [hrn, hlk j i hj]
    unfold Rw.w
    cases r.z
    · rcases hx with rfl | ⟨sp, rfl⟩
      · rw [hw]; rfl
      · rw [hw]
        have := hlk n h (hn (by simp))
        simp only [Option.map_some, rn0, rnA, cond_false, this]
    · rfl
  have hnames : ∀ (r : Rw) (x w : Option Addr) (j n i h : Nat), w = x.map (fun a => (⟨n, 0, a.spot⟩ : Addr)) → (j, i) ∈ old → (x ≠ none → (n, h) ∈ old) → ∀ m ∈ nm0 (r.w w j), ∃ k', (m, k') ∈ old := fun r x w j n i h hw hj hn m hm => by
    unfold Rw.w at hm
    cases hz : r.z <;> rw [hz] at hm
    · cases x with
      | none => rw [hw] at hm; simp [nm0] at hm
      | some a => rw [hw] at hm; simp [nm0] at hm; subst hm; exact ⟨h, hn (by simp)⟩
    · simp [nm0] at hm; subst hm; exact ⟨i, hj⟩
  have hargn : ∀ (r : Rw) (x : Option Addr) (i h : Nat), hat x h → (r.z = true → x = none) → x ≠ none → h ∈ nm0 (r.w x i) := fun r x i h hx hz hn => by
    rcases hx with rfl | ⟨sp, rfl⟩
    · exact absurd rfl hn
    · unfold Rw.w
      cases hr : r.z
      · simp [nm0]
      · exact absurd (hz hr) (by simp)
  refine ⟨⟨[.agg ⟨[.int .i64 cl, r0.w w0 0, r1.w w1 1, r2.w w2 2, r3.w w3 3]⟩, .int .i64 dim], roRows [r0.cs, r1.cs, r2.cs, r3.cs], 8, .slice (some ⟨100, 0, none⟩) (nodesI r0.l r1.l r2.l r3.l dim).length mk, assocN [100] [.vec (eWord.row ((nodesI r0.l r1.l r2.l r3.l dim).map packN)) 83 1], old, [(100, nm)],
    nodesH_spec cl dim hd r0 r1 r2 r3 w0 w1 w2 w3 (hh _ _ _ g0) (hh _ _ _ g1) (hh _ _ _ g2) (hh _ _ _ g3) (c _ _ i0) (c _ _ i1) (c _ _ i2) (c _ _ i3), ?_, by simp, fun j i hm => ?_, fun j i hm => ?_, fun j b hb => ?_, fun m i hm => ?_, fun j hj => ?_, fun u hu j hj => ?_, ?_, ?_, ?_⟩⟩
  · rw [List.map_append, List.nodup_append]
    refine ⟨hnd, by simp, fun a ha b hb => ?_⟩
    simp at hb
    subst hb
    obtain ⟨⟨j, i⟩, hm, rfl⟩ := List.mem_map.1 ha
    have := hmem j i hm
    simp only
    omega
  · refine ⟨by have := hmem j i hm; omega, fun b0 hb0 => ?_⟩
    rcases hrows j b0 hb0 with ⟨rfl, rfl⟩ | ⟨rfl, rfl⟩ | ⟨rfl, rfl⟩ | ⟨rfl, rfl⟩
    · obtain rfl : i = k := by have := hmem _ _ hm; omega
      obtain ⟨b, hb1, hb2⟩ := i0.2.2
      exact ⟨b, r0.cs, hb1, by rw [hb2, hrow _ _ i0], rfl, fun c hc m hm => (hnone _ _ i0 c hc m hm).elim⟩
    · obtain rfl : i = k + 1 := by have := hmem _ _ hm; omega
      obtain ⟨b, hb1, hb2⟩ := i1.2.2
      exact ⟨b, r1.cs, hb1, by rw [hb2, hrow _ _ i1], rfl, fun c hc m hm => (hnone _ _ i1 c hc m hm).elim⟩
    · obtain rfl : i = k + 2 := by have := hmem _ _ hm; omega
      obtain ⟨b, hb1, hb2⟩ := i2.2.2
      exact ⟨b, r2.cs, hb1, by rw [hb2, hrow _ _ i2], rfl, fun c hc m hm => (hnone _ _ i2 c hc m hm).elim⟩
    · obtain rfl : i = k + 3 := by have := hmem _ _ hm; omega
      obtain ⟨b, hb1, hb2⟩ := i3.2.2
      exact ⟨b, r3.cs, hb1, by rw [hb2, hrow _ _ i3], rfl, fun c hc m hm => (hnone _ _ i3 c hc m hm).elim⟩
  · have hin : ∀ (c : Value) (m : Nat), c ∈ [.int .i64 cl, r0.w x0 k, r1.w x1 (k + 1), r2.w x2 (k + 2), r3.w x3 (k + 3)] → m ∈ nm0 c → ∃ u ∈ [Value.agg ⟨[.int .i64 cl, r0.w x0 k, r1.w x1 (k + 1), r2.w x2 (k + 2), r3.w x3 (k + 3)]⟩, .int .i64 dim], m ∈ nms u := fun c m hc hm => ⟨_, List.mem_cons_self .., mem_nmL (f := nm0) hc hm⟩
    rcases hmem j i hm with ⟨rfl, rfl⟩ | ⟨rfl, rfl⟩ | ⟨rfl, rfl⟩ | ⟨rfl, rfl⟩ | ⟨rfl, rfl, hx⟩ | ⟨rfl, rfl, hx⟩ | ⟨rfl, rfl, hx⟩ | ⟨rfl, rfl, hx⟩
    · obtain ⟨b, hb, _⟩ := i0.2.2; exact Or.inl ⟨b, hb⟩
    · obtain ⟨b, hb, _⟩ := i1.2.2; exact Or.inl ⟨b, hb⟩
    · obtain ⟨b, hb, _⟩ := i2.2.2; exact Or.inl ⟨b, hb⟩
    · obtain ⟨b, hb, _⟩ := i3.2.2; exact Or.inl ⟨b, hb⟩
    · exact Or.inr (Or.inl (hin _ _ (by simp) (hargn r0 x0 k i y0 z0 hx)))
    · exact Or.inr (Or.inl (hin (r1.w x1 (k + 1)) _ (by simp) (hargn r1 x1 (k + 1) i y1 z1 hx)))
    · exact Or.inr (Or.inl (hin (r2.w x2 (k + 2)) _ (by simp) (hargn r2 x2 (k + 2) i y2 z2 hx)))
    · exact Or.inr (Or.inl (hin (r3.w x3 (k + 3)) _ (by simp) (hargn r3 x3 (k + 3) i y3 z3 hx)))
  · rcases hrows j b hb with ⟨rfl, _⟩ | ⟨rfl, _⟩ | ⟨rfl, _⟩ | ⟨rfl, _⟩
    · exact ⟨_, m0⟩
    · exact ⟨_, m1⟩
    · exact ⟨_, m2⟩
    · exact ⟨_, m3⟩
  · simp at hm
    obtain ⟨rfl, he⟩ := hm
    rw [he]
    refine ⟨⟨by omega, by omega⟩, _, rfl, rfl, trivial, fun cs hcs c hc j hj => ?_⟩
    obtain rfl : eWord.row ((nodesI r0.l r1.l r2.l r3.l dim).map packN) = cs := Option.some.inj hcs
    rw [nm0_leafG (Elt.row_pl _ c hc)] at hj
    simp at hj
  · obtain rfl := hvn j hj
    exact ⟨nm, List.mem_append_right _ (by simp)⟩
  · simp only [List.mem_cons, List.not_mem_nil, or_false] at hu
    rcases hu with rfl | rfl
    · obtain ⟨c, hc, hj⟩ := mem_nmL' (f := nm0) (show j ∈ nmL nm0 [.int .i64 cl, r0.w w0 0, r1.w w1 1, r2.w w2 2, r3.w w3 3] from hj)
      simp only [List.mem_cons, List.not_mem_nil, or_false] at hc
      rcases hc with rfl | rfl | rfl | rfl | rfl
      · simp [nm0] at hj
      · exact hnames r0 x0 w0 0 4 k h0 g0 m0 n0 j hj
      · exact hnames r1 x1 w1 1 5 _ h1 g1 m1 n1 j hj
      · exact hnames r2 x2 w2 2 6 _ h2 g2 m2 n2 j hj
      · exact hnames r3 x3 w3 3 7 _ h3 g3 m3 n3 j hj
    · simp [nms, nm1, nm0] at hj
  · show _ = [Value.agg ⟨[.int .i64 cl, rn0 (Ev.look old) (r0.w w0 0), rn0 (Ev.look old) (r1.w w1 1), rn0 (Ev.look old) (r2.w w2 2), rn0 (Ev.look old) (r3.w w3 3)]⟩, .int .i64 dim]
    rw [hval r0 x0 w0 0 4 k h0 g0 y0 m0 n0, hval r1 x1 w1 1 5 _ h1 g1 y1 m1 n1, hval r2 x2 w2 2 6 _ h2 g2 y2 m2 n2, hval r3 x3 w3 3 7 _ h3 g3 y3 m3 n3]
  · have hl : Ev.look (old ++ [(100, nm)]) 100 = nm := look_spec (by
      rw [List.map_append, List.nodup_append]
      refine ⟨hnd, by simp, fun a ha b hb => ?_⟩
      simp at hb
      subst hb
      obtain ⟨⟨j, i⟩, hm, rfl⟩ := List.mem_map.1 ha
      have := hmem j i hm
      simp only
      omega) (List.mem_append_right _ (by simp))
    show _ = Value.slice (some ⟨Ev.look (old ++ [(100, nm)]) 100, 0, none⟩) _ _
    rw [hl]
  · show _ = [(nm, some (Blk.rnB _ (.vec (eWord.row ((nodesI r0.l r1.l r2.l r3.l dim).map packN)) 83 1)))]
    rw [Blk.plain.rnB (b := .vec (eWord.row ((nodesI r0.l r1.l r2.l r3.l dim).map packN)) 83 1) (Elt.row_pl _)]
end Go.Proofs.Ythbaccmhdffjdaa.Tn


set_option linter.unusedVariables false
set_option linter.unusedSimpArgs false
set_option maxRecDepth 100000
namespace Go.Proofs.Ythbaccmhdffjdaa.Fo
open Go Go.RowKit Go.Proofs.Ythbaccmhdffjdaa.Ev Go.Proofs.Ythbaccmhdffjdaa.NodeE Go.Proofs.Ythbaccmhdffjdaa.Within Go.Proofs.Ythbaccmhdffjdaa.PickE Go.Proofs.Ythbaccmhdffjdaa.Tn

/-- A slice that may be nil, under a name. -/
def RwAt (r : Rw) (k : Nat) (ob : Option Blk) (v : Value) : Prop := v = r.v k ∧ r.good ∧ (r.z = true → ∃ b, ob = some b ∧ b.row = some r.cs)
theorem roSum_eq {F : RoF} {xs ar : List Value} {ks : List Nat} {css : List (List Value)} {H : Heap} {nm : Nat} {v : Value} {blks : List Blk} {ob : List Prop} (h1 : canL can1 xs 0 = some (ar, ks)) (h2 : rowsOf H ks = some css) (h3 : F ar css = some (v, blks, ob)) :
    roSum F xs H nm = some ⟨rn (Ev.look (num ks 0 ++ toP (newNs blks 100) nm)) v, usOf (toP (newNs blks 100) nm) (assocN (newNs blks 100) blks), ks, plainR css :: ob⟩ := by
  unfold roSum
  rw [h1]
  simp only [h2, h3]
def PickOK (PV : Value → Int → Int) (v : Value) (i : Int) (k : Nat) (ob : Option Blk) : Prop := ∃ r : Rw, RwAt r k ob v ∧ PV v i = pickI r.l i ∧ 0 ≤ i
def pickD_F (k : Nat) (PV : Value → Int → Int) : List Value → Heap → Nat → Option Res := fun xs H nm => match xs with
  | [v, .int .i64 i] => some ⟨.int .i64 (PV v i), [], [k], [PickOK PV v i k (H k)]⟩
  | _ => none
theorem pickD_sum (k : Nat) (PV : Value → Int → Int) : SumOK Try.prog 44 (pickD_F k PV) := by
  refine sum_imp pick_sum (fun xs H nm r h hob => ?_) (fun xs H nm r h H' hH => ?_)
  · unfold pickD_F at h
    split at h
    · rename_i v i
      simp only [Option.some.injEq] at h
      subst h
      obtain ⟨⟨z, cs, n, c⟩, ⟨rfl, hg, hb⟩, hp, hi⟩ := hob _ (List.mem_cons_self ..)
      cases z
      · refine ⟨⟨.int .i64 (pickI [] i), [], [], [plainR []]⟩, rfl, fun p hp => ?_, ?_, rfl⟩
        · simp only [List.mem_cons, List.not_mem_nil, or_false] at hp
          subst hp; exact fun x hx => by simp at hx
        · show Value.int .i64 _ = _; rw [hp]; rfl
      · obtain ⟨b, hb1, hb2⟩ := hb rfl
        obtain ⟨h1, h2, h3⟩ := hg rfl
        refine ⟨⟨.int .i64 (pickI (intsOf cs 0 n) i), [], [k], [plainR [cs], IntRow .i64 cs 0 n, 0 ≤ i]⟩, ?_, fun p hp => ?_, ?_, rfl⟩
        · simp only [roSum, Rw.v, cond_true, canL, can1, can0, leafG, List.append_nil, rowsOf]
          rw [hb1]
          simp only [hb2]
          rfl
        · simp only [List.mem_cons, List.not_mem_nil, or_false] at hp
          rcases hp with rfl | rfl | rfl
          · exact plain1 h3
          · exact h1
          · exact hi
        · show Value.int .i64 _ = _; rw [hp]; rfl
    · simp at h
  · unfold pickD_F at h ⊢
    split at h
    · rename_i v i
      have := hH k (by simp only [Option.some.injEq] at h; subst h; simp)
      simp only [this]
      exact h
    · simp at h
def NodesOK (WD : List Value → Int → List Int) (KD : List Value → Int → Nat) (cs : List Value) (dim : Int) (vw : List (Option Blk)) : Prop :=
  ∃ (k h0 h1 h2 h3 : Nat) (cl : Int) (r0 r1 r2 r3 : Rw) (x0 x1 x2 x3 : Option Addr), cs = [.int .i64 cl, r0.w x0 (k + 2), r1.w x1 (k + 3), r2.w x2 (k + 4), r3.w x3 (k + 5)] ∧
    hat x0 h0 ∧ hat x1 h1 ∧ hat x2 h2 ∧ hat x3 h3 ∧ (r0.z = true → x0 = none) ∧ (r1.z = true → x1 = none) ∧ (r2.z = true → x2 = none) ∧ (r3.z = true → x3 = none) ∧
    RwIn r0 (vw.getD k none) ∧ RwIn r1 (vw.getD (k + 1) none) ∧ RwIn r2 (vw.getD (k + 2) none) ∧ RwIn r3 (vw.getD (k + 3) none) ∧ k + 3 < 16 ∧
    WD cs dim = (nodesI r0.l r1.l r2.l r3.l dim).map packN ∧ KD cs dim = (nodesI r0.l r1.l r2.l r3.l dim).length ∧ 1 ≤ dim ∧ dim ≤ 1000
def nodesD_F (WD : List Value → Int → List Int) (KD : List Value → Int → Nat) : List Value → Heap → Nat → Option Res := fun xs H nm => match xs with
  | [.agg ⟨cs⟩, .int .i64 dim] => some ⟨.slice (some ⟨nm, 0, none⟩) (KD cs dim) mk, [(nm, some (.vec (eWord.row (WD cs dim)) 83 1))], [2, 3, 4, 5, 6, 7, 8, 9, 10, 11, 12, 13, 14, 15, 16, 17], [NodesOK WD KD cs dim [H 2, H 3, H 4, H 5, H 6, H 7, H 8, H 9, H 10, H 11, H 12, H 13, H 14, H 15, H 16, H 17]]⟩
  | _ => none
theorem vw_get (H : Heap) {k : Nat} (hk : k < 16) : ([H 2, H 3, H 4, H 5, H 6, H 7, H 8, H 9, H 10, H 11, H 12, H 13, H 14, H 15, H 16, H 17] : List (Option Blk)).getD k none = H (k + 2) := by
  match k, hk with
  | 0, _ | 1, _ | 2, _ | 3, _ | 4, _ | 5, _ | 6, _ | 7, _ | 8, _ | 9, _ | 10, _ | 11, _ | 12, _ | 13, _ | 14, _ | 15, _ => rfl
  | k + 16, h => omega
theorem nodesD_sum (WD : List Value → Int → List Int) (KD : List Value → Int → Nat) : SumOK Try.prog 24 (nodesD_F WD KD) := by
  refine gen_sum (en Try.func24 rfl) (fun xs H nm r h hob => ?_) (fun xs H nm r h H' hH => ?_)
  · unfold nodesD_F at h
    split at h
    · rename_i cs dim
      simp only [Option.some.injEq] at h
      subst h
      obtain ⟨k, h0, h1, h2, h3, cl, r0, r1, r2, r3, x0, x1, x2, x3, rfl, y0, y1, y2, y3, z0, z1, z2, z3, i0, i1, i2, i3, hk, hW, hK, hd1, hd2⟩ := hob _ (List.mem_cons_self ..)
      rw [vw_get H (by omega)] at i0 i1 i2 i3
      rw [hK, hW]
      exact nodesH_gs (k := k + 2) cl dim ⟨hd1, hd2⟩ r0 r1 r2 r3 y0 y1 y2 y3 z0 z1 z2 z3 i0 i1 i2 i3 _ _
    · simp at h
  · unfold nodesD_F at h ⊢
    split at h
    · rename_i cs dim
      simp only [Option.some.injEq] at h
      subst h
      have hq := fun k (hk : k ∈ [2, 3, 4, 5, 6, 7, 8, 9, 10, 11, 12, 13, 14, 15, 16, 17]) => hH k hk
      simp only [hq 2 (by simp), hq 3 (by simp), hq 4 (by simp), hq 5 (by simp), hq 6 (by simp), hq 7 (by simp), hq 8 (by simp), hq 9 (by simp), hq 10 (by simp), hq 11 (by simp), hq 12 (by simp), hq 13 (by simp), hq 14 (by simp), hq 15 (by simp), hq 16 (by simp), hq 17 (by simp)]
    · simp at h

noncomputable def t_fo (PV : Value → Int → Int) (WD : List Value → Int → List Int) (KD : List Value → Int → Nat) : Sums := upd (upd t_bring 44 (some (pickD_F 1 PV))) 24 (some (nodesD_F WD KD))
theorem t_fo_ok (PV : Value → Int → Int) (WD : List Value → Int → List Int) (KD : List Value → Int → Nat) : SumsOK Try.prog (t_fo PV WD KD) := sums_cons (sums_cons t_bring_ok (pickD_sum 1 PV)) (nodesD_sum WD KD)
/-- What a model is made of, and what comes of it. -/
structure FP where
  cs0 : List Value
  R : Nat → List Value
  d : Int
  cl : Int
  z : Nat → Option Addr
  m : Nat → Nat
  c : Nat → Nat
  n : Nat
  ct : Nat
  dim : Int
  cls : Int
  b0 : Int
  b1 : Int
  b2 : Int
  tc : Nat → Int
  C : Nat → Int
  W : Nat → List Int
  l : Nat → Nat
def FP.ts (p : FP) (i : Nat) : List Value := [.int .i64 (p.tc i), .slice (p.z (2 + 4 * i)) (p.m (2 + 4 * i)) (p.c (2 + 4 * i)), .slice (p.z (3 + 4 * i)) (p.m (3 + 4 * i)) (p.c (3 + 4 * i)), .slice (p.z (4 + 4 * i)) (p.m (4 + 4 * i)) (p.c (4 + 4 * i)), .slice (p.z (5 + 4 * i)) (p.m (5 + 4 * i)) (p.c (5 + 4 * i))]
/-- The cells of a row of trees, whose nodes lie under names from q on. -/
def FP.tcs (p : FP) (q : Nat) : Nat → List Value
  | 0 => []
  | b + 1 => p.tcs q b ++ [.int .i64 (p.C b), .slice (some ⟨q + b, 0, none⟩) (p.l b) Ev.mk]
def FP.nds (p : FP) : Nat → List Blk
  | 0 => []
  | b + 1 => p.nds b ++ [.vec (eWord.row (p.W b)) 83 1]
def upN (q : Nat) : Nat → List Nat
  | 0 => []
  | b + 1 => upN q b ++ [q + b]
def tsl (q b : Nat) : Value := match b with | 0 => .slice none 0 0 | b + 1 => .slice (some ⟨q, 0, none⟩) (b + 1) mk
def tns (q b : Nat) : List Nat := match b with | 0 => [] | b + 1 => q :: upN (q + 1) (b + 1)
def FP.tbs (p : FP) (q b : Nat) : List Blk := match b with | 0 => [] | b + 1 => .vec (p.tcs (q + 1) (b + 1)) 47 2 :: p.nds (b + 1)
def FP.rows (p : FP) : List Blk := [.ro p.cs0, .ro (p.R 1), .ro (p.R 2), .ro (p.R 3), .ro (p.R 4), .ro (p.R 5), .ro (p.R 6), .ro (p.R 7), .ro (p.R 8), .ro (p.R 9), .ro (p.R 10), .ro (p.R 11), .ro (p.R 12), .ro (p.R 13), .ro (p.R 14), .ro (p.R 15), .ro (p.R 16), .ro (p.R 17)]
def FP.fcs (p : FP) (zt : Option Addr) : List Value := [.int .i64 p.d, .int .i64 p.cl, .slice (p.z 1) (p.m 1) (p.c 1), .slice zt p.n p.ct]
def FP.mcs (p : FP) (q b : Nat) : List Value := [.int .i64 p.dim, .int .i64 p.cls, .int .i64 p.b0, .int .i64 p.b1, .int .i64 p.b2, tsl q b]
def mz : List Value := [.int .i64 0, .int .i64 0, .int .i64 0, .int .i64 0, .int .i64 0, .slice none 0 0]
def fm (p : FP) (zt : Option Addr) (Q : Nat → Prop) : LoopF Unit where
  ts _ := [1, 2, 3, 5]
  hs b := [0, 1, 2, 3, 4, 5, 6, 7, 8, 9, 10, 11, 12, 13, 14, 15, 16, 17, 70, 71, 72] ++ tns 73 b
  tv b _ := [ptr 70, ptr 72, ptr 71, .int .i64 ((b : Nat) : Int)]
  hv b _ := p.rows ++ ([.cells (p.fcs zt) 61, .cells (p.mcs 73 b) 51, .cells mz 51] ++ p.tbs 73 b)
  inv b _ := Q b
  mu b _ := 4 - b
  nx := 80
def FP.ret (p : FP) (b : Nat) : Value := .agg ⟨p.mcs 100 b⟩
end Go.Proofs.Ythbaccmhdffjdaa.Fo


set_option linter.unusedVariables false
set_option linter.unusedSimpArgs false
set_option maxRecDepth 100000
namespace Go.Proofs.Ythbaccmhdffjdaa.Fo
open Go Go.RowKit Go.Proofs.Ythbaccmhdffjdaa.Ev Go.Proofs.Ythbaccmhdffjdaa.NodeE Go.Proofs.Ythbaccmhdffjdaa.Within Go.Proofs.Ythbaccmhdffjdaa.PickE Go.Proofs.Ythbaccmhdffjdaa.Tn Go.Proofs.Ythbaccmhdffjdaa.Fo

theorem nds_plain (p : FP) : ∀ b, ∀ x ∈ p.nds b, x.plain
  | 0, x, h => by simp [FP.nds] at h
  | b + 1, x, h => by
    simp only [FP.nds, List.mem_append, List.mem_cons, List.not_mem_nil, or_false] at h
    rcases h with h | rfl
    · exact nds_plain p b x h
    · exact Elt.row_pl _
theorem tcs_names (p : FP) (q : Nat) : ∀ b, ∀ c ∈ p.tcs q b, ∀ k ∈ nm0 c, q ≤ k ∧ k < q + b
  | 0, c, h, k, hk => by simp [FP.tcs] at h
  | b + 1, c, h, k, hk => by
    simp only [FP.tcs, List.mem_append, List.mem_cons, List.not_mem_nil, or_false] at h
    rcases h with h | rfl | rfl
    · have := tcs_names p q b c h k hk; omega
    · simp [nm0] at hk
    · simp [nm0] at hk; omega
theorem tbs_lt (p : FP) (q b : Nat) {nx : Nat} (h : q + b < nx) : ∀ x ∈ p.tbs q b, x.namesLt nx := by
  intro x hx
  cases b with
  | zero => simp [FP.tbs] at hx
  | succ b =>
    simp only [FP.tbs, List.mem_cons] at hx
    rcases hx with rfl | hx
    · exact fun c hc k hk => by have := tcs_names p (q + 1) (b + 1) c hc k hk; omega
    · exact (nds_plain p _ x hx).namesLt _
theorem nds_lt (p : FP) (b : Nat) (h : b ≤ 4) : ∀ x ∈ p.tbs 100 b, x.namesLt 105 := tbs_lt p 100 b (by omega)
theorem foIn1 (PV : Value → Int → Int) (WD : List Value → Int → List Int) (KD : List Value → Int → Nat) (p : FP) (zt : Option Addr) (Q : Nat → Prop)  {E : Env} {rv : Value} {rhs : List Nat} {rhv : List Blk} (hE : EnvOK E Try.prog Try.f27 1 64 rv rhs rhv) (hL : (fm p zt Q).OK 64) (hob : all ([SameK (atLp (lp Try.f27 1)) (atLp (lp Try.f27 1)), Enter (fm p zt Q) 0 none [Value.pointer (some (Addr.mk 64 0 none)), Value.pointer (some (Addr.mk 72 0 none)), Value.pointer (some (Addr.mk 136 0 none)), Value.int IntKind.i64 ((0 : Int))] [Blk.ro p.cs0, Blk.ro (p.R 1), Blk.ro (p.R 2), Blk.ro (p.R 3), Blk.ro (p.R 4), Blk.ro (p.R 5), Blk.ro (p.R 6), Blk.ro (p.R 7), Blk.ro (p.R 8), Blk.ro (p.R 9), Blk.ro (p.R 10), Blk.ro (p.R 11), Blk.ro (p.R 12), Blk.ro (p.R 13), Blk.ro (p.R 14), Blk.ro (p.R 15), Blk.ro (p.R 16), Blk.ro (p.R 17), Blk.cells [Value.int IntKind.i64 p.d, Value.int IntKind.i64 p.cl, Value.slice (p.z 1) (p.m 1) (p.c 1), Value.slice zt p.n p.ct] 61, Blk.cells [Value.int IntKind.i64 p.dim, Value.int IntKind.i64 ((1 : Int)), Value.int IntKind.i64 (withinS (PV (Value.slice (p.z 1) (p.m 1) (p.c 1)) 0) ((-500 : Int)) ((500 : Int))), Value.int IntKind.i64 ((0 : Int)), Value.int IntKind.i64 ((0 : Int)), Value.slice none 0 0] 51, Blk.cells [Value.int IntKind.i64 ((0 : Int)), Value.int IntKind.i64 ((0 : Int)), Value.int IntKind.i64 ((0 : Int)), Value.int IntKind.i64 ((0 : Int)), Value.int IntKind.i64 ((0 : Int)), Value.slice none 0 0] 51] [(70, 64), (72, 72), (71, 136)], I64 (PV (Value.slice (p.z 1) (p.m 1) (p.c 1)) 0), (-2305843009213693952 : Int) ≤ (-500 : Int), (-500 : Int) ≤ (500 : Int), (500 : Int) ≤ (2305843009213693952 : Int), PickOK PV (Value.slice (p.z 1) (p.m 1) (p.c 1)) ((0 : Int)) 1 (some (Blk.ro (p.R 1))), Value.int IntKind.i64 (withinS p.cl ((1 : Int)) ((3 : Int))) = Value.int IntKind.i64 ((1 : Int)), I64 p.cl, (-2305843009213693952 : Int) ≤ (1 : Int), (1 : Int) ≤ (3 : Int), (3 : Int) ≤ (2305843009213693952 : Int), Value.int IntKind.i64 (withinS p.d ((1 : Int)) ((3 : Int))) = Value.int IntKind.i64 p.dim, I64 p.d, (-2305843009213693952 : Int) ≤ (1 : Int), (1 : Int) ≤ (3 : Int), (3 : Int) ≤ (2305843009213693952 : Int)])) (hK : ∀ zz, (fm p zt Q).inv 0 zz → ltO ((fm p zt Q).mu 0 zz) none → Sat E (atLp (lp Try.f27 1)) ((fm p zt Q).st 0 zz)) : Sat E [.code (bodyOf Try.f27)] (st0 Try.f27 [.agg ⟨p.fcs zt⟩] (roRows [p.cs0, p.R 1, p.R 2, p.R 3, p.R 4, p.R 5, p.R 6, p.R 7, p.R 8, p.R 9, p.R 10, p.R 11, p.R 12, p.R 13, p.R 14, p.R 15, p.R 16, p.R 17]) 64) :=
  by_to (T := auto0 (t_fo PV WD KD)) (h := hints [(1, 2, {v := some (.int .i64 p.dim)}), (1, 5, {v := some (.int .i64 1)})]) (ws := [.go, .go, .go, .stop]) (i0 := ()) hE hm (auto0_ok (t_fo_ok PV WD KD)) hL (by kernel_rfl) hob hK
theorem foIn2 (PV : Value → Int → Int) (WD : List Value → Int → List Int) (KD : List Value → Int → Nat) (p : FP) (zt : Option Addr) (Q : Nat → Prop)  {E : Env} {rv : Value} {rhs : List Nat} {rhv : List Blk} (hE : EnvOK E Try.prog Try.f27 1 64 rv rhs rhv) (hL : (fm p zt Q).OK 64) (hob : all ([SameK (atLp (lp Try.f27 1)) (atLp (lp Try.f27 1)), Enter (fm p zt Q) 0 none [Value.pointer (some (Addr.mk 64 0 none)), Value.pointer (some (Addr.mk 72 0 none)), Value.pointer (some (Addr.mk 136 0 none)), Value.int IntKind.i64 ((0 : Int))] [Blk.ro p.cs0, Blk.ro (p.R 1), Blk.ro (p.R 2), Blk.ro (p.R 3), Blk.ro (p.R 4), Blk.ro (p.R 5), Blk.ro (p.R 6), Blk.ro (p.R 7), Blk.ro (p.R 8), Blk.ro (p.R 9), Blk.ro (p.R 10), Blk.ro (p.R 11), Blk.ro (p.R 12), Blk.ro (p.R 13), Blk.ro (p.R 14), Blk.ro (p.R 15), Blk.ro (p.R 16), Blk.ro (p.R 17), Blk.cells [Value.int IntKind.i64 p.d, Value.int IntKind.i64 p.cl, Value.slice (p.z 1) (p.m 1) (p.c 1), Value.slice zt p.n p.ct] 61, Blk.cells [Value.int IntKind.i64 p.dim, Value.int IntKind.i64 ((2 : Int)), Value.int IntKind.i64 (withinS (PV (Value.slice (p.z 1) (p.m 1) (p.c 1)) 0) ((-500 : Int)) ((500 : Int))), Value.int IntKind.i64 (withinS (PV (Value.slice (p.z 1) (p.m 1) (p.c 1)) (IntKind.i64.wrap (0 + 1))) ((-500 : Int)) ((500 : Int))), Value.int IntKind.i64 ((0 : Int)), Value.slice none 0 0] 51, Blk.cells [Value.int IntKind.i64 ((0 : Int)), Value.int IntKind.i64 ((0 : Int)), Value.int IntKind.i64 ((0 : Int)), Value.int IntKind.i64 ((0 : Int)), Value.int IntKind.i64 ((0 : Int)), Value.slice none 0 0] 51] [(70, 64), (72, 72), (71, 136)], I64 (PV (Value.slice (p.z 1) (p.m 1) (p.c 1)) (IntKind.i64.wrap (0 + 1))), (-2305843009213693952 : Int) ≤ (-500 : Int), (-500 : Int) ≤ (500 : Int), (500 : Int) ≤ (2305843009213693952 : Int), PickOK PV (Value.slice (p.z 1) (p.m 1) (p.c 1)) ((1 : Int)) 1 (some (Blk.ro (p.R 1))), I64 (PV (Value.slice (p.z 1) (p.m 1) (p.c 1)) 0), (-2305843009213693952 : Int) ≤ (-500 : Int), (-500 : Int) ≤ (500 : Int), (500 : Int) ≤ (2305843009213693952 : Int), PickOK PV (Value.slice (p.z 1) (p.m 1) (p.c 1)) ((0 : Int)) 1 (some (Blk.ro (p.R 1))), Value.int IntKind.i64 (withinS p.cl ((1 : Int)) ((3 : Int))) = Value.int IntKind.i64 ((2 : Int)), I64 p.cl, (-2305843009213693952 : Int) ≤ (1 : Int), (1 : Int) ≤ (3 : Int), (3 : Int) ≤ (2305843009213693952 : Int), Value.int IntKind.i64 (withinS p.d ((1 : Int)) ((3 : Int))) = Value.int IntKind.i64 p.dim, I64 p.d, (-2305843009213693952 : Int) ≤ (1 : Int), (1 : Int) ≤ (3 : Int), (3 : Int) ≤ (2305843009213693952 : Int)])) (hK : ∀ zz, (fm p zt Q).inv 0 zz → ltO ((fm p zt Q).mu 0 zz) none → Sat E (atLp (lp Try.f27 1)) ((fm p zt Q).st 0 zz)) : Sat E [.code (bodyOf Try.f27)] (st0 Try.f27 [.agg ⟨p.fcs zt⟩] (roRows [p.cs0, p.R 1, p.R 2, p.R 3, p.R 4, p.R 5, p.R 6, p.R 7, p.R 8, p.R 9, p.R 10, p.R 11, p.R 12, p.R 13, p.R 14, p.R 15, p.R 16, p.R 17]) 64) :=
  by_to (T := auto0 (t_fo PV WD KD)) (h := hints [(1, 2, {v := some (.int .i64 p.dim)}), (1, 5, {v := some (.int .i64 2)})]) (ws := [.go, .go, .go, .go, .stop]) (i0 := ()) hE hm (auto0_ok (t_fo_ok PV WD KD)) hL (by kernel_rfl) hob hK
theorem foIn3 (PV : Value → Int → Int) (WD : List Value → Int → List Int) (KD : List Value → Int → Nat) (p : FP) (zt : Option Addr) (Q : Nat → Prop)  {E : Env} {rv : Value} {rhs : List Nat} {rhv : List Blk} (hE : EnvOK E Try.prog Try.f27 1 64 rv rhs rhv) (hL : (fm p zt Q).OK 64) (hob : all ([SameK (atLp (lp Try.f27 1)) (atLp (lp Try.f27 1)), Enter (fm p zt Q) 0 none [Value.pointer (some (Addr.mk 64 0 none)), Value.pointer (some (Addr.mk 72 0 none)), Value.pointer (some (Addr.mk 136 0 none)), Value.int IntKind.i64 ((0 : Int))] [Blk.ro p.cs0, Blk.ro (p.R 1), Blk.ro (p.R 2), Blk.ro (p.R 3), Blk.ro (p.R 4), Blk.ro (p.R 5), Blk.ro (p.R 6), Blk.ro (p.R 7), Blk.ro (p.R 8), Blk.ro (p.R 9), Blk.ro (p.R 10), Blk.ro (p.R 11), Blk.ro (p.R 12), Blk.ro (p.R 13), Blk.ro (p.R 14), Blk.ro (p.R 15), Blk.ro (p.R 16), Blk.ro (p.R 17), Blk.cells [Value.int IntKind.i64 p.d, Value.int IntKind.i64 p.cl, Value.slice (p.z 1) (p.m 1) (p.c 1), Value.slice zt p.n p.ct] 61, Blk.cells [Value.int IntKind.i64 p.dim, Value.int IntKind.i64 ((3 : Int)), Value.int IntKind.i64 (withinS (PV (Value.slice (p.z 1) (p.m 1) (p.c 1)) 0) ((-500 : Int)) ((500 : Int))), Value.int IntKind.i64 (withinS (PV (Value.slice (p.z 1) (p.m 1) (p.c 1)) (IntKind.i64.wrap (0 + 1))) ((-500 : Int)) ((500 : Int))), Value.int IntKind.i64 (withinS (PV (Value.slice (p.z 1) (p.m 1) (p.c 1)) (IntKind.i64.wrap (IntKind.i64.wrap (0 + 1) + 1))) ((-500 : Int)) ((500 : Int))), Value.slice none 0 0] 51, Blk.cells [Value.int IntKind.i64 ((0 : Int)), Value.int IntKind.i64 ((0 : Int)), Value.int IntKind.i64 ((0 : Int)), Value.int IntKind.i64 ((0 : Int)), Value.int IntKind.i64 ((0 : Int)), Value.slice none 0 0] 51] [(70, 64), (72, 72), (71, 136)], I64 (PV (Value.slice (p.z 1) (p.m 1) (p.c 1)) (IntKind.i64.wrap (IntKind.i64.wrap (0 + 1) + 1))), (-2305843009213693952 : Int) ≤ (-500 : Int), (-500 : Int) ≤ (500 : Int), (500 : Int) ≤ (2305843009213693952 : Int), PickOK PV (Value.slice (p.z 1) (p.m 1) (p.c 1)) ((2 : Int)) 1 (some (Blk.ro (p.R 1))), I64 (PV (Value.slice (p.z 1) (p.m 1) (p.c 1)) (IntKind.i64.wrap (0 + 1))), (-2305843009213693952 : Int) ≤ (-500 : Int), (-500 : Int) ≤ (500 : Int), (500 : Int) ≤ (2305843009213693952 : Int), PickOK PV (Value.slice (p.z 1) (p.m 1) (p.c 1)) ((1 : Int)) 1 (some (Blk.ro (p.R 1))), I64 (PV (Value.slice (p.z 1) (p.m 1) (p.c 1)) 0), (-2305843009213693952 : Int) ≤ (-500 : Int), (-500 : Int) ≤ (500 : Int), (500 : Int) ≤ (2305843009213693952 : Int), PickOK PV (Value.slice (p.z 1) (p.m 1) (p.c 1)) ((0 : Int)) 1 (some (Blk.ro (p.R 1))), Value.int IntKind.i64 (withinS p.cl ((1 : Int)) ((3 : Int))) = Value.int IntKind.i64 ((3 : Int)), I64 p.cl, (-2305843009213693952 : Int) ≤ (1 : Int), (1 : Int) ≤ (3 : Int), (3 : Int) ≤ (2305843009213693952 : Int), Value.int IntKind.i64 (withinS p.d ((1 : Int)) ((3 : Int))) = Value.int IntKind.i64 p.dim, I64 p.d, (-2305843009213693952 : Int) ≤ (1 : Int), (1 : Int) ≤ (3 : Int), (3 : Int) ≤ (2305843009213693952 : Int)])) (hK : ∀ zz, (fm p zt Q).inv 0 zz → ltO ((fm p zt Q).mu 0 zz) none → Sat E (atLp (lp Try.f27 1)) ((fm p zt Q).st 0 zz)) : Sat E [.code (bodyOf Try.f27)] (st0 Try.f27 [.agg ⟨p.fcs zt⟩] (roRows [p.cs0, p.R 1, p.R 2, p.R 3, p.R 4, p.R 5, p.R 6, p.R 7, p.R 8, p.R 9, p.R 10, p.R 11, p.R 12, p.R 13, p.R 14, p.R 15, p.R 16, p.R 17]) 64) :=
  by_to (T := auto0 (t_fo PV WD KD)) (h := hints [(1, 2, {v := some (.int .i64 p.dim)}), (1, 5, {v := some (.int .i64 3)})]) (ws := [.go, .go, .go, .go, .go, .stop]) (i0 := ()) hE hm (auto0_ok (t_fo_ok PV WD KD)) hL (by kernel_rfl) hob hK
theorem foB0 (PV : Value → Int → Int) (WD : List Value → Int → List Int) (KD : List Value → Int → Nat) (p : FP) (Q : Nat → Prop) (c1 : Int) (J : Act → World → Prop) {E : Env} {rv : Value} {rhs : List Nat} {rhv : List Blk} (hE : EnvOK E Try.prog Try.f27 1 64 rv rhs rhv) (hL : (fm p (some ⟨0, 0, none⟩) Q).OK 64) (hob : all ([SameK (mkLp (lp Try.f27 1) J) (mkLp (lp Try.f27 1) J), Enter (fm p (some (Addr.mk 0 0 none)) Q) 1 (some 4) [Value.pointer (some (Addr.mk 70 0 none)), Value.pointer (some (Addr.mk 72 0 none)), Value.pointer (some (Addr.mk 71 0 none)), Value.int IntKind.i64 ((1 : Int))] [Blk.ro p.cs0, Blk.ro (p.R 1), Blk.ro (p.R 2), Blk.ro (p.R 3), Blk.ro (p.R 4), Blk.ro (p.R 5), Blk.ro (p.R 6), Blk.ro (p.R 7), Blk.ro (p.R 8), Blk.ro (p.R 9), Blk.ro (p.R 10), Blk.ro (p.R 11), Blk.ro (p.R 12), Blk.ro (p.R 13), Blk.ro (p.R 14), Blk.ro (p.R 15), Blk.ro (p.R 16), Blk.ro (p.R 17), Blk.cells [Value.int IntKind.i64 p.d, Value.int IntKind.i64 p.cl, Value.slice (p.z 1) (p.m 1) (p.c 1), Value.slice (some (Addr.mk 0 0 none)) p.n p.ct] 61, Blk.cells [Value.int IntKind.i64 p.dim, Value.int IntKind.i64 p.cls, Value.int IntKind.i64 p.b0, Value.int IntKind.i64 p.b1, Value.int IntKind.i64 p.b2, Value.slice (some (Addr.mk 328 0 none)) 1 1267650600228229401496703205376] 51, Blk.cells [Value.int IntKind.i64 ((0 : Int)), Value.int IntKind.i64 ((0 : Int)), Value.int IntKind.i64 ((0 : Int)), Value.int IntKind.i64 ((0 : Int)), Value.int IntKind.i64 ((0 : Int)), Value.slice none 0 0] 51, Blk.vec [Value.int IntKind.i64 (p.C 0), Value.slice (some (Addr.mk 304 0 none)) (KD (p.ts 0) p.dim) 1267650600228229401496703205376] 47 2, Blk.vec (eWord.row (WD (p.ts 0) p.dim)) 83 1] [(73, 328), (74, 304)], NodesOK WD KD [Value.int IntKind.i64 (p.tc 0), Value.slice (p.z 2) (p.m 2) (p.c 2), Value.slice (p.z 3) (p.m 3) (p.c 3), Value.slice (p.z 4) (p.m 4) (p.c 4), Value.slice (p.z 5) (p.m 5) (p.c 5)] p.dim [some (Blk.ro (p.R 2)), some (Blk.ro (p.R 3)), some (Blk.ro (p.R 4)), some (Blk.ro (p.R 5)), some (Blk.ro (p.R 6)), some (Blk.ro (p.R 7)), some (Blk.ro (p.R 8)), some (Blk.ro (p.R 9)), some (Blk.ro (p.R 10)), some (Blk.ro (p.R 11)), some (Blk.ro (p.R 12)), some (Blk.ro (p.R 13)), some (Blk.ro (p.R 14)), some (Blk.ro (p.R 15)), some (Blk.ro (p.R 16)), some (Blk.ro (p.R 17))], readPart Try.prog 55 p.cs0 0 = some (Value.agg (Array.mk [Value.int IntKind.i64 (p.tc 0), Value.slice (p.z 2) (p.m 2) (p.c 2), Value.slice (p.z 3) (p.m 3) (p.c 3), Value.slice (p.z 4) (p.m 4) (p.c 4), Value.slice (p.z 5) (p.m 5) (p.c 5)])), (0 : Int) ≤ (0 : Int) ∧ (0 : Int) < Int.ofNat p.n, Value.int IntKind.i64 (withinS (p.tc 0) ((0 : Int)) c1) = Value.int IntKind.i64 (p.C 0), I64 (p.tc 0), (-2305843009213693952 : Int) ≤ (0 : Int), (0 : Int) ≤ c1, c1 ≤ (2305843009213693952 : Int), Value.int IntKind.i64 (IntKind.i64.wrap (p.cls - (1 : Int))) = Value.int IntKind.i64 c1, readPart Try.prog 3 p.cs0 0 = some (Value.int IntKind.i64 (p.tc 0)), (0 : Int) ≤ (0 : Int) ∧ (0 : Int) < Int.ofNat p.n, Value.bool (decide ((↑0 : Int) < (↑p.n : Int))) = Value.bool true])) (hK : ∀ zz, (fm p (some ⟨0, 0, none⟩) Q).inv 1 zz → ltO ((fm p (some ⟨0, 0, none⟩) Q).mu 1 zz) (some (4 - 0)) → Sat E (mkLp (lp Try.f27 1) J) ((fm p (some ⟨0, 0, none⟩) Q).st 1 zz)) : Sat E (inLp (lp Try.f27 1) J) ((fm p (some ⟨0, 0, none⟩) Q).st 0 ()) :=
  by_toR (r := [(73, 328), (74, 304)]) (T := auto0 (t_fo PV WD KD)) (h := hints [(8, 4, ht true), (10, 5, {p := true}), (10, 7, {o := some (.int .i64 (p.tc 0))}), (10, 10, {v := some (.int .i64 c1)}), (10, 11, {v := some (.int .i64 (p.C 0))}), (10, 15, {p := true}), (10, 16, {o := some (.agg ⟨p.ts 0⟩)})]) (ws := [.go]) (i0 := ()) hE hm (auto0_ok (t_fo_ok PV WD KD)) hL (by kernel_rfl) hob hK
theorem foB1 (PV : Value → Int → Int) (WD : List Value → Int → List Int) (KD : List Value → Int → Nat) (p : FP) (Q : Nat → Prop) (c1 : Int) (J : Act → World → Prop) {E : Env} {rv : Value} {rhs : List Nat} {rhv : List Blk} (hE : EnvOK E Try.prog Try.f27 1 64 rv rhs rhv) (hL : (fm p (some ⟨0, 0, none⟩) Q).OK 64) (hob : all ([SameK (mkLp (lp Try.f27 1) J) (mkLp (lp Try.f27 1) J), Enter (fm p (some (Addr.mk 0 0 none)) Q) 2 (some 3) [Value.pointer (some (Addr.mk 70 0 none)), Value.pointer (some (Addr.mk 72 0 none)), Value.pointer (some (Addr.mk 71 0 none)), Value.int IntKind.i64 ((2 : Int))] [Blk.ro p.cs0, Blk.ro (p.R 1), Blk.ro (p.R 2), Blk.ro (p.R 3), Blk.ro (p.R 4), Blk.ro (p.R 5), Blk.ro (p.R 6), Blk.ro (p.R 7), Blk.ro (p.R 8), Blk.ro (p.R 9), Blk.ro (p.R 10), Blk.ro (p.R 11), Blk.ro (p.R 12), Blk.ro (p.R 13), Blk.ro (p.R 14), Blk.ro (p.R 15), Blk.ro (p.R 16), Blk.ro (p.R 17), Blk.cells [Value.int IntKind.i64 p.d, Value.int IntKind.i64 p.cl, Value.slice (p.z 1) (p.m 1) (p.c 1), Value.slice (some (Addr.mk 0 0 none)) p.n p.ct] 61, Blk.cells [Value.int IntKind.i64 p.dim, Value.int IntKind.i64 p.cls, Value.int IntKind.i64 p.b0, Value.int IntKind.i64 p.b1, Value.int IntKind.i64 p.b2, Value.slice (some (Addr.mk 328 0 none)) 2 1267650600228229401496703205376] 51, Blk.cells [Value.int IntKind.i64 ((0 : Int)), Value.int IntKind.i64 ((0 : Int)), Value.int IntKind.i64 ((0 : Int)), Value.int IntKind.i64 ((0 : Int)), Value.int IntKind.i64 ((0 : Int)), Value.slice none 0 0] 51, Blk.vec [Value.int IntKind.i64 (p.C 0), Value.slice (some (Addr.mk 74 0 none)) (p.l 0) 1267650600228229401496703205376, Value.int IntKind.i64 (p.C 1), Value.slice (some (Addr.mk 304 0 none)) (KD (p.ts 1) p.dim) 1267650600228229401496703205376] 47 2, Blk.vec (eWord.row (p.W 0)) 83 1, Blk.vec (eWord.row (WD (p.ts 1) p.dim)) 83 1] [(73, 328), (75, 304)], NodesOK WD KD [Value.int IntKind.i64 (p.tc 1), Value.slice (p.z 6) (p.m 6) (p.c 6), Value.slice (p.z 7) (p.m 7) (p.c 7), Value.slice (p.z 8) (p.m 8) (p.c 8), Value.slice (p.z 9) (p.m 9) (p.c 9)] p.dim [some (Blk.ro (p.R 2)), some (Blk.ro (p.R 3)), some (Blk.ro (p.R 4)), some (Blk.ro (p.R 5)), some (Blk.ro (p.R 6)), some (Blk.ro (p.R 7)), some (Blk.ro (p.R 8)), some (Blk.ro (p.R 9)), some (Blk.ro (p.R 10)), some (Blk.ro (p.R 11)), some (Blk.ro (p.R 12)), some (Blk.ro (p.R 13)), some (Blk.ro (p.R 14)), some (Blk.ro (p.R 15)), some (Blk.ro (p.R 16)), some (Blk.ro (p.R 17))], readPart Try.prog 55 p.cs0 5 = some (Value.agg (Array.mk [Value.int IntKind.i64 (p.tc 1), Value.slice (p.z 6) (p.m 6) (p.c 6), Value.slice (p.z 7) (p.m 7) (p.c 7), Value.slice (p.z 8) (p.m 8) (p.c 8), Value.slice (p.z 9) (p.m 9) (p.c 9)])), (0 : Int) ≤ (1 : Int) ∧ (1 : Int) < Int.ofNat p.n, Value.int IntKind.i64 (withinS (p.tc 1) ((0 : Int)) c1) = Value.int IntKind.i64 (p.C 1), I64 (p.tc 1), (-2305843009213693952 : Int) ≤ (0 : Int), (0 : Int) ≤ c1, c1 ≤ (2305843009213693952 : Int), Value.int IntKind.i64 (IntKind.i64.wrap (p.cls - (1 : Int))) = Value.int IntKind.i64 c1, readPart Try.prog 3 p.cs0 5 = some (Value.int IntKind.i64 (p.tc 1)), (0 : Int) ≤ (1 : Int) ∧ (1 : Int) < Int.ofNat p.n, Value.bool (decide ((↑1 : Int) < (↑p.n : Int))) = Value.bool true])) (hK : ∀ zz, (fm p (some ⟨0, 0, none⟩) Q).inv 2 zz → ltO ((fm p (some ⟨0, 0, none⟩) Q).mu 2 zz) (some (4 - 1)) → Sat E (mkLp (lp Try.f27 1) J) ((fm p (some ⟨0, 0, none⟩) Q).st 2 zz)) : Sat E (inLp (lp Try.f27 1) J) ((fm p (some ⟨0, 0, none⟩) Q).st 1 ()) :=
  by_toR (r := [(73, 328), (75, 304)]) (T := auto0 (t_fo PV WD KD)) (h := hints [(8, 4, ht true), (10, 5, {p := true}), (10, 7, {o := some (.int .i64 (p.tc 1))}), (10, 10, {v := some (.int .i64 c1)}), (10, 11, {v := some (.int .i64 (p.C 1))}), (10, 15, {p := true}), (10, 16, {o := some (.agg ⟨p.ts 1⟩)})]) (ws := [.go]) (i0 := ()) hE hm (auto0_ok (t_fo_ok PV WD KD)) hL (by kernel_rfl) hob hK
theorem foB2 (PV : Value → Int → Int) (WD : List Value → Int → List Int) (KD : List Value → Int → Nat) (p : FP) (Q : Nat → Prop) (c1 : Int) (J : Act → World → Prop) {E : Env} {rv : Value} {rhs : List Nat} {rhv : List Blk} (hE : EnvOK E Try.prog Try.f27 1 64 rv rhs rhv) (hL : (fm p (some ⟨0, 0, none⟩) Q).OK 64) (hob : all ([SameK (mkLp (lp Try.f27 1) J) (mkLp (lp Try.f27 1) J), Enter (fm p (some (Addr.mk 0 0 none)) Q) 3 (some 2) [Value.pointer (some (Addr.mk 70 0 none)), Value.pointer (some (Addr.mk 72 0 none)), Value.pointer (some (Addr.mk 71 0 none)), Value.int IntKind.i64 ((3 : Int))] [Blk.ro p.cs0, Blk.ro (p.R 1), Blk.ro (p.R 2), Blk.ro (p.R 3), Blk.ro (p.R 4), Blk.ro (p.R 5), Blk.ro (p.R 6), Blk.ro (p.R 7), Blk.ro (p.R 8), Blk.ro (p.R 9), Blk.ro (p.R 10), Blk.ro (p.R 11), Blk.ro (p.R 12), Blk.ro (p.R 13), Blk.ro (p.R 14), Blk.ro (p.R 15), Blk.ro (p.R 16), Blk.ro (p.R 17), Blk.cells [Value.int IntKind.i64 p.d, Value.int IntKind.i64 p.cl, Value.slice (p.z 1) (p.m 1) (p.c 1), Value.slice (some (Addr.mk 0 0 none)) p.n p.ct] 61, Blk.cells [Value.int IntKind.i64 p.dim, Value.int IntKind.i64 p.cls, Value.int IntKind.i64 p.b0, Value.int IntKind.i64 p.b1, Value.int IntKind.i64 p.b2, Value.slice (some (Addr.mk 328 0 none)) 3 1267650600228229401496703205376] 51, Blk.cells [Value.int IntKind.i64 ((0 : Int)), Value.int IntKind.i64 ((0 : Int)), Value.int IntKind.i64 ((0 : Int)), Value.int IntKind.i64 ((0 : Int)), Value.int IntKind.i64 ((0 : Int)), Value.slice none 0 0] 51, Blk.vec [Value.int IntKind.i64 (p.C 0), Value.slice (some (Addr.mk 74 0 none)) (p.l 0) 1267650600228229401496703205376, Value.int IntKind.i64 (p.C 1), Value.slice (some (Addr.mk 75 0 none)) (p.l 1) 1267650600228229401496703205376, Value.int IntKind.i64 (p.C 2), Value.slice (some (Addr.mk 304 0 none)) (KD (p.ts 2) p.dim) 1267650600228229401496703205376] 47 2, Blk.vec (eWord.row (p.W 0)) 83 1, Blk.vec (eWord.row (p.W 1)) 83 1, Blk.vec (eWord.row (WD (p.ts 2) p.dim)) 83 1] [(73, 328), (76, 304)], NodesOK WD KD [Value.int IntKind.i64 (p.tc 2), Value.slice (p.z 10) (p.m 10) (p.c 10), Value.slice (p.z 11) (p.m 11) (p.c 11), Value.slice (p.z 12) (p.m 12) (p.c 12), Value.slice (p.z 13) (p.m 13) (p.c 13)] p.dim [some (Blk.ro (p.R 2)), some (Blk.ro (p.R 3)), some (Blk.ro (p.R 4)), some (Blk.ro (p.R 5)), some (Blk.ro (p.R 6)), some (Blk.ro (p.R 7)), some (Blk.ro (p.R 8)), some (Blk.ro (p.R 9)), some (Blk.ro (p.R 10)), some (Blk.ro (p.R 11)), some (Blk.ro (p.R 12)), some (Blk.ro (p.R 13)), some (Blk.ro (p.R 14)), some (Blk.ro (p.R 15)), some (Blk.ro (p.R 16)), some (Blk.ro (p.R 17))], readPart Try.prog 55 p.cs0 10 = some (Value.agg (Array.mk [Value.int IntKind.i64 (p.tc 2), Value.slice (p.z 10) (p.m 10) (p.c 10), Value.slice (p.z 11) (p.m 11) (p.c 11), Value.slice (p.z 12) (p.m 12) (p.c 12), Value.slice (p.z 13) (p.m 13) (p.c 13)])), (0 : Int) ≤ (2 : Int) ∧ (2 : Int) < Int.ofNat p.n, Value.int IntKind.i64 (withinS (p.tc 2) ((0 : Int)) c1) = Value.int IntKind.i64 (p.C 2), I64 (p.tc 2), (-2305843009213693952 : Int) ≤ (0 : Int), (0 : Int) ≤ c1, c1 ≤ (2305843009213693952 : Int), Value.int IntKind.i64 (IntKind.i64.wrap (p.cls - (1 : Int))) = Value.int IntKind.i64 c1, readPart Try.prog 3 p.cs0 10 = some (Value.int IntKind.i64 (p.tc 2)), (0 : Int) ≤ (2 : Int) ∧ (2 : Int) < Int.ofNat p.n, Value.bool (decide ((↑2 : Int) < (↑p.n : Int))) = Value.bool true])) (hK : ∀ zz, (fm p (some ⟨0, 0, none⟩) Q).inv 3 zz → ltO ((fm p (some ⟨0, 0, none⟩) Q).mu 3 zz) (some (4 - 2)) → Sat E (mkLp (lp Try.f27 1) J) ((fm p (some ⟨0, 0, none⟩) Q).st 3 zz)) : Sat E (inLp (lp Try.f27 1) J) ((fm p (some ⟨0, 0, none⟩) Q).st 2 ()) :=
  by_toR (r := [(73, 328), (76, 304)]) (T := auto0 (t_fo PV WD KD)) (h := hints [(8, 4, ht true), (10, 5, {p := true}), (10, 7, {o := some (.int .i64 (p.tc 2))}), (10, 10, {v := some (.int .i64 c1)}), (10, 11, {v := some (.int .i64 (p.C 2))}), (10, 15, {p := true}), (10, 16, {o := some (.agg ⟨p.ts 2⟩)})]) (ws := [.go]) (i0 := ()) hE hm (auto0_ok (t_fo_ok PV WD KD)) hL (by kernel_rfl) hob hK
theorem foB3 (PV : Value → Int → Int) (WD : List Value → Int → List Int) (KD : List Value → Int → Nat) (p : FP) (Q : Nat → Prop) (c1 : Int) (J : Act → World → Prop) {E : Env} {rv : Value} {rhs : List Nat} {rhv : List Blk} (hE : EnvOK E Try.prog Try.f27 1 64 rv rhs rhv) (hL : (fm p (some ⟨0, 0, none⟩) Q).OK 64) (hob : all ([SameK (mkLp (lp Try.f27 1) J) (mkLp (lp Try.f27 1) J), Enter (fm p (some (Addr.mk 0 0 none)) Q) 4 (some 1) [Value.pointer (some (Addr.mk 70 0 none)), Value.pointer (some (Addr.mk 72 0 none)), Value.pointer (some (Addr.mk 71 0 none)), Value.int IntKind.i64 ((4 : Int))] [Blk.ro p.cs0, Blk.ro (p.R 1), Blk.ro (p.R 2), Blk.ro (p.R 3), Blk.ro (p.R 4), Blk.ro (p.R 5), Blk.ro (p.R 6), Blk.ro (p.R 7), Blk.ro (p.R 8), Blk.ro (p.R 9), Blk.ro (p.R 10), Blk.ro (p.R 11), Blk.ro (p.R 12), Blk.ro (p.R 13), Blk.ro (p.R 14), Blk.ro (p.R 15), Blk.ro (p.R 16), Blk.ro (p.R 17), Blk.cells [Value.int IntKind.i64 p.d, Value.int IntKind.i64 p.cl, Value.slice (p.z 1) (p.m 1) (p.c 1), Value.slice (some (Addr.mk 0 0 none)) p.n p.ct] 61, Blk.cells [Value.int IntKind.i64 p.dim, Value.int IntKind.i64 p.cls, Value.int IntKind.i64 p.b0, Value.int IntKind.i64 p.b1, Value.int IntKind.i64 p.b2, Value.slice (some (Addr.mk 328 0 none)) 4 1267650600228229401496703205376] 51, Blk.cells [Value.int IntKind.i64 ((0 : Int)), Value.int IntKind.i64 ((0 : Int)), Value.int IntKind.i64 ((0 : Int)), Value.int IntKind.i64 ((0 : Int)), Value.int IntKind.i64 ((0 : Int)), Value.slice none 0 0] 51, Blk.vec [Value.int IntKind.i64 (p.C 0), Value.slice (some (Addr.mk 74 0 none)) (p.l 0) 1267650600228229401496703205376, Value.int IntKind.i64 (p.C 1), Value.slice (some (Addr.mk 75 0 none)) (p.l 1) 1267650600228229401496703205376, Value.int IntKind.i64 (p.C 2), Value.slice (some (Addr.mk 76 0 none)) (p.l 2) 1267650600228229401496703205376, Value.int IntKind.i64 (p.C 3), Value.slice (some (Addr.mk 304 0 none)) (KD (p.ts 3) p.dim) 1267650600228229401496703205376] 47 2, Blk.vec (eWord.row (p.W 0)) 83 1, Blk.vec (eWord.row (p.W 1)) 83 1, Blk.vec (eWord.row (p.W 2)) 83 1, Blk.vec (eWord.row (WD (p.ts 3) p.dim)) 83 1] [(73, 328), (77, 304)], NodesOK WD KD [Value.int IntKind.i64 (p.tc 3), Value.slice (p.z 14) (p.m 14) (p.c 14), Value.slice (p.z 15) (p.m 15) (p.c 15), Value.slice (p.z 16) (p.m 16) (p.c 16), Value.slice (p.z 17) (p.m 17) (p.c 17)] p.dim [some (Blk.ro (p.R 2)), some (Blk.ro (p.R 3)), some (Blk.ro (p.R 4)), some (Blk.ro (p.R 5)), some (Blk.ro (p.R 6)), some (Blk.ro (p.R 7)), some (Blk.ro (p.R 8)), some (Blk.ro (p.R 9)), some (Blk.ro (p.R 10)), some (Blk.ro (p.R 11)), some (Blk.ro (p.R 12)), some (Blk.ro (p.R 13)), some (Blk.ro (p.R 14)), some (Blk.ro (p.R 15)), some (Blk.ro (p.R 16)), some (Blk.ro (p.R 17))], readPart Try.prog 55 p.cs0 15 = some (Value.agg (Array.mk [Value.int IntKind.i64 (p.tc 3), Value.slice (p.z 14) (p.m 14) (p.c 14), Value.slice (p.z 15) (p.m 15) (p.c 15), Value.slice (p.z 16) (p.m 16) (p.c 16), Value.slice (p.z 17) (p.m 17) (p.c 17)])), (0 : Int) ≤ (3 : Int) ∧ (3 : Int) < Int.ofNat p.n, Value.int IntKind.i64 (withinS (p.tc 3) ((0 : Int)) c1) = Value.int IntKind.i64 (p.C 3), I64 (p.tc 3), (-2305843009213693952 : Int) ≤ (0 : Int), (0 : Int) ≤ c1, c1 ≤ (2305843009213693952 : Int), Value.int IntKind.i64 (IntKind.i64.wrap (p.cls - (1 : Int))) = Value.int IntKind.i64 c1, readPart Try.prog 3 p.cs0 15 = some (Value.int IntKind.i64 (p.tc 3)), (0 : Int) ≤ (3 : Int) ∧ (3 : Int) < Int.ofNat p.n, Value.bool (decide ((↑3 : Int) < (↑p.n : Int))) = Value.bool true])) (hK : ∀ zz, (fm p (some ⟨0, 0, none⟩) Q).inv 4 zz → ltO ((fm p (some ⟨0, 0, none⟩) Q).mu 4 zz) (some (4 - 3)) → Sat E (mkLp (lp Try.f27 1) J) ((fm p (some ⟨0, 0, none⟩) Q).st 4 zz)) : Sat E (inLp (lp Try.f27 1) J) ((fm p (some ⟨0, 0, none⟩) Q).st 3 ()) :=
  by_toR (r := [(73, 328), (77, 304)]) (T := auto0 (t_fo PV WD KD)) (h := hints [(8, 4, ht true), (10, 5, {p := true}), (10, 7, {o := some (.int .i64 (p.tc 3))}), (10, 10, {v := some (.int .i64 c1)}), (10, 11, {v := some (.int .i64 (p.C 3))}), (10, 15, {p := true}), (10, 16, {o := some (.agg ⟨p.ts 3⟩)})]) (ws := [.go]) (i0 := ()) hE hm (auto0_ok (t_fo_ok PV WD KD)) hL (by kernel_rfl) hob hK
theorem foX0 (PV : Value → Int → Int) (WD : List Value → Int → List Int) (KD : List Value → Int → Nat) (p : FP) (zt : Option Addr) (Q : Nat → Prop) (J : Act → World → Prop) {E : Env} (hE : EnvOK E Try.prog Try.f27 1 64 (p.ret 0) (tns 100 0) (p.tbs 100 0)) (hob : all ([Back (Value.agg (Array.mk [Value.int IntKind.i64 p.dim, Value.int IntKind.i64 p.cls, Value.int IntKind.i64 p.b0, Value.int IntKind.i64 p.b1, Value.int IntKind.i64 p.b2, Value.slice none 0 0])) (Value.agg (Array.mk [Value.int IntKind.i64 p.dim, Value.int IntKind.i64 p.cls, Value.int IntKind.i64 p.b0, Value.int IntKind.i64 p.b1, Value.int IntKind.i64 p.b2, Value.slice none 0 0])) [] [] [], Value.bool (decide ((↑0 : Int) < (↑p.n : Int))) = Value.bool false])) : Sat E (inLp (lp Try.f27 1) J) ((fm p zt Q).st 0 ()) :=
  by_retR (r := []) (T := auto0 (t_fo PV WD KD)) (h := hints [(8, 4, ht false)]) (ws := [.go]) (nx' := 105) hE hm (auto0_ok (t_fo_ok PV WD KD)) (by omega) (by decide) (nds_lt p 0 (by decide)) (by kernel_rfl) hob
theorem foX1 (PV : Value → Int → Int) (WD : List Value → Int → List Int) (KD : List Value → Int → Nat) (p : FP) (zt : Option Addr) (Q : Nat → Prop) (J : Act → World → Prop) {E : Env} (hE : EnvOK E Try.prog Try.f27 1 64 (p.ret 1) (tns 100 1) (p.tbs 100 1)) (hob : all ([Back (Value.agg (Array.mk [Value.int IntKind.i64 p.dim, Value.int IntKind.i64 p.cls, Value.int IntKind.i64 p.b0, Value.int IntKind.i64 p.b1, Value.int IntKind.i64 p.b2, Value.slice (some (Addr.mk 73 0 none)) 1 1267650600228229401496703205376])) (Value.agg (Array.mk [Value.int IntKind.i64 p.dim, Value.int IntKind.i64 p.cls, Value.int IntKind.i64 p.b0, Value.int IntKind.i64 p.b1, Value.int IntKind.i64 p.b2, Value.slice (some (Addr.mk 100 0 none)) 1 1267650600228229401496703205376])) [Blk.vec [Value.int IntKind.i64 (p.C 0), Value.slice (some (Addr.mk 74 0 none)) (p.l 0) 1267650600228229401496703205376] 47 2, Blk.vec (eWord.row (p.W 0)) 83 1] [Blk.vec [Value.int IntKind.i64 (p.C 0), Value.slice (some (Addr.mk 101 0 none)) (p.l 0) 1267650600228229401496703205376] 47 2, Blk.vec (eWord.row (p.W 0)) 83 1] [(100, 73), (101, 74)], Value.bool (decide ((↑1 : Int) < (↑p.n : Int))) = Value.bool false])) : Sat E (inLp (lp Try.f27 1) J) ((fm p zt Q).st 1 ()) :=
  by_retR (r := [(100, 73), (101, 74)]) (T := auto0 (t_fo PV WD KD)) (h := hints [(8, 4, ht false)]) (ws := [.go]) (nx' := 105) hE hm (auto0_ok (t_fo_ok PV WD KD)) (by omega) (by decide) (nds_lt p 1 (by decide)) (by kernel_rfl) hob
theorem foX2 (PV : Value → Int → Int) (WD : List Value → Int → List Int) (KD : List Value → Int → Nat) (p : FP) (zt : Option Addr) (Q : Nat → Prop) (J : Act → World → Prop) {E : Env} (hE : EnvOK E Try.prog Try.f27 1 64 (p.ret 2) (tns 100 2) (p.tbs 100 2)) (hob : all ([Back (Value.agg (Array.mk [Value.int IntKind.i64 p.dim, Value.int IntKind.i64 p.cls, Value.int IntKind.i64 p.b0, Value.int IntKind.i64 p.b1, Value.int IntKind.i64 p.b2, Value.slice (some (Addr.mk 73 0 none)) 2 1267650600228229401496703205376])) (Value.agg (Array.mk [Value.int IntKind.i64 p.dim, Value.int IntKind.i64 p.cls, Value.int IntKind.i64 p.b0, Value.int IntKind.i64 p.b1, Value.int IntKind.i64 p.b2, Value.slice (some (Addr.mk 100 0 none)) 2 1267650600228229401496703205376])) [Blk.vec [Value.int IntKind.i64 (p.C 0), Value.slice (some (Addr.mk 74 0 none)) (p.l 0) 1267650600228229401496703205376, Value.int IntKind.i64 (p.C 1), Value.slice (some (Addr.mk 75 0 none)) (p.l 1) 1267650600228229401496703205376] 47 2, Blk.vec (eWord.row (p.W 0)) 83 1, Blk.vec (eWord.row (p.W 1)) 83 1] [Blk.vec [Value.int IntKind.i64 (p.C 0), Value.slice (some (Addr.mk 101 0 none)) (p.l 0) 1267650600228229401496703205376, Value.int IntKind.i64 (p.C 1), Value.slice (some (Addr.mk 102 0 none)) (p.l 1) 1267650600228229401496703205376] 47 2, Blk.vec (eWord.row (p.W 0)) 83 1, Blk.vec (eWord.row (p.W 1)) 83 1] [(100, 73), (101, 74), (102, 75)], Value.bool (decide ((↑2 : Int) < (↑p.n : Int))) = Value.bool false])) : Sat E (inLp (lp Try.f27 1) J) ((fm p zt Q).st 2 ()) :=
  by_retR (r := [(100, 73), (101, 74), (102, 75)]) (T := auto0 (t_fo PV WD KD)) (h := hints [(8, 4, ht false)]) (ws := [.go]) (nx' := 105) hE hm (auto0_ok (t_fo_ok PV WD KD)) (by omega) (by decide) (nds_lt p 2 (by decide)) (by kernel_rfl) hob
theorem foX3 (PV : Value → Int → Int) (WD : List Value → Int → List Int) (KD : List Value → Int → Nat) (p : FP) (zt : Option Addr) (Q : Nat → Prop) (J : Act → World → Prop) {E : Env} (hE : EnvOK E Try.prog Try.f27 1 64 (p.ret 3) (tns 100 3) (p.tbs 100 3)) (hob : all ([Back (Value.agg (Array.mk [Value.int IntKind.i64 p.dim, Value.int IntKind.i64 p.cls, Value.int IntKind.i64 p.b0, Value.int IntKind.i64 p.b1, Value.int IntKind.i64 p.b2, Value.slice (some (Addr.mk 73 0 none)) 3 1267650600228229401496703205376])) (Value.agg (Array.mk [Value.int IntKind.i64 p.dim, Value.int IntKind.i64 p.cls, Value.int IntKind.i64 p.b0, Value.int IntKind.i64 p.b1, Value.int IntKind.i64 p.b2, Value.slice (some (Addr.mk 100 0 none)) 3 1267650600228229401496703205376])) [Blk.vec [Value.int IntKind.i64 (p.C 0), Value.slice (some (Addr.mk 74 0 none)) (p.l 0) 1267650600228229401496703205376, Value.int IntKind.i64 (p.C 1), Value.slice (some (Addr.mk 75 0 none)) (p.l 1) 1267650600228229401496703205376, Value.int IntKind.i64 (p.C 2), Value.slice (some (Addr.mk 76 0 none)) (p.l 2) 1267650600228229401496703205376] 47 2, Blk.vec (eWord.row (p.W 0)) 83 1, Blk.vec (eWord.row (p.W 1)) 83 1, Blk.vec (eWord.row (p.W 2)) 83 1] [Blk.vec [Value.int IntKind.i64 (p.C 0), Value.slice (some (Addr.mk 101 0 none)) (p.l 0) 1267650600228229401496703205376, Value.int IntKind.i64 (p.C 1), Value.slice (some (Addr.mk 102 0 none)) (p.l 1) 1267650600228229401496703205376, Value.int IntKind.i64 (p.C 2), Value.slice (some (Addr.mk 103 0 none)) (p.l 2) 1267650600228229401496703205376] 47 2, Blk.vec (eWord.row (p.W 0)) 83 1, Blk.vec (eWord.row (p.W 1)) 83 1, Blk.vec (eWord.row (p.W 2)) 83 1] [(100, 73), (101, 74), (102, 75), (103, 76)], Value.bool (decide ((↑3 : Int) < (↑p.n : Int))) = Value.bool false])) : Sat E (inLp (lp Try.f27 1) J) ((fm p zt Q).st 3 ()) :=
  by_retR (r := [(100, 73), (101, 74), (102, 75), (103, 76)]) (T := auto0 (t_fo PV WD KD)) (h := hints [(8, 4, ht false)]) (ws := [.go]) (nx' := 105) hE hm (auto0_ok (t_fo_ok PV WD KD)) (by omega) (by decide) (nds_lt p 3 (by decide)) (by kernel_rfl) hob
theorem foX4 (PV : Value → Int → Int) (WD : List Value → Int → List Int) (KD : List Value → Int → Nat) (p : FP) (zt : Option Addr) (Q : Nat → Prop) (J : Act → World → Prop) {E : Env} (hE : EnvOK E Try.prog Try.f27 1 64 (p.ret 4) (tns 100 4) (p.tbs 100 4)) (hob : all ([Back (Value.agg (Array.mk [Value.int IntKind.i64 p.dim, Value.int IntKind.i64 p.cls, Value.int IntKind.i64 p.b0, Value.int IntKind.i64 p.b1, Value.int IntKind.i64 p.b2, Value.slice (some (Addr.mk 73 0 none)) 4 1267650600228229401496703205376])) (Value.agg (Array.mk [Value.int IntKind.i64 p.dim, Value.int IntKind.i64 p.cls, Value.int IntKind.i64 p.b0, Value.int IntKind.i64 p.b1, Value.int IntKind.i64 p.b2, Value.slice (some (Addr.mk 100 0 none)) 4 1267650600228229401496703205376])) [Blk.vec [Value.int IntKind.i64 (p.C 0), Value.slice (some (Addr.mk 74 0 none)) (p.l 0) 1267650600228229401496703205376, Value.int IntKind.i64 (p.C 1), Value.slice (some (Addr.mk 75 0 none)) (p.l 1) 1267650600228229401496703205376, Value.int IntKind.i64 (p.C 2), Value.slice (some (Addr.mk 76 0 none)) (p.l 2) 1267650600228229401496703205376, Value.int IntKind.i64 (p.C 3), Value.slice (some (Addr.mk 77 0 none)) (p.l 3) 1267650600228229401496703205376] 47 2, Blk.vec (eWord.row (p.W 0)) 83 1, Blk.vec (eWord.row (p.W 1)) 83 1, Blk.vec (eWord.row (p.W 2)) 83 1, Blk.vec (eWord.row (p.W 3)) 83 1] [Blk.vec [Value.int IntKind.i64 (p.C 0), Value.slice (some (Addr.mk 101 0 none)) (p.l 0) 1267650600228229401496703205376, Value.int IntKind.i64 (p.C 1), Value.slice (some (Addr.mk 102 0 none)) (p.l 1) 1267650600228229401496703205376, Value.int IntKind.i64 (p.C 2), Value.slice (some (Addr.mk 103 0 none)) (p.l 2) 1267650600228229401496703205376, Value.int IntKind.i64 (p.C 3), Value.slice (some (Addr.mk 104 0 none)) (p.l 3) 1267650600228229401496703205376] 47 2, Blk.vec (eWord.row (p.W 0)) 83 1, Blk.vec (eWord.row (p.W 1)) 83 1, Blk.vec (eWord.row (p.W 2)) 83 1, Blk.vec (eWord.row (p.W 3)) 83 1] [(100, 73), (101, 74), (102, 75), (103, 76), (104, 77)], Value.bool (decide ((↑4 : Int) < (↑p.n : Int))) = Value.bool false])) : Sat E (inLp (lp Try.f27 1) J) ((fm p zt Q).st 4 ()) :=
  by_retR (r := [(100, 73), (101, 74), (102, 75), (103, 76), (104, 77)]) (T := auto0 (t_fo PV WD KD)) (h := hints [(8, 4, ht false)]) (ws := [.go]) (nx' := 105) hE hm (auto0_ok (t_fo_ok PV WD KD)) (by omega) (by decide) (nds_lt p 4 (by decide)) (by kernel_rfl) hob
theorem foY4 (PV : Value → Int → Int) (WD : List Value → Int → List Int) (KD : List Value → Int → Nat) (p : FP) (zt : Option Addr) (Q : Nat → Prop) (J : Act → World → Prop) {E : Env} (hE : EnvOK E Try.prog Try.f27 1 64 (p.ret 4) (tns 100 4) (p.tbs 100 4)) (hob : all ([Back (Value.agg (Array.mk [Value.int IntKind.i64 p.dim, Value.int IntKind.i64 p.cls, Value.int IntKind.i64 p.b0, Value.int IntKind.i64 p.b1, Value.int IntKind.i64 p.b2, Value.slice (some (Addr.mk 73 0 none)) 4 1267650600228229401496703205376])) (Value.agg (Array.mk [Value.int IntKind.i64 p.dim, Value.int IntKind.i64 p.cls, Value.int IntKind.i64 p.b0, Value.int IntKind.i64 p.b1, Value.int IntKind.i64 p.b2, Value.slice (some (Addr.mk 100 0 none)) 4 1267650600228229401496703205376])) [Blk.vec [Value.int IntKind.i64 (p.C 0), Value.slice (some (Addr.mk 74 0 none)) (p.l 0) 1267650600228229401496703205376, Value.int IntKind.i64 (p.C 1), Value.slice (some (Addr.mk 75 0 none)) (p.l 1) 1267650600228229401496703205376, Value.int IntKind.i64 (p.C 2), Value.slice (some (Addr.mk 76 0 none)) (p.l 2) 1267650600228229401496703205376, Value.int IntKind.i64 (p.C 3), Value.slice (some (Addr.mk 77 0 none)) (p.l 3) 1267650600228229401496703205376] 47 2, Blk.vec (eWord.row (p.W 0)) 83 1, Blk.vec (eWord.row (p.W 1)) 83 1, Blk.vec (eWord.row (p.W 2)) 83 1, Blk.vec (eWord.row (p.W 3)) 83 1] [Blk.vec [Value.int IntKind.i64 (p.C 0), Value.slice (some (Addr.mk 101 0 none)) (p.l 0) 1267650600228229401496703205376, Value.int IntKind.i64 (p.C 1), Value.slice (some (Addr.mk 102 0 none)) (p.l 1) 1267650600228229401496703205376, Value.int IntKind.i64 (p.C 2), Value.slice (some (Addr.mk 103 0 none)) (p.l 2) 1267650600228229401496703205376, Value.int IntKind.i64 (p.C 3), Value.slice (some (Addr.mk 104 0 none)) (p.l 3) 1267650600228229401496703205376] 47 2, Blk.vec (eWord.row (p.W 0)) 83 1, Blk.vec (eWord.row (p.W 1)) 83 1, Blk.vec (eWord.row (p.W 2)) 83 1, Blk.vec (eWord.row (p.W 3)) 83 1] [(100, 73), (101, 74), (102, 75), (103, 76), (104, 77)], Value.bool (decide ((↑4 : Int) < (↑p.n : Int))) = Value.bool true])) : Sat E (inLp (lp Try.f27 1) J) ((fm p zt Q).st 4 ()) :=
  by_retR (r := [(100, 73), (101, 74), (102, 75), (103, 76), (104, 77)]) (T := auto0 (t_fo PV WD KD)) (h := hints [(8, 4, ht true)]) (ws := [.go]) (nx' := 105) hE hm (auto0_ok (t_fo_ok PV WD KD)) (by omega) (by decide) (nds_lt p 4 (by decide)) (by kernel_rfl) hob
end Go.Proofs.Ythbaccmhdffjdaa.Fo


set_option linter.unusedVariables false
set_option linter.unusedSimpArgs false
set_option maxRecDepth 100000
namespace Go.Proofs.Ythbaccmhdffjdaa.Fo
open Go Go.RowKit Go.Proofs.Ythbaccmhdffjdaa.Ev Go.Proofs.Ythbaccmhdffjdaa.NodeE Go.Proofs.Ythbaccmhdffjdaa.Within Go.Proofs.Ythbaccmhdffjdaa.PickE Go.Proofs.Ythbaccmhdffjdaa.Tn Go.Proofs.Ythbaccmhdffjdaa.Fo

/-- A forest that comes in: its numbers, and its rows by their names. -/
structure FD where
  d : Int
  cl : Int
  n : Nat
  ct : Nat
  rw : Nat → Rw
  tc : Nat → Int
  a : Nat → Option Addr
def FD.nd (D : FD) (i : Nat) : List Nd := nodesI (D.rw (2 + 4 * i)).l (D.rw (3 + 4 * i)).l (D.rw (4 + 4 * i)).l (D.rw (5 + 4 * i)).l (withinS D.d 1 3)
def FD.z (D : FD) (k : Nat) : Option Addr := (D.rw k).wz (D.a k) k
def FD.m (D : FD) (k : Nat) : Nat := (D.rw k).wn
def FD.c (D : FD) (k : Nat) : Nat := (D.rw k).wc
def FD.ts (D : FD) (i : Nat) : List Value := [.int .i64 (D.tc i), .slice (D.z (2 + 4 * i)) (D.m (2 + 4 * i)) (D.c (2 + 4 * i)), .slice (D.z (3 + 4 * i)) (D.m (3 + 4 * i)) (D.c (3 + 4 * i)), .slice (D.z (4 + 4 * i)) (D.m (4 + 4 * i)) (D.c (4 + 4 * i)), .slice (D.z (5 + 4 * i)) (D.m (5 + 4 * i)) (D.c (5 + 4 * i))]
def FD.cs (D : FD) : Nat → List Value
  | 0 => []
  | i + 1 => D.cs i ++ D.ts i
def FD.bias (D : FD) (i : Nat) : Int := if (i : Int) < withinS D.cl 1 3 then withinS (pickI (D.rw 1).l i) (-500) 500 else 0
def FD.fp (D : FD) : FP where
  cs0 := D.cs (min D.n 4)
  R k := (D.rw k).cs
  d := D.d
  cl := D.cl
  z := D.z
  m := D.m
  c := D.c
  n := D.n
  ct := D.ct
  dim := withinS D.d 1 3
  cls := withinS D.cl 1 3
  b0 := D.bias 0
  b1 := D.bias 1
  b2 := D.bias 2
  tc := D.tc
  C i := withinS (D.tc i) 0 (withinS D.cl 1 3 - 1)
  W i := (D.nd i).map packN
  l i := (D.nd i).length
structure FD.OK (D : FD) : Prop where
  d : I64 D.d
  cl : I64 D.cl
  good : ∀ k, (D.rw k).good
  none : ∀ k, (D.rw k).z = false → (D.rw k).cs = []
  tc : ∀ i, I64 (D.tc i)
  hat : ∀ k, hat (D.a k) (40 + k)
  za : ∀ k, (D.rw k).z = true → D.a k = Option.none
  a1 : D.a 1 = Option.none
  a18 : ∀ k, 18 ≤ k → D.a k = Option.none
def ztOK (D : FD) (zt : Option Addr) : Prop := zt = some ⟨0, 0, none⟩ ∨ (zt = none ∧ D.n = 0)
theorem FD.sv (D : FD) (k : Nat) : Value.slice (D.z k) (D.m k) (D.c k) = (D.rw k).w (D.a k) k := Rw.w_eq _ _ _
theorem Rw.w_none (r : Rw) (k : Nat) : r.w none k = r.v k := by
  unfold Rw.w Rw.v
  cases r.z <;> rfl
theorem FD.sv1 {D : FD} (ok : D.OK) : Value.slice (D.z 1) (D.m 1) (D.c 1) = (D.rw 1).v 1 := by
  rw [FD.sv, ok.a1, Rw.w_none]
theorem FD.z_nm {D : FD} (ok : D.OK) (k : Nat) {m c : Nat} : ∀ j ∈ nm0 (.slice (D.z k) m c), j = k ∨ j = 40 + k := by
  intro j hj
  unfold FD.z Rw.wz at hj
  cases h : (D.rw k).z <;> rw [h] at hj
  · rcases ok.hat k with e | ⟨sp, e⟩ <;> rw [e] at hj <;> simp [nm0] at hj
    exact Or.inr hj
  · simp [nm0] at hj
    exact Or.inl hj
theorem FD.ts_nm {D : FD} (ok : D.OK) {i : Nat} (hi : i < 4) : ∀ v ∈ D.ts i, ∀ j ∈ nm0 v, j < 64 := by
  intro v hv j hj
  simp only [FD.ts, List.mem_cons, List.not_mem_nil, or_false] at hv
  rcases hv with rfl | rfl | rfl | rfl | rfl
  · simp [nm0] at hj
  all_goals (have := FD.z_nm ok _ j hj; omega)
theorem FD.cs_nm {D : FD} (ok : D.OK) : ∀ b, b ≤ 4 → ∀ v ∈ D.cs b, ∀ j ∈ nm0 v, j < 64
  | 0, _, v, h, j, hj => by simp [FD.cs] at h
  | b + 1, hb, v, h, j, hj => by
    simp only [FD.cs, List.mem_append] at h
    rcases h with h | h
    · exact FD.cs_nm ok b (by omega) v h j hj
    · exact FD.ts_nm ok (by omega) v h j hj
theorem FD.cs_len (D : FD) : ∀ b, (D.cs b).length = 5 * b
  | 0 => rfl
  | b + 1 => by simp only [FD.cs, List.length_append, FD.cs_len D b, FD.ts, List.length_cons, List.length_nil]; omega
theorem sub_app {a b c : List Value} : sub (a ++ (b ++ c)) a.length b.length = some b := by
  have h0 : ∀ (b c : List Value), sub (b ++ c) 0 b.length = some b := by
    intro b c
    induction b with
    | nil => cases c <;> rfl
    | cons v b ih => simp [sub, ih]
  induction a with
  | nil => exact h0 b c
  | cons v a ih => simp only [List.cons_append, List.length_cons, sub]; exact ih
theorem FD.cs_split (D : FD) (i : Nat) : ∀ b, i < b → ∃ c, D.cs b = D.cs i ++ (D.ts i ++ c)
  | 0, h => absurd h (Nat.not_lt_zero _)
  | b + 1, h => by
    by_cases hi : i = b
    · subst hi; exact ⟨[], by simp [FD.cs]⟩
    · obtain ⟨c, hc⟩ := FD.cs_split D i b (by omega)
      exact ⟨c ++ D.ts b, by simp [FD.cs, hc]⟩
theorem FD.sub_ts (D : FD) {i b : Nat} (h : i < b) : sub (D.cs b) (5 * i) 5 = some (D.ts i) := by
  obtain ⟨c, hc⟩ := FD.cs_split D i b h
  rw [hc]
  have := sub_app (a := D.cs i) (b := D.ts i) (c := c)
  rw [FD.cs_len] at this
  exact this
theorem FD.sub_tc (D : FD) {i b : Nat} (h : i < b) : sub (D.cs b) (5 * i) 1 = some [.int .i64 (D.tc i)] := by
  obtain ⟨c, hc⟩ := FD.cs_split D i b h
  rw [hc]
  have := sub_app (a := D.cs i) (b := [.int .i64 (D.tc i)]) (c := (D.ts i).drop 1 ++ c)
  rw [FD.cs_len] at this
  exact this
theorem FD.read_ts (D : FD) {i b : Nat} (h : i < b) : readPart Try.prog 55 (D.cs b) (5 * i) = some (.agg ⟨D.ts i⟩) := by
  have h1 : aggT Try.prog 55 = some true := by kernel_rfl
  have h2 : sizeOfT Try.prog 55 = some 5 := by kernel_rfl
  unfold readPart
  rw [h1, h2]
  simp only [FD.sub_ts D h]
theorem FD.read_tc (D : FD) {i b : Nat} (h : i < b) : readPart Try.prog 3 (D.cs b) (5 * i) = some (.int .i64 (D.tc i)) := by
  have h1 : aggT Try.prog 3 = some false := by kernel_rfl
  unfold readPart
  rw [h1]
  simp only [FD.sub_tc D h]
  rfl
theorem mapL_fix {f : Nat → Nat} {cs : List Value} (h : ∀ c ∈ cs, ∀ k ∈ nm0 c, f k = k) : mapL (rn0 f) cs = cs := mapL_id fun c hc => rn0_names (h c hc)
theorem rows_fix {D : FD} (ok : D.OK) {f : Nat → Nat} (hf : ∀ k, k < 64 → f k = k) : D.fp.rows.map (Blk.rnB f) = D.fp.rows := by
  have hR : ∀ k, Blk.rnB f (.ro (D.fp.R k)) = .ro (D.fp.R k) := fun k => by
    refine Blk.plain.rnB (b := .ro _) ?_ f
    show ∀ c ∈ (D.rw k).cs, leafG c = true
    cases hz : (D.rw k).z with
    | false => rw [ok.none k hz]; intro c hc; simp at hc
    | true => exact (ok.good k hz).2.2
  have h0 : Blk.rnB f (.ro D.fp.cs0) = .ro D.fp.cs0 := by
    show Blk.ro (mapL (rn0 f) (D.cs (min D.n 4))) = _
    rw [mapL_fix fun c hc k hk => hf k (FD.cs_nm ok (min D.n 4) (by omega) c hc k hk)]
    rfl
  simp only [FP.rows, List.map_cons, List.map_nil, hR, h0]
theorem nds_fix (p : FP) (f : Nat → Nat) (b : Nat) : (p.nds b).map (Blk.rnB f) = p.nds b := by
  conv => rhs; rw [← List.map_id (p.nds b)]
  exact List.map_congr_left fun x hx => (nds_plain p b x hx).rnB f
theorem fcs_fix {D : FD} (ok : D.OK) {zt : Option Addr} (hz : ztOK D zt) {f : Nat → Nat} (hf : ∀ k, k < 64 → f k = k) : mapL (rn0 f) (D.fp.fcs zt) = D.fp.fcs zt := by
  refine mapL_fix fun c hc k hk => hf k ?_
  simp only [FP.fcs, List.mem_cons, List.not_mem_nil, or_false] at hc
  rcases hc with rfl | rfl | rfl | rfl
  · simp [nm0] at hk
  · simp [nm0] at hk
  · have := FD.z_nm ok 1 k hk; omega
  · rcases hz with rfl | ⟨rfl, _⟩
    · simp [nm0] at hk; omega
    · simp [nm0] at hk
/-- A frame's blocks, with names told anew. -/
theorem hv_fix {D : FD} (ok : D.OK) {zt : Option Addr} (hz : ztOK D zt) (Q : Nat → Prop) {f : Nat → Nat} (hf : ∀ k, k < 64 → f k = k) (b : Nat) : ((fm D.fp zt Q).hv b ()).map (Blk.rnB f) = D.fp.rows ++ ([.cells (D.fp.fcs zt) 61, .cells (mapL (rn0 f) (D.fp.mcs 73 b)) 51, .cells mz 51] ++ (match b with | 0 => [] | b + 1 => .vec (mapL (rn0 f) (D.fp.tcs 74 (b + 1))) 47 2 :: D.fp.nds (b + 1))) := by
  show (D.fp.rows ++ ([Blk.cells (D.fp.fcs zt) 61, .cells (D.fp.mcs 73 b) 51, .cells mz 51] ++ D.fp.tbs 73 b)).map _ = _
  rw [List.map_append, rows_fix ok hf, List.map_append]
  congr 1
  have h1 : Blk.rnB f (.cells (D.fp.fcs zt) 61) = .cells (D.fp.fcs zt) 61 := by show Blk.cells (mapL _ _) _ = _; rw [fcs_fix ok hz hf]
  simp only [List.map_cons, List.map_nil, h1]
  congr 1
  cases b with
  | zero => rfl
  | succ b =>
    show (Blk.rnB f _ :: (D.fp.nds (b + 1)).map _) = _
    rw [nds_fix]
    rfl
def FD.PV (D : FD) : Value → Int → Int := fun _ i => pickI (D.rw 1).l i
def FD.lst (D : FD) : Value → List Int
  | .slice (some a) _ _ => if a.block < 24 then (D.rw a.block).l else []
  | _ => []
def FD.WD (D : FD) : List Value → Int → List Int
  | [_, v0, v1, v2, v3], dim => (nodesI (D.lst v0) (D.lst v1) (D.lst v2) (D.lst v3) dim).map packN
  | _, _ => []
def FD.KD (D : FD) : List Value → Int → Nat := fun cs dim => (D.WD cs dim).length
theorem FD.lst_sv {D : FD} (ok : D.OK) {k : Nat} (hk : k < 24) : D.lst (.slice (D.z k) (D.m k) (D.c k)) = (D.rw k).l := by
  unfold FD.z Rw.wz Rw.l
  cases h : (D.rw k).z
  · rcases ok.hat k with e | ⟨sp, e⟩ <;> rw [e]
    · rfl
    · exact if_neg (show ¬ 40 + k < 24 by omega)
  · show (if k < 24 then (D.rw k).l else []) = _
    rw [if_pos hk]
    simp only [Rw.l, h]
theorem FD.WD_ts {D : FD} (ok : D.OK) {i : Nat} (hi : i < 4) : D.WD (D.ts i) (withinS D.d 1 3) = D.fp.W i := by
  show (nodesI (D.lst _) (D.lst _) (D.lst _) (D.lst _) _).map packN = _
  rw [FD.lst_sv ok (by omega), FD.lst_sv ok (by omega), FD.lst_sv ok (by omega), FD.lst_sv ok (by omega)]
  rfl
theorem FD.KD_ts {D : FD} (ok : D.OK) {i : Nat} (hi : i < 4) : D.KD (D.ts i) (withinS D.d 1 3) = D.fp.l i := by
  unfold FD.KD
  rw [FD.WD_ts ok hi]
  show ((D.nd i).map packN).length = (D.nd i).length
  rw [List.length_map]
theorem FD.pick {D : FD} (ok : D.OK) {i : Int} (hi : 0 ≤ i) : PickOK D.PV (.slice (D.fp.z 1) (D.fp.m 1) (D.fp.c 1)) i 1 (some (.ro (D.fp.R 1))) := ⟨D.rw 1, ⟨FD.sv1 ok, ok.good 1, fun _ => ⟨_, rfl, rfl⟩⟩, rfl, hi⟩
theorem FD.rwIn {D : FD} (ok : D.OK) (k : Nat) : RwIn (D.rw k) (some (.ro (D.fp.R k))) := ⟨ok.good k, ok.none k, _, rfl, rfl⟩
theorem FD.good64 {D : FD} (ok : D.OK) (k : Nat) : ∀ z ∈ (D.rw k).l, I64 z := by
  intro z hz
  unfold Rw.l at hz
  cases h : (D.rw k).z <;> rw [h] at hz
  · simp at hz
  · exact (ok.good k h).2.1 z hz
theorem FD.nodes {D : FD} (ok : D.OK) {i : Nat} (hi : i < 4) : NodesOK D.WD D.KD (D.ts i) (withinS D.d 1 3) [some (.ro (D.fp.R 2)), some (.ro (D.fp.R 3)), some (.ro (D.fp.R 4)), some (.ro (D.fp.R 5)), some (.ro (D.fp.R 6)), some (.ro (D.fp.R 7)), some (.ro (D.fp.R 8)), some (.ro (D.fp.R 9)), some (.ro (D.fp.R 10)), some (.ro (D.fp.R 11)), some (.ro (D.fp.R 12)), some (.ro (D.fp.R 13)), some (.ro (D.fp.R 14)), some (.ro (D.fp.R 15)), some (.ro (D.fp.R 16)), some (.ro (D.fp.R 17))] := by
  have hd := within_range D.d (show (1 : Int) ≤ 3 by decide)
  have hv : ∀ k, k < 16 → ([some (Blk.ro (D.fp.R 2)), some (Blk.ro (D.fp.R 3)), some (Blk.ro (D.fp.R 4)), some (Blk.ro (D.fp.R 5)), some (Blk.ro (D.fp.R 6)), some (Blk.ro (D.fp.R 7)), some (Blk.ro (D.fp.R 8)), some (Blk.ro (D.fp.R 9)), some (Blk.ro (D.fp.R 10)), some (Blk.ro (D.fp.R 11)), some (Blk.ro (D.fp.R 12)), some (Blk.ro (D.fp.R 13)), some (Blk.ro (D.fp.R 14)), some (Blk.ro (D.fp.R 15)), some (Blk.ro (D.fp.R 16)), some (Blk.ro (D.fp.R 17))] : List (Option Blk)).getD k none = some (.ro (D.fp.R (k + 2))) := fun k hk => vw_get (fun j => some (.ro (D.fp.R j))) hk
  refine ⟨4 * i, 40 + (2 + 4 * i), 40 + (3 + 4 * i), 40 + (4 + 4 * i), 40 + (5 + 4 * i), D.tc i, D.rw (2 + 4 * i), D.rw (3 + 4 * i), D.rw (4 + 4 * i), D.rw (5 + 4 * i), D.a (2 + 4 * i), D.a (3 + 4 * i), D.a (4 + 4 * i), D.a (5 + 4 * i), ?_, ok.hat _, ok.hat _, ok.hat _, ok.hat _, ok.za _, ok.za _, ok.za _, ok.za _, ?_, ?_, ?_, ?_, by omega, FD.WD_ts ok hi, FD.KD_ts ok hi, hd.1, by omega⟩
  · rw [show 4 * i + 2 = 2 + 4 * i by omega, show 4 * i + 3 = 3 + 4 * i by omega, show 4 * i + 4 = 4 + 4 * i by omega, show 4 * i + 5 = 5 + 4 * i by omega, ← FD.sv, ← FD.sv, ← FD.sv, ← FD.sv]
    rfl
  · rw [hv _ (by omega), show 4 * i + 2 = 2 + 4 * i by omega]; exact FD.rwIn ok _
  · rw [hv _ (by omega), show 4 * i + 1 + 2 = 3 + 4 * i by omega]; exact FD.rwIn ok _
  · rw [hv _ (by omega), show 4 * i + 2 + 2 = 4 + 4 * i by omega]; exact FD.rwIn ok _
  · rw [hv _ (by omega), show 4 * i + 3 + 2 = 5 + 4 * i by omega]; exact FD.rwIn ok _
theorem upN_lt (q : Nat) : ∀ b, ∀ k ∈ upN q b, q ≤ k ∧ k < q + b
  | 0, k, h => by simp [upN] at h
  | b + 1, k, h => by
    simp only [upN, List.mem_append, List.mem_cons, List.not_mem_nil, or_false] at h
    rcases h with h | rfl
    · have := upN_lt q b k h; omega
    · omega
theorem fm_ok {D : FD} (ok : D.OK) {zt : Option Addr} (hz : ztOK D zt) (Q : Nat → Prop) (hQ : ∀ b, Q b → b ≤ 4) : (fm D.fp zt Q).OK 64 := by
  have hrow : ∀ x ∈ D.fp.rows, x.namesLt 80 := by
    intro x hx
    have h := rows_fix ok (f := id) (fun k _ => rfl)
    simp only [FP.rows, List.mem_cons, List.not_mem_nil, or_false] at hx
    have hR : ∀ k, Blk.namesLt 80 (.ro (D.fp.R k)) := fun k => Blk.plain.namesLt (b := .ro _) (by
      show ∀ c ∈ (D.rw k).cs, leafG c = true
      cases hz : (D.rw k).z with
      | false => rw [ok.none k hz]; intro c hc; simp at hc
      | true => exact (ok.good k hz).2.2) _
    rcases hx with rfl | rfl | rfl | rfl | rfl | rfl | rfl | rfl | rfl | rfl | rfl | rfl | rfl | rfl | rfl | rfl | rfl | rfl
    · exact fun c hc k hk => by have := FD.cs_nm ok _ (show min D.n 4 ≤ 4 by omega) c hc k hk; omega
    all_goals exact hR _
  refine ⟨(by decide : 64 ≤ 80), fun b i h k hk => ?_, fun b i h v hv k hk => ?_, fun b i h x hx => ?_⟩
  · show k < 80
    have hb := hQ b h
    have hk : k ∈ [0, 1, 2, 3, 4, 5, 6, 7, 8, 9, 10, 11, 12, 13, 14, 15, 16, 17, 70, 71, 72] ++ tns 73 b := hk
    rcases List.mem_append.1 hk with hk | hk
    · have : ∀ k ∈ [0, 1, 2, 3, 4, 5, 6, 7, 8, 9, 10, 11, 12, 13, 14, 15, 16, 17, 70, 71, 72], k < 80 := by decide
      exact this k hk
    · cases b with
      | zero => simp [tns] at hk
      | succ b =>
        rcases List.mem_cons.1 hk with rfl | hk
        · omega
        · have := upN_lt 74 _ k hk; omega
  · show k < 80
    have hv : v ∈ [ptr 70, ptr 72, ptr 71, .int .i64 ((b : Nat) : Int)] := hv
    simp only [List.mem_cons, List.not_mem_nil, or_false] at hv
    rcases hv with rfl | rfl | rfl | rfl <;> simp [ptr, nms, nm1, nm0] at hk <;> omega
  · show x.namesLt 80
    have hb := hQ b h
    have hx : x ∈ D.fp.rows ++ ([Blk.cells (D.fp.fcs zt) 61, .cells (D.fp.mcs 73 b) 51, .cells mz 51] ++ D.fp.tbs 73 b) := hx
    rcases List.mem_append.1 hx with hx | hx
    · exact hrow x hx
    rcases List.mem_append.1 hx with hx | hx
    · simp only [List.mem_cons, List.not_mem_nil, or_false] at hx
      rcases hx with rfl | rfl | rfl
      · intro c hc k hk
        simp only [FP.fcs, List.mem_cons, List.not_mem_nil, or_false] at hc
        rcases hc with rfl | rfl | rfl | rfl
        · simp [nm0] at hk
        · simp [nm0] at hk
        · have := FD.z_nm ok 1 k hk; omega
        · rcases hz with rfl | ⟨rfl, _⟩
          · simp [nm0] at hk; omega
          · simp [nm0] at hk
      · intro c hc k hk
        simp only [FP.mcs, List.mem_cons, List.not_mem_nil, or_false] at hc
        rcases hc with rfl | rfl | rfl | rfl | rfl | rfl
        · simp [nm0] at hk
        · simp [nm0] at hk
        · simp [nm0] at hk
        · simp [nm0] at hk
        · simp [nm0] at hk
        · cases b <;> simp [tsl, nm0] at hk
          omega
      · exact Blk.plain.namesLt (b := .cells _ _) (by intro c hc; simp only [mz, List.mem_cons, List.not_mem_nil, or_false] at hc; rcases hc with rfl | rfl | rfl | rfl | rfl | rfl <;> rfl) _
    · exact tbs_lt D.fp 73 b (by omega) x hx

theorem body0 {D : FD} (ok : D.OK) {E : Env} {rv : Value} {rhs : List Nat} {rhv : List Blk} (hE : EnvOK E Try.prog Try.f27 1 64 rv rhs rhv) (hn : 0 < min D.n 4) (J : Act → World → Prop) (hJ : Sat E (mkLp (lp Try.f27 1) J) ((fm D.fp (some ⟨0, 0, none⟩) (fun b => b ≤ min D.n 4)).st 1 ())) :
    Sat E (inLp (lp Try.f27 1) J) ((fm D.fp (some ⟨0, 0, none⟩) (fun b => b ≤ min D.n 4)).st 0 ()) := by
  have hcl := within_range D.cl (show (1 : Int) ≤ 3 by decide)
  have hz : ztOK D (some ⟨0, 0, none⟩) := Or.inl rfl
  have hQ : ∀ b, b ≤ min D.n 4 → b ≤ 4 := fun b h => by omega
  have hfix : ∀ k, k < 64 → Ev.look [(73, 328), (74, 304)] k = k := by decide
  have hidx : (0 : Int) ≤ 0 ∧ (0 : Int) < Int.ofNat D.fp.n := ⟨by decide, by show (0 : Int) < ((D.n : Nat) : Int); omega⟩
  refine foB0 D.PV D.WD D.KD D.fp (fun b => b ≤ min D.n 4) (withinS D.cl 1 3 - 1) J hE (fm_ok ok hz _ hQ) ⟨rfl, ⟨(), (by show 1 ≤ min D.n 4; omega), (by show 4 - 1 < 4 - 0; decide), rfl, ?_⟩, FD.nodes ok (i := 0) (by decide), FD.read_ts D (i := 0) hn, hidx, rfl, ok.tc 0, by decide, by omega, by omega, i64_id rfl (by show -9223372036854775808 ≤ withinS D.cl 1 3 - 1; omega) (by show withinS D.cl 1 3 - 1 ≤ 9223372036854775807; omega), FD.read_tc D (i := 0) hn, hidx, congrArg Value.bool (decide_eq_true (by show (0 : Int) < ((D.n : Nat) : Int); omega)), trivial⟩ fun zz _ _ => hJ
  rw [hv_fix ok hz _ hfix]
  have hW : D.WD (D.fp.ts 0) D.fp.dim = D.fp.W 0 := FD.WD_ts ok (i := 0) (by decide)
  have hK : D.KD (D.fp.ts 0) D.fp.dim = D.fp.l 0 := FD.KD_ts ok (i := 0) (by decide)
  rw [hW, hK]
  rfl
theorem body1 {D : FD} (ok : D.OK) {E : Env} {rv : Value} {rhs : List Nat} {rhv : List Blk} (hE : EnvOK E Try.prog Try.f27 1 64 rv rhs rhv) (hn : 1 < min D.n 4) (J : Act → World → Prop) (hJ : Sat E (mkLp (lp Try.f27 1) J) ((fm D.fp (some ⟨0, 0, none⟩) (fun b => b ≤ min D.n 4)).st 2 ())) :
    Sat E (inLp (lp Try.f27 1) J) ((fm D.fp (some ⟨0, 0, none⟩) (fun b => b ≤ min D.n 4)).st 1 ()) := by
  have hcl := within_range D.cl (show (1 : Int) ≤ 3 by decide)
  have hz : ztOK D (some ⟨0, 0, none⟩) := Or.inl rfl
  have hQ : ∀ b, b ≤ min D.n 4 → b ≤ 4 := fun b h => by omega
  have hfix : ∀ k, k < 64 → Ev.look [(73, 328), (75, 304)] k = k := by decide
  have hidx : (0 : Int) ≤ 1 ∧ (1 : Int) < Int.ofNat D.fp.n := ⟨by decide, by show (1 : Int) < ((D.n : Nat) : Int); omega⟩
  refine foB1 D.PV D.WD D.KD D.fp (fun b => b ≤ min D.n 4) (withinS D.cl 1 3 - 1) J hE (fm_ok ok hz _ hQ) ⟨rfl, ⟨(), (by show 2 ≤ min D.n 4; omega), (by show 4 - 2 < 4 - 1; decide), rfl, ?_⟩, FD.nodes ok (i := 1) (by decide), FD.read_ts D (i := 1) hn, hidx, rfl, ok.tc 1, by decide, by omega, by omega, i64_id rfl (by show -9223372036854775808 ≤ withinS D.cl 1 3 - 1; omega) (by show withinS D.cl 1 3 - 1 ≤ 9223372036854775807; omega), FD.read_tc D (i := 1) hn, hidx, congrArg Value.bool (decide_eq_true (by show (1 : Int) < ((D.n : Nat) : Int); omega)), trivial⟩ fun zz _ _ => hJ
  rw [hv_fix ok hz _ hfix]
  have hW : D.WD (D.fp.ts 1) D.fp.dim = D.fp.W 1 := FD.WD_ts ok (i := 1) (by decide)
  have hK : D.KD (D.fp.ts 1) D.fp.dim = D.fp.l 1 := FD.KD_ts ok (i := 1) (by decide)
  rw [hW, hK]
  rfl
theorem body2 {D : FD} (ok : D.OK) {E : Env} {rv : Value} {rhs : List Nat} {rhv : List Blk} (hE : EnvOK E Try.prog Try.f27 1 64 rv rhs rhv) (hn : 2 < min D.n 4) (J : Act → World → Prop) (hJ : Sat E (mkLp (lp Try.f27 1) J) ((fm D.fp (some ⟨0, 0, none⟩) (fun b => b ≤ min D.n 4)).st 3 ())) :
    Sat E (inLp (lp Try.f27 1) J) ((fm D.fp (some ⟨0, 0, none⟩) (fun b => b ≤ min D.n 4)).st 2 ()) := by
  have hcl := within_range D.cl (show (1 : Int) ≤ 3 by decide)
  have hz : ztOK D (some ⟨0, 0, none⟩) := Or.inl rfl
  have hQ : ∀ b, b ≤ min D.n 4 → b ≤ 4 := fun b h => by omega
  have hfix : ∀ k, k < 64 → Ev.look [(73, 328), (76, 304)] k = k := by decide
  have hidx : (0 : Int) ≤ 2 ∧ (2 : Int) < Int.ofNat D.fp.n := ⟨by decide, by show (2 : Int) < ((D.n : Nat) : Int); omega⟩
  refine foB2 D.PV D.WD D.KD D.fp (fun b => b ≤ min D.n 4) (withinS D.cl 1 3 - 1) J hE (fm_ok ok hz _ hQ) ⟨rfl, ⟨(), (by show 3 ≤ min D.n 4; omega), (by show 4 - 3 < 4 - 2; decide), rfl, ?_⟩, FD.nodes ok (i := 2) (by decide), FD.read_ts D (i := 2) hn, hidx, rfl, ok.tc 2, by decide, by omega, by omega, i64_id rfl (by show -9223372036854775808 ≤ withinS D.cl 1 3 - 1; omega) (by show withinS D.cl 1 3 - 1 ≤ 9223372036854775807; omega), FD.read_tc D (i := 2) hn, hidx, congrArg Value.bool (decide_eq_true (by show (2 : Int) < ((D.n : Nat) : Int); omega)), trivial⟩ fun zz _ _ => hJ
  rw [hv_fix ok hz _ hfix]
  have hW : D.WD (D.fp.ts 2) D.fp.dim = D.fp.W 2 := FD.WD_ts ok (i := 2) (by decide)
  have hK : D.KD (D.fp.ts 2) D.fp.dim = D.fp.l 2 := FD.KD_ts ok (i := 2) (by decide)
  rw [hW, hK]
  rfl
theorem body3 {D : FD} (ok : D.OK) {E : Env} {rv : Value} {rhs : List Nat} {rhv : List Blk} (hE : EnvOK E Try.prog Try.f27 1 64 rv rhs rhv) (hn : 3 < min D.n 4) (J : Act → World → Prop) (hJ : Sat E (mkLp (lp Try.f27 1) J) ((fm D.fp (some ⟨0, 0, none⟩) (fun b => b ≤ min D.n 4)).st 4 ())) :
    Sat E (inLp (lp Try.f27 1) J) ((fm D.fp (some ⟨0, 0, none⟩) (fun b => b ≤ min D.n 4)).st 3 ()) := by
  have hcl := within_range D.cl (show (1 : Int) ≤ 3 by decide)
  have hz : ztOK D (some ⟨0, 0, none⟩) := Or.inl rfl
  have hQ : ∀ b, b ≤ min D.n 4 → b ≤ 4 := fun b h => by omega
  have hfix : ∀ k, k < 64 → Ev.look [(73, 328), (77, 304)] k = k := by decide
  have hidx : (0 : Int) ≤ 3 ∧ (3 : Int) < Int.ofNat D.fp.n := ⟨by decide, by show (3 : Int) < ((D.n : Nat) : Int); omega⟩
  refine foB3 D.PV D.WD D.KD D.fp (fun b => b ≤ min D.n 4) (withinS D.cl 1 3 - 1) J hE (fm_ok ok hz _ hQ) ⟨rfl, ⟨(), (by show 4 ≤ min D.n 4; omega), (by show 4 - 4 < 4 - 3; decide), rfl, ?_⟩, FD.nodes ok (i := 3) (by decide), FD.read_ts D (i := 3) hn, hidx, rfl, ok.tc 3, by decide, by omega, by omega, i64_id rfl (by show -9223372036854775808 ≤ withinS D.cl 1 3 - 1; omega) (by show withinS D.cl 1 3 - 1 ≤ 9223372036854775807; omega), FD.read_tc D (i := 3) hn, hidx, congrArg Value.bool (decide_eq_true (by show (3 : Int) < ((D.n : Nat) : Int); omega)), trivial⟩ fun zz _ _ => hJ
  rw [hv_fix ok hz _ hfix]
  have hW : D.WD (D.fp.ts 3) D.fp.dim = D.fp.W 3 := FD.WD_ts ok (i := 3) (by decide)
  have hK : D.KD (D.fp.ts 3) D.fp.dim = D.fp.l 3 := FD.KD_ts ok (i := 3) (by decide)
  rw [hW, hK]
  rfl

theorem rnw (f : Nat → Nat) (l : List Int) : Blk.rnB f (.vec (eWord.row l) 83 1) = .vec (eWord.row l) 83 1 := Blk.plain.rnB (b := .vec (eWord.row l) 83 1) (Elt.row_pl _) f
theorem loop2 {D : FD} (ok : D.OK) {zt : Option Addr} (hz : ztOK D zt) {E : Env} (hE : EnvOK E Try.prog Try.f27 1 64 (D.fp.ret (min D.n 4)) (tns 100 (min D.n 4)) (D.fp.tbs 100 (min D.n 4))) : Sat E (atLp (lp Try.f27 1)) ((fm D.fp zt (fun b => b ≤ min D.n 4)).st 0 ()) := by
  refine by_loop (fm D.fp zt (fun b => b ≤ min D.n 4)) (lp Try.f27 1) (fun b u hinv J hJ => ?_) 0 () (Nat.zero_le _)
  have hinv : b ≤ min D.n 4 := hinv
  by_cases hb : b < min D.n 4
  · obtain rfl : zt = some ⟨0, 0, none⟩ := by
      rcases hz with h | ⟨_, h⟩
      · exact h
      · omega
    have hJ' := hJ (b + 1) () (show b + 1 ≤ min D.n 4 by omega) (show 4 - (b + 1) < 4 - b by omega)
    match b, hb, hJ' with
    | 0, hb, hJ' => exact body0 ok hE hb J hJ'
    | 1, hb, hJ' => exact body1 ok hE hb J hJ'
    | 2, hb, hJ' => exact body2 ok hE hb J hJ'
    | 3, hb, hJ' => exact body3 ok hE hb J hJ'
    | b + 4, hb, _ => omega
  · have hbe : b = min D.n 4 := by omega
    have hf : ∀ j : Nat, D.n = j → Value.bool (decide ((j : Int) < ((D.fp.n : Nat) : Int))) = .bool false := fun j h => congrArg _ (decide_eq_false (by show ¬ ((j : Int) < ((D.n : Nat) : Int)); omega))
    rw [← hbe] at hE
    clear hJ
    match b, hbe, hE with
    | 0, h, hE => exact foX0 D.PV D.WD D.KD D.fp zt _ J hE ⟨⟨rfl, rfl⟩, hf 0 (by omega), trivial⟩
    | 1, h, hE => exact foX1 D.PV D.WD D.KD D.fp zt _ J hE ⟨⟨rfl, by simp only [FP.tbs, FP.nds, List.nil_append, List.cons_append, List.map_cons, List.map_nil, rnw]; rfl⟩, hf 1 (by omega), trivial⟩
    | 2, h, hE => exact foX2 D.PV D.WD D.KD D.fp zt _ J hE ⟨⟨rfl, by simp only [FP.tbs, FP.nds, List.nil_append, List.cons_append, List.map_cons, List.map_nil, rnw]; rfl⟩, hf 2 (by omega), trivial⟩
    | 3, h, hE => exact foX3 D.PV D.WD D.KD D.fp zt _ J hE ⟨⟨rfl, by simp only [FP.tbs, FP.nds, List.nil_append, List.cons_append, List.map_cons, List.map_nil, rnw]; rfl⟩, hf 3 (by omega), trivial⟩
    | 4, h, hE =>
      by_cases h4 : D.n = 4
      · exact foX4 D.PV D.WD D.KD D.fp zt _ J hE ⟨⟨rfl, by simp only [FP.tbs, FP.nds, List.nil_append, List.cons_append, List.map_cons, List.map_nil, rnw]; rfl⟩, hf 4 h4, trivial⟩
      · exact foY4 D.PV D.WD D.KD D.fp zt _ J hE ⟨⟨rfl, by simp only [FP.tbs, FP.nds, List.nil_append, List.cons_append, List.map_cons, List.map_nil, rnw]; rfl⟩, congrArg _ (decide_eq_true (by show ((4 : Nat) : Int) < ((D.n : Nat) : Int); omega)), trivial⟩
    | b + 5, h, _ => omega

theorem model_spec {D : FD} (ok : D.OK) {zt : Option Addr} (hz : ztOK D zt) :
    CallSpec Try.prog 27 [.agg ⟨D.fp.fcs zt⟩] (roRows [D.fp.cs0, D.fp.R 1, D.fp.R 2, D.fp.R 3, D.fp.R 4, D.fp.R 5, D.fp.R 6, D.fp.R 7, D.fp.R 8, D.fp.R 9, D.fp.R 10, D.fp.R 11, D.fp.R 12, D.fp.R 13, D.fp.R 14, D.fp.R 15, D.fp.R 16, D.fp.R 17]) 64 (D.fp.ret (min D.n 4)) (assocN (tns 100 (min D.n 4)) (D.fp.tbs 100 (min D.n 4))) := by
  refine spec_of_sat Try.func27 rfl fun E hE => ?_
  have hcl := within_range D.cl (show (1 : Int) ≤ 3 by decide)
  have h3 : withinS D.cl 1 3 = 1 ∨ withinS D.cl 1 3 = 2 ∨ withinS D.cl 1 3 = 3 := by omega
  rcases h3 with hk | hk | hk
  · have c1 : withinS D.cl 1 3 = 1 := hk
    have hb : ∀ i : Nat, i < 1 → D.bias i = withinS (pickI (D.rw 1).l i) (-500) 500 := fun i hi => if_pos (by rw [c1]; omega)
    have hb0 : ∀ i : Nat, 1 ≤ i → D.bias i = 0 := fun i hi => if_neg (by rw [c1]; omega)
    refine foIn1 D.PV D.WD D.KD D.fp zt (fun b => b ≤ min D.n 4) hE (fm_ok ok hz _ fun b h => by omega) ⟨rfl, ⟨(), Nat.zero_le _, trivial, rfl, ?_⟩, pick_i64 (FD.good64 ok 1) _, by decide, by decide, by decide, FD.pick ok (i := 0) (by decide), congrArg _ c1, ok.cl, by decide, by decide, by decide, rfl, ok.d, by decide, by decide, by decide, trivial⟩ fun zz _ _ => loop2 ok hz hE
    rw [hv_fix ok hz _ (by decide)]
    have e0 : D.fp.b0 = withinS (pickI (D.rw 1).l 0) (-500) 500 := hb 0 (by decide)
    have e1 : D.fp.b1 = 0 := hb0 1 (by decide)
    have e2 : D.fp.b2 = 0 := hb0 2 (by decide)
    have e3 : D.fp.cls = 1 := c1
    simp only [FP.mcs, e0, e1, e2, e3]
    rfl
  · have c2 : withinS D.cl 1 3 = 2 := hk
    have hb : ∀ i : Nat, i < 2 → D.bias i = withinS (pickI (D.rw 1).l i) (-500) 500 := fun i hi => if_pos (by rw [c2]; omega)
    have hb0 : ∀ i : Nat, 2 ≤ i → D.bias i = 0 := fun i hi => if_neg (by rw [c2]; omega)
    refine foIn2 D.PV D.WD D.KD D.fp zt (fun b => b ≤ min D.n 4) hE (fm_ok ok hz _ fun b h => by omega) ⟨rfl, ⟨(), Nat.zero_le _, trivial, rfl, ?_⟩, pick_i64 (FD.good64 ok 1) _, by decide, by decide, by decide, FD.pick ok (i := 1) (by decide), pick_i64 (FD.good64 ok 1) _, by decide, by decide, by decide, FD.pick ok (i := 0) (by decide), congrArg _ c2, ok.cl, by decide, by decide, by decide, rfl, ok.d, by decide, by decide, by decide, trivial⟩ fun zz _ _ => loop2 ok hz hE
    rw [hv_fix ok hz _ (by decide)]
    have e0 : D.fp.b0 = withinS (pickI (D.rw 1).l 0) (-500) 500 := hb 0 (by decide)
    have e1 : D.fp.b1 = withinS (pickI (D.rw 1).l 1) (-500) 500 := hb 1 (by decide)
    have e2 : D.fp.b2 = 0 := hb0 2 (by decide)
    have e3 : D.fp.cls = 2 := c2
    simp only [FP.mcs, e0, e1, e2, e3]
    rfl
  · have c3 : withinS D.cl 1 3 = 3 := hk
    have hb : ∀ i : Nat, i < 3 → D.bias i = withinS (pickI (D.rw 1).l i) (-500) 500 := fun i hi => if_pos (by rw [c3]; omega)
    have hb0 : ∀ i : Nat, 3 ≤ i → D.bias i = 0 := fun i hi => if_neg (by rw [c3]; omega)
    refine foIn3 D.PV D.WD D.KD D.fp zt (fun b => b ≤ min D.n 4) hE (fm_ok ok hz _ fun b h => by omega) ⟨rfl, ⟨(), Nat.zero_le _, trivial, rfl, ?_⟩, pick_i64 (FD.good64 ok 1) _, by decide, by decide, by decide, FD.pick ok (i := 2) (by decide), pick_i64 (FD.good64 ok 1) _, by decide, by decide, by decide, FD.pick ok (i := 1) (by decide), pick_i64 (FD.good64 ok 1) _, by decide, by decide, by decide, FD.pick ok (i := 0) (by decide), congrArg _ c3, ok.cl, by decide, by decide, by decide, rfl, ok.d, by decide, by decide, by decide, trivial⟩ fun zz _ _ => loop2 ok hz hE
    rw [hv_fix ok hz _ (by decide)]
    have e0 : D.fp.b0 = withinS (pickI (D.rw 1).l 0) (-500) 500 := hb 0 (by decide)
    have e1 : D.fp.b1 = withinS (pickI (D.rw 1).l 1) (-500) 500 := hb 1 (by decide)
    have e2 : D.fp.b2 = withinS (pickI (D.rw 1).l 2) (-500) 500 := hb 2 (by decide)
    have e3 : D.fp.cls = 3 := c3
    simp only [FP.mcs, e0, e1, e2, e3]
    rfl
end Go.Proofs.Ythbaccmhdffjdaa.Fo


set_option linter.unusedVariables false
set_option linter.unusedSimpArgs false
set_option maxRecDepth 100000
namespace Go.Proofs.Ythbaccmhdffjdaa.Fo
open Go Go.RowKit Go.Proofs.Ythbaccmhdffjdaa.Ev Go.Proofs.Ythbaccmhdffjdaa.NodeE Go.Proofs.Ythbaccmhdffjdaa.Within Go.Proofs.Ythbaccmhdffjdaa.PickE Go.Proofs.Ythbaccmhdffjdaa.Tn Go.Proofs.Ythbaccmhdffjdaa.Fo

def FP.nus (p : FP) (q : Nat) : Nat → List (Nat × Option Blk)
  | 0 => []
  | b + 1 => p.nus q b ++ [(q + b, some (.vec (eWord.row (p.W b)) 83 1))]
def FP.mus (p : FP) (nm : Nat) : Nat → List (Nat × Option Blk)
  | 0 => []
  | b + 1 => (nm, some (.vec (p.tcs (nm + 1) (b + 1)) 47 2)) :: p.nus (nm + 1) (b + 1)
def FD.rowc (D : FD) : Nat → List Value
  | 0 => D.fp.cs0
  | k + 1 => D.fp.R (k + 1)
def ModOK (p : FP) (K : Nat) (xs : List Value) (vw : List (Option Blk)) : Prop :=
  ∃ (D : FD) (zt : Option Addr), D.OK ∧ ztOK D zt ∧ xs = [.agg ⟨D.fp.fcs zt⟩] ∧ p = D.fp ∧ K = min D.n 4 ∧ ∀ k, k < 18 → ∃ b, vw.getD k none = some b ∧ b.row = some (D.rowc k)
def model_F (p : FP) (K : Nat) : List Value → Heap → Nat → Option Res := fun xs H nm =>
  some ⟨.agg ⟨p.mcs nm K⟩, p.mus nm K, [0, 1, 2, 3, 4, 5, 6, 7, 8, 9, 10, 11, 12, 13, 14, 15, 16, 17], [ModOK p K xs [H 0, H 1, H 2, H 3, H 4, H 5, H 6, H 7, H 8, H 9, H 10, H 11, H 12, H 13, H 14, H 15, H 16, H 17]]⟩
theorem vw18_get (H : Heap) {k : Nat} (hk : k < 18) : ([H 0, H 1, H 2, H 3, H 4, H 5, H 6, H 7, H 8, H 9, H 10, H 11, H 12, H 13, H 14, H 15, H 16, H 17] : List (Option Blk)).getD k none = H k := by
  match k, hk with
  | 0, _ | 1, _ | 2, _ | 3, _ | 4, _ | 5, _ | 6, _ | 7, _ | 8, _ | 9, _ | 10, _ | 11, _ | 12, _ | 13, _ | 14, _ | 15, _ | 16, _ | 17, _ => rfl
  | k + 18, h => omega
theorem look_idP : ∀ (L : List Nat) (k : Nat), Ev.look (idP L) k = k
  | [], k => rfl
  | a :: L, k => by
    simp only [idP, Ev.look]
    cases h : Nat.beq k a
    · exact look_idP L k
    · exact (Nat.eq_of_beq_eq_true h).symm
theorem rows_get (D : FD) {k : Nat} (hk : k < 18) : roRows [D.fp.cs0, D.fp.R 1, D.fp.R 2, D.fp.R 3, D.fp.R 4, D.fp.R 5, D.fp.R 6, D.fp.R 7, D.fp.R 8, D.fp.R 9, D.fp.R 10, D.fp.R 11, D.fp.R 12, D.fp.R 13, D.fp.R 14, D.fp.R 15, D.fp.R 16, D.fp.R 17] k = some (.ro (D.rowc k)) := by
  match k, hk with
  | 0, _ | 1, _ | 2, _ | 3, _ | 4, _ | 5, _ | 6, _ | 7, _ | 8, _ | 9, _ | 10, _ | 11, _ | 12, _ | 13, _ | 14, _ | 15, _ | 16, _ | 17, _ => rfl
  | k + 18, h => omega
theorem rows_lt (D : FD) {k : Nat} {b : Blk} (h : roRows [D.fp.cs0, D.fp.R 1, D.fp.R 2, D.fp.R 3, D.fp.R 4, D.fp.R 5, D.fp.R 6, D.fp.R 7, D.fp.R 8, D.fp.R 9, D.fp.R 10, D.fp.R 11, D.fp.R 12, D.fp.R 13, D.fp.R 14, D.fp.R 15, D.fp.R 16, D.fp.R 17] k = some b) : k < 18 := by
  apply Classical.byContradiction
  intro hk
  have : ([D.fp.cs0, D.fp.R 1, D.fp.R 2, D.fp.R 3, D.fp.R 4, D.fp.R 5, D.fp.R 6, D.fp.R 7, D.fp.R 8, D.fp.R 9, D.fp.R 10, D.fp.R 11, D.fp.R 12, D.fp.R 13, D.fp.R 14, D.fp.R 15, D.fp.R 16, D.fp.R 17] : List (List Value))[k]? = none := List.getElem?_eq_none (by simpa using hk)
  unfold roRows at h
  rw [this] at h
  simp at h
theorem z1_nm {D : FD} (ok : D.OK) {m c : Nat} : ∀ j ∈ nm0 (.slice (D.z 1) m c), j = 1 := by
  intro j hj
  unfold FD.z Rw.wz at hj
  rw [ok.a1] at hj
  cases h : (D.rw 1).z <;> rw [h] at hj <;> simp [nm0] at hj
  exact hj
/-- The names that a forest's cells hold beside the rows'. -/
def FD.hn (D : FD) : List Nat := (List.range' 18 46).filter fun k => decide (k ∈ nmL nm0 D.fp.cs0)
def FD.L (D : FD) : List Nat := [0, 1, 2, 3, 4, 5, 6, 7, 8, 9, 10, 11, 12, 13, 14, 15, 16, 17] ++ D.hn
theorem mem18 {D : FD} {k : Nat} (h : k < 18) : k ∈ D.L := by
  refine List.mem_append_left _ ?_
  match k, h with
  | 0, _ | 1, _ | 2, _ | 3, _ | 4, _ | 5, _ | 6, _ | 7, _ | 8, _ | 9, _ | 10, _ | 11, _ | 12, _ | 13, _ | 14, _ | 15, _ | 16, _ | 17, _ => simp
  | k + 18, h => omega
theorem memL {D : FD} (ok : D.OK) {k : Nat} (h : k ∈ nmL nm0 D.fp.cs0) : k ∈ D.L := by
  by_cases h18 : k < 18
  · exact mem18 h18
  · obtain ⟨c, hc, hk⟩ := mem_nmL' h
    have h64 := FD.cs_nm ok (min D.n 4) (by omega) c hc k hk
    refine List.mem_append_right _ (List.mem_filter.2 ⟨?_, by simpa using h⟩)
    rw [List.mem_range'_1]
    omega
theorem ltL {D : FD} {k : Nat} (h : k ∈ D.L) : k < 64 ∧ (k < 18 ∨ k ∈ nmL nm0 D.fp.cs0) := by
  rcases List.mem_append.1 h with h | h
  · have : ∀ k ∈ [0, 1, 2, 3, 4, 5, 6, 7, 8, 9, 10, 11, 12, 13, 14, 15, 16, 17], k < 18 := by decide
    have := this k h
    omega
  · obtain ⟨h1, h2⟩ := List.mem_filter.1 h
    rw [List.mem_range'_1] at h1
    exact ⟨by omega, Or.inr (by simpa using h2)⟩
theorem nodupL (D : FD) {ns : List Nat} (h : ns.Nodup) (hn : ∀ k ∈ ns, 64 ≤ k) : (D.L ++ ns).Nodup := by
  rw [List.nodup_append]
  refine ⟨?_, h, fun a ha b hb => ?_⟩
  · unfold FD.L
    rw [List.nodup_append]
    refine ⟨by decide, List.Nodup.sublist List.filter_sublist (List.nodup_range' ..), fun a ha b hb => ?_⟩
    have : ∀ k ∈ [0, 1, 2, 3, 4, 5, 6, 7, 8, 9, 10, 11, 12, 13, 14, 15, 16, 17], k < 18 := by decide
    have := this a ha
    obtain ⟨h1, h2⟩ := List.mem_filter.1 hb
    rw [List.mem_range'_1] at h1
    omega
  · have := (ltL ha).1
    have := hn b hb
    omega
theorem look_app {P : List (Nat × Nat)} : ∀ {L : List Nat} {k : Nat}, k ∉ L → Ev.look (idP L ++ P) k = Ev.look P k
  | [], k, _ => rfl
  | a :: L, k, h => by
    simp only [List.mem_cons, not_or] at h
    show (bif Nat.beq k a then a else Ev.look (idP L ++ P) k) = _
    rw [show Nat.beq k a = false from by cases e : Nat.beq k a; · rfl
                                         · exact absurd (Nat.eq_of_beq_eq_true e) h.1, look_app h.2]
    rfl
theorem look_new {D : FD} {P : List (Nat × Nat)} {k : Nat} (h : 64 ≤ k) : Ev.look (idP D.L ++ P) k = Ev.look P k := look_app fun h' => by have := (ltL h').1; omega
theorem row_nmB {b : Blk} {cs : List Value} (h : b.row = some cs) : b.nmB = nmL nm0 cs := by
  cases b <;> simp only [Blk.row, Option.some.injEq, reduceCtorEq] at h <;> subst h <;> rfl
theorem rowc_nm {D : FD} (ok : D.OK) (k : Nat) : ∀ c ∈ D.rowc k, ∀ i ∈ nm0 c, i ∈ D.L ∧ i < 64 := by
  intro c hc i hi
  cases k with
  | zero =>
    have := memL ok (mem_nmL hc hi)
    exact ⟨this, (ltL this).1⟩
  | succ k =>
    have hpl : ∀ c ∈ (D.rw (k + 1)).cs, leafG c = true := by
      cases hz : (D.rw (k + 1)).z with
      | false => rw [ok.none _ hz]; intro c hc; simp at hc
      | true => exact (ok.good _ hz).2.2
    rw [nm0_leafG (hpl c hc)] at hi
    simp at hi
theorem fcs_nm {D : FD} (ok : D.OK) {zt : Option Addr} (hz : ztOK D zt) : ∀ c ∈ D.fp.fcs zt, ∀ i ∈ nm0 c, i < 18 := by
  intro c hc k hk
  simp only [FP.fcs, List.mem_cons, List.not_mem_nil, or_false] at hc
  rcases hc with rfl | rfl | rfl | rfl
  · simp [nm0] at hk
  · simp [nm0] at hk
  · have := z1_nm ok k hk; omega
  · rcases hz with rfl | ⟨rfl, _⟩
    · simp [nm0] at hk; omega
    · simp [nm0] at hk
theorem tcs_rn (p : FP) (f : Nat → Nat) (q q' : Nat) : ∀ b, (∀ i, i < b → f (q + i) = q' + i) → mapL (rn0 f) (p.tcs q b) = p.tcs q' b := by
  have ha : ∀ a b : List Value, mapL (rn0 f) (a ++ b) = mapL (rn0 f) a ++ mapL (rn0 f) b := by
    intro a b
    induction a with
    | nil => rfl
    | cons v a ih => simp only [List.cons_append, mapL, ih]
  intro b
  induction b with
  | zero => intro _; rfl
  | succ b ih =>
    intro h
    simp only [FP.tcs, ha, ih fun i hi => h i (by omega), mapL, rn0, rnA, h b (by omega)]

theorem gs0 {D : FD} (ok : D.OK) {zt : Option Addr} (hz : ztOK D zt) (hK : min D.n 4 = 0) (H : Heap) (nm : Nat) (hvw : ∀ k, k < 18 → ∃ b, H k = some b ∧ b.row = some (D.rowc k)) (ob : List Prop) :
    Nonempty (GS Try.prog 27 [.agg ⟨D.fp.fcs zt⟩] H nm ⟨.agg ⟨D.fp.mcs nm 0⟩, D.fp.mus nm 0, [0, 1, 2, 3, 4, 5, 6, 7, 8, 9, 10, 11, 12, 13, 14, 15, 16, 17], ob⟩) := by
  have hspec := model_spec ok hz
  rw [hK] at hspec
  exact ⟨⟨[.agg ⟨D.fp.fcs zt⟩], roRows [D.fp.cs0, D.fp.R 1, D.fp.R 2, D.fp.R 3, D.fp.R 4, D.fp.R 5, D.fp.R 6, D.fp.R 7, D.fp.R 8, D.fp.R 9, D.fp.R 10, D.fp.R 11, D.fp.R 12, D.fp.R 13, D.fp.R 14, D.fp.R 15, D.fp.R 16, D.fp.R 17], 64, D.fp.ret 0, assocN (tns 100 0) (D.fp.tbs 100 0), idP D.L, toP (tns 100 0) nm, hspec, (by rw [List.map_append, idP_fst, toP_fst]; exact nodupL D (ns := []) (by decide) (by decide)), toP_snd _ _, fun j k h => by
    obtain ⟨rfl, hk⟩ := idP_mem.1 h
    refine ⟨(ltL hk).1, fun b0 hb0 => ?_⟩
    have hk := rows_lt D hb0
    rw [rows_get D hk] at hb0
    obtain ⟨b, h1, h2⟩ := hvw j hk
    exact ⟨b, D.rowc j, h1, by rw [h2, mapL_fix fun c _ i _ => look_idP _ i], (Option.some.inj hb0).symm, fun c hc i hi => ⟨i, idP_mem.2 ⟨rfl, (rowc_nm ok j c hc i hi).1⟩⟩⟩,
  fun j k h => by
    obtain ⟨rfl, hk⟩ := idP_mem.1 h
    rcases (ltL hk).2 with h | h
    · obtain ⟨b, h1, _⟩ := hvw j h
      exact Or.inl ⟨b, h1⟩
    · obtain ⟨b, h1, h2⟩ := hvw 0 (by decide)
      exact Or.inr (Or.inr ⟨0, b, h1, by rw [row_nmB h2]; exact h⟩),
  fun j b hb => ⟨j, idP_mem.2 ⟨rfl, mem18 (rows_lt D hb)⟩⟩,
  fun m k h => by simp [tns, toP] at h,
  fun j hj => by
    simp [FP.ret, nms, nm1, FP.mcs, nmL, nm0, tsl] at hj,
  fun u hu j hj => by
    simp only [List.mem_cons, List.not_mem_nil, or_false] at hu
    subst hu
    obtain ⟨c, hc, hj⟩ := mem_nmL' (f := nm0) (show j ∈ nmL nm0 (D.fp.fcs zt) from hj)
    exact ⟨j, idP_mem.2 ⟨rfl, mem18 (fcs_nm ok hz c hc j hj)⟩⟩,
  (by
    show _ = [Value.agg ⟨mapL (rn0 (Ev.look (idP D.L))) (D.fp.fcs zt)⟩]
    rw [mapL_fix fun c _ i _ => look_idP _ i]),
  rfl,
  rfl⟩⟩

theorem gs1 {D : FD} (ok : D.OK) {zt : Option Addr} (hz : ztOK D zt) (hK : min D.n 4 = 1) (H : Heap) (nm : Nat) (hvw : ∀ k, k < 18 → ∃ b, H k = some b ∧ b.row = some (D.rowc k)) (ob : List Prop) :
    Nonempty (GS Try.prog 27 [.agg ⟨D.fp.fcs zt⟩] H nm ⟨.agg ⟨D.fp.mcs nm 1⟩, D.fp.mus nm 1, [0, 1, 2, 3, 4, 5, 6, 7, 8, 9, 10, 11, 12, 13, 14, 15, 16, 17], ob⟩) := by
  have hspec := model_spec ok hz
  rw [hK] at hspec
  exact ⟨⟨[.agg ⟨D.fp.fcs zt⟩], roRows [D.fp.cs0, D.fp.R 1, D.fp.R 2, D.fp.R 3, D.fp.R 4, D.fp.R 5, D.fp.R 6, D.fp.R 7, D.fp.R 8, D.fp.R 9, D.fp.R 10, D.fp.R 11, D.fp.R 12, D.fp.R 13, D.fp.R 14, D.fp.R 15, D.fp.R 16, D.fp.R 17], 64, D.fp.ret 1, assocN (tns 100 1) (D.fp.tbs 100 1), idP D.L, toP (tns 100 1) nm, hspec, (by rw [List.map_append, idP_fst, toP_fst]; exact nodupL D (ns := [100, 101]) (by decide) (by decide)), toP_snd _ _, fun j k h => by
    obtain ⟨rfl, hk⟩ := idP_mem.1 h
    refine ⟨(ltL hk).1, fun b0 hb0 => ?_⟩
    have hk := rows_lt D hb0
    rw [rows_get D hk] at hb0
    obtain ⟨b, h1, h2⟩ := hvw j hk
    exact ⟨b, D.rowc j, h1, by rw [h2, mapL_fix fun c _ i _ => look_idP _ i], (Option.some.inj hb0).symm, fun c hc i hi => ⟨i, idP_mem.2 ⟨rfl, (rowc_nm ok j c hc i hi).1⟩⟩⟩,
  fun j k h => by
    obtain ⟨rfl, hk⟩ := idP_mem.1 h
    rcases (ltL hk).2 with h | h
    · obtain ⟨b, h1, _⟩ := hvw j h
      exact Or.inl ⟨b, h1⟩
    · obtain ⟨b, h1, h2⟩ := hvw 0 (by decide)
      exact Or.inr (Or.inr ⟨0, b, h1, by rw [row_nmB h2]; exact h⟩),
  fun j b hb => ⟨j, idP_mem.2 ⟨rfl, mem18 (rows_lt D hb)⟩⟩,
  fun m k h => by
    have h : (m, k) ∈ ([(100, nm), (101, nm + 1)] : List (Nat × Nat)) := h
    simp only [List.mem_cons, List.not_mem_nil, or_false, Prod.mk.injEq] at h
    rcases h with ⟨rfl, he⟩ | ⟨rfl, he⟩
    · rw [he]
      refine ⟨⟨by omega, by omega⟩, _, rfl, rfl, trivial, fun cs hcs c hc j hj => ?_⟩
      obtain rfl : D.fp.tcs 101 1 = cs := Option.some.inj hcs
      have := tcs_names D.fp 101 1 c hc j hj
      have h5 : j = 101 := by omega
      rcases h5 with rfl
      · exact ⟨nm + 1, List.mem_append_right _ (by show (101, nm + 1) ∈ ([(100, nm), (101, nm + 1)] : List (Nat × Nat)); simp)⟩
    · rw [he]
      refine ⟨⟨by omega, by omega⟩, _, rfl, rfl, trivial, fun cs hcs c hc j hj => ?_⟩
      obtain rfl : eWord.row (D.fp.W 0) = cs := Option.some.inj hcs
      rw [nm0_leafG (Elt.row_pl _ c hc)] at hj
      simp at hj,
  fun j hj => by
    simp only [FP.ret, nms, nm1, FP.mcs, nmL, nm0, tsl, List.append_nil, List.nil_append, List.mem_cons, List.not_mem_nil, or_false] at hj
    subst hj; exact ⟨nm, List.mem_append_right _ (by simp [tns, toP])⟩,
  fun u hu j hj => by
    simp only [List.mem_cons, List.not_mem_nil, or_false] at hu
    subst hu
    obtain ⟨c, hc, hj⟩ := mem_nmL' (f := nm0) (show j ∈ nmL nm0 (D.fp.fcs zt) from hj)
    exact ⟨j, idP_mem.2 ⟨rfl, mem18 (fcs_nm ok hz c hc j hj)⟩⟩,
  (by
    show _ = [Value.agg ⟨mapL (rn0 (Ev.look (idP D.L))) (D.fp.fcs zt)⟩]
    rw [mapL_fix fun c _ i _ => look_idP _ i]),
  by
    show Value.agg ⟨D.fp.mcs nm 1⟩ = .agg ⟨[_, _, _, _, _, .slice (some ⟨(Ev.look (idP D.L ++ toP (tns 100 1) nm)) 100, 0, none⟩) 1 mk]⟩
    rw [show (Ev.look (idP D.L ++ toP (tns 100 1) nm)) 100 = nm from look_new (by decide)]
    rfl,
  by
    show _ = [(nm, some (Blk.rnB (Ev.look (idP D.L ++ toP (tns 100 1) nm)) (.vec (D.fp.tcs 101 1) 47 2))), (nm + 1, some (Blk.rnB (Ev.look (idP D.L ++ toP (tns 100 1) nm)) (.vec (eWord.row (D.fp.W 0)) 83 1)))]
    rw [show Blk.rnB (Ev.look (idP D.L ++ toP (tns 100 1) nm)) (.vec (D.fp.tcs 101 1) 47 2) = .vec (D.fp.tcs (nm + 1) 1) 47 2 from congrArg (fun c => Blk.vec c 47 2) (tcs_rn _ _ _ _ _ fun i hi => ?_)]
    · simp only [rnw]
      rfl
    · have h5 : i = 0 := by omega
      rcases h5 with rfl <;> exact look_new (by decide)⟩⟩

theorem gs2 {D : FD} (ok : D.OK) {zt : Option Addr} (hz : ztOK D zt) (hK : min D.n 4 = 2) (H : Heap) (nm : Nat) (hvw : ∀ k, k < 18 → ∃ b, H k = some b ∧ b.row = some (D.rowc k)) (ob : List Prop) :
    Nonempty (GS Try.prog 27 [.agg ⟨D.fp.fcs zt⟩] H nm ⟨.agg ⟨D.fp.mcs nm 2⟩, D.fp.mus nm 2, [0, 1, 2, 3, 4, 5, 6, 7, 8, 9, 10, 11, 12, 13, 14, 15, 16, 17], ob⟩) := by
  have hspec := model_spec ok hz
  rw [hK] at hspec
  exact ⟨⟨[.agg ⟨D.fp.fcs zt⟩], roRows [D.fp.cs0, D.fp.R 1, D.fp.R 2, D.fp.R 3, D.fp.R 4, D.fp.R 5, D.fp.R 6, D.fp.R 7, D.fp.R 8, D.fp.R 9, D.fp.R 10, D.fp.R 11, D.fp.R 12, D.fp.R 13, D.fp.R 14, D.fp.R 15, D.fp.R 16, D.fp.R 17], 64, D.fp.ret 2, assocN (tns 100 2) (D.fp.tbs 100 2), idP D.L, toP (tns 100 2) nm, hspec, (by rw [List.map_append, idP_fst, toP_fst]; exact nodupL D (ns := [100, 101, 102]) (by decide) (by decide)), toP_snd _ _, fun j k h => by
    obtain ⟨rfl, hk⟩ := idP_mem.1 h
    refine ⟨(ltL hk).1, fun b0 hb0 => ?_⟩
    have hk := rows_lt D hb0
    rw [rows_get D hk] at hb0
    obtain ⟨b, h1, h2⟩ := hvw j hk
    exact ⟨b, D.rowc j, h1, by rw [h2, mapL_fix fun c _ i _ => look_idP _ i], (Option.some.inj hb0).symm, fun c hc i hi => ⟨i, idP_mem.2 ⟨rfl, (rowc_nm ok j c hc i hi).1⟩⟩⟩,
  fun j k h => by
    obtain ⟨rfl, hk⟩ := idP_mem.1 h
    rcases (ltL hk).2 with h | h
    · obtain ⟨b, h1, _⟩ := hvw j h
      exact Or.inl ⟨b, h1⟩
    · obtain ⟨b, h1, h2⟩ := hvw 0 (by decide)
      exact Or.inr (Or.inr ⟨0, b, h1, by rw [row_nmB h2]; exact h⟩),
  fun j b hb => ⟨j, idP_mem.2 ⟨rfl, mem18 (rows_lt D hb)⟩⟩,
  fun m k h => by
    have h : (m, k) ∈ ([(100, nm), (101, nm + 1), (102, nm + 2)] : List (Nat × Nat)) := h
    simp only [List.mem_cons, List.not_mem_nil, or_false, Prod.mk.injEq] at h
    rcases h with ⟨rfl, he⟩ | ⟨rfl, he⟩ | ⟨rfl, he⟩
    · rw [he]
      refine ⟨⟨by omega, by omega⟩, _, rfl, rfl, trivial, fun cs hcs c hc j hj => ?_⟩
      obtain rfl : D.fp.tcs 101 2 = cs := Option.some.inj hcs
      have := tcs_names D.fp 101 2 c hc j hj
      have h5 : j = 101 ∨ j = 102 := by omega
      rcases h5 with rfl | rfl
      · exact ⟨nm + 1, List.mem_append_right _ (by show (101, nm + 1) ∈ ([(100, nm), (101, nm + 1), (102, nm + 2)] : List (Nat × Nat)); simp)⟩
      · exact ⟨nm + 2, List.mem_append_right _ (by show (102, nm + 2) ∈ ([(100, nm), (101, nm + 1), (102, nm + 2)] : List (Nat × Nat)); simp)⟩
    · rw [he]
      refine ⟨⟨by omega, by omega⟩, _, rfl, rfl, trivial, fun cs hcs c hc j hj => ?_⟩
      obtain rfl : eWord.row (D.fp.W 0) = cs := Option.some.inj hcs
      rw [nm0_leafG (Elt.row_pl _ c hc)] at hj
      simp at hj
    · rw [he]
      refine ⟨⟨by omega, by omega⟩, _, rfl, rfl, trivial, fun cs hcs c hc j hj => ?_⟩
      obtain rfl : eWord.row (D.fp.W 1) = cs := Option.some.inj hcs
      rw [nm0_leafG (Elt.row_pl _ c hc)] at hj
      simp at hj,
  fun j hj => by
    simp only [FP.ret, nms, nm1, FP.mcs, nmL, nm0, tsl, List.append_nil, List.nil_append, List.mem_cons, List.not_mem_nil, or_false] at hj
    subst hj; exact ⟨nm, List.mem_append_right _ (by simp [tns, toP])⟩,
  fun u hu j hj => by
    simp only [List.mem_cons, List.not_mem_nil, or_false] at hu
    subst hu
    obtain ⟨c, hc, hj⟩ := mem_nmL' (f := nm0) (show j ∈ nmL nm0 (D.fp.fcs zt) from hj)
    exact ⟨j, idP_mem.2 ⟨rfl, mem18 (fcs_nm ok hz c hc j hj)⟩⟩,
  (by
    show _ = [Value.agg ⟨mapL (rn0 (Ev.look (idP D.L))) (D.fp.fcs zt)⟩]
    rw [mapL_fix fun c _ i _ => look_idP _ i]),
  by
    show Value.agg ⟨D.fp.mcs nm 2⟩ = .agg ⟨[_, _, _, _, _, .slice (some ⟨(Ev.look (idP D.L ++ toP (tns 100 2) nm)) 100, 0, none⟩) 2 mk]⟩
    rw [show (Ev.look (idP D.L ++ toP (tns 100 2) nm)) 100 = nm from look_new (by decide)]
    rfl,
  by
    show _ = [(nm, some (Blk.rnB (Ev.look (idP D.L ++ toP (tns 100 2) nm)) (.vec (D.fp.tcs 101 2) 47 2))), (nm + 1, some (Blk.rnB (Ev.look (idP D.L ++ toP (tns 100 2) nm)) (.vec (eWord.row (D.fp.W 0)) 83 1))), (nm + 1 + 1, some (Blk.rnB (Ev.look (idP D.L ++ toP (tns 100 2) nm)) (.vec (eWord.row (D.fp.W 1)) 83 1)))]
    rw [show Blk.rnB (Ev.look (idP D.L ++ toP (tns 100 2) nm)) (.vec (D.fp.tcs 101 2) 47 2) = .vec (D.fp.tcs (nm + 1) 2) 47 2 from congrArg (fun c => Blk.vec c 47 2) (tcs_rn _ _ _ _ _ fun i hi => ?_)]
    · simp only [rnw]
      rfl
    · have h5 : i = 0 ∨ i = 1 := by omega
      rcases h5 with rfl | rfl <;> exact look_new (by decide)⟩⟩

theorem gs3 {D : FD} (ok : D.OK) {zt : Option Addr} (hz : ztOK D zt) (hK : min D.n 4 = 3) (H : Heap) (nm : Nat) (hvw : ∀ k, k < 18 → ∃ b, H k = some b ∧ b.row = some (D.rowc k)) (ob : List Prop) :
    Nonempty (GS Try.prog 27 [.agg ⟨D.fp.fcs zt⟩] H nm ⟨.agg ⟨D.fp.mcs nm 3⟩, D.fp.mus nm 3, [0, 1, 2, 3, 4, 5, 6, 7, 8, 9, 10, 11, 12, 13, 14, 15, 16, 17], ob⟩) := by
  have hspec := model_spec ok hz
  rw [hK] at hspec
  exact ⟨⟨[.agg ⟨D.fp.fcs zt⟩], roRows [D.fp.cs0, D.fp.R 1, D.fp.R 2, D.fp.R 3, D.fp.R 4, D.fp.R 5, D.fp.R 6, D.fp.R 7, D.fp.R 8, D.fp.R 9, D.fp.R 10, D.fp.R 11, D.fp.R 12, D.fp.R 13, D.fp.R 14, D.fp.R 15, D.fp.R 16, D.fp.R 17], 64, D.fp.ret 3, assocN (tns 100 3) (D.fp.tbs 100 3), idP D.L, toP (tns 100 3) nm, hspec, (by rw [List.map_append, idP_fst, toP_fst]; exact nodupL D (ns := [100, 101, 102, 103]) (by decide) (by decide)), toP_snd _ _, fun j k h => by
    obtain ⟨rfl, hk⟩ := idP_mem.1 h
    refine ⟨(ltL hk).1, fun b0 hb0 => ?_⟩
    have hk := rows_lt D hb0
    rw [rows_get D hk] at hb0
    obtain ⟨b, h1, h2⟩ := hvw j hk
    exact ⟨b, D.rowc j, h1, by rw [h2, mapL_fix fun c _ i _ => look_idP _ i], (Option.some.inj hb0).symm, fun c hc i hi => ⟨i, idP_mem.2 ⟨rfl, (rowc_nm ok j c hc i hi).1⟩⟩⟩,
  fun j k h => by
    obtain ⟨rfl, hk⟩ := idP_mem.1 h
    rcases (ltL hk).2 with h | h
    · obtain ⟨b, h1, _⟩ := hvw j h
      exact Or.inl ⟨b, h1⟩
    · obtain ⟨b, h1, h2⟩ := hvw 0 (by decide)
      exact Or.inr (Or.inr ⟨0, b, h1, by rw [row_nmB h2]; exact h⟩),
  fun j b hb => ⟨j, idP_mem.2 ⟨rfl, mem18 (rows_lt D hb)⟩⟩,
  fun m k h => by
    have h : (m, k) ∈ ([(100, nm), (101, nm + 1), (102, nm + 2), (103, nm + 3)] : List (Nat × Nat)) := h
    simp only [List.mem_cons, List.not_mem_nil, or_false, Prod.mk.injEq] at h
    rcases h with ⟨rfl, he⟩ | ⟨rfl, he⟩ | ⟨rfl, he⟩ | ⟨rfl, he⟩
    · rw [he]
      refine ⟨⟨by omega, by omega⟩, _, rfl, rfl, trivial, fun cs hcs c hc j hj => ?_⟩
      obtain rfl : D.fp.tcs 101 3 = cs := Option.some.inj hcs
      have := tcs_names D.fp 101 3 c hc j hj
      have h5 : j = 101 ∨ j = 102 ∨ j = 103 := by omega
      rcases h5 with rfl | rfl | rfl
      · exact ⟨nm + 1, List.mem_append_right _ (by show (101, nm + 1) ∈ ([(100, nm), (101, nm + 1), (102, nm + 2), (103, nm + 3)] : List (Nat × Nat)); simp)⟩
      · exact ⟨nm + 2, List.mem_append_right _ (by show (102, nm + 2) ∈ ([(100, nm), (101, nm + 1), (102, nm + 2), (103, nm + 3)] : List (Nat × Nat)); simp)⟩
      · exact ⟨nm + 3, List.mem_append_right _ (by show (103, nm + 3) ∈ ([(100, nm), (101, nm + 1), (102, nm + 2), (103, nm + 3)] : List (Nat × Nat)); simp)⟩
    · rw [he]
      refine ⟨⟨by omega, by omega⟩, _, rfl, rfl, trivial, fun cs hcs c hc j hj => ?_⟩
      obtain rfl : eWord.row (D.fp.W 0) = cs := Option.some.inj hcs
      rw [nm0_leafG (Elt.row_pl _ c hc)] at hj
      simp at hj
    · rw [he]
      refine ⟨⟨by omega, by omega⟩, _, rfl, rfl, trivial, fun cs hcs c hc j hj => ?_⟩
      obtain rfl : eWord.row (D.fp.W 1) = cs := Option.some.inj hcs
      rw [nm0_leafG (Elt.row_pl _ c hc)] at hj
      simp at hj
    · rw [he]
      refine ⟨⟨by omega, by omega⟩, _, rfl, rfl, trivial, fun cs hcs c hc j hj => ?_⟩
      obtain rfl : eWord.row (D.fp.W 2) = cs := Option.some.inj hcs
      rw [nm0_leafG (Elt.row_pl _ c hc)] at hj
      simp at hj,
  fun j hj => by
    simp only [FP.ret, nms, nm1, FP.mcs, nmL, nm0, tsl, List.append_nil, List.nil_append, List.mem_cons, List.not_mem_nil, or_false] at hj
    subst hj; exact ⟨nm, List.mem_append_right _ (by simp [tns, toP])⟩,
  fun u hu j hj => by
    simp only [List.mem_cons, List.not_mem_nil, or_false] at hu
    subst hu
    obtain ⟨c, hc, hj⟩ := mem_nmL' (f := nm0) (show j ∈ nmL nm0 (D.fp.fcs zt) from hj)
    exact ⟨j, idP_mem.2 ⟨rfl, mem18 (fcs_nm ok hz c hc j hj)⟩⟩,
  (by
    show _ = [Value.agg ⟨mapL (rn0 (Ev.look (idP D.L))) (D.fp.fcs zt)⟩]
    rw [mapL_fix fun c _ i _ => look_idP _ i]),
  by
    show Value.agg ⟨D.fp.mcs nm 3⟩ = .agg ⟨[_, _, _, _, _, .slice (some ⟨(Ev.look (idP D.L ++ toP (tns 100 3) nm)) 100, 0, none⟩) 3 mk]⟩
    rw [show (Ev.look (idP D.L ++ toP (tns 100 3) nm)) 100 = nm from look_new (by decide)]
    rfl,
  by
    show _ = [(nm, some (Blk.rnB (Ev.look (idP D.L ++ toP (tns 100 3) nm)) (.vec (D.fp.tcs 101 3) 47 2))), (nm + 1, some (Blk.rnB (Ev.look (idP D.L ++ toP (tns 100 3) nm)) (.vec (eWord.row (D.fp.W 0)) 83 1))), (nm + 1 + 1, some (Blk.rnB (Ev.look (idP D.L ++ toP (tns 100 3) nm)) (.vec (eWord.row (D.fp.W 1)) 83 1))), (nm + 1 + 1 + 1, some (Blk.rnB (Ev.look (idP D.L ++ toP (tns 100 3) nm)) (.vec (eWord.row (D.fp.W 2)) 83 1)))]
    rw [show Blk.rnB (Ev.look (idP D.L ++ toP (tns 100 3) nm)) (.vec (D.fp.tcs 101 3) 47 2) = .vec (D.fp.tcs (nm + 1) 3) 47 2 from congrArg (fun c => Blk.vec c 47 2) (tcs_rn _ _ _ _ _ fun i hi => ?_)]
    · simp only [rnw]
      rfl
    · have h5 : i = 0 ∨ i = 1 ∨ i = 2 := by omega
      rcases h5 with rfl | rfl | rfl <;> exact look_new (by decide)⟩⟩

theorem gs4 {D : FD} (ok : D.OK) {zt : Option Addr} (hz : ztOK D zt) (hK : min D.n 4 = 4) (H : Heap) (nm : Nat) (hvw : ∀ k, k < 18 → ∃ b, H k = some b ∧ b.row = some (D.rowc k)) (ob : List Prop) :
    Nonempty (GS Try.prog 27 [.agg ⟨D.fp.fcs zt⟩] H nm ⟨.agg ⟨D.fp.mcs nm 4⟩, D.fp.mus nm 4, [0, 1, 2, 3, 4, 5, 6, 7, 8, 9, 10, 11, 12, 13, 14, 15, 16, 17], ob⟩) := by
  have hspec := model_spec ok hz
  rw [hK] at hspec
  exact ⟨⟨[.agg ⟨D.fp.fcs zt⟩], roRows [D.fp.cs0, D.fp.R 1, D.fp.R 2, D.fp.R 3, D.fp.R 4, D.fp.R 5, D.fp.R 6, D.fp.R 7, D.fp.R 8, D.fp.R 9, D.fp.R 10, D.fp.R 11, D.fp.R 12, D.fp.R 13, D.fp.R 14, D.fp.R 15, D.fp.R 16, D.fp.R 17], 64, D.fp.ret 4, assocN (tns 100 4) (D.fp.tbs 100 4), idP D.L, toP (tns 100 4) nm, hspec, (by rw [List.map_append, idP_fst, toP_fst]; exact nodupL D (ns := [100, 101, 102, 103, 104]) (by decide) (by decide)), toP_snd _ _, fun j k h => by
    obtain ⟨rfl, hk⟩ := idP_mem.1 h
    refine ⟨(ltL hk).1, fun b0 hb0 => ?_⟩
    have hk := rows_lt D hb0
    rw [rows_get D hk] at hb0
    obtain ⟨b, h1, h2⟩ := hvw j hk
    exact ⟨b, D.rowc j, h1, by rw [h2, mapL_fix fun c _ i _ => look_idP _ i], (Option.some.inj hb0).symm, fun c hc i hi => ⟨i, idP_mem.2 ⟨rfl, (rowc_nm ok j c hc i hi).1⟩⟩⟩,
  fun j k h => by
    obtain ⟨rfl, hk⟩ := idP_mem.1 h
    rcases (ltL hk).2 with h | h
    · obtain ⟨b, h1, _⟩ := hvw j h
      exact Or.inl ⟨b, h1⟩
    · obtain ⟨b, h1, h2⟩ := hvw 0 (by decide)
      exact Or.inr (Or.inr ⟨0, b, h1, by rw [row_nmB h2]; exact h⟩),
  fun j b hb => ⟨j, idP_mem.2 ⟨rfl, mem18 (rows_lt D hb)⟩⟩,
  fun m k h => by
    have h : (m, k) ∈ ([(100, nm), (101, nm + 1), (102, nm + 2), (103, nm + 3), (104, nm + 4)] : List (Nat × Nat)) := h
    simp only [List.mem_cons, List.not_mem_nil, or_false, Prod.mk.injEq] at h
    rcases h with ⟨rfl, he⟩ | ⟨rfl, he⟩ | ⟨rfl, he⟩ | ⟨rfl, he⟩ | ⟨rfl, he⟩
    · rw [he]
      refine ⟨⟨by omega, by omega⟩, _, rfl, rfl, trivial, fun cs hcs c hc j hj => ?_⟩
      obtain rfl : D.fp.tcs 101 4 = cs := Option.some.inj hcs
      have := tcs_names D.fp 101 4 c hc j hj
      have h5 : j = 101 ∨ j = 102 ∨ j = 103 ∨ j = 104 := by omega
      rcases h5 with rfl | rfl | rfl | rfl
      · exact ⟨nm + 1, List.mem_append_right _ (by show (101, nm + 1) ∈ ([(100, nm), (101, nm + 1), (102, nm + 2), (103, nm + 3), (104, nm + 4)] : List (Nat × Nat)); simp)⟩
      · exact ⟨nm + 2, List.mem_append_right _ (by show (102, nm + 2) ∈ ([(100, nm), (101, nm + 1), (102, nm + 2), (103, nm + 3), (104, nm + 4)] : List (Nat × Nat)); simp)⟩
      · exact ⟨nm + 3, List.mem_append_right _ (by show (103, nm + 3) ∈ ([(100, nm), (101, nm + 1), (102, nm + 2), (103, nm + 3), (104, nm + 4)] : List (Nat × Nat)); simp)⟩
      · exact ⟨nm + 4, List.mem_append_right _ (by show (104, nm + 4) ∈ ([(100, nm), (101, nm + 1), (102, nm + 2), (103, nm + 3), (104, nm + 4)] : List (Nat × Nat)); simp)⟩
    · rw [he]
      refine ⟨⟨by omega, by omega⟩, _, rfl, rfl, trivial, fun cs hcs c hc j hj => ?_⟩
      obtain rfl : eWord.row (D.fp.W 0) = cs := Option.some.inj hcs
      rw [nm0_leafG (Elt.row_pl _ c hc)] at hj
      simp at hj
    · rw [he]
      refine ⟨⟨by omega, by omega⟩, _, rfl, rfl, trivial, fun cs hcs c hc j hj => ?_⟩
      obtain rfl : eWord.row (D.fp.W 1) = cs := Option.some.inj hcs
      rw [nm0_leafG (Elt.row_pl _ c hc)] at hj
      simp at hj
    · rw [he]
      refine ⟨⟨by omega, by omega⟩, _, rfl, rfl, trivial, fun cs hcs c hc j hj => ?_⟩
      obtain rfl : eWord.row (D.fp.W 2) = cs := Option.some.inj hcs
      rw [nm0_leafG (Elt.row_pl _ c hc)] at hj
      simp at hj
    · rw [he]
      refine ⟨⟨by omega, by omega⟩, _, rfl, rfl, trivial, fun cs hcs c hc j hj => ?_⟩
      obtain rfl : eWord.row (D.fp.W 3) = cs := Option.some.inj hcs
      rw [nm0_leafG (Elt.row_pl _ c hc)] at hj
      simp at hj,
  fun j hj => by
    simp only [FP.ret, nms, nm1, FP.mcs, nmL, nm0, tsl, List.append_nil, List.nil_append, List.mem_cons, List.not_mem_nil, or_false] at hj
    subst hj; exact ⟨nm, List.mem_append_right _ (by simp [tns, toP])⟩,
  fun u hu j hj => by
    simp only [List.mem_cons, List.not_mem_nil, or_false] at hu
    subst hu
    obtain ⟨c, hc, hj⟩ := mem_nmL' (f := nm0) (show j ∈ nmL nm0 (D.fp.fcs zt) from hj)
    exact ⟨j, idP_mem.2 ⟨rfl, mem18 (fcs_nm ok hz c hc j hj)⟩⟩,
  (by
    show _ = [Value.agg ⟨mapL (rn0 (Ev.look (idP D.L))) (D.fp.fcs zt)⟩]
    rw [mapL_fix fun c _ i _ => look_idP _ i]),
  by
    show Value.agg ⟨D.fp.mcs nm 4⟩ = .agg ⟨[_, _, _, _, _, .slice (some ⟨(Ev.look (idP D.L ++ toP (tns 100 4) nm)) 100, 0, none⟩) 4 mk]⟩
    rw [show (Ev.look (idP D.L ++ toP (tns 100 4) nm)) 100 = nm from look_new (by decide)]
    rfl,
  by
    show _ = [(nm, some (Blk.rnB (Ev.look (idP D.L ++ toP (tns 100 4) nm)) (.vec (D.fp.tcs 101 4) 47 2))), (nm + 1, some (Blk.rnB (Ev.look (idP D.L ++ toP (tns 100 4) nm)) (.vec (eWord.row (D.fp.W 0)) 83 1))), (nm + 1 + 1, some (Blk.rnB (Ev.look (idP D.L ++ toP (tns 100 4) nm)) (.vec (eWord.row (D.fp.W 1)) 83 1))), (nm + 1 + 1 + 1, some (Blk.rnB (Ev.look (idP D.L ++ toP (tns 100 4) nm)) (.vec (eWord.row (D.fp.W 2)) 83 1))), (nm + 1 + 1 + 1 + 1, some (Blk.rnB (Ev.look (idP D.L ++ toP (tns 100 4) nm)) (.vec (eWord.row (D.fp.W 3)) 83 1)))]
    rw [show Blk.rnB (Ev.look (idP D.L ++ toP (tns 100 4) nm)) (.vec (D.fp.tcs 101 4) 47 2) = .vec (D.fp.tcs (nm + 1) 4) 47 2 from congrArg (fun c => Blk.vec c 47 2) (tcs_rn _ _ _ _ _ fun i hi => ?_)]
    · simp only [rnw]
      rfl
    · have h5 : i = 0 ∨ i = 1 ∨ i = 2 ∨ i = 3 := by omega
      rcases h5 with rfl | rfl | rfl | rfl <;> exact look_new (by decide)⟩⟩

theorem model_sum (p : FP) (K : Nat) : SumOK Try.prog 27 (model_F p K) := by
  refine gen_sum (en Try.func27 rfl) (fun xs H nm r h hob => ?_) (fun xs H nm r h H' hH => ?_)
  · unfold model_F at h
    simp only [Option.some.injEq] at h
    subst h
    obtain ⟨D, zt, ok, hz, rfl, rfl, hK, hvw⟩ := hob _ (List.mem_cons_self ..)
    have hvw : ∀ k, k < 18 → ∃ b, H k = some b ∧ b.row = some (D.rowc k) := fun k hk => by
      have := hvw k hk
      rw [vw18_get H hk] at this
      exact this
    have h5 : K = 0 ∨ K = 1 ∨ K = 2 ∨ K = 3 ∨ K = 4 := by omega
    rcases h5 with rfl | rfl | rfl | rfl | rfl
    · exact gs0 ok hz hK.symm H nm hvw _
    · exact gs1 ok hz hK.symm H nm hvw _
    · exact gs2 ok hz hK.symm H nm hvw _
    · exact gs3 ok hz hK.symm H nm hvw _
    · exact gs4 ok hz hK.symm H nm hvw _
  · unfold model_F at h ⊢
    simp only [Option.some.injEq] at h
    subst h
    have hq := fun k (hk : k ∈ [0, 1, 2, 3, 4, 5, 6, 7, 8, 9, 10, 11, 12, 13, 14, 15, 16, 17]) => hH k hk
    simp only [hq 0 (by simp), hq 1 (by simp), hq 2 (by simp), hq 3 (by simp), hq 4 (by simp), hq 5 (by simp), hq 6 (by simp), hq 7 (by simp), hq 8 (by simp), hq 9 (by simp), hq 10 (by simp), hq 11 (by simp), hq 12 (by simp), hq 13 (by simp), hq 14 (by simp), hq 15 (by simp), hq 16 (by simp), hq 17 (by simp)]
/-- A tree whose rows lie under four names from q on. -/
def NodesAt (NI : List Nd) (q : Nat) (cs : List Value) (dim : Int) (x0 x1 x2 x3 : Option Blk) : Prop :=
  ∃ (cl : Int) (r0 r1 r2 r3 : Rw), cs = [.int .i64 cl, r0.v q, r1.v (q + 1), r2.v (q + 2), r3.v (q + 3)] ∧
    RwIn r0 x0 ∧ RwIn r1 x1 ∧ RwIn r2 x2 ∧ RwIn r3 x3 ∧ NI = nodesI r0.l r1.l r2.l r3.l dim ∧ 1 ≤ dim ∧ dim ≤ 1000
def nodesT_F (q : Nat) (NI : List Nd) : List Value → Heap → Nat → Option Res := fun xs H nm => match xs with
  | [.agg ⟨cs⟩, .int .i64 dim] => some ⟨.slice (some ⟨nm, 0, none⟩) NI.length mk, [(nm, some (.vec (eWord.row (NI.map packN)) 83 1))], [q, q + 1, q + 2, q + 3], [NodesAt NI q cs dim (H q) (H (q + 1)) (H (q + 2)) (H (q + 3))]⟩
  | _ => none
theorem nodesT_sum (q : Nat) (NI : List Nd) : SumOK Try.prog 24 (nodesT_F q NI) := by
  refine gen_sum (en Try.func24 rfl) (fun xs H nm r h hob => ?_) (fun xs H nm r h H' hH => ?_)
  · unfold nodesT_F at h
    split at h
    · rename_i cs dim
      simp only [Option.some.injEq] at h
      subst h
      obtain ⟨cl, r0, r1, r2, r3, rfl, i0, i1, i2, i3, rfl, hd1, hd2⟩ := hob _ (List.mem_cons_self ..)
      have := nodesH_gs (H := H) (nm := nm) (k := q) (h0 := 0) (h1 := 0) (h2 := 0) (h3 := 0) cl dim ⟨hd1, hd2⟩ r0 r1 r2 r3 (Or.inl rfl) (Or.inl rfl) (Or.inl rfl) (Or.inl rfl) (fun _ => rfl) (fun _ => rfl) (fun _ => rfl) (fun _ => rfl) i0 i1 i2 i3
      simp only [Rw.w_none] at this
      exact this _ _
    · simp at h
  · unfold nodesT_F at h ⊢
    split at h
    · rename_i cs dim
      simp only [Option.some.injEq] at h
      subst h
      have hq := fun k (hk : k ∈ [q, q + 1, q + 2, q + 3]) => hH k hk
      simp only [hq q (by simp), hq (q + 1) (by simp), hq (q + 2) (by simp), hq (q + 3) (by simp)]
    · simp at h
noncomputable def t_rg (PV : Value → Int → Int) : Sums := upd t_bring 44 (some (pickD_F 0 PV))
theorem t_rg_ok (PV : Value → Int → Int) : SumsOK Try.prog (t_rg PV) := sums_cons t_bring_ok (pickD_sum 0 PV)
end Go.Proofs.Ythbaccmhdffjdaa.Fo


set_option linter.unusedVariables false
set_option linter.unusedSimpArgs false
set_option maxRecDepth 100000
namespace Go.Proofs.Ythbaccmhdffjdaa.Tr
open Go Go.RowKit Go.Proofs.Ythbaccmhdffjdaa.Ev Go.Proofs.Ythbaccmhdffjdaa.NodeE
/-- A point. -/
structure Pt where
  p0 : Int
  p1 : Int
  p2 : Int
  p3 : Int
def Pt.cs (p : Pt) : List Value := [.int .i64 p.p0, .int .i64 p.p1, .int .i64 p.p2, .int .i64 p.p3]
def Pt.at (p : Pt) (f : Int) : Int := bif f == 0 then p.p0 else bif f == 1 then p.p1 else bif f == 2 then p.p2 else p.p3
/-- Where an inner word sends a point. -/
def goes (p : Pt) (w : Int) : Int := bif decide (p.at (uF w) ≤ low32 w) then uX w else uY w
/-- The leaf that a point comes to, in so many steps, from a place. -/
def goW (ws : List Int) (p : Pt) : Nat → Nat → Option Nat
  | 0, _ => none
  | k + 1, a => match ws[a]? with
    | none => none
    | some w => bif okB w then bif lfB w then some a else goW ws p k (goes p w).toNat else none
def walkI (ws : List Int) (p : Pt) : Int := match goW ws p 31 0 with
  | some a => a
  | none => -1
def endV (ws : List Int) (p : Pt) : Int := match goW ws p 31 0 with
  | some a => low32 (ws.getD a 0)
  | none => 0
def endL (ws : List Int) (p : Pt) : Bool := match goW ws p 31 0 with
  | some _ => true
  | none => false
theorem end_some {ws : List Int} {p : Pt} {a : Nat} (h : goW ws p 31 0 = some a) : walkI ws p = a ∧ endV ws p = low32 (ws.getD a 0) ∧ endL ws p = true := by
  simp only [walkI, endV, endL, h]; exact ⟨trivial, trivial, trivial⟩
theorem end_none {ws : List Int} {p : Pt} (h : goW ws p 31 0 = none) : walkI ws p = -1 ∧ endV ws p = 0 ∧ endL ws p = false := by
  simp only [walkI, endV, endL, h]; exact ⟨trivial, trivial, trivial⟩
theorem goW_step {ws : List Int} {p : Pt} {k a : Nat} {w : Int} (hw : ws[a]? = some w) (ho : okB w = true) (hl : lfB w = false) : goW ws p (k + 1) a = goW ws p k (goes p w).toNat := by
  simp only [goW, hw, ho, hl, cond_true, cond_false]
theorem goW_leaf {ws : List Int} {p : Pt} {k a : Nat} {w : Int} (hw : ws[a]? = some w) (ho : okB w = true) (hl : lfB w = true) : goW ws p (k + 1) a = some a := by
  simp only [goW, hw, ho, hl, cond_true]
theorem goW_bad {ws : List Int} {p : Pt} {k a : Nat} {w : Int} (hw : ws[a]? = some w) (ho : okB w = false) : goW ws p (k + 1) a = none := by
  simp only [goW, hw, ho, cond_false]
theorem goW_out {ws : List Int} {p : Pt} {k a : Nat} (hw : ws.length ≤ a) : goW ws p (k + 1) a = none := by
  simp only [goW, List.getElem?_eq_none hw]
/-- Where a point comes to is a leaf. -/
theorem goW_is {ws : List Int} {p : Pt} : ∀ {k b a : Nat}, goW ws p k b = some a → ∃ w, ws[a]? = some w ∧ okB w = true ∧ lfB w = true
  | 0, b, a, h => by simp [goW] at h
  | k + 1, b, a, h => by
    cases hw : ws[b]? with
    | none => simp only [goW, hw] at h; exact absurd h (by simp)
    | some w =>
      cases ho : okB w with
      | false => rw [goW_bad hw ho] at h; exact absurd h (by simp)
      | true =>
        cases hl : lfB w with
        | false => rw [goW_step hw ho hl] at h; exact goW_is h
        | true => rw [goW_leaf hw ho hl] at h; injection h with h; subst h; exact ⟨w, hw, ho, hl⟩
/-- What a word that is an inner node tells. -/
theorem inner_bounds {w : Int} (h : okB w = true) (hl : lfB w = false) : (0 ≤ uF w ∧ uF w < 4) ∧ (1 ≤ uX w ∧ uX w < 31) ∧ (1 ≤ uY w ∧ uY w < 31) := by
  have hp : pkB w = w := by
    simp only [okB, Bool.and_eq_true, beq_iff_eq] at h
    exact h.2
  have hz : w ≠ 0 := by
    simp only [okB, Bool.and_eq_true, Bool.not_eq_true', beq_eq_false_iff_ne] at h
    exact h.1
  simp only [pkB, hl, cond_false] at hp
  cases hr : rightB false 0 (uF w) (low32 w) (uX w) (uY w)
  · rw [pack_no hr] at hp
    exact absurd hp.symm hz
  · obtain ⟨_, f0, f1, _, ⟨x0, x1⟩, y0, y1⟩ := right_inner hr
    exact ⟨⟨f0, f1⟩, ⟨x0, x1⟩, y0, y1⟩
theorem goes_range {p : Pt} {w : Int} (h : okB w = true) (hl : lfB w = false) : 1 ≤ goes p w ∧ goes p w < 31 := by
  obtain ⟨_, hx, hy⟩ := inner_bounds h hl
  unfold goes
  cases decide (p.at (uF w) ≤ low32 w)
  · exact hy
  · exact hx
/-! ### Right trees -/
/-- What an inner node names. -/
def namesW (w : Int) : List Int := bif lfB w then [] else [uX w, uY w]
def goodW (dim : Int) (n i : Nat) (w : Int) : Bool := okB w && (lfB w || !(decide (dim ≤ uF w) || (uX w == uY w || (decide (uX w ≤ i) || (decide (uY w ≤ i) || (decide ((n : Int) ≤ uX w) || decide ((n : Int) ≤ uY w)))))))
def allGood (dim : Int) (n : Nat) : Nat → List Int → Bool
  | _, [] => true
  | i, w :: ws => goodW dim n i w && allGood dim n (i + 1) ws
def named (ws : List Int) (k : Int) : Nat := (ws.flatMap namesW).count k
def onceI (ws : List Int) (n : Nat) : Bool := (List.range n).all fun k => k == 0 || named ws (k : Int) == 1
def rightI (ws : List Int) (dim : Int) : Bool := decide (1 ≤ ws.length) && (decide (ws.length ≤ 31) && (allGood dim ws.length 0 ws && onceI ws ws.length))
theorem named_snoc (ws : List Int) (w k : Int) : named (ws ++ [w]) k = named ws k + (namesW w).count k := by
  simp [named, List.flatMap_append, List.count_append]
theorem named_nil (k : Int) : named [] k = 0 := rfl
theorem allGood_get {dim : Int} {n : Nat} : ∀ {ws : List Int} {i : Nat}, allGood dim n i ws = true → ∀ (j : Nat) (w : Int), ws[j]? = some w → goodW dim n (i + j) w = true
  | w :: ws, i, h, 0, v, hv => by
    simp only [allGood, Bool.and_eq_true] at h
    simp at hv; subst hv; exact h.1
  | w :: ws, i, h, j + 1, v, hv => by
    simp only [allGood, Bool.and_eq_true] at h
    have := allGood_get h.2 j v (by simpa using hv)
    rw [show i + (j + 1) = i + 1 + j by omega]; exact this
theorem allGood_of {dim : Int} {n : Nat} : ∀ {ws : List Int} {i : Nat}, (∀ (j : Nat) (w : Int), ws[j]? = some w → goodW dim n (i + j) w = true) → allGood dim n i ws = true
  | [], _, _ => rfl
  | w :: ws, i, h => by
    simp only [allGood, Bool.and_eq_true]
    refine ⟨h 0 w rfl, allGood_of fun j v hv => ?_⟩
    have := h (j + 1) v (by simpa using hv)
    rw [show i + 1 + j = i + (j + 1) by omega]; exact this
theorem allGood_bad {dim : Int} {n : Nat} {ws : List Int} {i j : Nat} {w : Int} (hw : ws[j]? = some w) (h : goodW dim n (i + j) w = false) : allGood dim n i ws = false := by
  cases hg : allGood dim n i ws
  · rfl
  · have := allGood_get hg j w hw
    rw [h] at this; exact absurd this (by simp)
theorem good_leaf {dim : Int} {n i : Nat} {w : Int} (ho : okB w = true) (hl : lfB w = true) : goodW dim n i w = true := by simp [goodW, ho, hl]
theorem good_inner {dim : Int} {n i : Nat} {w : Int} (h : goodW dim n i w = true) (hl : lfB w = false) : okB w = true ∧ uF w < dim ∧ uX w ≠ uY w ∧ (i : Int) < uX w ∧ (i : Int) < uY w ∧ uX w < n ∧ uY w < n := by
  simp [goodW, hl] at h
  obtain ⟨h0, h1, h2, h3, h4, h5, h6⟩ := h
  exact ⟨h0, h1, h2, h3, h4, h5, h6⟩
theorem good_mk {dim : Int} {n i : Nat} {w : Int} (hl : lfB w = false) (h0 : okB w = true) (h1 : uF w < dim) (h2 : uX w ≠ uY w) (h3 : (i : Int) < uX w) (h4 : (i : Int) < uY w) (h5 : uX w < n) (h6 : uY w < n) : goodW dim n i w = true := by
  simp [goodW, hl]
  exact ⟨h0, h1, h2, h3, h4, h5, h6⟩
theorem right_parts {ws : List Int} {dim : Int} : rightI ws dim = true ↔ (1 ≤ ws.length ∧ ws.length ≤ 31) ∧ (∀ (j : Nat) (w : Int), ws[j]? = some w → goodW dim ws.length j w = true) ∧ ∀ k : Nat, 1 ≤ k → k < ws.length → named ws (k : Int) = 1 := by
  simp only [rightI, Bool.and_eq_true, decide_eq_true_eq, onceI, List.all_eq_true, List.mem_range, Bool.or_eq_true, beq_iff_eq]
  constructor
  · rintro ⟨h1, h2, h3, h4⟩
    refine ⟨⟨h1, h2⟩, fun j w hw => by have := allGood_get h3 j w hw; rwa [Nat.zero_add] at this, fun k hk hn => ?_⟩
    rcases h4 k hn with h | h
    · omega
    · exact h
  · rintro ⟨⟨h1, h2⟩, h3, h4⟩
    refine ⟨h1, h2, allGood_of fun j w hw => by rw [Nat.zero_add]; exact h3 j w hw, fun k hk => ?_⟩
    by_cases h0 : k = 0
    · exact Or.inl h0
    · exact Or.inr (h4 k (by omega) hk)
theorem right_len {ws : List Int} {dim : Int} (h : ¬ (1 ≤ ws.length ∧ ws.length ≤ 31)) : rightI ws dim = false := by
  cases hr : rightI ws dim
  · rfl
  · exact absurd (right_parts.1 hr).1 h
theorem right_bad {ws : List Int} {dim : Int} {j : Nat} {w : Int} (hw : ws[j]? = some w) (h : goodW dim ws.length j w = false) : rightI ws dim = false := by
  cases hr : rightI ws dim
  · rfl
  · have := (right_parts.1 hr).2.1 j w hw
    rw [h] at this; exact absurd this (by simp)
theorem right_once {ws : List Int} {dim : Int} {k : Nat} (h1 : 1 ≤ k) (h2 : k < ws.length) (h : named ws (k : Int) ≠ 1) : rightI ws dim = false := by
  cases hr : rightI ws dim
  · rfl
  · exact absurd ((right_parts.1 hr).2.2 k h1 h2) h
/-- Leaves' places. -/
def leafIx : Nat → List Int → List Int
  | _, [] => []
  | i, w :: ws => bif okB w && lfB w then (i : Int) :: leafIx (i + 1) ws else leafIx (i + 1) ws
theorem leafIx_app : ∀ (l m : List Int) (i : Nat), leafIx i (l ++ m) = leafIx i l ++ leafIx (i + l.length) m
  | [], m, i => by simp [leafIx]
  | w :: l, m, i => by
    simp only [List.cons_append, leafIx, leafIx_app l m (i + 1), List.length_cons]
    rw [show i + (l.length + 1) = i + 1 + l.length by omega]
    cases okB w && lfB w <;> simp
def leavesI (ws : List Int) : List Int := bif rightI ws 4 then leafIx 0 ws else []
/-- One step of the depths. -/
def depS (i : Nat) (w : Int) (d : Int × List Int) : Int × List Int :=
  (max d.1 (d.2.getD i 0), bif okB w && lfB w then d.2 else (d.2.set (sX w).toNat (d.2.getD i 0 + 1)).set (sY w).toNat (d.2.getD i 0 + 1))
def depGo : Nat → List Int → Int × List Int → Int × List Int
  | _, [], d => d
  | i, w :: ws, d => depGo (i + 1) ws (depS i w d)
theorem depGo_app : ∀ (l m : List Int) (i : Nat) (d : Int × List Int), depGo i (l ++ m) d = depGo (i + l.length) m (depGo i l d)
  | [], m, i, d => rfl
  | w :: l, m, i, d => by
    simp only [List.cons_append, depGo, depGo_app l m (i + 1), List.length_cons]
    rw [show i + (l.length + 1) = i + 1 + l.length by omega]
def dep0 (n : Nat) : Int × List Int := (1, (List.replicate n 0).set 0 1)
def depthI (ws : List Int) : Int := bif rightI ws 4 then (depGo 0 ws (dep0 ws.length)).1 else 0
end Go.Proofs.Ythbaccmhdffjdaa.Tr


set_option linter.unusedVariables false
set_option linter.unusedSimpArgs false
set_option maxRecDepth 100000
namespace Go.Proofs.Ythbaccmhdffjdaa.Tr
open Go Go.RowKit Go.Proofs.Ythbaccmhdffjdaa.Ev Go.Proofs.Ythbaccmhdffjdaa.NodeE

def fEn (cs : List Value) (o n c : Nat) (p : Pt) (Q : Nat × Nat → Prop) : LoopF (Nat × Nat) where
  ts _ := [0, 3, 5, 6, 9]
  hs _ := [0, 10, 11]
  tv _ := fun ⟨k, a⟩ => [.slice (some ⟨0, o, none⟩) n c, .pointer (some ⟨10, 0, none⟩), .pointer (some ⟨11, 0, none⟩), .int .i64 (a : Int), .int .i64 (k : Int)]
  hv _ _ := [.ro cs, .cells p.cs 72, .cells [.bool false, .int .i64 0, .int .i64 0, .int .i64 0, .int .i64 0, .int .i64 0] 86]
  inv _ := Q
  mu _ := fun ⟨k, a⟩ => 31 - k
  nx := 12
theorem pt_pl (p : Pt) : ∀ x ∈ p.cs, leafG x = true := by
  intro x hx
  simp [Pt.cs] at hx
  rcases hx with rfl | rfl | rfl | rfl <;> rfl
theorem nd_pl (l : Bool) (v f a x y : Int) : ∀ q ∈ [Value.bool l, .int .i64 v, .int .i64 f, .int .i64 a, .int .i64 x, .int .i64 y], leafG q = true := by
  intro q hq
  simp at hq
  rcases hq with rfl | rfl | rfl | rfl | rfl | rfl <;> rfl

theorem fEn_ok (cs : List Value) (o n c : Nat) (p : Pt) (Q : Nat × Nat → Prop) (hpl : ∀ x ∈ cs, leafG x = true) : (fEn cs o n c p Q).OK 1 := by
  refine ⟨(by decide : 1 ≤ 12), fun z i h k hk => ?_, fun z i h v hv k hk => ?_, fun z i h x hx => ?_⟩
  · show k < 12
    simp [fEn] at hk; omega
  · show k < 12
    simp [fEn] at hv
    rcases hv with rfl | rfl | rfl | rfl | rfl <;> simp [nms, nm1, nm0] at hk <;> omega
  · simp [fEn] at hx
    rcases hx with rfl | rfl | rfl
    · exact Blk.plain.namesLt (b := .ro cs) hpl _
    · exact Blk.plain.namesLt (b := .cells p.cs 72) (pt_pl p) _
    · exact Blk.plain.namesLt (b := .cells _ 86) (nd_pl _ _ _ _ _ _) _

def fRw (cs : List Value) (o n c : Nat) (p : Pt) (Q : Nat × Nat → Prop) : LoopF (Nat × Nat) where
  ts _ := [0, 3, 5, 8]
  hs _ := [0, 10]
  tv _ := fun ⟨k, a⟩ => [.slice (some ⟨0, o, none⟩) n c, .pointer (some ⟨10, 0, none⟩), .int .i64 (a : Int), .int .i64 (k : Int)]
  hv _ _ := [.ro cs, .cells p.cs 72]
  inv _ := Q
  mu _ := fun ⟨k, a⟩ => 31 - k
  nx := 12

theorem fRw_ok (cs : List Value) (o n c : Nat) (p : Pt) (Q : Nat × Nat → Prop) (hpl : ∀ x ∈ cs, leafG x = true) : (fRw cs o n c p Q).OK 1 := by
  refine ⟨(by decide : 1 ≤ 12), fun z i h k hk => ?_, fun z i h v hv k hk => ?_, fun z i h x hx => ?_⟩
  · show k < 12
    simp [fRw] at hk; omega
  · show k < 12
    simp [fRw] at hv
    rcases hv with rfl | rfl | rfl | rfl <;> simp [nms, nm1, nm0] at hk <;> omega
  · simp [fRw] at hx
    rcases hx with rfl | rfl
    · exact Blk.plain.namesLt (b := .ro cs) hpl _
    · exact Blk.plain.namesLt (b := .cells p.cs 72) (pt_pl p) _

/-- tree.Right's first loop: the counts so far. -/
def fRt (cs : List Value) (o n c : Nat) (dim : Int) (Q : Nat × List Int → Prop) : LoopF (Nat × List Int) where
  ts _ := [0, 1, 5, 23, 24, 25]
  hs _ := [0, 10]
  tv _ := fun ⟨i, r⟩ => [.slice (some ⟨0, o, none⟩) n c, .int .i64 dim, .slice (some ⟨10, 0, none⟩) n n, .slice (some ⟨0, o, none⟩) n c, .int .i64 (n : Int), .int .i64 (i : Int)]
  hv _ := fun ⟨i, r⟩ => [.ro cs, .cells (eInt.row r) 3]
  inv _ := Q
  mu _ := fun ⟨i, r⟩ => n - i
  nx := 12

theorem fRt_ok (cs : List Value) (o n c : Nat) (dim : Int) (Q : Nat × List Int → Prop) (hpl : ∀ x ∈ cs, leafG x = true) : (fRt cs o n c dim Q).OK 1 := by
  refine ⟨(by decide : 1 ≤ 12), fun z i h k hk => ?_, fun z i h v hv k hk => ?_, fun z i h x hx => ?_⟩
  · show k < 12
    simp [fRt] at hk; omega
  · show k < 12
    simp [fRt] at hv
    rcases hv with rfl | rfl | rfl | rfl | rfl | rfl <;> simp [nms, nm1, nm0] at hk <;> omega
  · simp [fRt] at hx
    rcases hx with rfl | rfl
    · exact Blk.plain.namesLt (b := .ro cs) hpl _
    · exact Blk.plain.namesLt (b := .cells _ 3) (Elt.row_pl _) _

/-- tree.Right's second loop. -/
def fRn (m q : Nat) (r : List Int) (Q : Nat → Prop) : LoopF Nat where
  ts _ := [85, 86, 87]
  hs _ := [10]
  tv _ := fun i => [.slice (some ⟨10, q, none⟩) m m, .int .i64 (m : Int), .int .i64 (i : Int)]
  hv _ := fun i => [.cells (eInt.row r) 3]
  inv _ := Q
  mu _ := fun i => m - i
  nx := 12

theorem fRn_ok (m q : Nat) (r : List Int) (Q : Nat → Prop) : (fRn m q r Q).OK 1 := by
  refine ⟨(by decide : 1 ≤ 12), fun z i h k hk => ?_, fun z i h v hv k hk => ?_, fun z i h x hx => ?_⟩
  · show k < 12
    simp [fRn] at hk; omega
  · show k < 12
    simp [fRn] at hv
    rcases hv with rfl | rfl | rfl <;> simp [nms, nm1, nm0] at hk <;> omega
  · simp [fRn] at hx
    subst hx
    exact Blk.plain.namesLt (b := .cells _ 3) (Elt.row_pl _) _

end Go.Proofs.Ythbaccmhdffjdaa.Tr


set_option linter.unusedVariables false
set_option linter.unusedSimpArgs false
set_option maxRecDepth 100000
namespace Go.Proofs.Ythbaccmhdffjdaa.Tr
open Go Go.RowKit Go.Proofs.Ythbaccmhdffjdaa.Ev Go.Proofs.Ythbaccmhdffjdaa.NodeE Go.Proofs.Ythbaccmhdffjdaa.Tr

theorem rtNil (dim : Int)  {E : Env} (hE : EnvOK E Try.prog Try.f42 2 0 (.bool false) [] []) (hob : all ([Back (Value.bool false) (Value.bool false) [] [] []])) : Sat E [.code (bodyOf Try.f42)] (st0 Try.f42 [.slice none 0 0, .int .i64 dim] (roRows []) 0) :=
  by_ret (T := auto0 t_runpack) (h := hints []) (ws := []) (nx' := 0) hE hm (auto0_ok t_runpack_ok) (by omega) (by simp) (by simp) (by kernel_rfl) hob
theorem rtShort (cs : List Value) (o n c : Nat) (dim : Int)  {E : Env} (hE : EnvOK E Try.prog Try.f42 2 1 (.bool false) [] []) (hob : all ([Back (Value.bool false) (Value.bool false) [] [] [], Value.bool (decide ((↑n : Int) < 1)) = Value.bool true])) : Sat E [.code (bodyOf Try.f42)] (st0 Try.f42 [.slice (some ⟨0, o, none⟩) n c, .int .i64 dim] (roRows [cs]) 1) :=
  by_ret (T := auto0 t_runpack) (h := hints [(1, 2, ht true)]) (ws := []) (nx' := 1) hE hm (auto0_ok t_runpack_ok) (by omega) (by simp) (by simp) (by kernel_rfl) hob
theorem rtLong (cs : List Value) (o n c : Nat) (dim : Int)  {E : Env} (hE : EnvOK E Try.prog Try.f42 2 1 (.bool false) [] []) (hob : all ([Back (Value.bool false) (Value.bool false) [] [] [], Value.bool (decide ((↑n : Int) > 31)) = Value.bool true, Value.bool (decide ((↑n : Int) < 1)) = Value.bool false])) : Sat E [.code (bodyOf Try.f42)] (st0 Try.f42 [.slice (some ⟨0, o, none⟩) n c, .int .i64 dim] (roRows [cs]) 1) :=
  by_ret (T := auto0 t_runpack) (h := hints [(1, 2, ht false), (1, 6, ht true)]) (ws := []) (nx' := 1) hE hm (auto0_ok t_runpack_ok) (by omega) (by simp) (by simp) (by kernel_rfl) hob
theorem rtIn (cs : List Value) (o n c : Nat) (dim : Int) (Q : Nat × List Int → Prop) (r : List Int)  {E : Env} {rv : Value} {rhs : List Nat} {rhv : List Blk} (hE : EnvOK E Try.prog Try.f42 2 1 rv rhs rhv) (hL : (fRt cs o n c dim Q).OK 1) (hob : all ([SameK (atLp (lp Try.f42 0)) (atLp (lp Try.f42 0)), Enter (fRt cs o n c dim Q) 0 none [Value.slice (some (Addr.mk 0 o none)) n c, Value.int IntKind.i64 dim, Value.slice (some (Addr.mk 89 0 none)) ((n : Int)).toNat ((n : Int)).toNat, Value.slice (some (Addr.mk 0 o none)) n c, Value.int IntKind.i64 ((n : Int)), Value.int IntKind.i64 ((0 : Int))] [Blk.ro cs, Blk.cells (eInt.row r) 3] [(0, 0), (10, 89), (0, 0)], MkOK ((n : Int)) ((n : Int)) 8 [Value.int IntKind.i64 ((0 : Int))] (eInt.row r), Value.bool (decide ((↑n : Int) > 31)) = Value.bool false, Value.bool (decide ((↑n : Int) < 1)) = Value.bool false])) (hK : ∀ zz, (fRt cs o n c dim Q).inv 0 zz → ltO ((fRt cs o n c dim Q).mu 0 zz) none → Sat E (atLp (lp Try.f42 0)) ((fRt cs o n c dim Q).st 0 zz)) : Sat E [.code (bodyOf Try.f42)] (st0 Try.f42 [.slice (some ⟨0, o, none⟩) n c, .int .i64 dim] (roRows [cs]) 1) :=
  by_to (T := auto0 t_runpack) (h := hints [(1, 2, ht false), (1, 6, ht false), (3, 2, {c := some (eInt.row r)})]) (ws := [.go, .stop]) (i0 := (0, r)) hE hm (auto0_ok t_runpack_ok) hL (by kernel_rfl) hob hK
theorem rtN (cs : List Value) (o n c : Nat) (dim : Int) (Q : Nat × List Int → Prop) (i : Nat) (r : List Int) (w : Int) (J : Act → World → Prop) {E : Env} (hE : EnvOK E Try.prog Try.f42 2 1 (.bool false) [] []) (hob : all ([Back (Value.bool false) (Value.bool false) [] [] [], Value.tuple (Array.mk [Value.agg (Array.mk [Value.bool (okB w && lfB w), Value.int IntKind.i64 (sV w), Value.int IntKind.i64 (sF w), Value.int IntKind.i64 (sA w), Value.int IntKind.i64 (sX w), Value.int IntKind.i64 (sY w)]), Value.bool (okB w)]) = Value.tuple (Array.mk [Value.agg (Array.mk [Value.bool false, Value.int IntKind.i64 ((0 : Int)), Value.int IntKind.i64 ((0 : Int)), Value.int IntKind.i64 ((0 : Int)), Value.int IntKind.i64 ((0 : Int)), Value.int IntKind.i64 ((0 : Int))]), Value.bool false]), U64 w, readPart Try.prog 83 cs (o + ((i : Int)).toNat * 1) = some (Value.int IntKind.u64 w), (0 : Int) ≤ (i : Int) ∧ (i : Int) < (n : Int), decide ((↑i : Int) < (↑n : Int)) = true])) : Sat E (inLp (lp Try.f42 0) J) ((fRt cs o n c dim Q).st 0 (i, r)) :=
  by_ret (T := auto0 t_runpack) (h := hints [(6, 1, {p := true}), (6, 2, {o := some (.int .u64 w)}), (7, 1, {v := some (.tuple ⟨[nd false 0 0 0 0 0, .bool false]⟩)})]) (ws := [.b true]) (nx' := 1) hE hm (auto0_ok t_runpack_ok) (by omega) (by simp) (by simp) (by kernel_rfl) hob
theorem rtF (cs : List Value) (o n c : Nat) (dim : Int) (Q : Nat × List Int → Prop) (i : Nat) (r : List Int) (w v : Int) (J : Act → World → Prop) {E : Env} {rv : Value} {rhs : List Nat} {rhv : List Blk} (hE : EnvOK E Try.prog Try.f42 2 1 rv rhs rhv) (hL : (fRt cs o n c dim Q).OK 1) (hob : all ([SameK (mkLp (lp Try.f42 0) J) (mkLp (lp Try.f42 0) J), Enter (fRt cs o n c dim Q) 0 (some (n - i)) [Value.slice (some (Addr.mk 0 o none)) n c, Value.int IntKind.i64 dim, Value.slice (some (Addr.mk 10 0 none)) n n, Value.slice (some (Addr.mk 0 o none)) n c, Value.int IntKind.i64 ((n : Int)), Value.int IntKind.i64 (Int.ofNat i.succ)] [Blk.ro cs, Blk.cells (eInt.row r) 3] [(0, 0), (10, 10), (0, 0)], Value.int IntKind.i64 (IntKind.i64.wrap (Int.ofNat i.succ)) = Value.int IntKind.i64 (Int.ofNat i.succ), Value.tuple (Array.mk [Value.agg (Array.mk [Value.bool (okB w && lfB w), Value.int IntKind.i64 (sV w), Value.int IntKind.i64 (sF w), Value.int IntKind.i64 (sA w), Value.int IntKind.i64 (sX w), Value.int IntKind.i64 (sY w)]), Value.bool (okB w)]) = Value.tuple (Array.mk [Value.agg (Array.mk [Value.bool true, Value.int IntKind.i64 v, Value.int IntKind.i64 ((0 : Int)), Value.int IntKind.i64 ((0 : Int)), Value.int IntKind.i64 ((0 : Int)), Value.int IntKind.i64 ((0 : Int))]), Value.bool true]), U64 w, readPart Try.prog 83 cs (o + ((i : Int)).toNat * 1) = some (Value.int IntKind.u64 w), (0 : Int) ≤ (i : Int) ∧ (i : Int) < (n : Int), decide ((↑i : Int) < (↑n : Int)) = true])) (hK : ∀ zz, (fRt cs o n c dim Q).inv 0 zz → ltO ((fRt cs o n c dim Q).mu 0 zz) (some (n - i)) → Sat E (mkLp (lp Try.f42 0) J) ((fRt cs o n c dim Q).st 0 zz)) : Sat E (inLp (lp Try.f42 0) J) ((fRt cs o n c dim Q).st 0 (i, r)) :=
  by_to (T := auto0 t_runpack) (h := hints [(6, 1, {p := true}), (6, 2, {o := some (.int .u64 w)}), (7, 1, {v := some (.tuple ⟨[nd true v 0 0 0 0, .bool true]⟩)}), (15, 0, {v := some (.int .i64 ((i + 1 : Nat) : Int))})]) (ws := [.b true]) (i0 := (i + 1, r)) hE hm (auto0_ok t_runpack_ok) hL (by kernel_rfl) hob hK
theorem rtD (cs : List Value) (o n c : Nat) (dim : Int) (Q : Nat × List Int → Prop) (i : Nat) (r : List Int) (w f a x y : Int) (J : Act → World → Prop) {E : Env} (hE : EnvOK E Try.prog Try.f42 2 1 (.bool false) [] []) (hob : all ([Back (Value.bool false) (Value.bool false) [] [] [], Value.bool (decide (f ≥ dim)) = Value.bool true, Value.tuple (Array.mk [Value.agg (Array.mk [Value.bool (okB w && lfB w), Value.int IntKind.i64 (sV w), Value.int IntKind.i64 (sF w), Value.int IntKind.i64 (sA w), Value.int IntKind.i64 (sX w), Value.int IntKind.i64 (sY w)]), Value.bool (okB w)]) = Value.tuple (Array.mk [Value.agg (Array.mk [Value.bool false, Value.int IntKind.i64 ((0 : Int)), Value.int IntKind.i64 f, Value.int IntKind.i64 a, Value.int IntKind.i64 x, Value.int IntKind.i64 y]), Value.bool true]), U64 w, readPart Try.prog 83 cs (o + ((i : Int)).toNat * 1) = some (Value.int IntKind.u64 w), (0 : Int) ≤ (i : Int) ∧ (i : Int) < (n : Int), decide ((↑i : Int) < (↑n : Int)) = true])) : Sat E (inLp (lp Try.f42 0) J) ((fRt cs o n c dim Q).st 0 (i, r)) :=
  by_ret (T := auto0 t_runpack) (h := hints [(6, 1, {p := true}), (6, 2, {o := some (.int .u64 w)}), (7, 1, {v := some (.tuple ⟨[nd false 0 f a x y, .bool true]⟩)}), (11, 3, ht true)]) (ws := [.b true]) (nx' := 1) hE hm (auto0_ok t_runpack_ok) (by omega) (by simp) (by simp) (by kernel_rfl) hob
theorem rtE (cs : List Value) (o n c : Nat) (dim : Int) (Q : Nat × List Int → Prop) (i : Nat) (r : List Int) (w f a x y : Int) (J : Act → World → Prop) {E : Env} (hE : EnvOK E Try.prog Try.f42 2 1 (.bool false) [] []) (hob : all ([Back (Value.bool false) (Value.bool false) [] [] [], Value.bool (x == y) = Value.bool true, Value.bool (decide (f ≥ dim)) = Value.bool false, Value.tuple (Array.mk [Value.agg (Array.mk [Value.bool (okB w && lfB w), Value.int IntKind.i64 (sV w), Value.int IntKind.i64 (sF w), Value.int IntKind.i64 (sA w), Value.int IntKind.i64 (sX w), Value.int IntKind.i64 (sY w)]), Value.bool (okB w)]) = Value.tuple (Array.mk [Value.agg (Array.mk [Value.bool false, Value.int IntKind.i64 ((0 : Int)), Value.int IntKind.i64 f, Value.int IntKind.i64 a, Value.int IntKind.i64 x, Value.int IntKind.i64 y]), Value.bool true]), U64 w, readPart Try.prog 83 cs (o + ((i : Int)).toNat * 1) = some (Value.int IntKind.u64 w), (0 : Int) ≤ (i : Int) ∧ (i : Int) < (n : Int), decide ((↑i : Int) < (↑n : Int)) = true])) : Sat E (inLp (lp Try.f42 0) J) ((fRt cs o n c dim Q).st 0 (i, r)) :=
  by_ret (T := auto0 t_runpack) (h := hints [(6, 1, {p := true}), (6, 2, {o := some (.int .u64 w)}), (7, 1, {v := some (.tuple ⟨[nd false 0 f a x y, .bool true]⟩)}), (11, 3, ht false), (11, 9, ht true)]) (ws := [.b true]) (nx' := 1) hE hm (auto0_ok t_runpack_ok) (by omega) (by simp) (by simp) (by kernel_rfl) hob
theorem rtM (cs : List Value) (o n c : Nat) (dim : Int) (Q : Nat × List Int → Prop) (i : Nat) (r : List Int) (w f a x y : Int) (J : Act → World → Prop) {E : Env} (hE : EnvOK E Try.prog Try.f42 2 1 (.bool false) [] []) (hob : all ([Back (Value.bool false) (Value.bool false) [] [] [], Value.bool (decide (minI x y ≤ (↑i : Int))) = Value.bool true, Value.bool (x == y) = Value.bool false, Value.bool (decide (f ≥ dim)) = Value.bool false, Value.tuple (Array.mk [Value.agg (Array.mk [Value.bool (okB w && lfB w), Value.int IntKind.i64 (sV w), Value.int IntKind.i64 (sF w), Value.int IntKind.i64 (sA w), Value.int IntKind.i64 (sX w), Value.int IntKind.i64 (sY w)]), Value.bool (okB w)]) = Value.tuple (Array.mk [Value.agg (Array.mk [Value.bool false, Value.int IntKind.i64 ((0 : Int)), Value.int IntKind.i64 f, Value.int IntKind.i64 a, Value.int IntKind.i64 x, Value.int IntKind.i64 y]), Value.bool true]), U64 w, readPart Try.prog 83 cs (o + ((i : Int)).toNat * 1) = some (Value.int IntKind.u64 w), (0 : Int) ≤ (i : Int) ∧ (i : Int) < (n : Int), decide ((↑i : Int) < (↑n : Int)) = true])) : Sat E (inLp (lp Try.f42 0) J) ((fRt cs o n c dim Q).st 0 (i, r)) :=
  by_ret (T := auto0 t_runpack) (h := hints [(6, 1, {p := true}), (6, 2, {o := some (.int .u64 w)}), (7, 1, {v := some (.tuple ⟨[nd false 0 f a x y, .bool true]⟩)}), (11, 3, ht false), (11, 9, ht false), (11, 18, ht true)]) (ws := [.b true]) (nx' := 1) hE hm (auto0_ok t_runpack_ok) (by omega) (by simp) (by simp) (by kernel_rfl) hob
theorem rtX (cs : List Value) (o n c : Nat) (dim : Int) (Q : Nat × List Int → Prop) (i : Nat) (r : List Int) (w f a x y : Int) (J : Act → World → Prop) {E : Env} (hE : EnvOK E Try.prog Try.f42 2 1 (.bool false) [] []) (hob : all ([Back (Value.bool false) (Value.bool false) [] [] [], Value.bool (decide (maxI x y ≥ (↑n : Int))) = Value.bool true, Value.bool (decide (minI x y ≤ (↑i : Int))) = Value.bool false, Value.bool (x == y) = Value.bool false, Value.bool (decide (f ≥ dim)) = Value.bool false, Value.tuple (Array.mk [Value.agg (Array.mk [Value.bool (okB w && lfB w), Value.int IntKind.i64 (sV w), Value.int IntKind.i64 (sF w), Value.int IntKind.i64 (sA w), Value.int IntKind.i64 (sX w), Value.int IntKind.i64 (sY w)]), Value.bool (okB w)]) = Value.tuple (Array.mk [Value.agg (Array.mk [Value.bool false, Value.int IntKind.i64 ((0 : Int)), Value.int IntKind.i64 f, Value.int IntKind.i64 a, Value.int IntKind.i64 x, Value.int IntKind.i64 y]), Value.bool true]), U64 w, readPart Try.prog 83 cs (o + ((i : Int)).toNat * 1) = some (Value.int IntKind.u64 w), (0 : Int) ≤ (i : Int) ∧ (i : Int) < (n : Int), decide ((↑i : Int) < (↑n : Int)) = true])) : Sat E (inLp (lp Try.f42 0) J) ((fRt cs o n c dim Q).st 0 (i, r)) :=
  by_ret (T := auto0 t_runpack) (h := hints [(6, 1, {p := true}), (6, 2, {o := some (.int .u64 w)}), (7, 1, {v := some (.tuple ⟨[nd false 0 f a x y, .bool true]⟩)}), (11, 3, ht false), (11, 9, ht false), (11, 18, ht false), (11, 28, ht true)]) (ws := [.b true]) (nx' := 1) hE hm (auto0_ok t_runpack_ok) (by omega) (by simp) (by simp) (by kernel_rfl) hob
theorem rtG (cs : List Value) (o n c : Nat) (dim : Int) (Q : Nat × List Int → Prop) (i : Nat) (r r1 r2 : List Int) (w f a x y g1 g2 h1 h2 : Int) (J : Act → World → Prop) {E : Env} {rv : Value} {rhs : List Nat} {rhv : List Blk} (hE : EnvOK E Try.prog Try.f42 2 1 rv rhs rhv) (hL : (fRt cs o n c dim Q).OK 1) (hob : all ([SameK (mkLp (lp Try.f42 0) J) (mkLp (lp Try.f42 0) J), Enter (fRt cs o n c dim Q) 0 (some (n - i)) [Value.slice (some (Addr.mk 0 o none)) n c, Value.int IntKind.i64 dim, Value.slice (some (Addr.mk 10 0 none)) n n, Value.slice (some (Addr.mk 0 o none)) n c, Value.int IntKind.i64 ((n : Int)), Value.int IntKind.i64 (Int.ofNat i.succ)] [Blk.ro cs, Blk.cells (eInt.row r2) 3] [(0, 0), (10, 10), (0, 0)], Value.int IntKind.i64 (IntKind.i64.wrap (Int.ofNat i.succ)) = Value.int IntKind.i64 (Int.ofNat i.succ), lset (eInt.row r1) (0 + y.toNat * 1) [Value.int IntKind.i64 h2] = some (eInt.row r2), (0 : Int) ≤ y ∧ y < (n : Int), Value.int IntKind.i64 (IntKind.i64.wrap (g2 + (1 : Int))) = Value.int IntKind.i64 h2, readPart Try.prog 3 (eInt.row r1) (0 + y.toNat * 1) = some (Value.int IntKind.i64 g2), (0 : Int) ≤ y ∧ y < (n : Int), lset (eInt.row r) (0 + x.toNat * 1) [Value.int IntKind.i64 h1] = some (eInt.row r1), (0 : Int) ≤ x ∧ x < (n : Int), Value.int IntKind.i64 (IntKind.i64.wrap (g1 + (1 : Int))) = Value.int IntKind.i64 h1, readPart Try.prog 3 (eInt.row r) (0 + x.toNat * 1) = some (Value.int IntKind.i64 g1), (0 : Int) ≤ x ∧ x < (n : Int), Value.bool (decide (maxI x y ≥ (↑n : Int))) = Value.bool false, Value.bool (decide (minI x y ≤ (↑i : Int))) = Value.bool false, Value.bool (x == y) = Value.bool false, Value.bool (decide (f ≥ dim)) = Value.bool false, Value.tuple (Array.mk [Value.agg (Array.mk [Value.bool (okB w && lfB w), Value.int IntKind.i64 (sV w), Value.int IntKind.i64 (sF w), Value.int IntKind.i64 (sA w), Value.int IntKind.i64 (sX w), Value.int IntKind.i64 (sY w)]), Value.bool (okB w)]) = Value.tuple (Array.mk [Value.agg (Array.mk [Value.bool false, Value.int IntKind.i64 ((0 : Int)), Value.int IntKind.i64 f, Value.int IntKind.i64 a, Value.int IntKind.i64 x, Value.int IntKind.i64 y]), Value.bool true]), U64 w, readPart Try.prog 83 cs (o + ((i : Int)).toNat * 1) = some (Value.int IntKind.u64 w), (0 : Int) ≤ (i : Int) ∧ (i : Int) < (n : Int), decide ((↑i : Int) < (↑n : Int)) = true])) (hK : ∀ zz, (fRt cs o n c dim Q).inv 0 zz → ltO ((fRt cs o n c dim Q).mu 0 zz) (some (n - i)) → Sat E (mkLp (lp Try.f42 0) J) ((fRt cs o n c dim Q).st 0 zz)) : Sat E (inLp (lp Try.f42 0) J) ((fRt cs o n c dim Q).st 0 (i, r)) :=
  by_to (T := auto0 t_runpack) (h := hints [(6, 1, {p := true}), (6, 2, {o := some (.int .u64 w)}), (7, 1, {v := some (.tuple ⟨[nd false 0 f a x y, .bool true]⟩)}), (11, 3, ht false), (11, 9, ht false), (11, 18, ht false), (11, 28, ht false), (13, 3, {p := true}), (13, 4, {o := some (.int .i64 g1)}), (13, 5, {v := some (.int .i64 h1)}), (13, 6, {p := true}), (13, 7, {c := some (eInt.row r1)}), (14, 3, {p := true}), (14, 4, {o := some (.int .i64 g2)}), (14, 5, {v := some (.int .i64 h2)}), (14, 6, {p := true}), (14, 7, {c := some (eInt.row r2)}), (15, 0, {v := some (.int .i64 ((i + 1 : Nat) : Int))})]) (ws := [.b true]) (i0 := (i + 1, r2)) hE hm (auto0_ok t_runpack_ok) hL (by kernel_rfl) hob hK
theorem rtZ (cs : List Value) (o n c m q : Nat) (dim : Int) (Q : Nat × List Int → Prop) (Q2 : Nat → Prop) (i : Nat) (r : List Int) (J : Act → World → Prop) {E : Env} {rv : Value} {rhs : List Nat} {rhv : List Blk} (hE : EnvOK E Try.prog Try.f42 2 1 rv rhs rhv) (hL : (fRn m q r Q2).OK 1) (hob : all ([SameK (atLp (lp Try.f42 1)) (atLp (lp Try.f42 1)), Enter (fRn m q r Q2) 0 none [Value.slice (some (Addr.mk 10 q none)) m m, Value.int IntKind.i64 ((m : Int)), Value.int IntKind.i64 ((0 : Int))] [Blk.cells (eInt.row r) 3] [(10, 10)], SlOK 1 10 0 n n (some ((1 : Int))) none (some (Blk.cells (eInt.row r) 3)) (Value.slice (some (Addr.mk 10 q none)) m m), decide ((↑i : Int) < (↑n : Int)) = false])) (hK : ∀ zz, (fRn m q r Q2).inv 0 zz → ltO ((fRn m q r Q2).mu 0 zz) none → Sat E (atLp (lp Try.f42 1)) ((fRn m q r Q2).st 0 zz)) : Sat E (inLp (lp Try.f42 0) J) ((fRt cs o n c dim Q).st 0 (i, r)) :=
  by_to (T := auto0 t_runpack) (h := hints [(16, 1, {o := some (.slice (some ⟨10, q, none⟩) m m)})]) (ws := [.b false, .stop]) (i0 := 0) hE hm (auto0_ok t_runpack_ok) hL (by kernel_rfl) hob hK
theorem rnY (m q : Nat) (r : List Int) (Q : Nat → Prop) (i : Nat) (g : Int) (J : Act → World → Prop) {E : Env} {rv : Value} {rhs : List Nat} {rhv : List Blk} (hE : EnvOK E Try.prog Try.f42 2 1 rv rhs rhv) (hL : (fRn m q r Q).OK 1) (hob : all ([SameK (mkLp (lp Try.f42 1) J) (mkLp (lp Try.f42 1) J), Enter (fRn m q r Q) 0 (some (m - i)) [Value.slice (some (Addr.mk 10 q none)) m m, Value.int IntKind.i64 ((m : Int)), Value.int IntKind.i64 (Int.ofNat i.succ)] [Blk.cells (eInt.row r) 3] [(10, 10)], Value.int IntKind.i64 (IntKind.i64.wrap (Int.ofNat i.succ)) = Value.int IntKind.i64 (Int.ofNat i.succ), (g != (1 : Int)) = false, readPart Try.prog 3 (eInt.row r) (q + ((i : Int)).toNat * 1) = some (Value.int IntKind.i64 g), (0 : Int) ≤ (i : Int) ∧ (i : Int) < (m : Int), decide ((↑i : Int) < (↑m : Int)) = true])) (hK : ∀ zz, (fRn m q r Q).inv 0 zz → ltO ((fRn m q r Q).mu 0 zz) (some (m - i)) → Sat E (mkLp (lp Try.f42 1) J) ((fRn m q r Q).st 0 zz)) : Sat E (inLp (lp Try.f42 1) J) ((fRn m q r Q).st 0 i) :=
  by_to (T := auto0 t_runpack) (h := hints [(18, 0, {p := true}), (18, 1, {o := some (.int .i64 g)}), (21, 0, {v := some (.int .i64 ((i + 1 : Nat) : Int))})]) (ws := [.b true, .b false]) (i0 := (i + 1)) hE hm (auto0_ok t_runpack_ok) hL (by kernel_rfl) hob hK
theorem rnN (m q : Nat) (r : List Int) (Q : Nat → Prop) (i : Nat) (g : Int) (J : Act → World → Prop) {E : Env} (hE : EnvOK E Try.prog Try.f42 2 1 (.bool false) [] []) (hob : all ([Back (Value.bool false) (Value.bool false) [] [] [], (g != (1 : Int)) = true, readPart Try.prog 3 (eInt.row r) (q + ((i : Int)).toNat * 1) = some (Value.int IntKind.i64 g), (0 : Int) ≤ (i : Int) ∧ (i : Int) < (m : Int), decide ((↑i : Int) < (↑m : Int)) = true])) : Sat E (inLp (lp Try.f42 1) J) ((fRn m q r Q).st 0 i) :=
  by_ret (T := auto0 t_runpack) (h := hints [(18, 0, {p := true}), (18, 1, {o := some (.int .i64 g)})]) (ws := [.b true, .b true]) (nx' := 1) hE hm (auto0_ok t_runpack_ok) (by omega) (by simp) (by simp) (by kernel_rfl) hob
theorem rnE (m q : Nat) (r : List Int) (Q : Nat → Prop) (i : Nat) (J : Act → World → Prop) {E : Env} (hE : EnvOK E Try.prog Try.f42 2 1 (.bool true) [] []) (hob : all ([Back (Value.bool true) (Value.bool true) [] [] [], decide ((↑i : Int) < (↑m : Int)) = false])) : Sat E (inLp (lp Try.f42 1) J) ((fRn m q r Q).st 0 i) :=
  by_ret (T := auto0 t_runpack) (h := hints []) (ws := [.b false]) (nx' := 1) hE hm (auto0_ok t_runpack_ok) (by omega) (by simp) (by simp) (by kernel_rfl) hob
end Go.Proofs.Ythbaccmhdffjdaa.Tr


set_option linter.unusedVariables false
set_option linter.unusedSimpArgs false
set_option maxRecDepth 100000
namespace Go.Proofs.Ythbaccmhdffjdaa.Tr
open Go Go.RowKit Go.Proofs.Ythbaccmhdffjdaa.Ev Go.Proofs.Ythbaccmhdffjdaa.NodeE Go.Proofs.Ythbaccmhdffjdaa.Tr

theorem enIn (cs : List Value) (o n c : Nat) (p : Pt) (Q : Nat × Nat → Prop)  {E : Env} {rv : Value} {rhs : List Nat} {rhv : List Blk} (hE : EnvOK E Try.prog Try.f53 2 1 rv rhs rhv) (hL : (fEn cs o n c p Q).OK 1) (hob : all ([SameK (atLp (lp Try.f53 0)) (atLp (lp Try.f53 0)), Enter (fEn cs o n c p Q) 0 none [Value.slice (some (Addr.mk 0 o none)) n c, Value.pointer (some (Addr.mk 1 0 none)), Value.pointer (some (Addr.mk 17 0 none)), Value.int IntKind.i64 ((0 : Int)), Value.int IntKind.i64 ((0 : Int))] [Blk.ro cs, Blk.cells [Value.int IntKind.i64 p.p0, Value.int IntKind.i64 p.p1, Value.int IntKind.i64 p.p2, Value.int IntKind.i64 p.p3] 72, Blk.cells [Value.bool false, Value.int IntKind.i64 ((0 : Int)), Value.int IntKind.i64 ((0 : Int)), Value.int IntKind.i64 ((0 : Int)), Value.int IntKind.i64 ((0 : Int)), Value.int IntKind.i64 ((0 : Int))] 86] [(0, 0), (10, 1), (11, 17)]])) (hK : ∀ zz, (fEn cs o n c p Q).inv 0 zz → ltO ((fEn cs o n c p Q).mu 0 zz) none → Sat E (atLp (lp Try.f53 0)) ((fEn cs o n c p Q).st 0 zz)) : Sat E [.code (bodyOf Try.f53)] (st0 Try.f53 [.slice (some ⟨0, o, none⟩) n c, .agg ⟨p.cs⟩] (roRows [cs]) 1) :=
  by_to (T := auto0 t_runpack) (h := hints []) (ws := [.stop]) (i0 := (0, 0)) hE hm (auto0_ok t_runpack_ok) hL (by kernel_rfl) hob hK
theorem enK (cs : List Value) (o n c : Nat) (p : Pt) (Q : Nat × Nat → Prop) (k a : Nat) (J : Act → World → Prop) {E : Env} (hE : EnvOK E Try.prog Try.f53 2 1 (.tuple ⟨[.int .i64 (-1), nd false 0 0 0 0 0]⟩) [] []) (hob : all ([Back (Value.tuple (Array.mk [Value.int IntKind.i64 ((-1 : Int)), Value.agg (Array.mk [Value.bool false, Value.int IntKind.i64 ((0 : Int)), Value.int IntKind.i64 ((0 : Int)), Value.int IntKind.i64 ((0 : Int)), Value.int IntKind.i64 ((0 : Int)), Value.int IntKind.i64 ((0 : Int))])])) (Value.tuple (Array.mk [Value.int IntKind.i64 ((-1 : Int)), Value.agg (Array.mk [Value.bool false, Value.int IntKind.i64 ((0 : Int)), Value.int IntKind.i64 ((0 : Int)), Value.int IntKind.i64 ((0 : Int)), Value.int IntKind.i64 ((0 : Int)), Value.int IntKind.i64 ((0 : Int))])])) [] [] [], decide ((↑k : Int) < 31) = false])) : Sat E (inLp (lp Try.f53 0) J) ((fEn cs o n c p Q).st 0 (k, a)) :=
  by_ret (T := auto0 t_runpack) (h := hints []) (ws := [.b false]) (nx' := 1) hE hm (auto0_ok t_runpack_ok) (by omega) (by simp) (by simp) (by kernel_rfl) hob
theorem enO (cs : List Value) (o n c : Nat) (p : Pt) (Q : Nat × Nat → Prop) (k a : Nat) (J : Act → World → Prop) {E : Env} (hE : EnvOK E Try.prog Try.f53 2 1 (.tuple ⟨[.int .i64 (-1), nd false 0 0 0 0 0]⟩) [] []) (hob : all ([Back (Value.tuple (Array.mk [Value.int IntKind.i64 ((-1 : Int)), Value.agg (Array.mk [Value.bool false, Value.int IntKind.i64 ((0 : Int)), Value.int IntKind.i64 ((0 : Int)), Value.int IntKind.i64 ((0 : Int)), Value.int IntKind.i64 ((0 : Int)), Value.int IntKind.i64 ((0 : Int))])])) (Value.tuple (Array.mk [Value.int IntKind.i64 ((-1 : Int)), Value.agg (Array.mk [Value.bool false, Value.int IntKind.i64 ((0 : Int)), Value.int IntKind.i64 ((0 : Int)), Value.int IntKind.i64 ((0 : Int)), Value.int IntKind.i64 ((0 : Int)), Value.int IntKind.i64 ((0 : Int))])])) [] [] [], decide ((↑a : Int) ≥ (↑n : Int)) = true, decide ((↑k : Int) < 31) = true])) : Sat E (inLp (lp Try.f53 0) J) ((fEn cs o n c p Q).st 0 (k, a)) :=
  by_ret (T := auto0 t_runpack) (h := hints []) (ws := [.b true, .b true]) (nx' := 1) hE hm (auto0_ok t_runpack_ok) (by omega) (by simp) (by simp) (by kernel_rfl) hob
theorem enN (cs : List Value) (o n c : Nat) (p : Pt) (Q : Nat × Nat → Prop) (k a : Nat) (w : Int) (J : Act → World → Prop) {E : Env} (hE : EnvOK E Try.prog Try.f53 2 1 (.tuple ⟨[.int .i64 (-1), nd false 0 0 0 0 0]⟩) [] []) (hob : all ([Back (Value.tuple (Array.mk [Value.int IntKind.i64 ((-1 : Int)), Value.agg (Array.mk [Value.bool false, Value.int IntKind.i64 ((0 : Int)), Value.int IntKind.i64 ((0 : Int)), Value.int IntKind.i64 ((0 : Int)), Value.int IntKind.i64 ((0 : Int)), Value.int IntKind.i64 ((0 : Int))])])) (Value.tuple (Array.mk [Value.int IntKind.i64 ((-1 : Int)), Value.agg (Array.mk [Value.bool false, Value.int IntKind.i64 ((0 : Int)), Value.int IntKind.i64 ((0 : Int)), Value.int IntKind.i64 ((0 : Int)), Value.int IntKind.i64 ((0 : Int)), Value.int IntKind.i64 ((0 : Int))])])) [] [] [], Value.tuple (Array.mk [Value.agg (Array.mk [Value.bool (okB w && lfB w), Value.int IntKind.i64 (sV w), Value.int IntKind.i64 (sF w), Value.int IntKind.i64 (sA w), Value.int IntKind.i64 (sX w), Value.int IntKind.i64 (sY w)]), Value.bool (okB w)]) = Value.tuple (Array.mk [Value.agg (Array.mk [Value.bool false, Value.int IntKind.i64 ((0 : Int)), Value.int IntKind.i64 ((0 : Int)), Value.int IntKind.i64 ((0 : Int)), Value.int IntKind.i64 ((0 : Int)), Value.int IntKind.i64 ((0 : Int))]), Value.bool false]), U64 w, readPart Try.prog 83 cs (o + ((a : Int)).toNat * 1) = some (Value.int IntKind.u64 w), (0 : Int) ≤ (a : Int) ∧ (a : Int) < (n : Int), decide ((↑a : Int) ≥ (↑n : Int)) = false, decide ((↑k : Int) < 31) = true])) : Sat E (inLp (lp Try.f53 0) J) ((fEn cs o n c p Q).st 0 (k, a)) :=
  by_ret (T := auto0 t_runpack) (h := hints [(5, 2, {p := true}), (5, 3, {o := some (.int .u64 w)}), (5, 4, {v := some (.tuple ⟨[nd false 0 0 0 0 0, .bool false]⟩)})]) (ws := [.b true, .b false]) (nx' := 1) hE hm (auto0_ok t_runpack_ok) (by omega) (by simp) (by simp) (by kernel_rfl) hob
theorem enF (cs : List Value) (o n c : Nat) (p : Pt) (Q : Nat × Nat → Prop) (k a : Nat) (w v : Int) (J : Act → World → Prop) {E : Env} (hE : EnvOK E Try.prog Try.f53 2 1 (.tuple ⟨[.int .i64 (a : Int), nd true v 0 0 0 0]⟩) [] []) (hob : all ([Back (Value.tuple (Array.mk [Value.int IntKind.i64 ((a : Int)), Value.agg (Array.mk [Value.bool true, Value.int IntKind.i64 v, Value.int IntKind.i64 ((0 : Int)), Value.int IntKind.i64 ((0 : Int)), Value.int IntKind.i64 ((0 : Int)), Value.int IntKind.i64 ((0 : Int))])])) (Value.tuple (Array.mk [Value.int IntKind.i64 ((a : Int)), Value.agg (Array.mk [Value.bool true, Value.int IntKind.i64 v, Value.int IntKind.i64 ((0 : Int)), Value.int IntKind.i64 ((0 : Int)), Value.int IntKind.i64 ((0 : Int)), Value.int IntKind.i64 ((0 : Int))])])) [] [] [], Value.tuple (Array.mk [Value.agg (Array.mk [Value.bool (okB w && lfB w), Value.int IntKind.i64 (sV w), Value.int IntKind.i64 (sF w), Value.int IntKind.i64 (sA w), Value.int IntKind.i64 (sX w), Value.int IntKind.i64 (sY w)]), Value.bool (okB w)]) = Value.tuple (Array.mk [Value.agg (Array.mk [Value.bool true, Value.int IntKind.i64 v, Value.int IntKind.i64 ((0 : Int)), Value.int IntKind.i64 ((0 : Int)), Value.int IntKind.i64 ((0 : Int)), Value.int IntKind.i64 ((0 : Int))]), Value.bool true]), U64 w, readPart Try.prog 83 cs (o + ((a : Int)).toNat * 1) = some (Value.int IntKind.u64 w), (0 : Int) ≤ (a : Int) ∧ (a : Int) < (n : Int), decide ((↑a : Int) ≥ (↑n : Int)) = false, decide ((↑k : Int) < 31) = true])) : Sat E (inLp (lp Try.f53 0) J) ((fEn cs o n c p Q).st 0 (k, a)) :=
  by_ret (T := auto0 t_runpack) (h := hints [(5, 2, {p := true}), (5, 3, {o := some (.int .u64 w)}), (5, 4, {v := some (.tuple ⟨[nd true v 0 0 0 0, .bool true]⟩)})]) (ws := [.b true, .b false]) (nx' := 1) hE hm (auto0_ok t_runpack_ok) (by omega) (by simp) (by simp) (by kernel_rfl) hob
theorem enL (cs : List Value) (o n c : Nat) (p : Pt) (Q : Nat × Nat → Prop) (k m b : Nat) (w f a x y g : Int) (J : Act → World → Prop) {E : Env} {rv : Value} {rhs : List Nat} {rhv : List Blk} (hE : EnvOK E Try.prog Try.f53 2 1 rv rhs rhv) (hL : (fEn cs o n c p Q).OK 1) (hob : all ([SameK (mkLp (lp Try.f53 0) J) (mkLp (lp Try.f53 0) J), Enter (fEn cs o n c p Q) 0 (some (31 - k)) [Value.slice (some (Addr.mk 0 o none)) n c, Value.pointer (some (Addr.mk 10 0 none)), Value.pointer (some (Addr.mk 11 0 none)), Value.int IntKind.i64 ((b : Int)), Value.int IntKind.i64 (Int.ofNat k.succ)] [Blk.ro cs, Blk.cells [Value.int IntKind.i64 p.p0, Value.int IntKind.i64 p.p1, Value.int IntKind.i64 p.p2, Value.int IntKind.i64 p.p3] 72, Blk.cells [Value.bool false, Value.int IntKind.i64 ((0 : Int)), Value.int IntKind.i64 ((0 : Int)), Value.int IntKind.i64 ((0 : Int)), Value.int IntKind.i64 ((0 : Int)), Value.int IntKind.i64 ((0 : Int))] 86] [(0, 0), (10, 10), (11, 11)], Value.int IntKind.i64 (IntKind.i64.wrap (Int.ofNat k.succ)) = Value.int IntKind.i64 (Int.ofNat k.succ), Value.int IntKind.i64 x = Value.int IntKind.i64 ((b : Int)), decide (g ≤ a) = true, readPart Try.prog 3 p.cs (0 + f.toNat * 1) = some (Value.int IntKind.i64 g), (0 : Int) ≤ f ∧ f < (4 : Int), Value.tuple (Array.mk [Value.agg (Array.mk [Value.bool (okB w && lfB w), Value.int IntKind.i64 (sV w), Value.int IntKind.i64 (sF w), Value.int IntKind.i64 (sA w), Value.int IntKind.i64 (sX w), Value.int IntKind.i64 (sY w)]), Value.bool (okB w)]) = Value.tuple (Array.mk [Value.agg (Array.mk [Value.bool false, Value.int IntKind.i64 ((0 : Int)), Value.int IntKind.i64 f, Value.int IntKind.i64 a, Value.int IntKind.i64 x, Value.int IntKind.i64 y]), Value.bool true]), U64 w, readPart Try.prog 83 cs (o + ((m : Int)).toNat * 1) = some (Value.int IntKind.u64 w), (0 : Int) ≤ (m : Int) ∧ (m : Int) < (n : Int), decide ((↑m : Int) ≥ (↑n : Int)) = false, decide ((↑k : Int) < 31) = true])) (hK : ∀ zz, (fEn cs o n c p Q).inv 0 zz → ltO ((fEn cs o n c p Q).mu 0 zz) (some (31 - k)) → Sat E (mkLp (lp Try.f53 0) J) ((fEn cs o n c p Q).st 0 zz)) : Sat E (inLp (lp Try.f53 0) J) ((fEn cs o n c p Q).st 0 (k, m)) :=
  by_to (T := auto0 t_runpack) (h := hints [(5, 2, {p := true}), (5, 3, {o := some (.int .u64 w)}), (5, 4, {v := some (.tuple ⟨[nd false 0 f a x y, .bool true]⟩)}), (11, 2, {p := true}), (11, 3, {o := some (.int .i64 g)}), (12, 1, {v := some (.int .i64 (b : Int))}), (13, 0, {v := some (.int .i64 ((k + 1 : Nat) : Int))})]) (ws := [.b true, .b false, .go, .go, .b true]) (i0 := (k + 1, b)) hE hm (auto0_ok t_runpack_ok) hL (by kernel_rfl) hob hK
theorem enR (cs : List Value) (o n c : Nat) (p : Pt) (Q : Nat × Nat → Prop) (k m b : Nat) (w f a x y g : Int) (J : Act → World → Prop) {E : Env} {rv : Value} {rhs : List Nat} {rhv : List Blk} (hE : EnvOK E Try.prog Try.f53 2 1 rv rhs rhv) (hL : (fEn cs o n c p Q).OK 1) (hob : all ([SameK (mkLp (lp Try.f53 0) J) (mkLp (lp Try.f53 0) J), Enter (fEn cs o n c p Q) 0 (some (31 - k)) [Value.slice (some (Addr.mk 0 o none)) n c, Value.pointer (some (Addr.mk 10 0 none)), Value.pointer (some (Addr.mk 11 0 none)), Value.int IntKind.i64 ((b : Int)), Value.int IntKind.i64 (Int.ofNat k.succ)] [Blk.ro cs, Blk.cells [Value.int IntKind.i64 p.p0, Value.int IntKind.i64 p.p1, Value.int IntKind.i64 p.p2, Value.int IntKind.i64 p.p3] 72, Blk.cells [Value.bool false, Value.int IntKind.i64 ((0 : Int)), Value.int IntKind.i64 ((0 : Int)), Value.int IntKind.i64 ((0 : Int)), Value.int IntKind.i64 ((0 : Int)), Value.int IntKind.i64 ((0 : Int))] 86] [(0, 0), (10, 10), (11, 11)], Value.int IntKind.i64 (IntKind.i64.wrap (Int.ofNat k.succ)) = Value.int IntKind.i64 (Int.ofNat k.succ), Value.int IntKind.i64 y = Value.int IntKind.i64 ((b : Int)), decide (g ≤ a) = false, readPart Try.prog 3 p.cs (0 + f.toNat * 1) = some (Value.int IntKind.i64 g), (0 : Int) ≤ f ∧ f < (4 : Int), Value.tuple (Array.mk [Value.agg (Array.mk [Value.bool (okB w && lfB w), Value.int IntKind.i64 (sV w), Value.int IntKind.i64 (sF w), Value.int IntKind.i64 (sA w), Value.int IntKind.i64 (sX w), Value.int IntKind.i64 (sY w)]), Value.bool (okB w)]) = Value.tuple (Array.mk [Value.agg (Array.mk [Value.bool false, Value.int IntKind.i64 ((0 : Int)), Value.int IntKind.i64 f, Value.int IntKind.i64 a, Value.int IntKind.i64 x, Value.int IntKind.i64 y]), Value.bool true]), U64 w, readPart Try.prog 83 cs (o + ((m : Int)).toNat * 1) = some (Value.int IntKind.u64 w), (0 : Int) ≤ (m : Int) ∧ (m : Int) < (n : Int), decide ((↑m : Int) ≥ (↑n : Int)) = false, decide ((↑k : Int) < 31) = true])) (hK : ∀ zz, (fEn cs o n c p Q).inv 0 zz → ltO ((fEn cs o n c p Q).mu 0 zz) (some (31 - k)) → Sat E (mkLp (lp Try.f53 0) J) ((fEn cs o n c p Q).st 0 zz)) : Sat E (inLp (lp Try.f53 0) J) ((fEn cs o n c p Q).st 0 (k, m)) :=
  by_to (T := auto0 t_runpack) (h := hints [(5, 2, {p := true}), (5, 3, {o := some (.int .u64 w)}), (5, 4, {v := some (.tuple ⟨[nd false 0 f a x y, .bool true]⟩)}), (11, 2, {p := true}), (11, 3, {o := some (.int .i64 g)}), (6, 1, {v := some (.int .i64 (b : Int))}), (13, 0, {v := some (.int .i64 ((k + 1 : Nat) : Int))})]) (ws := [.b true, .b false, .go, .go, .b false]) (i0 := (k + 1, b)) hE hm (auto0_ok t_runpack_ok) hL (by kernel_rfl) hob hK
end Go.Proofs.Ythbaccmhdffjdaa.Tr


set_option linter.unusedVariables false
set_option linter.unusedSimpArgs false
set_option maxRecDepth 100000
namespace Go.Proofs.Ythbaccmhdffjdaa.Tr
open Go Go.RowKit Go.Proofs.Ythbaccmhdffjdaa.Ev Go.Proofs.Ythbaccmhdffjdaa.NodeE

theorem pt_read {p : Pt} {f : Int} (hf : 0 ≤ f ∧ f < 4) : readPart Try.prog 3 p.cs (0 + f.toNat * 1) = some (.int .i64 (p.at f)) := by
  have hc : f = 0 ∨ f = 1 ∨ f = 2 ∨ f = 3 := by omega
  have h0 : readPart Try.prog 3 p.cs 0 = some (.int .i64 p.p0) := by kernel_rfl
  have h1 : readPart Try.prog 3 p.cs 1 = some (.int .i64 p.p1) := by kernel_rfl
  have h2 : readPart Try.prog 3 p.cs 2 = some (.int .i64 p.p2) := by kernel_rfl
  have h3 : readPart Try.prog 3 p.cs 3 = some (.int .i64 p.p3) := by kernel_rfl
  rcases hc with rfl | rfl | rfl | rfl
  · exact h0
  · exact h1
  · exact h2
  · exact h3

theorem end_spec (cs : List Value) (o n c : Nat) (p : Pt) (hr : eWord.Row cs o n) (hpl : ∀ x ∈ cs, leafG x = true) (hU : ∀ w ∈ eWord.list cs o n, U64 w) (hn : n ≤ 65536) :
    CallSpec Try.prog 53 [.slice (some ⟨0, o, none⟩) n c, .agg ⟨p.cs⟩] (roRows [cs]) 1 (.tuple ⟨[.int .i64 (walkI (eWord.list cs o n) p), nd (endL (eWord.list cs o n) p) (endV (eWord.list cs o n) p) 0 0 0 0]⟩) (assocN [] []) := by
  refine spec_of_sat Try.func53 rfl fun E hE => ?_
  have hlen : (eWord.list cs o n).length = n := Elt.list_len _ _ _
  let Q : Nat × Nat → Prop := fun s => s.1 ≤ 31 ∧ goW (eWord.list cs o n) p (31 - s.1) s.2 = goW (eWord.list cs o n) p 31 0
  have okL := fEn_ok cs o n c p Q hpl
  have rnr : ∀ f : Nat → Nat, Blk.rnB f (.ro cs) = .ro cs := fun f => Blk.plain.rnB (b := .ro cs) hpl f
  have rn0 : ∀ f : Nat → Nat, Blk.rnB f (.cells p.cs 72) = .cells [.int .i64 p.p0, .int .i64 p.p1, .int .i64 p.p2, .int .i64 p.p3] 72 := fun f => rfl
  have rn1 : ∀ f : Nat → Nat, Blk.rnB f (.cells [.int .i64 p.p0, .int .i64 p.p1, .int .i64 p.p2, .int .i64 p.p3] 72) = .cells [.int .i64 p.p0, .int .i64 p.p1, .int .i64 p.p2, .int .i64 p.p3] 72 := fun f => rfl
  have rn2 : ∀ f : Nat → Nat, Blk.rnB f (.cells [.bool false, .int .i64 0, .int .i64 0, .int .i64 0, .int .i64 0, .int .i64 0] 86) = .cells [.bool false, .int .i64 0, .int .i64 0, .int .i64 0, .int .i64 0, .int .i64 0] 86 := fun f => rfl
  refine enIn cs o n c p Q hE okL ⟨rfl, ⟨(0, 0), ⟨Nat.zero_le _, rfl⟩, trivial, rfl, by simp [fEn, rnr, rn0, rn1, rn2]⟩, trivial⟩ fun zz hz _ => by_loop (fEn cs o n c p Q) (lp Try.f53 0) ?_ 0 zz hz
  rintro b ⟨k, a⟩ hinv J hJ
  have hinv : k ≤ 31 ∧ goW (eWord.list cs o n) p (31 - k) a = goW (eWord.list cs o n) p 31 0 := hinv
  obtain ⟨k1, k2⟩ := hinv
  show Sat E (inLp (lp Try.f53 0) J) ((fEn cs o n c p Q).st 0 (k, a))
  have hJ' : ∀ zz, (fEn cs o n c p Q).inv 0 zz → ltO ((fEn cs o n c p Q).mu 0 zz) (some (31 - k)) → Sat E (mkLp (lp Try.f53 0) J) ((fEn cs o n c p Q).st 0 zz) := fun zz h1 h2 => hJ 0 zz h1 h2
  by_cases hk : k < 31
  · have hlt : decide ((k : Int) < 31) = true := decide_eq_true (by omega)
    have hs : 31 - k = (31 - (k + 1)) + 1 := by omega
    by_cases han : a < n
    · have hlt2 : decide ((a : Int) ≥ (n : Int)) = false := decide_eq_false (by omega)
      obtain ⟨w, hw⟩ : ∃ w, (eWord.list cs o n)[a]? = some w := ⟨_, List.getElem?_eq_getElem (by rw [hlen]; omega)⟩
      have hrd := hr.read1 (P := Try.prog) (ty := 83) (by kernel_rfl) rfl (i := a) hw rfl rfl
      rw [← Nat.mul_one a] at hrd
      cases ho : okB w
      · have hg : goW (eWord.list cs o n) p 31 0 = none := by rw [← k2, hs]; exact goW_bad hw ho
        obtain ⟨q1, q2, q3⟩ := end_none hg
        rw [q1, q2, q3] at hE
        exact enN cs o n c p Q k a w J hE ⟨⟨rfl, rfl⟩, unp_no ho, hU w (List.mem_of_getElem? hw), hrd, ⟨Int.natCast_nonneg _, Int.ofNat_lt.2 han⟩, hlt2, hlt, trivial⟩
      · cases hl : lfB w
        · have hib := inner_bounds ho hl
          have hf := hib.1
          have hgo : goW (eWord.list cs o n) p (31 - (k + 1)) (goes p w).toNat = goW (eWord.list cs o n) p 31 0 := by rw [← k2, hs, goW_step hw ho hl]
          cases hd : decide (p.at (uF w) ≤ low32 w)
          · have hb : goes p w = uY w := by unfold goes; rw [hd]; rfl
            rw [hb] at hgo
            exact enR cs o n c p Q k a (uY w).toNat w (uF w) (low32 w) (uX w) (uY w) (p.at (uF w)) J hE okL ⟨rfl, ⟨(k + 1, (uY w).toNat), ⟨hk, hgo⟩, (by show 31 - (k + 1) < 31 - k; omega), rfl, by simp [fEn, rnr, rn0, rn1, rn2]⟩, i64_succ (by omega), (congrArg _ (Int.toNat_of_nonneg (by omega)).symm), hd, pt_read hf, hf, unp_inner ho hl, hU w (List.mem_of_getElem? hw), hrd, ⟨Int.natCast_nonneg _, Int.ofNat_lt.2 han⟩, hlt2, hlt, trivial⟩ hJ'
          · have hb : goes p w = uX w := by unfold goes; rw [hd]; rfl
            rw [hb] at hgo
            exact enL cs o n c p Q k a (uX w).toNat w (uF w) (low32 w) (uX w) (uY w) (p.at (uF w)) J hE okL ⟨rfl, ⟨(k + 1, (uX w).toNat), ⟨hk, hgo⟩, (by show 31 - (k + 1) < 31 - k; omega), rfl, by simp [fEn, rnr, rn0, rn1, rn2]⟩, i64_succ (by omega), (congrArg _ (Int.toNat_of_nonneg (by omega)).symm), hd, pt_read hf, hf, unp_inner ho hl, hU w (List.mem_of_getElem? hw), hrd, ⟨Int.natCast_nonneg _, Int.ofNat_lt.2 han⟩, hlt2, hlt, trivial⟩ hJ'
        · have hg : goW (eWord.list cs o n) p 31 0 = some a := by rw [← k2, hs]; exact goW_leaf hw ho hl
          obtain ⟨q1, q2, q3⟩ := end_some hg
          have q4 : (eWord.list cs o n).getD a 0 = w := by rw [List.getD_eq_getElem?_getD, hw]; rfl
          rw [q4] at q2
          rw [q1, q2, q3] at hE
          exact enF cs o n c p Q k a w (low32 w) J hE ⟨⟨rfl, rfl⟩, unp_leaf ho hl, hU w (List.mem_of_getElem? hw), hrd, ⟨Int.natCast_nonneg _, Int.ofNat_lt.2 han⟩, hlt2, hlt, trivial⟩
    · have hlt2 : decide ((a : Int) ≥ (n : Int)) = true := decide_eq_true (by omega)
      have hg : goW (eWord.list cs o n) p 31 0 = none := by rw [← k2, hs]; exact goW_out (by rw [hlen]; omega)
      obtain ⟨q1, q2, q3⟩ := end_none hg
      rw [q1, q2, q3] at hE
      exact enO cs o n c p Q k a J hE ⟨⟨rfl, rfl⟩, hlt2, hlt, trivial⟩
  · have hlt : decide ((k : Int) < 31) = false := decide_eq_false (by omega)
    have hg : goW (eWord.list cs o n) p 31 0 = none := by rw [← k2, show 31 - k = 0 by omega]; rfl
    obtain ⟨q1, q2, q3⟩ := end_none hg
    rw [q1, q2, q3] at hE
    exact enK cs o n c p Q k a J hE ⟨⟨rfl, rfl⟩, hlt, trivial⟩

def end_F : RoF := fun xs css => match xs, css with
  | [.slice (some ⟨0, o, none⟩) n c, .agg ⟨[.int .i64 p0, .int .i64 p1, .int .i64 p2, .int .i64 p3]⟩], [cs] => some (.tuple ⟨[.int .i64 (walkI (eWord.list cs o n) ⟨p0, p1, p2, p3⟩), nd (endL (eWord.list cs o n) ⟨p0, p1, p2, p3⟩) (endV (eWord.list cs o n) ⟨p0, p1, p2, p3⟩) 0 0 0 0]⟩, [], [eWord.Row cs o n, ∀ w ∈ eWord.list cs o n, U64 w, n ≤ 65536])
  | _, _ => none
theorem end_sum : SumOK Try.prog 53 (roSum end_F) := by
  refine roSum_ok (en Try.func53 rfl) ?_ (fun xs css r h => ?_)
  · intro xs css v blks ob h hob hpl hl
    unfold end_F at h
    split at h
    · rename_i o n c p0 p1 p2 p3 cs
      simp only [Option.some.injEq, Prod.mk.injEq] at h
      obtain ⟨rfl, rfl, rfl⟩ := h
      refine ⟨by simp, by simp, fun j hj => by simp [nms, nm1, nmL, nm0] at hj, ?_⟩
      exact end_spec cs o n c ⟨p0, p1, p2, p3⟩ (hob _ (List.mem_cons_self ..)) (hpl cs (by simp)) (hob _ (List.mem_cons_of_mem _ (List.mem_cons_self ..))) (hob _ (by simp))
    · simp at h
  · unfold end_F at h
    split at h <;> simp at h <;> simp

noncomputable def t_end : Sums := upd t_runpack 53 (some (roSum end_F))
theorem t_end_ok : SumsOK Try.prog t_end := sums_cons t_runpack_ok end_sum
end Go.Proofs.Ythbaccmhdffjdaa.Tr


set_option linter.unusedVariables false
set_option linter.unusedSimpArgs false
set_option maxRecDepth 100000
namespace Go.Proofs.Ythbaccmhdffjdaa.Tr
open Go Go.RowKit Go.Proofs.Ythbaccmhdffjdaa.Ev Go.Proofs.Ythbaccmhdffjdaa.NodeE Go.Proofs.Ythbaccmhdffjdaa.Tr

theorem vlP (cs : List Value) (o n c : Nat) (p : Pt) (a v : Int) (l : Bool)  {E : Env} (hE : EnvOK E Try.prog Try.f35 2 1 (.int .i64 v) [] []) (hob : all ([Back (Value.int IntKind.i64 v) (Value.int IntKind.i64 v) [] [] [], Value.tuple (Array.mk [Value.int IntKind.i64 (walkI (eWord.list cs o n) (Pt.mk p.p0 p.p1 p.p2 p.p3)), Value.agg (Array.mk [Value.bool (endL (eWord.list cs o n) (Pt.mk p.p0 p.p1 p.p2 p.p3)), Value.int IntKind.i64 (endV (eWord.list cs o n) (Pt.mk p.p0 p.p1 p.p2 p.p3)), Value.int IntKind.i64 ((0 : Int)), Value.int IntKind.i64 ((0 : Int)), Value.int IntKind.i64 ((0 : Int)), Value.int IntKind.i64 ((0 : Int))])]) = Value.tuple (Array.mk [Value.int IntKind.i64 a, Value.agg (Array.mk [Value.bool l, Value.int IntKind.i64 v, Value.int IntKind.i64 ((0 : Int)), Value.int IntKind.i64 ((0 : Int)), Value.int IntKind.i64 ((0 : Int)), Value.int IntKind.i64 ((0 : Int))])]), plainR [cs], eWord.Row cs o n, ∀ (w : Int), w ∈ eWord.list cs o n → U64 w, n ≤ 65536])) : Sat E [.code (bodyOf Try.f35)] (st0 Try.f35 [.slice (some ⟨0, o, none⟩) n c, .agg ⟨p.cs⟩] (roRows [cs]) 1) :=
  by_ret (T := auto0 t_end) (h := hints [(1, 2, {v := some (.tuple ⟨[.int .i64 a, nd l v 0 0 0 0]⟩)})]) (ws := []) (nx' := 1) hE hm (auto0_ok t_end_ok) (by omega) (by simp) (by simp) (by kernel_rfl) hob
end Go.Proofs.Ythbaccmhdffjdaa.Tr


set_option linter.unusedVariables false
set_option linter.unusedSimpArgs false
set_option maxRecDepth 100000
namespace Go.Proofs.Ythbaccmhdffjdaa.Tr
open Go Go.RowKit Go.Proofs.Ythbaccmhdffjdaa.Ev Go.Proofs.Ythbaccmhdffjdaa.NodeE

theorem value_spec (cs : List Value) (o n c : Nat) (p : Pt) (hr : eWord.Row cs o n) (hpl : ∀ x ∈ cs, leafG x = true) (hU : ∀ w ∈ eWord.list cs o n, U64 w) (hn : n ≤ 65536) :
    CallSpec Try.prog 35 [.slice (some ⟨0, o, none⟩) n c, .agg ⟨p.cs⟩] (roRows [cs]) 1 (.int .i64 (endV (eWord.list cs o n) p)) (assocN [] []) := by
  refine spec_of_sat Try.func35 rfl fun E hE => ?_
  exact vlP cs o n c p (walkI (eWord.list cs o n) p) (endV (eWord.list cs o n) p) (endL (eWord.list cs o n) p) hE ⟨⟨rfl, rfl⟩, rfl, plain1 hpl, hr, hU, hn, trivial⟩

def value_F : RoF := fun xs css => match xs, css with
  | [.slice (some ⟨0, o, none⟩) n c, .agg ⟨[.int .i64 p0, .int .i64 p1, .int .i64 p2, .int .i64 p3]⟩], [cs] => some (.int .i64 (endV (eWord.list cs o n) ⟨p0, p1, p2, p3⟩), [], [eWord.Row cs o n, ∀ w ∈ eWord.list cs o n, U64 w, n ≤ 65536])
  | _, _ => none
theorem value_sum : SumOK Try.prog 35 (roSum value_F) := by
  refine roSum_ok (en Try.func35 rfl) ?_ (fun xs css r h => ?_)
  · intro xs css v blks ob h hob hpl hl
    unfold value_F at h
    split at h
    · rename_i o n c p0 p1 p2 p3 cs
      simp only [Option.some.injEq, Prod.mk.injEq] at h
      obtain ⟨rfl, rfl, rfl⟩ := h
      refine ⟨by simp, by simp, fun j hj => by simp [nms, nm1, nmL, nm0] at hj, ?_⟩
      exact value_spec cs o n c ⟨p0, p1, p2, p3⟩ (hob _ (List.mem_cons_self ..)) (hpl cs (by simp)) (hob _ (List.mem_cons_of_mem _ (List.mem_cons_self ..))) (hob _ (by simp))
    · simp at h
  · unfold value_F at h
    split at h <;> simp at h <;> simp

end Go.Proofs.Ythbaccmhdffjdaa.Tr


set_option linter.unusedVariables false
set_option linter.unusedSimpArgs false
set_option maxRecDepth 100000
namespace Go.Proofs.Ythbaccmhdffjdaa.Tr
open Go Go.RowKit Go.Proofs.Ythbaccmhdffjdaa.Ev Go.Proofs.Ythbaccmhdffjdaa.NodeE

/-- The counts so far, as the program keeps them. -/
def cntL (ws : List Int) (n : Nat) : List Int := (List.range n).map fun (k : Nat) => (Int.ofNat (named ws (k : Int)))
theorem cntL_len (ws : List Int) (n : Nat) : (cntL ws n).length = n := by simp [cntL]
theorem cntL_get {ws : List Int} {n k : Nat} (h : k < n) : (cntL ws n)[k]? = some (named ws (k : Int) : Int) := by
  simp [cntL, h]
theorem named_le (ws : List Int) (k : Int) : named ws k ≤ 2 * ws.length := by
  induction ws with
  | nil => simp [named]
  | cons w ws ih =>
    have h1 : (namesW w).length ≤ 2 := by unfold namesW; cases lfB w <;> simp
    have h2 := List.count_le_length (a := k) (l := namesW w)
    simp only [named, List.flatMap_cons, List.count_append, List.length_cons] at ih ⊢
    omega
theorem cnt_two {ws : List Int} {w : Int} {n : Nat} {X Y : Nat} (hl : lfB w = false) (hx : uX w = X) (hy : uY w = Y) (hne : X ≠ Y) (hX : X < n) (hY : Y < n) :
    ((cntL ws n).set X ((named ws (X : Int) : Int) + 1)).set Y ((named ws (Y : Int) : Int) + 1) = cntL (ws ++ [w]) n := by
  apply List.ext_getElem
  · simp [cntL]
  · intro k h1 h2
    have hk : k < n := by simpa [cntL] using h2
    simp only [List.getElem_set]
    simp only [cntL, List.getElem_map, List.getElem_range, named_snoc, namesW, hl, cond_false, hx, hy, List.count_cons, List.count_nil]
    by_cases e1 : Y = k
    · subst e1
      have : ¬ (X : Int) = (Y : Int) := by omega
      simp [this]
    · by_cases e2 : X = k
      · subst e2
        have : ¬ (Y : Int) = (X : Int) := by omega
        simp [e1, this]
      · have h3 : ¬ (X : Int) = (k : Int) := by omega
        have h4 : ¬ (Y : Int) = (k : Int) := by omega
        simp [e1, e2, h3, h4]
theorem cnt_leaf {ws : List Int} {w : Int} {n : Nat} (hl : lfB w = true) : cntL (ws ++ [w]) n = cntL ws n := by
  unfold cntL
  refine List.map_congr_left fun k _ => ?_
  rw [named_snoc]; simp [namesW, hl]
theorem cnt_zero (n : Nat) : cntL [] n = List.replicate n 0 := by
  apply List.ext_getElem
  · simp [cntL]
  · intro k h1 h2; simp [cntL, named_nil]
theorem rd_int {l : List Int} {k : Nat} {z : Int} (h : l[k]? = some z) : readPart Try.prog 3 (eInt.row l) (0 + k * 1) = some (.int .i64 z) := by
  rw [Nat.mul_one]
  exact (Elt.canon0 (e := eInt) l).1.read1 (P := Try.prog) (ty := 3) (by kernel_rfl) rfl (i := k) (x := z) (by rw [(Elt.canon0 l).2]; exact h) rfl rfl
theorem rd_off {l : List Int} {q j : Nat} {z : Int} (h : l[q + j]? = some z) : readPart Try.prog 3 (eInt.row l) (q + ((j : Nat) : Int).toNat * 1) = some (.int .i64 z) := by
  have := rd_int h
  rw [Nat.mul_one, Nat.zero_add] at this
  rw [Int.toNat_natCast, Nat.mul_one]
  exact this
theorem min_gt {x y i : Int} (h : ¬ minI x y ≤ i) : i < x ∧ i < y := by unfold minI at h; split at h <;> omega
theorem max_lt {x y i : Int} (h : ¬ maxI x y ≥ i) : x < i ∧ y < i := by unfold maxI at h; split at h <;> omega
theorem not_min {x y i : Int} (h1 : i < x) (h2 : i < y) : ¬ minI x y ≤ i := by unfold minI; split <;> omega
theorem not_max {x y i : Int} (h1 : x < i) (h2 : y < i) : ¬ maxI x y ≥ i := by unfold maxI; split <;> omega
theorem right_spec (cs : List Value) (o n c : Nat) (dim : Int) (hr : eWord.Row cs o n) (hpl : ∀ x ∈ cs, leafG x = true) (hU : ∀ w ∈ eWord.list cs o n, U64 w) (hn : n ≤ 65536) :
    CallSpec Try.prog 42 [.slice (some ⟨0, o, none⟩) n c, .int .i64 dim] (roRows [cs]) 1 (.bool (rightI (eWord.list cs o n) dim)) (assocN [] []) := by
  refine spec_of_sat Try.func42 rfl fun E hE => ?_
  have hlen : (eWord.list cs o n).length = n := Elt.list_len _ _ _
  generalize hws : eWord.list cs o n = ws at hU hlen hE
  refine (Classical.em (1 ≤ n)).symm.elim (fun h1 => ?_) (fun h1 => ?_)
  · rw [right_len (by omega)] at hE
    exact rtShort cs o n c dim hE ⟨⟨rfl, rfl⟩, (congrArg _ (decide_eq_true (by omega))), trivial⟩
  have g1 : Value.bool (decide ((n : Int) < 1)) = .bool false := congrArg _ (decide_eq_false (by omega))
  refine (Classical.em (n ≤ 31)).symm.elim (fun h31 => ?_) (fun h31 => ?_)
  · rw [right_len (by omega)] at hE
    exact rtLong cs o n c dim hE ⟨⟨rfl, rfl⟩, (congrArg _ (decide_eq_true (by omega))), g1, trivial⟩
  have g2 : Value.bool (decide ((n : Int) > 31)) = .bool false := congrArg _ (decide_eq_false (by omega))
  let Q : Nat × List Int → Prop := fun s => s.1 ≤ n ∧ (∀ (j : Nat) (w : Int), j < s.1 → ws[j]? = some w → goodW dim n j w = true) ∧ s.2 = cntL (ws.take s.1) n
  have okL := fRt_ok cs o n c dim Q hpl
  have rnr : ∀ f : Nat → Nat, Blk.rnB f (.ro cs) = .ro cs := fun f => Blk.plain.rnB (b := .ro cs) hpl f
  have rni : ∀ (f : Nat → Nat) (l : List Int), Blk.rnB f (.cells (eInt.row l) 3) = .cells (eInt.row l) 3 := fun f l => Blk.plain.rnB (b := .cells (eInt.row l) 3) (Elt.row_pl _) f
  have hz : repl [Value.int .i64 0] n = eInt.row (cntL [] n) := by rw [cnt_zero]; exact repl_row (e := eInt) (x := 0) rfl _
  refine rtIn cs o n c dim Q (cntL [] n) hE okL ⟨rfl, ⟨(0, cntL [] n), ⟨Nat.zero_le _, fun j w hj => absurd hj (Nat.not_lt_zero _), rfl⟩, trivial, rfl, by simp [fRt, rnr, rni]⟩, ⟨rfl, Int.natCast_nonneg _, by show (n : Int) ≤ _; omega, by show (8 : Int) * (n : Int) ≤ _; omega, hz.symm⟩, g2, g1, trivial⟩ fun zz hz _ => by_loop (fRt cs o n c dim Q) (lp Try.f42 0) ?_ 0 zz hz
  rintro b ⟨i, r⟩ hinv J hJ
  have hinv : i ≤ n ∧ (∀ (j : Nat) (w : Int), j < i → ws[j]? = some w → goodW dim n j w = true) ∧ r = cntL (ws.take i) n := hinv
  obtain ⟨k1, k2, k3⟩ := hinv
  show Sat E (inLp (lp Try.f42 0) J) ((fRt cs o n c dim Q).st 0 (i, r))
  have hJ' : ∀ zz, (fRt cs o n c dim Q).inv 0 zz → ltO ((fRt cs o n c dim Q).mu 0 zz) (some (n - i)) → Sat E (mkLp (lp Try.f42 0) J) ((fRt cs o n c dim Q).st 0 zz) := fun zz h1 h2 => hJ 0 zz h1 h2
  by_cases hin : i < n
  · have hlt : decide ((i : Int) < (n : Int)) = true := decide_eq_true (by omega)
    obtain ⟨w, hw⟩ : ∃ w, ws[i]? = some w := ⟨_, List.getElem?_eq_getElem (by rw [hlen]; omega)⟩
    have hrd := hr.read1 (P := Try.prog) (ty := 83) (by kernel_rfl) rfl (i := i) (x := w) (by rw [hws]; exact hw) rfl rfl
    rw [← Nat.mul_one i] at hrd
    have htk : ws.take (i + 1) = ws.take i ++ [w] := by rw [List.take_add_one, hw]; rfl
    have nxt : goodW dim n i w = true → ∀ (j : Nat) (v : Int), j < i + 1 → ws[j]? = some v → goodW dim n j v = true := fun hg j v hj hv => by
      by_cases e : j < i
      · exact k2 j v e hv
      · obtain rfl : j = i := by omega
        rw [hw] at hv; injection hv with hv; subst hv; exact hg
    cases hgd : goodW dim n i w
    · have hbad : rightI ws dim = false := right_bad hw (by rw [hlen]; exact hgd)
      rw [hbad] at hE
      cases ho : okB w
      · exact rtN cs o n c dim Q i r w J hE ⟨⟨rfl, rfl⟩, unp_no ho, hU w (List.mem_of_getElem? hw), hrd, ⟨Int.natCast_nonneg _, Int.ofNat_lt.2 hin⟩, hlt, trivial⟩
      · refine (Bool.eq_false_or_eq_true (lfB w)).elim (fun hl => ?_) (fun hl => ?_)
        · rw [good_leaf ho hl] at hgd; exact absurd hgd (by simp)
        refine (Classical.em (uF w < dim)).symm.elim (fun d1 => ?_) (fun d1 => ?_)
        · exact rtD cs o n c dim Q i r w (uF w) (low32 w) (uX w) (uY w) J hE ⟨⟨rfl, rfl⟩, (congrArg _ (decide_eq_true (by omega))), unp_inner ho hl, hU w (List.mem_of_getElem? hw), hrd, ⟨Int.natCast_nonneg _, Int.ofNat_lt.2 hin⟩, hlt, trivial⟩
        have e1 : Value.bool (decide (uF w ≥ dim)) = .bool false := congrArg _ (decide_eq_false (by omega))
        by_cases d2 : uX w = uY w
        · exact rtE cs o n c dim Q i r w (uF w) (low32 w) (uX w) (uY w) J hE ⟨⟨rfl, rfl⟩, (congrArg _ (beq_iff_eq.2 d2)), e1, unp_inner ho hl, hU w (List.mem_of_getElem? hw), hrd, ⟨Int.natCast_nonneg _, Int.ofNat_lt.2 hin⟩, hlt, trivial⟩
        have e2 : Value.bool (uX w == uY w) = .bool false := congrArg _ (beq_eq_false_iff_ne.2 d2)
        by_cases d3 : minI (uX w) (uY w) ≤ (i : Int)
        · exact rtM cs o n c dim Q i r w (uF w) (low32 w) (uX w) (uY w) J hE ⟨⟨rfl, rfl⟩, (congrArg _ (decide_eq_true d3)), e2, e1, unp_inner ho hl, hU w (List.mem_of_getElem? hw), hrd, ⟨Int.natCast_nonneg _, Int.ofNat_lt.2 hin⟩, hlt, trivial⟩
        have e3 : Value.bool (decide (minI (uX w) (uY w) ≤ (i : Int))) = .bool false := congrArg _ (decide_eq_false d3)
        by_cases d4 : maxI (uX w) (uY w) ≥ (n : Int)
        · exact rtX cs o n c dim Q i r w (uF w) (low32 w) (uX w) (uY w) J hE ⟨⟨rfl, rfl⟩, (congrArg _ (decide_eq_true d4)), e3, e2, e1, unp_inner ho hl, hU w (List.mem_of_getElem? hw), hrd, ⟨Int.natCast_nonneg _, Int.ofNat_lt.2 hin⟩, hlt, trivial⟩
        rw [good_mk hl ho d1 d2 (min_gt d3).1 (min_gt d3).2 (max_lt d4).1 (max_lt d4).2] at hgd
        exact absurd hgd (by simp)
    · cases hl : lfB w
      · obtain ⟨ho, d1, d2, d3, d4, d5, d6⟩ := good_inner hgd hl
        obtain ⟨X, hX⟩ := Int.eq_ofNat_of_zero_le (show 0 ≤ uX w by omega)
        obtain ⟨Y, hY⟩ := Int.eq_ofNat_of_zero_le (show 0 ≤ uY w by omega)
        have e1 : Value.bool (decide (uF w ≥ dim)) = .bool false := congrArg _ (decide_eq_false (by omega))
        have e2 : Value.bool (uX w == uY w) = .bool false := congrArg _ (beq_eq_false_iff_ne.2 d2)
        have e3 : Value.bool (decide (minI (uX w) (uY w) ≤ (i : Int))) = .bool false := congrArg _ (decide_eq_false (not_min d3 d4))
        have e4 : Value.bool (decide (maxI (uX w) (uY w) ≥ (n : Int))) = .bool false := congrArg _ (decide_eq_false (not_max d5 d6))
        have hXn : X < n := by omega
        have hYn : Y < n := by omega
        have hne : X ≠ Y := by omega
        have hlX := named_le (ws.take i) X
        have hlY := named_le (ws.take i) Y
        have htl : (ws.take i).length ≤ 31 := by rw [List.length_take, hlen]; omega
        have r1 := cntL_get (ws := ws.take i) hXn
        have hrd1 := rd_int (l := r) (k := X) (z := (named (ws.take i) (X : Int) : Int)) (by rw [k3]; exact r1)
        have hst1 := lsetE (e := eInt) (l := r) (k := X) (f := 0) (o := 0 + X * 1) (x := (named (ws.take i) (X : Int) : Int) + 1) (vs := [.int .i64 ((named (ws.take i) (X : Int) : Int) + 1)]) (by rw [k3]; exact r1) rfl (by simp [eInt])
        have r2 : (r.set X ((named (ws.take i) (X : Int) : Int) + 1))[Y]? = some (named (ws.take i) (Y : Int) : Int) := by
          rw [List.getElem?_set_ne hne, k3]; exact cntL_get hYn
        have hrd2 := rd_int (l := r.set X ((named (ws.take i) (X : Int) : Int) + 1)) (k := Y) (z := (named (ws.take i) (Y : Int) : Int)) r2
        have hst2 := lsetE (e := eInt) (l := r.set X ((named (ws.take i) (X : Int) : Int) + 1)) (k := Y) (f := 0) (o := 0 + Y * 1) (x := (named (ws.take i) (Y : Int) : Int) + 1) (vs := [.int .i64 ((named (ws.take i) (Y : Int) : Int) + 1)]) r2 rfl (by simp [eInt])
        have hfin : (r.set X ((named (ws.take i) (X : Int) : Int) + 1)).set Y ((named (ws.take i) (Y : Int) : Int) + 1) = cntL (ws.take (i + 1)) n := by rw [k3, htk]; exact cnt_two hl hX hY hne hXn hYn
        rw [hX, hY] at e2 e3 e4
        have hun := unp_inner ho hl
        rw [hX, hY] at hun
        exact rtG cs o n c dim Q i r _ _ w (uF w) (low32 w) X Y _ _ _ _ J hE okL ⟨rfl, ⟨(i + 1, (r.set X ((named (ws.take i) (X : Int) : Int) + 1)).set Y ((named (ws.take i) (Y : Int) : Int) + 1)), ⟨hin, nxt hgd, hfin⟩, (by show n - (i + 1) < n - i; omega), rfl, by simp [fRt, rnr, rni]⟩, i64_succ (by omega), hst2, ⟨Int.natCast_nonneg _, Int.ofNat_lt.2 hYn⟩, (i64_id rfl (by omega) (by omega)), hrd2, ⟨Int.natCast_nonneg _, Int.ofNat_lt.2 hYn⟩, hst1, ⟨Int.natCast_nonneg _, Int.ofNat_lt.2 hXn⟩, (i64_id rfl (by omega) (by omega)), hrd1, ⟨Int.natCast_nonneg _, Int.ofNat_lt.2 hXn⟩, e4, e3, e2, e1, hun, hU w (List.mem_of_getElem? hw), hrd, ⟨Int.natCast_nonneg _, Int.ofNat_lt.2 hin⟩, hlt, trivial⟩ hJ'
      · have ho : okB w = true := by simp [goodW] at hgd; exact hgd.1
        exact rtF cs o n c dim Q i r w (low32 w) J hE okL ⟨rfl, ⟨(i + 1, r), ⟨hin, nxt hgd, by rw [htk, cnt_leaf hl]; exact k3⟩, (by show n - (i + 1) < n - i; omega), rfl, by simp [fRt, rnr, rni]⟩, i64_succ (by omega), unp_leaf ho hl, hU w (List.mem_of_getElem? hw), hrd, ⟨Int.natCast_nonneg _, Int.ofNat_lt.2 hin⟩, hlt, trivial⟩ hJ'
  · have hlt : decide ((i : Int) < (n : Int)) = false := decide_eq_false (by omega)
    obtain rfl : i = n := by omega
    have hall : ∀ (j : Nat) (w : Int), ws[j]? = some w → goodW dim i j w = true := fun j w hw => k2 j w (by have := (List.getElem?_eq_some_iff.1 hw).1; omega) hw
    have hr3 : r = cntL ws i := by rw [k3, List.take_of_length_le (by omega)]
    clear k3 k2 hJ' hJ
    have hrl : r.length = i := by rw [hr3]; exact cntL_len _ _
    let Q2 : Nat → Prop := fun j => j ≤ i - 1 ∧ ∀ k : Nat, 1 ≤ k → k < j + 1 → named ws (k : Int) = 1
    have sl : ∃ q : Nat, (q = 1 ∨ i = 1) ∧ SlOK 1 10 0 i i (some 1) none (some (.cells (eInt.row r) 3)) (.slice (some ⟨10, q, none⟩) (i - 1) (i - 1)) := by
      by_cases h : i = 1
      · refine ⟨0, Or.inr h, 1, i, rfl, rfl, by omega, Nat.le_refl _, Or.inr ⟨by unfold Ev.mark; omega, Nat.le_refl _, Or.inl ⟨by omega, ?_⟩⟩⟩
        simp
      · refine ⟨1, Or.inl rfl, 1, i, rfl, rfl, by omega, Nat.le_refl _, Or.inr ⟨by unfold Ev.mark; omega, Nat.le_refl _, Or.inr ⟨by omega, ?_⟩⟩⟩
        simp
    obtain ⟨q, hq, hsl⟩ := sl
    refine rtZ cs o i c (i - 1) q dim Q Q2 i r J hE (fRn_ok (i - 1) q r Q2) ⟨rfl, ⟨0, ⟨Nat.zero_le _, fun k a b => by omega⟩, trivial, rfl, by simp [fRn, rni]⟩, hsl, hlt, trivial⟩ fun zz hz _ => by_loop (fRn (i - 1) q r Q2) (lp Try.f42 1) ?_ 0 zz hz
    rintro b j hinv J hJ
    have hinv : j ≤ i - 1 ∧ ∀ k : Nat, 1 ≤ k → k < j + 1 → named ws (k : Int) = 1 := hinv
    obtain ⟨m1, m2⟩ := hinv
    show Sat E (inLp (lp Try.f42 1) J) ((fRn (i - 1) q r Q2).st 0 j)
    have hJ' : ∀ zz, (fRn (i - 1) q r Q2).inv 0 zz → ltO ((fRn (i - 1) q r Q2).mu 0 zz) (some (i - 1 - j)) → Sat E (mkLp (lp Try.f42 1) J) ((fRn (i - 1) q r Q2).st 0 zz) := fun zz h1 h2 => hJ 0 zz h1 h2
    by_cases hji : j < i - 1
    · have hlt : decide ((j : Int) < ((i - 1 : Nat) : Int)) = true := decide_eq_true (by omega)
      obtain rfl : q = 1 := by omega
      have hrd := rd_off (l := r) (q := 1) (j := j) (z := (named ws ((1 + j : Nat) : Int) : Int)) (by rw [hr3]; exact cntL_get (by omega))
      by_cases h1' : named ws ((1 + j : Nat) : Int) = 1
      · exact rnY (i - 1) 1 r Q2 j _ J hE (fRn_ok (i - 1) 1 r Q2) ⟨rfl, ⟨j + 1, ⟨by omega, fun k a b => by
            by_cases e : k < j + 1
            · exact m2 k a e
            · obtain rfl : k = 1 + j := by omega
              exact h1'⟩, (by show i - 1 - (j + 1) < i - 1 - j; omega), rfl, by simp [fRn, rni]⟩, i64_succ (by omega), (by rw [h1']; rfl), hrd, ⟨Int.natCast_nonneg _, Int.ofNat_lt.2 hji⟩, hlt, trivial⟩ hJ'
      · rw [right_once (k := 1 + j) (by omega) (by omega) h1'] at hE
        exact rnN (i - 1) 1 r Q2 j _ J hE ⟨⟨rfl, rfl⟩, (by simp only [bne_iff_ne, ne_eq]; omega), hrd, ⟨Int.natCast_nonneg _, Int.ofNat_lt.2 hji⟩, hlt, trivial⟩
    · have hlt : decide ((j : Int) < ((i - 1 : Nat) : Int)) = false := decide_eq_false (by omega)
      have hR : rightI ws dim = true := right_parts.2 ⟨⟨by omega, by omega⟩, fun j w hw => by rw [hlen]; exact hall j w hw, fun k a b => m2 k a (by omega)⟩
      rw [hR] at hE
      exact rnE (i - 1) q r Q2 j J hE ⟨⟨rfl, rfl⟩, hlt, trivial⟩
def right_F : RoF := fun xs css => match xs, css with
  | [.slice (some ⟨0, o, none⟩) n c, .int .i64 dim], [cs] => some (.bool (rightI (eWord.list cs o n) dim), [], [eWord.Row cs o n, ∀ w ∈ eWord.list cs o n, U64 w, n ≤ 65536])
  | [.slice none 0 0, .int .i64 dim], [] => some (.bool false, [], [])
  | _, _ => none
theorem right_sum : SumOK Try.prog 42 (roSum right_F) := by
  refine roSum_ok (en Try.func42 rfl) ?_ (fun xs css r h => ?_)
  · intro xs css v blks ob h hob hpl hl
    unfold right_F at h
    split at h
    · rename_i o n c dim cs
      simp only [Option.some.injEq, Prod.mk.injEq] at h
      obtain ⟨rfl, rfl, rfl⟩ := h
      refine ⟨by simp, by simp, fun j hj => by simp [nms, nm1, nmL, nm0] at hj, ?_⟩
      exact right_spec cs o n c dim (hob _ (List.mem_cons_self ..)) (hpl cs (by simp)) (hob _ (List.mem_cons_of_mem _ (List.mem_cons_self ..))) (hob _ (by simp))
    · rename_i dim
      simp only [Option.some.injEq, Prod.mk.injEq] at h
      obtain ⟨rfl, rfl, rfl⟩ := h
      refine ⟨by simp, by simp, fun j hj => by simp [nms, nm1, nmL, nm0] at hj, ?_⟩
      exact spec_of_sat Try.func42 rfl fun E hE => rtNil dim hE ⟨⟨rfl, rfl⟩, trivial⟩
    · simp at h
  · unfold right_F at h
    split at h <;> simp at h <;> simp
noncomputable def t_right : Sums := upd t_runpack 42 (some (roSum right_F))
theorem t_right_ok : SumsOK Try.prog t_right := sums_cons t_runpack_ok right_sum
end Go.Proofs.Ythbaccmhdffjdaa.Tr


set_option linter.unusedVariables false
set_option linter.unusedSimpArgs false
namespace Go.Proofs.Ythbaccmhdffjdaa.Ev
open Go Go.RowKit
abbrev kI (z : Int) : Value := .int .i64 z
def keysI (es : List Ent) : Prop := ∀ e ∈ es, ∃ z, e.1 = kI z
theorem keysI_nil : keysI [] := fun e h => by simp at h
theorem keyEq_kI (a b : Int) : keyEq (kI a) (kI b) = (a == b) := rfl
theorem keysI_put {es : List Ent} (h : keysI es) (b : Int) (v : Value) (c : Nat) : keysI (mput (kI b) v c es) := by
  induction es with
  | nil => intro e he; simp [mput] at he; subst he; exact ⟨b, rfl⟩
  | cons e es ih =>
    have hes : keysI es := fun x hx => h x (by simp [hx])
    intro x hx
    simp only [mput] at hx
    cases hk : keyEq (kI b) e.1 <;> rw [hk] at hx
    · simp only [cond_false, List.mem_cons] at hx
      rcases hx with rfl | hx
      · exact h x (by simp)
      · exact ih hes x hx
    · simp only [cond_true, List.mem_cons] at hx
      rcases hx with rfl | hx
      · exact h e (by simp)
      · exact hes x hx
theorem mgetB_put {es : List Ent} (h : keysI es) (a b : Int) (t : Bool) (c : Nat) : mgetB (kI a) (mput (kI b) (.bool t) c es) = bif a == b then t else mgetB (kI a) es := by
  induction es with
  | nil => simp only [mput, mgetB, keyEq_kI, boolV]
  | cons e es ih =>
    have hes : keysI es := fun x hx => h x (by simp [hx])
    obtain ⟨z, hz⟩ := h e (by simp)
    simp only [mput, hz, keyEq_kI]
    cases hb : b == z
    · simp only [cond_false, mgetB, hz, keyEq_kI, ih hes]
      cases ha : a == z
      · rfl
      · have : (a == b) = false := by
          rw [beq_iff_eq] at ha; subst ha
          rw [beq_eq_false_iff_ne] at hb ⊢
          exact fun e => hb e.symm
        rw [this]; rfl
    · rw [beq_iff_eq] at hb; subst hb
      simp only [cond_true, mgetB, hz, keyEq_kI, boolV]
      cases a == b <;> rfl
theorem mgetI_putI {es : List Ent} (h : keysI es) (a b : Int) (n : Int) (c : Nat) : mgetI (kI a) (mput (kI b) (.int .i64 n) c es) = bif a == b then n else mgetI (kI a) es := by
  induction es with
  | nil => simp only [mput, mgetI, keyEq_kI, intV]
  | cons e es ih =>
    have hes : keysI es := fun x hx => h x (by simp [hx])
    obtain ⟨z, hz⟩ := h e (by simp)
    simp only [mput, hz, keyEq_kI]
    cases hb : b == z
    · simp only [cond_false, mgetI, hz, keyEq_kI, ih hes]
      cases ha : a == z
      · rfl
      · have : (a == b) = false := by
          rw [beq_iff_eq] at ha; subst ha
          rw [beq_eq_false_iff_ne] at hb ⊢
          exact fun e => hb e.symm
        rw [this]; rfl
    · rw [beq_iff_eq] at hb; subst hb
      simp only [cond_true, mgetI, hz, keyEq_kI, intV]
      cases a == b <;> rfl
end Go.Proofs.Ythbaccmhdffjdaa.Ev


set_option linter.unusedVariables false
set_option linter.unusedSimpArgs false
set_option maxRecDepth 100000
namespace Go.Proofs.Ythbaccmhdffjdaa.Tr
open Go Go.RowKit Go.Proofs.Ythbaccmhdffjdaa.Ev Go.Proofs.Ythbaccmhdffjdaa.NodeE Go.Proofs.Ythbaccmhdffjdaa.Tr

structure GT where
  i : Nat
  es : List Ent
  c : Nat
def fGt (cs : List Value) (o n c : Nat) (dim : Int) (Q : GT → Prop) : LoopF GT where
  ts _ := [0, 1, 5, 20, 21, 22]
  hs _ := [0, 10]
  tv _ := fun ⟨i, es, k⟩ => [.slice (some ⟨0, o, none⟩) n c, .int .i64 dim, .map (some 10), .slice (some ⟨0, o, none⟩) n c, .int .i64 (n : Int), .int .i64 (i : Int)]
  hv _ := fun ⟨i, es, k⟩ => [.ro cs, .map [some .i64] false (some .i64) es k]
  inv _ := Q
  mu _ := fun ⟨i, es, k⟩ => n - i
  nx := 12
def fGn (cs : List Value) (o n c : Nat) (es : List Ent) (k : Nat) (Q : Nat → Prop) : LoopF Nat where
  ts _ := [0, 5, 10]
  hs _ := [0, 10]
  tv _ := fun i => [.slice (some ⟨0, o, none⟩) n c, .map (some 10), .int .i64 (i : Int)]
  hv _ := fun i => [.ro cs, .map [some .i64] false (some .i64) es k]
  inv _ := Q
  mu _ := fun i => n - i
  nx := 12

theorem fGt_ok (cs : List Value) (o n c : Nat) (dim : Int) (Q : GT → Prop) (hpl : ∀ x ∈ cs, leafG x = true) : (fGt cs o n c dim Q).OK 1 := by
  refine ⟨(by decide : 1 ≤ 12), fun z i h k hk => ?_, fun z i h v hv k hk => ?_, fun z i h x hx => ?_⟩
  · show k < 12
    simp [fGt] at hk; omega
  · show k < 12
    simp [fGt] at hv
    repeat' (refine Or.elim hv (fun hv => ?_) (fun hv => ?_))
    all_goals (subst hv; simp [nms, nm1, nm0] at hk; try omega)
  · simp [fGt] at hx
    rcases hx with rfl | rfl
    · exact Blk.plain.namesLt (b := .ro cs) hpl _
    · exact trivial

theorem fGn_ok (cs : List Value) (o n c : Nat) (es : List Ent) (k : Nat) (Q : Nat → Prop) (hpl : ∀ x ∈ cs, leafG x = true) : (fGn cs o n c es k Q).OK 1 := by
  refine ⟨(by decide : 1 ≤ 12), fun z i h k hk => ?_, fun z i h v hv k hk => ?_, fun z i h x hx => ?_⟩
  · show k < 12
    simp [fGn] at hk; omega
  · show k < 12
    simp [fGn] at hv
    repeat' (refine Or.elim hv (fun hv => ?_) (fun hv => ?_))
    all_goals (subst hv; simp [nms, nm1, nm0] at hk; try omega)
  · simp [fGn] at hx
    rcases hx with rfl | rfl
    · exact Blk.plain.namesLt (b := .ro cs) hpl _
    · exact trivial

end Go.Proofs.Ythbaccmhdffjdaa.Tr


set_option linter.unusedVariables false
set_option linter.unusedSimpArgs false
set_option maxRecDepth 100000
namespace Go.Proofs.Ythbaccmhdffjdaa.Tr
open Go Go.RowKit Go.Proofs.Ythbaccmhdffjdaa.Ev Go.Proofs.Ythbaccmhdffjdaa.NodeE Go.Proofs.Ythbaccmhdffjdaa.Tr

theorem gtNil (dim : Int)  {E : Env} (hE : EnvOK E Try.prog Try.f45 2 0 (.bool false) [] []) (hob : all ([Back (Value.bool false) (Value.bool false) [] [] []])) : Sat E [.code (bodyOf Try.f45)] (st0 Try.f45 [.slice none 0 0, .int .i64 dim] (roRows []) 0) :=
  by_ret (T := auto0 t_runpack) (h := hints []) (ws := []) (nx' := 0) hE hm (auto0_ok t_runpack_ok) (by omega) (by simp) (by simp) (by kernel_rfl) hob
theorem gtShort (cs : List Value) (o n c : Nat) (dim : Int)  {E : Env} (hE : EnvOK E Try.prog Try.f45 2 1 (.bool false) [] []) (hob : all ([Back (Value.bool false) (Value.bool false) [] [] [], Value.bool (decide ((↑n : Int) < 1)) = Value.bool true])) : Sat E [.code (bodyOf Try.f45)] (st0 Try.f45 [.slice (some ⟨0, o, none⟩) n c, .int .i64 dim] (roRows [cs]) 1) :=
  by_ret (T := auto0 t_runpack) (h := hints [(1, 2, ht true)]) (ws := []) (nx' := 1) hE hm (auto0_ok t_runpack_ok) (by omega) (by simp) (by simp) (by kernel_rfl) hob
theorem gtLong (cs : List Value) (o n c : Nat) (dim : Int)  {E : Env} (hE : EnvOK E Try.prog Try.f45 2 1 (.bool false) [] []) (hob : all ([Back (Value.bool false) (Value.bool false) [] [] [], Value.bool (decide ((↑n : Int) > 31)) = Value.bool true, Value.bool (decide ((↑n : Int) < 1)) = Value.bool false])) : Sat E [.code (bodyOf Try.f45)] (st0 Try.f45 [.slice (some ⟨0, o, none⟩) n c, .int .i64 dim] (roRows [cs]) 1) :=
  by_ret (T := auto0 t_runpack) (h := hints [(1, 2, ht false), (1, 6, ht true)]) (ws := []) (nx' := 1) hE hm (auto0_ok t_runpack_ok) (by omega) (by simp) (by simp) (by kernel_rfl) hob
theorem gtIn (cs : List Value) (o n c : Nat) (dim : Int) (Q : GT → Prop)  {E : Env} {rv : Value} {rhs : List Nat} {rhv : List Blk} (hE : EnvOK E Try.prog Try.f45 2 1 rv rhs rhv) (hL : (fGt cs o n c dim Q).OK 1) (hob : all ([SameK (atLp (lp Try.f45 0)) (atLp (lp Try.f45 0)), Enter (fGt cs o n c dim Q) 0 none [Value.slice (some (Addr.mk 0 o none)) n c, Value.int IntKind.i64 dim, Value.map (some 73), Value.slice (some (Addr.mk 0 o none)) n c, Value.int IntKind.i64 ((n : Int)), Value.int IntKind.i64 ((0 : Int))] [Blk.ro cs, Blk.map [some IntKind.i64] false (some IntKind.i64) [] 0] [(0, 0), (10, 73), (0, 0)], Value.bool (decide ((↑n : Int) > 31)) = Value.bool false, Value.bool (decide ((↑n : Int) < 1)) = Value.bool false])) (hK : ∀ zz, (fGt cs o n c dim Q).inv 0 zz → ltO ((fGt cs o n c dim Q).mu 0 zz) none → Sat E (atLp (lp Try.f45 0)) ((fGt cs o n c dim Q).st 0 zz)) : Sat E [.code (bodyOf Try.f45)] (st0 Try.f45 [.slice (some ⟨0, o, none⟩) n c, .int .i64 dim] (roRows [cs]) 1) :=
  by_to (T := auto0 t_runpack) (h := hints [(1, 2, ht false), (1, 6, ht false)]) (ws := [.go, .stop]) (i0 := ⟨0, [], 0⟩) hE hm (auto0_ok t_runpack_ok) hL (by kernel_rfl) hob hK
theorem gtN (cs : List Value) (o n c : Nat) (dim : Int) (Q : GT → Prop) (i k : Nat) (es : List Ent) (w : Int) (J : Act → World → Prop) {E : Env} (hE : EnvOK E Try.prog Try.f45 2 1 (.bool false) [] []) (hob : all ([Back (Value.bool false) (Value.bool false) [] [] [], Value.tuple (Array.mk [Value.agg (Array.mk [Value.bool (okB w && lfB w), Value.int IntKind.i64 (sV w), Value.int IntKind.i64 (sF w), Value.int IntKind.i64 (sA w), Value.int IntKind.i64 (sX w), Value.int IntKind.i64 (sY w)]), Value.bool (okB w)]) = Value.tuple (Array.mk [Value.agg (Array.mk [Value.bool false, Value.int IntKind.i64 ((0 : Int)), Value.int IntKind.i64 ((0 : Int)), Value.int IntKind.i64 ((0 : Int)), Value.int IntKind.i64 ((0 : Int)), Value.int IntKind.i64 ((0 : Int))]), Value.bool false]), U64 w, readPart Try.prog 83 cs (o + ((i : Int)).toNat * 1) = some (Value.int IntKind.u64 w), (0 : Int) ≤ (i : Int) ∧ (i : Int) < (n : Int), decide ((↑i : Int) < (↑n : Int)) = true])) : Sat E (inLp (lp Try.f45 0) J) ((fGt cs o n c dim Q).st 0 ⟨i, es, k⟩) :=
  by_ret (T := auto0 t_runpack) (h := hints [(6, 1, {p := true}), (6, 2, {o := some (.int .u64 w)}), (7, 1, {v := some (.tuple ⟨[nd false 0 0 0 0 0, .bool false]⟩)})]) (ws := [.b true]) (nx' := 1) hE hm (auto0_ok t_runpack_ok) (by omega) (by simp) (by simp) (by kernel_rfl) hob
theorem gtF (cs : List Value) (o n c : Nat) (dim : Int) (Q : GT → Prop) (i k : Nat) (es : List Ent) (w v : Int) (J : Act → World → Prop) {E : Env} {rv : Value} {rhs : List Nat} {rhv : List Blk} (hE : EnvOK E Try.prog Try.f45 2 1 rv rhs rhv) (hL : (fGt cs o n c dim Q).OK 1) (hob : all ([SameK (mkLp (lp Try.f45 0) J) (mkLp (lp Try.f45 0) J), Enter (fGt cs o n c dim Q) 0 (some (n - i)) [Value.slice (some (Addr.mk 0 o none)) n c, Value.int IntKind.i64 dim, Value.map (some 10), Value.slice (some (Addr.mk 0 o none)) n c, Value.int IntKind.i64 ((n : Int)), Value.int IntKind.i64 (Int.ofNat i.succ)] [Blk.ro cs, Blk.map [some IntKind.i64] false (some IntKind.i64) es k] [(0, 0), (10, 10), (0, 0)], Value.int IntKind.i64 (IntKind.i64.wrap (Int.ofNat i.succ)) = Value.int IntKind.i64 (Int.ofNat i.succ), Value.tuple (Array.mk [Value.agg (Array.mk [Value.bool (okB w && lfB w), Value.int IntKind.i64 (sV w), Value.int IntKind.i64 (sF w), Value.int IntKind.i64 (sA w), Value.int IntKind.i64 (sX w), Value.int IntKind.i64 (sY w)]), Value.bool (okB w)]) = Value.tuple (Array.mk [Value.agg (Array.mk [Value.bool true, Value.int IntKind.i64 v, Value.int IntKind.i64 ((0 : Int)), Value.int IntKind.i64 ((0 : Int)), Value.int IntKind.i64 ((0 : Int)), Value.int IntKind.i64 ((0 : Int))]), Value.bool true]), U64 w, readPart Try.prog 83 cs (o + ((i : Int)).toNat * 1) = some (Value.int IntKind.u64 w), (0 : Int) ≤ (i : Int) ∧ (i : Int) < (n : Int), decide ((↑i : Int) < (↑n : Int)) = true])) (hK : ∀ zz, (fGt cs o n c dim Q).inv 0 zz → ltO ((fGt cs o n c dim Q).mu 0 zz) (some (n - i)) → Sat E (mkLp (lp Try.f45 0) J) ((fGt cs o n c dim Q).st 0 zz)) : Sat E (inLp (lp Try.f45 0) J) ((fGt cs o n c dim Q).st 0 ⟨i, es, k⟩) :=
  by_to (T := auto0 t_runpack) (h := hints [(6, 1, {p := true}), (6, 2, {o := some (.int .u64 w)}), (7, 1, {v := some (.tuple ⟨[nd true v 0 0 0 0, .bool true]⟩)}), (15, 0, {v := some (.int .i64 ((i + 1 : Nat) : Int))})]) (ws := [.b true]) (i0 := ⟨i + 1, es, k⟩) hE hm (auto0_ok t_runpack_ok) hL (by kernel_rfl) hob hK
theorem gtB0 (cs : List Value) (o n c : Nat) (dim : Int) (Q : GT → Prop) (i k : Nat) (es : List Ent) (w f a x y : Int) (J : Act → World → Prop) {E : Env} (hE : EnvOK E Try.prog Try.f45 2 1 (.bool false) [] []) (hob : all ([Back (Value.bool false) (Value.bool false) [] [] [], Value.bool (decide (f ≥ dim)) = Value.bool true, Value.tuple (Array.mk [Value.agg (Array.mk [Value.bool (okB w && lfB w), Value.int IntKind.i64 (sV w), Value.int IntKind.i64 (sF w), Value.int IntKind.i64 (sA w), Value.int IntKind.i64 (sX w), Value.int IntKind.i64 (sY w)]), Value.bool (okB w)]) = Value.tuple (Array.mk [Value.agg (Array.mk [Value.bool false, Value.int IntKind.i64 ((0 : Int)), Value.int IntKind.i64 f, Value.int IntKind.i64 a, Value.int IntKind.i64 x, Value.int IntKind.i64 y]), Value.bool true]), U64 w, readPart Try.prog 83 cs (o + ((i : Int)).toNat * 1) = some (Value.int IntKind.u64 w), (0 : Int) ≤ (i : Int) ∧ (i : Int) < (n : Int), decide ((↑i : Int) < (↑n : Int)) = true])) : Sat E (inLp (lp Try.f45 0) J) ((fGt cs o n c dim Q).st 0 ⟨i, es, k⟩) :=
  by_ret (T := auto0 t_runpack) (h := hints [(6, 1, {p := true}), (6, 2, {o := some (.int .u64 w)}), (7, 1, {v := some (.tuple ⟨[nd false 0 f a x y, .bool true]⟩)}), (11, 3, ht true)]) (ws := [.b true]) (nx' := 1) hE hm (auto0_ok t_runpack_ok) (by omega) (by simp) (by simp) (by kernel_rfl) hob
theorem gtB1 (cs : List Value) (o n c : Nat) (dim : Int) (Q : GT → Prop) (i k : Nat) (es : List Ent) (w f a x y : Int) (J : Act → World → Prop) {E : Env} (hE : EnvOK E Try.prog Try.f45 2 1 (.bool false) [] []) (hob : all ([Back (Value.bool false) (Value.bool false) [] [] [], Value.bool (decide (x ≤ (↑i : Int))) = Value.bool true, Value.bool (decide (f ≥ dim)) = Value.bool false, Value.tuple (Array.mk [Value.agg (Array.mk [Value.bool (okB w && lfB w), Value.int IntKind.i64 (sV w), Value.int IntKind.i64 (sF w), Value.int IntKind.i64 (sA w), Value.int IntKind.i64 (sX w), Value.int IntKind.i64 (sY w)]), Value.bool (okB w)]) = Value.tuple (Array.mk [Value.agg (Array.mk [Value.bool false, Value.int IntKind.i64 ((0 : Int)), Value.int IntKind.i64 f, Value.int IntKind.i64 a, Value.int IntKind.i64 x, Value.int IntKind.i64 y]), Value.bool true]), U64 w, readPart Try.prog 83 cs (o + ((i : Int)).toNat * 1) = some (Value.int IntKind.u64 w), (0 : Int) ≤ (i : Int) ∧ (i : Int) < (n : Int), decide ((↑i : Int) < (↑n : Int)) = true])) : Sat E (inLp (lp Try.f45 0) J) ((fGt cs o n c dim Q).st 0 ⟨i, es, k⟩) :=
  by_ret (T := auto0 t_runpack) (h := hints [(6, 1, {p := true}), (6, 2, {o := some (.int .u64 w)}), (7, 1, {v := some (.tuple ⟨[nd false 0 f a x y, .bool true]⟩)}), (11, 3, ht false), (11, 8, ht true)]) (ws := [.b true]) (nx' := 1) hE hm (auto0_ok t_runpack_ok) (by omega) (by simp) (by simp) (by kernel_rfl) hob
theorem gtB2 (cs : List Value) (o n c : Nat) (dim : Int) (Q : GT → Prop) (i k : Nat) (es : List Ent) (w f a x y : Int) (J : Act → World → Prop) {E : Env} (hE : EnvOK E Try.prog Try.f45 2 1 (.bool false) [] []) (hob : all ([Back (Value.bool false) (Value.bool false) [] [] [], Value.bool (decide (y ≤ (↑i : Int))) = Value.bool true, Value.bool (decide (x ≤ (↑i : Int))) = Value.bool false, Value.bool (decide (f ≥ dim)) = Value.bool false, Value.tuple (Array.mk [Value.agg (Array.mk [Value.bool (okB w && lfB w), Value.int IntKind.i64 (sV w), Value.int IntKind.i64 (sF w), Value.int IntKind.i64 (sA w), Value.int IntKind.i64 (sX w), Value.int IntKind.i64 (sY w)]), Value.bool (okB w)]) = Value.tuple (Array.mk [Value.agg (Array.mk [Value.bool false, Value.int IntKind.i64 ((0 : Int)), Value.int IntKind.i64 f, Value.int IntKind.i64 a, Value.int IntKind.i64 x, Value.int IntKind.i64 y]), Value.bool true]), U64 w, readPart Try.prog 83 cs (o + ((i : Int)).toNat * 1) = some (Value.int IntKind.u64 w), (0 : Int) ≤ (i : Int) ∧ (i : Int) < (n : Int), decide ((↑i : Int) < (↑n : Int)) = true])) : Sat E (inLp (lp Try.f45 0) J) ((fGt cs o n c dim Q).st 0 ⟨i, es, k⟩) :=
  by_ret (T := auto0 t_runpack) (h := hints [(6, 1, {p := true}), (6, 2, {o := some (.int .u64 w)}), (7, 1, {v := some (.tuple ⟨[nd false 0 f a x y, .bool true]⟩)}), (11, 3, ht false), (11, 8, ht false), (11, 14, ht true)]) (ws := [.b true]) (nx' := 1) hE hm (auto0_ok t_runpack_ok) (by omega) (by simp) (by simp) (by kernel_rfl) hob
theorem gtB3 (cs : List Value) (o n c : Nat) (dim : Int) (Q : GT → Prop) (i k : Nat) (es : List Ent) (w f a x y : Int) (J : Act → World → Prop) {E : Env} (hE : EnvOK E Try.prog Try.f45 2 1 (.bool false) [] []) (hob : all ([Back (Value.bool false) (Value.bool false) [] [] [], Value.bool (decide (x ≥ (↑n : Int))) = Value.bool true, Value.bool (decide (y ≤ (↑i : Int))) = Value.bool false, Value.bool (decide (x ≤ (↑i : Int))) = Value.bool false, Value.bool (decide (f ≥ dim)) = Value.bool false, Value.tuple (Array.mk [Value.agg (Array.mk [Value.bool (okB w && lfB w), Value.int IntKind.i64 (sV w), Value.int IntKind.i64 (sF w), Value.int IntKind.i64 (sA w), Value.int IntKind.i64 (sX w), Value.int IntKind.i64 (sY w)]), Value.bool (okB w)]) = Value.tuple (Array.mk [Value.agg (Array.mk [Value.bool false, Value.int IntKind.i64 ((0 : Int)), Value.int IntKind.i64 f, Value.int IntKind.i64 a, Value.int IntKind.i64 x, Value.int IntKind.i64 y]), Value.bool true]), U64 w, readPart Try.prog 83 cs (o + ((i : Int)).toNat * 1) = some (Value.int IntKind.u64 w), (0 : Int) ≤ (i : Int) ∧ (i : Int) < (n : Int), decide ((↑i : Int) < (↑n : Int)) = true])) : Sat E (inLp (lp Try.f45 0) J) ((fGt cs o n c dim Q).st 0 ⟨i, es, k⟩) :=
  by_ret (T := auto0 t_runpack) (h := hints [(6, 1, {p := true}), (6, 2, {o := some (.int .u64 w)}), (7, 1, {v := some (.tuple ⟨[nd false 0 f a x y, .bool true]⟩)}), (11, 3, ht false), (11, 8, ht false), (11, 14, ht false), (11, 21, ht true)]) (ws := [.b true]) (nx' := 1) hE hm (auto0_ok t_runpack_ok) (by omega) (by simp) (by simp) (by kernel_rfl) hob
theorem gtB4 (cs : List Value) (o n c : Nat) (dim : Int) (Q : GT → Prop) (i k : Nat) (es : List Ent) (w f a x y : Int) (J : Act → World → Prop) {E : Env} (hE : EnvOK E Try.prog Try.f45 2 1 (.bool false) [] []) (hob : all ([Back (Value.bool false) (Value.bool false) [] [] [], Value.bool (decide (y ≥ (↑n : Int))) = Value.bool true, Value.bool (decide (x ≥ (↑n : Int))) = Value.bool false, Value.bool (decide (y ≤ (↑i : Int))) = Value.bool false, Value.bool (decide (x ≤ (↑i : Int))) = Value.bool false, Value.bool (decide (f ≥ dim)) = Value.bool false, Value.tuple (Array.mk [Value.agg (Array.mk [Value.bool (okB w && lfB w), Value.int IntKind.i64 (sV w), Value.int IntKind.i64 (sF w), Value.int IntKind.i64 (sA w), Value.int IntKind.i64 (sX w), Value.int IntKind.i64 (sY w)]), Value.bool (okB w)]) = Value.tuple (Array.mk [Value.agg (Array.mk [Value.bool false, Value.int IntKind.i64 ((0 : Int)), Value.int IntKind.i64 f, Value.int IntKind.i64 a, Value.int IntKind.i64 x, Value.int IntKind.i64 y]), Value.bool true]), U64 w, readPart Try.prog 83 cs (o + ((i : Int)).toNat * 1) = some (Value.int IntKind.u64 w), (0 : Int) ≤ (i : Int) ∧ (i : Int) < (n : Int), decide ((↑i : Int) < (↑n : Int)) = true])) : Sat E (inLp (lp Try.f45 0) J) ((fGt cs o n c dim Q).st 0 ⟨i, es, k⟩) :=
  by_ret (T := auto0 t_runpack) (h := hints [(6, 1, {p := true}), (6, 2, {o := some (.int .u64 w)}), (7, 1, {v := some (.tuple ⟨[nd false 0 f a x y, .bool true]⟩)}), (11, 3, ht false), (11, 8, ht false), (11, 14, ht false), (11, 21, ht false), (11, 28, ht true)]) (ws := [.b true]) (nx' := 1) hE hm (auto0_ok t_runpack_ok) (by omega) (by simp) (by simp) (by kernel_rfl) hob
theorem gtB5 (cs : List Value) (o n c : Nat) (dim : Int) (Q : GT → Prop) (i k : Nat) (es : List Ent) (w f a x y : Int) (J : Act → World → Prop) {E : Env} (hE : EnvOK E Try.prog Try.f45 2 1 (.bool false) [] []) (hob : all ([Back (Value.bool false) (Value.bool false) [] [] [], Value.bool (x == y) = Value.bool true, Value.bool (decide (y ≥ (↑n : Int))) = Value.bool false, Value.bool (decide (x ≥ (↑n : Int))) = Value.bool false, Value.bool (decide (y ≤ (↑i : Int))) = Value.bool false, Value.bool (decide (x ≤ (↑i : Int))) = Value.bool false, Value.bool (decide (f ≥ dim)) = Value.bool false, Value.tuple (Array.mk [Value.agg (Array.mk [Value.bool (okB w && lfB w), Value.int IntKind.i64 (sV w), Value.int IntKind.i64 (sF w), Value.int IntKind.i64 (sA w), Value.int IntKind.i64 (sX w), Value.int IntKind.i64 (sY w)]), Value.bool (okB w)]) = Value.tuple (Array.mk [Value.agg (Array.mk [Value.bool false, Value.int IntKind.i64 ((0 : Int)), Value.int IntKind.i64 f, Value.int IntKind.i64 a, Value.int IntKind.i64 x, Value.int IntKind.i64 y]), Value.bool true]), U64 w, readPart Try.prog 83 cs (o + ((i : Int)).toNat * 1) = some (Value.int IntKind.u64 w), (0 : Int) ≤ (i : Int) ∧ (i : Int) < (n : Int), decide ((↑i : Int) < (↑n : Int)) = true])) : Sat E (inLp (lp Try.f45 0) J) ((fGt cs o n c dim Q).st 0 ⟨i, es, k⟩) :=
  by_ret (T := auto0 t_runpack) (h := hints [(6, 1, {p := true}), (6, 2, {o := some (.int .u64 w)}), (7, 1, {v := some (.tuple ⟨[nd false 0 f a x y, .bool true]⟩)}), (11, 3, ht false), (11, 8, ht false), (11, 14, ht false), (11, 21, ht false), (11, 28, ht false), (11, 35, ht true)]) (ws := [.b true]) (nx' := 1) hE hm (auto0_ok t_runpack_ok) (by omega) (by simp) (by simp) (by kernel_rfl) hob
theorem gtG (cs : List Value) (o n c : Nat) (dim : Int) (Q : GT → Prop) (i k : Nat) (es : List Ent) (k2 : Nat) (es1 es2 : List Ent) (w f a x y g1 g2 h1 h2 : Int) (J : Act → World → Prop) {E : Env} {rv : Value} {rhs : List Nat} {rhv : List Blk} (hE : EnvOK E Try.prog Try.f45 2 1 rv rhs rhv) (hL : (fGt cs o n c dim Q).OK 1) (hob : all ([SameK (mkLp (lp Try.f45 0) J) (mkLp (lp Try.f45 0) J), Enter (fGt cs o n c dim Q) 0 (some (n - i)) [Value.slice (some (Addr.mk 0 o none)) n c, Value.int IntKind.i64 dim, Value.map (some 10), Value.slice (some (Addr.mk 0 o none)) n c, Value.int IntKind.i64 ((n : Int)), Value.int IntKind.i64 (Int.ofNat i.succ)] [Blk.ro cs, Blk.map [some IntKind.i64] false (some IntKind.i64) es2 (bif mhas (Value.int IntKind.i64 y) es1 then bif mhas (Value.int IntKind.i64 x) es then k else k + 1 else (bif mhas (Value.int IntKind.i64 x) es then k else k + 1) + 1)] [(0, 0), (10, 10), (0, 0)], Value.int IntKind.i64 (IntKind.i64.wrap (Int.ofNat i.succ)) = Value.int IntKind.i64 (Int.ofNat i.succ), mput (Value.int IntKind.i64 y) (Value.int IntKind.i64 h2) (bif mhas (Value.int IntKind.i64 x) es then k else k + 1) es1 = es2, Value.int IntKind.i64 (IntKind.i64.wrap (g2 + (1 : Int))) = Value.int IntKind.i64 h2, Value.int IntKind.i64 (mgetI (Value.int IntKind.i64 y) es1) = Value.int IntKind.i64 g2, mput (Value.int IntKind.i64 x) (Value.int IntKind.i64 h1) k es = es1, Value.int IntKind.i64 (IntKind.i64.wrap (g1 + (1 : Int))) = Value.int IntKind.i64 h1, Value.int IntKind.i64 (mgetI (Value.int IntKind.i64 x) es) = Value.int IntKind.i64 g1, Value.bool (x == y) = Value.bool false, Value.bool (decide (y ≥ (↑n : Int))) = Value.bool false, Value.bool (decide (x ≥ (↑n : Int))) = Value.bool false, Value.bool (decide (y ≤ (↑i : Int))) = Value.bool false, Value.bool (decide (x ≤ (↑i : Int))) = Value.bool false, Value.bool (decide (f ≥ dim)) = Value.bool false, Value.tuple (Array.mk [Value.agg (Array.mk [Value.bool (okB w && lfB w), Value.int IntKind.i64 (sV w), Value.int IntKind.i64 (sF w), Value.int IntKind.i64 (sA w), Value.int IntKind.i64 (sX w), Value.int IntKind.i64 (sY w)]), Value.bool (okB w)]) = Value.tuple (Array.mk [Value.agg (Array.mk [Value.bool false, Value.int IntKind.i64 ((0 : Int)), Value.int IntKind.i64 f, Value.int IntKind.i64 a, Value.int IntKind.i64 x, Value.int IntKind.i64 y]), Value.bool true]), U64 w, readPart Try.prog 83 cs (o + ((i : Int)).toNat * 1) = some (Value.int IntKind.u64 w), (0 : Int) ≤ (i : Int) ∧ (i : Int) < (n : Int), decide ((↑i : Int) < (↑n : Int)) = true])) (hK : ∀ zz, (fGt cs o n c dim Q).inv 0 zz → ltO ((fGt cs o n c dim Q).mu 0 zz) (some (n - i)) → Sat E (mkLp (lp Try.f45 0) J) ((fGt cs o n c dim Q).st 0 zz)) : Sat E (inLp (lp Try.f45 0) J) ((fGt cs o n c dim Q).st 0 ⟨i, es, k⟩) :=
  by_to (T := auto0 t_runpack) (h := hints [(6, 1, {p := true}), (6, 2, {o := some (.int .u64 w)}), (7, 1, {v := some (.tuple ⟨[nd false 0 f a x y, .bool true]⟩)}), (11, 3, ht false), (11, 8, ht false), (11, 14, ht false), (11, 21, ht false), (11, 28, ht false), (11, 35, ht false), (13, 3, {v := some (.int .i64 g1)}), (13, 4, {v := some (.int .i64 h1)}), (13, 5, {e := some es1}), (14, 3, {v := some (.int .i64 g2)}), (14, 4, {v := some (.int .i64 h2)}), (14, 5, {e := some es2}), (15, 0, {v := some (.int .i64 ((i + 1 : Nat) : Int))})]) (ws := [.b true]) (i0 := ⟨i + 1, es2, k2⟩) hE hm (auto0_ok t_runpack_ok) hL (by kernel_rfl) hob hK
theorem gtZ (cs : List Value) (o n c : Nat) (dim : Int) (Q : GT → Prop) (i k : Nat) (es : List Ent) (Q2 : Nat → Prop) (J : Act → World → Prop) {E : Env} {rv : Value} {rhs : List Nat} {rhv : List Blk} (hE : EnvOK E Try.prog Try.f45 2 1 rv rhs rhv) (hL : (fGn cs o n c es k Q2).OK 1) (hob : all ([SameK (atLp (lp Try.f45 1)) (atLp (lp Try.f45 1)), Enter (fGn cs o n c es k Q2) 0 none [Value.slice (some (Addr.mk 0 o none)) n c, Value.map (some 10), Value.int IntKind.i64 ((1 : Int))] [Blk.ro cs, Blk.map [some IntKind.i64] false (some IntKind.i64) es k] [(0, 0), (10, 10)], decide ((↑i : Int) < (↑n : Int)) = false])) (hK : ∀ zz, (fGn cs o n c es k Q2).inv 0 zz → ltO ((fGn cs o n c es k Q2).mu 0 zz) none → Sat E (atLp (lp Try.f45 1)) ((fGn cs o n c es k Q2).st 0 zz)) : Sat E (inLp (lp Try.f45 0) J) ((fGt cs o n c dim Q).st 0 ⟨i, es, k⟩) :=
  by_to (T := auto0 t_runpack) (h := hints []) (ws := [.b false, .stop]) (i0 := 1) hE hm (auto0_ok t_runpack_ok) hL (by kernel_rfl) hob hK
theorem gnY (cs : List Value) (o n c : Nat) (Q : Nat → Prop) (i k : Nat) (es : List Ent) (g : Int) (J : Act → World → Prop) {E : Env} {rv : Value} {rhs : List Nat} {rhv : List Blk} (hE : EnvOK E Try.prog Try.f45 2 1 rv rhs rhv) (hL : (fGn cs o n c es k Q).OK 1) (hob : all ([SameK (mkLp (lp Try.f45 1) J) (mkLp (lp Try.f45 1) J), Enter (fGn cs o n c es k Q) 0 (some (n - i)) [Value.slice (some (Addr.mk 0 o none)) n c, Value.map (some 10), Value.int IntKind.i64 (Int.ofNat i.succ)] [Blk.ro cs, Blk.map [some IntKind.i64] false (some IntKind.i64) es k] [(0, 0), (10, 10)], Value.int IntKind.i64 (IntKind.i64.wrap (Int.ofNat i.succ)) = Value.int IntKind.i64 (Int.ofNat i.succ), (g != (1 : Int)) = false, Value.int IntKind.i64 (mgetI (Value.int IntKind.i64 (↑i : Int)) es) = Value.int IntKind.i64 g, decide ((↑i : Int) < (↑n : Int)) = true])) (hK : ∀ zz, (fGn cs o n c es k Q).inv 0 zz → ltO ((fGn cs o n c es k Q).mu 0 zz) (some (n - i)) → Sat E (mkLp (lp Try.f45 1) J) ((fGn cs o n c es k Q).st 0 zz)) : Sat E (inLp (lp Try.f45 1) J) ((fGn cs o n c es k Q).st 0 i) :=
  by_to (T := auto0 t_runpack) (h := hints [(19, 2, {v := some (.int .i64 g)}), (18, 1, {v := some (.int .i64 ((i + 1 : Nat) : Int))})]) (ws := [.b true, .b false]) (i0 := (i + 1)) hE hm (auto0_ok t_runpack_ok) hL (by kernel_rfl) hob hK
theorem gnN (cs : List Value) (o n c : Nat) (Q : Nat → Prop) (i k : Nat) (es : List Ent) (g : Int) (J : Act → World → Prop) {E : Env} (hE : EnvOK E Try.prog Try.f45 2 1 (.bool false) [] []) (hob : all ([Back (Value.bool false) (Value.bool false) [] [] [], (g != (1 : Int)) = true, Value.int IntKind.i64 (mgetI (Value.int IntKind.i64 (↑i : Int)) es) = Value.int IntKind.i64 g, decide ((↑i : Int) < (↑n : Int)) = true])) : Sat E (inLp (lp Try.f45 1) J) ((fGn cs o n c es k Q).st 0 i) :=
  by_ret (T := auto0 t_runpack) (h := hints [(19, 2, {v := some (.int .i64 g)})]) (ws := [.b true, .b true]) (nx' := 1) hE hm (auto0_ok t_runpack_ok) (by omega) (by simp) (by simp) (by kernel_rfl) hob
theorem gnE (cs : List Value) (o n c : Nat) (Q : Nat → Prop) (i k : Nat) (es : List Ent) (J : Act → World → Prop) {E : Env} (hE : EnvOK E Try.prog Try.f45 2 1 (.bool true) [] []) (hob : all ([Back (Value.bool true) (Value.bool true) [] [] [], decide ((↑i : Int) < (↑n : Int)) = false])) : Sat E (inLp (lp Try.f45 1) J) ((fGn cs o n c es k Q).st 0 i) :=
  by_ret (T := auto0 t_runpack) (h := hints []) (ws := [.b false]) (nx' := 1) hE hm (auto0_ok t_runpack_ok) (by omega) (by simp) (by simp) (by kernel_rfl) hob
end Go.Proofs.Ythbaccmhdffjdaa.Tr


set_option linter.unusedVariables false
set_option linter.unusedSimpArgs false
set_option maxRecDepth 100000
namespace Go.Proofs.Ythbaccmhdffjdaa.Tr
open Go Go.RowKit Go.Proofs.Ythbaccmhdffjdaa.Ev Go.Proofs.Ythbaccmhdffjdaa.NodeE Go.Proofs.Ythbaccmhdffjdaa.Tr

theorem rtree_spec (cs : List Value) (o n c : Nat) (dim : Int) (hr : eWord.Row cs o n) (hpl : ∀ x ∈ cs, leafG x = true) (hU : ∀ w ∈ eWord.list cs o n, U64 w) (hn : n ≤ 65536) :
    CallSpec Try.prog 45 [.slice (some ⟨0, o, none⟩) n c, .int .i64 dim] (roRows [cs]) 1 (.bool (rightI (eWord.list cs o n) dim)) (assocN [] []) := by
  refine spec_of_sat Try.func45 rfl fun E hE => ?_
  have hlen : (eWord.list cs o n).length = n := Elt.list_len _ _ _
  generalize hws : eWord.list cs o n = ws at hU hlen hE
  refine (Classical.em (1 ≤ n)).symm.elim (fun h1 => ?_) (fun h1 => ?_)
  · rw [right_len (by omega)] at hE
    exact gtShort cs o n c dim hE ⟨⟨rfl, rfl⟩, (congrArg _ (decide_eq_true (by omega))), trivial⟩
  have g1 : Value.bool (decide ((n : Int) < 1)) = .bool false := congrArg _ (decide_eq_false (by omega))
  refine (Classical.em (n ≤ 31)).symm.elim (fun h31 => ?_) (fun h31 => ?_)
  · rw [right_len (by omega)] at hE
    exact gtLong cs o n c dim hE ⟨⟨rfl, rfl⟩, (congrArg _ (decide_eq_true (by omega))), g1, trivial⟩
  have g2 : Value.bool (decide ((n : Int) > 31)) = .bool false := congrArg _ (decide_eq_false (by omega))
  let Q : GT → Prop := fun s => s.i ≤ n ∧ (∀ (j : Nat) (w : Int), j < s.i → ws[j]? = some w → goodW dim n j w = true) ∧ keysI s.es ∧ ∀ z, mgetI (kI z) s.es = (named (ws.take s.i) z : Int)
  have okL := fGt_ok cs o n c dim Q hpl
  have rnr : ∀ f : Nat → Nat, Blk.rnB f (.ro cs) = .ro cs := fun f => Blk.plain.rnB (b := .ro cs) hpl f
  have rnm : ∀ (f : Nat → Nat) (es : List Ent) (c : Nat), Blk.rnB f (.map [some .i64] false (some .i64) es c) = .map [some .i64] false (some .i64) es c := fun f es c => rfl
  refine gtIn cs o n c dim Q hE okL ⟨rfl, ⟨⟨0, [], 0⟩, ⟨Nat.zero_le _, fun j w hj => absurd hj (Nat.not_lt_zero _), keysI_nil, fun z => rfl⟩, trivial, rfl, by simp only [fGt, List.map_cons, List.map_nil, rnr, rnm]⟩, g2, g1, trivial⟩ fun zz hz _ => by_loop (fGt cs o n c dim Q) (lp Try.f45 0) ?_ 0 zz hz
  rintro b ⟨i, es, k⟩ hinv J hJ
  have hinv : i ≤ n ∧ (∀ (j : Nat) (w : Int), j < i → ws[j]? = some w → goodW dim n j w = true) ∧ keysI es ∧ ∀ z, mgetI (kI z) es = (named (ws.take i) z : Int) := hinv
  obtain ⟨k1, k2, k3, k4⟩ := hinv
  show Sat E (inLp (lp Try.f45 0) J) ((fGt cs o n c dim Q).st 0 ⟨i, es, k⟩)
  have hJ' : ∀ zz, (fGt cs o n c dim Q).inv 0 zz → ltO ((fGt cs o n c dim Q).mu 0 zz) (some (n - i)) → Sat E (mkLp (lp Try.f45 0) J) ((fGt cs o n c dim Q).st 0 zz) := fun zz h1 h2 => hJ 0 zz h1 h2
  by_cases hin : i < n
  · have hlt : decide ((i : Int) < (n : Int)) = true := decide_eq_true (by omega)
    obtain ⟨w, hw⟩ : ∃ w, ws[i]? = some w := ⟨_, List.getElem?_eq_getElem (by rw [hlen]; omega)⟩
    have hrd := hr.read1 (P := Try.prog) (ty := 83) (by kernel_rfl) rfl (i := i) (x := w) (by rw [hws]; exact hw) rfl rfl
    rw [← Nat.mul_one i] at hrd
    have htk : ws.take (i + 1) = ws.take i ++ [w] := by rw [List.take_add_one, hw]; rfl
    have nxt : goodW dim n i w = true → ∀ (j : Nat) (v : Int), j < i + 1 → ws[j]? = some v → goodW dim n j v = true := fun hg j v hj hv => by
      by_cases e : j < i
      · exact k2 j v e hv
      · obtain rfl : j = i := by omega
        rw [hw] at hv; injection hv with hv; subst hv; exact hg
    cases hgd : goodW dim n i w
    · have hbad : rightI ws dim = false := right_bad hw (by rw [hlen]; exact hgd)
      rw [hbad] at hE
      cases ho : okB w
      · exact gtN cs o n c dim Q i k es w J hE ⟨⟨rfl, rfl⟩, unp_no ho, hU w (List.mem_of_getElem? hw), hrd, ⟨Int.natCast_nonneg _, Int.ofNat_lt.2 hin⟩, hlt, trivial⟩
      · refine (Bool.eq_false_or_eq_true (lfB w)).elim (fun hl => ?_) (fun hl => ?_)
        · rw [good_leaf ho hl] at hgd; exact absurd hgd (by simp)
        refine (Classical.em (uF w < dim)).symm.elim (fun d0 => ?_) (fun d0 => ?_)
        · exact gtB0 cs o n c dim Q i k es w (uF w) (low32 w) (uX w) (uY w) J hE ⟨⟨rfl, rfl⟩, (congrArg _ (decide_eq_true (by omega))), unp_inner ho hl, hU w (List.mem_of_getElem? hw), hrd, ⟨Int.natCast_nonneg _, Int.ofNat_lt.2 hin⟩, hlt, trivial⟩
        have e0 : Value.bool (decide (uF w ≥ dim)) = .bool false := congrArg _ (decide_eq_false (by omega))
        refine (Classical.em (¬ uX w ≤ (i : Int))).symm.elim (fun d1 => ?_) (fun d1 => ?_)
        · exact gtB1 cs o n c dim Q i k es w (uF w) (low32 w) (uX w) (uY w) J hE ⟨⟨rfl, rfl⟩, (congrArg _ (decide_eq_true (by omega))), e0, unp_inner ho hl, hU w (List.mem_of_getElem? hw), hrd, ⟨Int.natCast_nonneg _, Int.ofNat_lt.2 hin⟩, hlt, trivial⟩
        have e1 : Value.bool (decide (uX w ≤ (i : Int))) = .bool false := congrArg _ (decide_eq_false (by omega))
        refine (Classical.em (¬ uY w ≤ (i : Int))).symm.elim (fun d2 => ?_) (fun d2 => ?_)
        · exact gtB2 cs o n c dim Q i k es w (uF w) (low32 w) (uX w) (uY w) J hE ⟨⟨rfl, rfl⟩, (congrArg _ (decide_eq_true (by omega))), e1, e0, unp_inner ho hl, hU w (List.mem_of_getElem? hw), hrd, ⟨Int.natCast_nonneg _, Int.ofNat_lt.2 hin⟩, hlt, trivial⟩
        have e2 : Value.bool (decide (uY w ≤ (i : Int))) = .bool false := congrArg _ (decide_eq_false (by omega))
        refine (Classical.em (¬ uX w ≥ (n : Int))).symm.elim (fun d3 => ?_) (fun d3 => ?_)
        · exact gtB3 cs o n c dim Q i k es w (uF w) (low32 w) (uX w) (uY w) J hE ⟨⟨rfl, rfl⟩, (congrArg _ (decide_eq_true (by omega))), e2, e1, e0, unp_inner ho hl, hU w (List.mem_of_getElem? hw), hrd, ⟨Int.natCast_nonneg _, Int.ofNat_lt.2 hin⟩, hlt, trivial⟩
        have e3 : Value.bool (decide (uX w ≥ (n : Int))) = .bool false := congrArg _ (decide_eq_false (by omega))
        refine (Classical.em (¬ uY w ≥ (n : Int))).symm.elim (fun d4 => ?_) (fun d4 => ?_)
        · exact gtB4 cs o n c dim Q i k es w (uF w) (low32 w) (uX w) (uY w) J hE ⟨⟨rfl, rfl⟩, (congrArg _ (decide_eq_true (by omega))), e3, e2, e1, e0, unp_inner ho hl, hU w (List.mem_of_getElem? hw), hrd, ⟨Int.natCast_nonneg _, Int.ofNat_lt.2 hin⟩, hlt, trivial⟩
        have e4 : Value.bool (decide (uY w ≥ (n : Int))) = .bool false := congrArg _ (decide_eq_false (by omega))
        refine (Classical.em (uX w ≠ uY w)).symm.elim (fun d5 => ?_) (fun d5 => ?_)
        · exact gtB5 cs o n c dim Q i k es w (uF w) (low32 w) (uX w) (uY w) J hE ⟨⟨rfl, rfl⟩, (congrArg _ (beq_iff_eq.2 (Classical.not_not.1 d5))), e4, e3, e2, e1, e0, unp_inner ho hl, hU w (List.mem_of_getElem? hw), hrd, ⟨Int.natCast_nonneg _, Int.ofNat_lt.2 hin⟩, hlt, trivial⟩
        have e5 : Value.bool ((uX w == uY w)) = .bool false := congrArg _ (beq_eq_false_iff_ne.2 d5)
        rw [good_mk hl ho d0 d5 (by omega) (by omega) (by omega) (by omega)] at hgd
        exact absurd hgd (by simp)
    · cases hl : lfB w
      · obtain ⟨ho, d1, d2, d3, d4, d5, d6⟩ := good_inner hgd hl
        have e0 : Value.bool (decide (uF w ≥ dim)) = .bool false := congrArg _ (decide_eq_false (by omega))
        have e1 : Value.bool (decide (uX w ≤ (i : Int))) = .bool false := congrArg _ (decide_eq_false (by omega))
        have e2 : Value.bool (decide (uY w ≤ (i : Int))) = .bool false := congrArg _ (decide_eq_false (by omega))
        have e3 : Value.bool (decide (uX w ≥ (n : Int))) = .bool false := congrArg _ (decide_eq_false (by omega))
        have e4 : Value.bool (decide (uY w ≥ (n : Int))) = .bool false := congrArg _ (decide_eq_false (by omega))
        have e5 : Value.bool ((uX w == uY w)) = .bool false := congrArg _ (beq_eq_false_iff_ne.2 d2)
        have hlX := named_le (ws.take i) (uX w)
        have hlY := named_le (ws.take i) (uY w)
        have htl : (ws.take i).length ≤ 31 := by rw [List.length_take, hlen]; omega
        have m1 : mgetI (kI (uY w)) (mput (kI (uX w)) (kI ((named (ws.take i) (uX w) : Int) + 1)) k es) = (named (ws.take i) (uY w) : Int) := by
          rw [mgetI_putI k3, k4]
          have : (uY w == uX w) = false := beq_eq_false_iff_ne.2 (fun h => d2 h.symm)
          rw [this]; rfl
        have k3a := keysI_put k3 (uX w) (kI ((named (ws.take i) (uX w) : Int) + 1)) k
        have m2 : ∀ (c' : Nat) (z : Int), mgetI (kI z) (mput (kI (uY w)) (kI ((named (ws.take i) (uY w) : Int) + 1)) c' (mput (kI (uX w)) (kI ((named (ws.take i) (uX w) : Int) + 1)) k es)) = (named (ws.take (i + 1)) z : Int) := fun c' z => by
          rw [mgetI_putI k3a, mgetI_putI k3, k4, htk, named_snoc]
          simp only [namesW, hl, cond_false, List.count_cons, List.count_nil]
          by_cases e1 : z = uY w
          · subst e1
            have : (uX w == uY w) = false := beq_eq_false_iff_ne.2 d2
            simp [this]
          · have a1 : (z == uY w) = false := beq_eq_false_iff_ne.2 e1
            have a2 : (uY w == z) = false := beq_eq_false_iff_ne.2 fun h => e1 h.symm
            by_cases e2 : z = uX w
            · subst e2; simp [a1, a2]
            · have b1 : (z == uX w) = false := beq_eq_false_iff_ne.2 e2
              have b2 : (uX w == z) = false := beq_eq_false_iff_ne.2 fun h => e2 h.symm
              simp [a1, a2, b1, b2]
        exact gtG cs o n c dim Q i k es 0 _ _ w (uF w) (low32 w) (uX w) (uY w) (named (ws.take i) (uX w) : Int) (named (ws.take i) (uY w) : Int) ((named (ws.take i) (uX w) : Int) + 1) ((named (ws.take i) (uY w) : Int) + 1) J hE okL ⟨rfl, ⟨⟨i + 1, _, _⟩, ⟨hin, nxt hgd, keysI_put k3a _ _ _, m2 _⟩, (by show n - (i + 1) < n - i; omega), rfl, by simp only [fGt, List.map_cons, List.map_nil, rnr, rnm]; rfl⟩, i64_succ (by omega), rfl, (i64_id rfl (by omega) (by omega)), (congrArg _ m1), rfl, (i64_id rfl (by omega) (by omega)), (congrArg _ (k4 _)), e5, e4, e3, e2, e1, e0, unp_inner ho hl, hU w (List.mem_of_getElem? hw), hrd, ⟨Int.natCast_nonneg _, Int.ofNat_lt.2 hin⟩, hlt, trivial⟩ hJ'
      · have ho : okB w = true := by simp [goodW] at hgd; exact hgd.1
        exact gtF cs o n c dim Q i k es w (low32 w) J hE okL ⟨rfl, ⟨⟨i + 1, es, k⟩, ⟨hin, nxt hgd, k3, fun z => by rw [k4 z, htk, named_snoc]; simp [namesW, hl]⟩, (by show n - (i + 1) < n - i; omega), rfl, by simp only [fGt, List.map_cons, List.map_nil, rnr, rnm]⟩, i64_succ (by omega), unp_leaf ho hl, hU w (List.mem_of_getElem? hw), hrd, ⟨Int.natCast_nonneg _, Int.ofNat_lt.2 hin⟩, hlt, trivial⟩ hJ'
  · have hlt : decide ((i : Int) < (n : Int)) = false := decide_eq_false (by omega)
    obtain rfl : i = n := by omega
    have hall : ∀ (j : Nat) (w : Int), ws[j]? = some w → goodW dim i j w = true := fun j w hw => k2 j w (by have := (List.getElem?_eq_some_iff.1 hw).1; omega) hw
    rw [List.take_of_length_le (by omega)] at k4
    let Q2 : Nat → Prop := fun j => 1 ≤ j ∧ j ≤ i ∧ ∀ m : Nat, 1 ≤ m → m < j → named ws (m : Int) = 1
    refine gtZ cs o i c dim Q i k es Q2 J hE (fGn_ok cs o i c es k Q2 hpl) ⟨rfl, ⟨1, ⟨Nat.le_refl _, h1, fun m a b => by omega⟩, trivial, rfl, by simp only [fGn, List.map_cons, List.map_nil, rnr, rnm]⟩, hlt, trivial⟩ fun zz hz _ => by_loop (fGn cs o i c es k Q2) (lp Try.f45 1) ?_ 0 zz hz
    rintro b j hinv J hJ
    have hinv : 1 ≤ j ∧ j ≤ i ∧ ∀ m : Nat, 1 ≤ m → m < j → named ws (m : Int) = 1 := hinv
    obtain ⟨m0, m1, m2⟩ := hinv
    show Sat E (inLp (lp Try.f45 1) J) ((fGn cs o i c es k Q2).st 0 j)
    have hJ' : ∀ zz, (fGn cs o i c es k Q2).inv 0 zz → ltO ((fGn cs o i c es k Q2).mu 0 zz) (some (i - j)) → Sat E (mkLp (lp Try.f45 1) J) ((fGn cs o i c es k Q2).st 0 zz) := fun zz h1 h2 => hJ 0 zz h1 h2
    by_cases hji : j < i
    · have hlt : decide ((j : Int) < (i : Int)) = true := decide_eq_true (by omega)
      by_cases h1' : named ws (j : Int) = 1
      · exact gnY cs o i c Q2 j k es _ J hE (fGn_ok cs o i c es k Q2 hpl) ⟨rfl, ⟨j + 1, ⟨by omega, by omega, fun m a b => by
            by_cases e : m < j
            · exact m2 m a e
            · obtain rfl : m = j := by omega
              exact h1'⟩, (by show i - (j + 1) < i - j; omega), rfl, by simp only [fGn, List.map_cons, List.map_nil, rnr, rnm]⟩, i64_succ (by omega), (by rw [h1']; rfl), (congrArg _ (k4 _)), hlt, trivial⟩ hJ'
      · rw [right_once (k := j) (by omega) (by omega) h1'] at hE
        exact gnN cs o i c Q2 j k es _ J hE ⟨⟨rfl, rfl⟩, (by simp only [bne_iff_ne, ne_eq]; omega), (congrArg _ (k4 _)), hlt, trivial⟩
    · have hlt : decide ((j : Int) < (i : Int)) = false := decide_eq_false (by omega)
      have hR : rightI ws dim = true := right_parts.2 ⟨⟨by omega, by omega⟩, fun j w hw => by rw [hlen]; exact hall j w hw, fun m a b => m2 m a (by omega)⟩
      rw [hR] at hE
      exact gnE cs o i c Q2 j k es J hE ⟨⟨rfl, rfl⟩, hlt, trivial⟩
theorem rtree_sum : SumOK Try.prog 45 (roSum right_F) := by
  refine roSum_ok (en Try.func45 rfl) ?_ (fun xs css r h => ?_)
  · intro xs css v blks ob h hob hpl hl
    unfold right_F at h
    split at h
    · rename_i o n c dim cs
      simp only [Option.some.injEq, Prod.mk.injEq] at h
      obtain ⟨rfl, rfl, rfl⟩ := h
      refine ⟨by simp, by simp, fun j hj => by simp [nms, nm1, nmL, nm0] at hj, ?_⟩
      exact rtree_spec cs o n c dim (hob _ (List.mem_cons_self ..)) (hpl cs (by simp)) (hob _ (List.mem_cons_of_mem _ (List.mem_cons_self ..))) (hob _ (by simp))
    · rename_i dim
      simp only [Option.some.injEq, Prod.mk.injEq] at h
      obtain ⟨rfl, rfl, rfl⟩ := h
      refine ⟨by simp, by simp, fun j hj => by simp [nms, nm1, nmL, nm0] at hj, ?_⟩
      exact spec_of_sat Try.func45 rfl fun E hE => gtNil dim hE ⟨⟨rfl, rfl⟩, trivial⟩
    · simp at h
  · unfold right_F at h
    split at h <;> simp at h <;> simp
end Go.Proofs.Ythbaccmhdffjdaa.Tr


set_option linter.unusedVariables false
set_option linter.unusedSimpArgs false
set_option maxRecDepth 100000
namespace Go.Proofs.Ythbaccmhdffjdaa.Tr
open Go Go.RowKit Go.Proofs.Ythbaccmhdffjdaa.Ev Go.Proofs.Ythbaccmhdffjdaa.NodeE Go.Proofs.Ythbaccmhdffjdaa.Tr

def fLv (cs : List Value) (o n c : Nat) (Q : Nat → Nat × List Int → Prop) : LoopF (Nat × List Int) where
  ts _ := [3, 11, 12, 13]
  hs z := match z with | 0 => [0] | _ => [0, 13]
  tv z := fun ⟨i, out⟩ => [match z with | 0 => .slice none 0 0 | _ => .slice (some ⟨13, 0, none⟩) out.length mk, .slice (some ⟨0, o, none⟩) n c, .int .i64 (n : Int), .int .i64 (i : Int)]
  hv z := fun ⟨i, out⟩ => match z with | 0 => [.ro cs] | _ => [.ro cs, .vec (eInt.row out) 3 1]
  inv := Q
  mu _ := fun ⟨i, out⟩ => n - i
  nx := 14
theorem fLv_ok (cs : List Value) (o n c : Nat) (Q : Nat → Nat × List Int → Prop) (hpl : ∀ x ∈ cs, leafG x = true) : (fLv cs o n c Q).OK 1 := by
  refine ⟨(by decide : 1 ≤ 14), fun z i h k hk => ?_, fun z i h v hv k hk => ?_, fun z i h x hx => ?_⟩
  · show k < 14
    match z with
    | 0 => simp [fLv] at hk; omega
    | z + 1 => simp [fLv] at hk; omega
  · show k < 14
    match z with
    | 0 =>
      simp [fLv] at hv
      repeat' (refine Or.elim hv (fun hv => ?_) (fun hv => ?_))
      all_goals (subst hv; simp [nms, nm1, nm0] at hk; try omega)
    | z + 1 =>
      simp [fLv] at hv
      repeat' (refine Or.elim hv (fun hv => ?_) (fun hv => ?_))
      all_goals (subst hv; simp [nms, nm1, nm0] at hk; try omega)
  · match z with
    | 0 =>
      simp [fLv] at hx
      subst hx
      exact Blk.plain.namesLt (b := .ro cs) hpl _
    | z + 1 =>
      simp [fLv] at hx
      rcases hx with rfl | rfl
      · exact Blk.plain.namesLt (b := .ro cs) hpl _
      · exact Blk.plain.namesLt (b := .vec _ _ _) (Elt.row_pl _) _
structure DP where
  i : Nat
  m : Int
  r : List Int
def fDp (cs : List Value) (o n c : Nat) (Q : DP → Prop) : LoopF DP where
  ts _ := [3, 4, 17, 18, 19]
  hs _ := [0, 10]
  tv _ := fun ⟨i, m, r⟩ => [.slice (some ⟨10, 0, none⟩) n n, .int .i64 m, .slice (some ⟨0, o, none⟩) n c, .int .i64 (n : Int), .int .i64 (i : Int)]
  hv _ := fun ⟨i, m, r⟩ => [.ro cs, .cells (eInt.row r) 3]
  inv _ := Q
  mu _ := fun ⟨i, m, r⟩ => n - i
  nx := 14

theorem fDp_ok (cs : List Value) (o n c : Nat) (Q : DP → Prop) (hpl : ∀ x ∈ cs, leafG x = true) : (fDp cs o n c Q).OK 1 := by
  refine ⟨(by decide : 1 ≤ 14), fun z i h k hk => ?_, fun z i h v hv k hk => ?_, fun z i h x hx => ?_⟩
  · show k < 14
    simp [fDp] at hk; omega
  · show k < 14
    simp [fDp] at hv
    repeat' (refine Or.elim hv (fun hv => ?_) (fun hv => ?_))
    all_goals (subst hv; simp [nms, nm1, nm0] at hk; try omega)
  · simp [fDp] at hx
    rcases hx with rfl | rfl
    · exact Blk.plain.namesLt (b := .ro cs) hpl _
    · exact Blk.plain.namesLt (b := .cells _ 3) (Elt.row_pl _) _

noncomputable def t_rgt : Sums := upd t_runpack 42 (some (roSum right_F))
theorem t_rgt_ok : SumsOK Try.prog t_rgt := sums_cons t_runpack_ok right_sum
end Go.Proofs.Ythbaccmhdffjdaa.Tr


set_option linter.unusedVariables false
set_option linter.unusedSimpArgs false
set_option maxRecDepth 100000
namespace Go.Proofs.Ythbaccmhdffjdaa.Tr
open Go Go.RowKit Go.Proofs.Ythbaccmhdffjdaa.Ev Go.Proofs.Ythbaccmhdffjdaa.NodeE Go.Proofs.Ythbaccmhdffjdaa.Tr

theorem lvNil (u : Unit)  {E : Env} (hE : EnvOK E Try.prog Try.f38 1 0 (.slice none 0 0) [] []) (hob : all ([Back (Value.slice none 0 0) (Value.slice none 0 0) [] [] [], plainR []])) : Sat E [.code (bodyOf Try.f38)] (st0 Try.f38 [.slice none 0 0] (roRows []) 0) :=
  by_ret (T := auto0 t_rgt) (h := hints []) (ws := []) (nx' := 0) hE hm (auto0_ok t_rgt_ok) (by omega) (by simp) (by simp) (by kernel_rfl) hob
theorem lvIn (cs : List Value) (o n c : Nat) (Q : Nat → Nat × List Int → Prop)  {E : Env} {rv : Value} {rhs : List Nat} {rhv : List Blk} (hE : EnvOK E Try.prog Try.f38 1 1 rv rhs rhv) (hL : (fLv cs o n c Q).OK 1) (hob : all ([SameK (atLp (lp Try.f38 0)) (atLp (lp Try.f38 0)), Enter (fLv cs o n c Q) 0 none [Value.slice none 0 0, Value.slice (some (Addr.mk 0 o none)) n c, Value.int IntKind.i64 ((n : Int)), Value.int IntKind.i64 ((0 : Int))] [Blk.ro cs] [(0, 0)], Value.bool (rightI (eWord.list cs o n) ((4 : Int))) = Value.bool true, plainR [cs], eWord.Row cs o n, ∀ (w : Int), w ∈ eWord.list cs o n → U64 w, n ≤ 65536])) (hK : ∀ zz, (fLv cs o n c Q).inv 0 zz → ltO ((fLv cs o n c Q).mu 0 zz) none → Sat E (atLp (lp Try.f38 0)) ((fLv cs o n c Q).st 0 zz)) : Sat E [.code (bodyOf Try.f38)] (st0 Try.f38 [.slice (some ⟨0, o, none⟩) n c] (roRows [cs]) 1) :=
  by_to (T := auto0 t_rgt) (h := hints [(1, 1, {v := some (.bool true)})]) (ws := [.go, .stop]) (i0 := (0, [])) hE hm (auto0_ok t_rgt_ok) hL (by kernel_rfl) hob hK
theorem lvF0 (cs : List Value) (o n c : Nat) (Q : Nat → Nat × List Int → Prop) (i : Nat) (w v : Int) (out2 : List Int) (J : Act → World → Prop) {E : Env} {rv : Value} {rhs : List Nat} {rhv : List Blk} (hE : EnvOK E Try.prog Try.f38 1 1 rv rhs rhv) (hL : (fLv cs o n c Q).OK 1) (hob : all ([SameK (mkLp (lp Try.f38 0) J) (mkLp (lp Try.f38 0) J), Enter (fLv cs o n c Q) 1 (some (n - i)) [Value.slice (some (Addr.mk 166 0 none)) 1 1267650600228229401496703205376, Value.slice (some (Addr.mk 0 o none)) n c, Value.int IntKind.i64 ((n : Int)), Value.int IntKind.i64 (Int.ofNat i.succ)] [Blk.ro cs, Blk.vec (eInt.row out2) 3 1] [(13, 166), (0, 0)], Value.int IntKind.i64 (IntKind.i64.wrap (Int.ofNat i.succ)) = Value.int IntKind.i64 (Int.ofNat i.succ), AppOK none 0 0 1 8 1 [Value.int IntKind.i64 ((i : Int))] 0 (eInt.row out2), Value.tuple (Array.mk [Value.agg (Array.mk [Value.bool (okB w && lfB w), Value.int IntKind.i64 (sV w), Value.int IntKind.i64 (sF w), Value.int IntKind.i64 (sA w), Value.int IntKind.i64 (sX w), Value.int IntKind.i64 (sY w)]), Value.bool (okB w)]) = Value.tuple (Array.mk [Value.agg (Array.mk [Value.bool true, Value.int IntKind.i64 v, Value.int IntKind.i64 ((0 : Int)), Value.int IntKind.i64 ((0 : Int)), Value.int IntKind.i64 ((0 : Int)), Value.int IntKind.i64 ((0 : Int))]), Value.bool true]), U64 w, readPart Try.prog 83 cs (o + ((i : Int)).toNat * 1) = some (Value.int IntKind.u64 w), (0 : Int) ≤ (i : Int) ∧ (i : Int) < (n : Int), decide ((↑i : Int) < (↑n : Int)) = true])) (hK : ∀ zz, (fLv cs o n c Q).inv 1 zz → ltO ((fLv cs o n c Q).mu 1 zz) (some (n - i)) → Sat E (mkLp (lp Try.f38 0) J) ((fLv cs o n c Q).st 1 zz)) : Sat E (inLp (lp Try.f38 0) J) ((fLv cs o n c Q).st 0 (i, [])) :=
  by_to (T := auto0 t_rgt) (h := hints [(6, 1, {p := true}), (6, 2, {o := some (.int .u64 w)}), (7, 1, {v := some (.tuple ⟨[nd true v 0 0 0 0, .bool true]⟩)}), (9, 3, {c := some (eInt.row out2)}), (10, 0, {v := some (.int .i64 ((i + 1 : Nat) : Int))})]) (ws := [.b true]) (i0 := (i + 1, out2)) hE hm (auto0_ok t_rgt_ok) hL (by kernel_rfl) hob hK
theorem lvI0 (cs : List Value) (o n c : Nat) (Q : Nat → Nat × List Int → Prop) (i : Nat) (w f a x y : Int) (J : Act → World → Prop) {E : Env} {rv : Value} {rhs : List Nat} {rhv : List Blk} (hE : EnvOK E Try.prog Try.f38 1 1 rv rhs rhv) (hL : (fLv cs o n c Q).OK 1) (hob : all ([SameK (mkLp (lp Try.f38 0) J) (mkLp (lp Try.f38 0) J), Enter (fLv cs o n c Q) 0 (some (n - i)) [Value.slice none 0 0, Value.slice (some (Addr.mk 0 o none)) n c, Value.int IntKind.i64 ((n : Int)), Value.int IntKind.i64 (Int.ofNat i.succ)] [Blk.ro cs] [(0, 0)], Value.int IntKind.i64 (IntKind.i64.wrap (Int.ofNat i.succ)) = Value.int IntKind.i64 (Int.ofNat i.succ), Value.tuple (Array.mk [Value.agg (Array.mk [Value.bool (okB w && lfB w), Value.int IntKind.i64 (sV w), Value.int IntKind.i64 (sF w), Value.int IntKind.i64 (sA w), Value.int IntKind.i64 (sX w), Value.int IntKind.i64 (sY w)]), Value.bool (okB w)]) = Value.tuple (Array.mk [Value.agg (Array.mk [Value.bool false, Value.int IntKind.i64 ((0 : Int)), Value.int IntKind.i64 f, Value.int IntKind.i64 a, Value.int IntKind.i64 x, Value.int IntKind.i64 y]), Value.bool true]), U64 w, readPart Try.prog 83 cs (o + ((i : Int)).toNat * 1) = some (Value.int IntKind.u64 w), (0 : Int) ≤ (i : Int) ∧ (i : Int) < (n : Int), decide ((↑i : Int) < (↑n : Int)) = true])) (hK : ∀ zz, (fLv cs o n c Q).inv 0 zz → ltO ((fLv cs o n c Q).mu 0 zz) (some (n - i)) → Sat E (mkLp (lp Try.f38 0) J) ((fLv cs o n c Q).st 0 zz)) : Sat E (inLp (lp Try.f38 0) J) ((fLv cs o n c Q).st 0 (i, [])) :=
  by_to (T := auto0 t_rgt) (h := hints [(6, 1, {p := true}), (6, 2, {o := some (.int .u64 w)}), (7, 1, {v := some (.tuple ⟨[nd false 0 f a x y, .bool true]⟩)}), (10, 0, {v := some (.int .i64 ((i + 1 : Nat) : Int))})]) (ws := [.b true]) (i0 := (i + 1, [])) hE hm (auto0_ok t_rgt_ok) hL (by kernel_rfl) hob hK
theorem lvF1 (cs : List Value) (o n c : Nat) (Q : Nat → Nat × List Int → Prop) (i : Nat) (out : List Int) (w v : Int) (out2 : List Int) (J : Act → World → Prop) {E : Env} {rv : Value} {rhs : List Nat} {rhv : List Blk} (hE : EnvOK E Try.prog Try.f38 1 1 rv rhs rhv) (hL : (fLv cs o n c Q).OK 1) (hob : all ([SameK (mkLp (lp Try.f38 0) J) (mkLp (lp Try.f38 0) J), Enter (fLv cs o n c Q) 1 (some (n - i)) [Value.slice (some (Addr.mk 166 0 none)) (out.length + 1) 1267650600228229401496703205376, Value.slice (some (Addr.mk 0 o none)) n c, Value.int IntKind.i64 ((n : Int)), Value.int IntKind.i64 (Int.ofNat i.succ)] [Blk.ro cs, Blk.vec (eInt.row out2) 3 1] [(13, 166), (0, 0)], Value.int IntKind.i64 (IntKind.i64.wrap (Int.ofNat i.succ)) = Value.int IntKind.i64 (Int.ofNat i.succ), AppOK (some (Blk.vec (eInt.row out) 3 1)) out.length 1267650600228229401496703205376 1 8 1 [Value.int IntKind.i64 ((i : Int))] 0 (eInt.row out2), Value.tuple (Array.mk [Value.agg (Array.mk [Value.bool (okB w && lfB w), Value.int IntKind.i64 (sV w), Value.int IntKind.i64 (sF w), Value.int IntKind.i64 (sA w), Value.int IntKind.i64 (sX w), Value.int IntKind.i64 (sY w)]), Value.bool (okB w)]) = Value.tuple (Array.mk [Value.agg (Array.mk [Value.bool true, Value.int IntKind.i64 v, Value.int IntKind.i64 ((0 : Int)), Value.int IntKind.i64 ((0 : Int)), Value.int IntKind.i64 ((0 : Int)), Value.int IntKind.i64 ((0 : Int))]), Value.bool true]), U64 w, readPart Try.prog 83 cs (o + ((i : Int)).toNat * 1) = some (Value.int IntKind.u64 w), (0 : Int) ≤ (i : Int) ∧ (i : Int) < (n : Int), decide ((↑i : Int) < (↑n : Int)) = true])) (hK : ∀ zz, (fLv cs o n c Q).inv 1 zz → ltO ((fLv cs o n c Q).mu 1 zz) (some (n - i)) → Sat E (mkLp (lp Try.f38 0) J) ((fLv cs o n c Q).st 1 zz)) : Sat E (inLp (lp Try.f38 0) J) ((fLv cs o n c Q).st 1 (i, out)) :=
  by_to (T := auto0 t_rgt) (h := hints [(6, 1, {p := true}), (6, 2, {o := some (.int .u64 w)}), (7, 1, {v := some (.tuple ⟨[nd true v 0 0 0 0, .bool true]⟩)}), (9, 3, {c := some (eInt.row out2)}), (10, 0, {v := some (.int .i64 ((i + 1 : Nat) : Int))})]) (ws := [.b true]) (i0 := (i + 1, out2)) hE hm (auto0_ok t_rgt_ok) hL (by kernel_rfl) hob hK
theorem lvI1 (cs : List Value) (o n c : Nat) (Q : Nat → Nat × List Int → Prop) (i : Nat) (out : List Int) (w f a x y : Int) (J : Act → World → Prop) {E : Env} {rv : Value} {rhs : List Nat} {rhv : List Blk} (hE : EnvOK E Try.prog Try.f38 1 1 rv rhs rhv) (hL : (fLv cs o n c Q).OK 1) (hob : all ([SameK (mkLp (lp Try.f38 0) J) (mkLp (lp Try.f38 0) J), Enter (fLv cs o n c Q) 1 (some (n - i)) [Value.slice (some (Addr.mk 13 0 none)) out.length 1267650600228229401496703205376, Value.slice (some (Addr.mk 0 o none)) n c, Value.int IntKind.i64 ((n : Int)), Value.int IntKind.i64 (Int.ofNat i.succ)] [Blk.ro cs, Blk.vec (eInt.row out) 3 1] [(13, 13), (0, 0)], Value.int IntKind.i64 (IntKind.i64.wrap (Int.ofNat i.succ)) = Value.int IntKind.i64 (Int.ofNat i.succ), Value.tuple (Array.mk [Value.agg (Array.mk [Value.bool (okB w && lfB w), Value.int IntKind.i64 (sV w), Value.int IntKind.i64 (sF w), Value.int IntKind.i64 (sA w), Value.int IntKind.i64 (sX w), Value.int IntKind.i64 (sY w)]), Value.bool (okB w)]) = Value.tuple (Array.mk [Value.agg (Array.mk [Value.bool false, Value.int IntKind.i64 ((0 : Int)), Value.int IntKind.i64 f, Value.int IntKind.i64 a, Value.int IntKind.i64 x, Value.int IntKind.i64 y]), Value.bool true]), U64 w, readPart Try.prog 83 cs (o + ((i : Int)).toNat * 1) = some (Value.int IntKind.u64 w), (0 : Int) ≤ (i : Int) ∧ (i : Int) < (n : Int), decide ((↑i : Int) < (↑n : Int)) = true])) (hK : ∀ zz, (fLv cs o n c Q).inv 1 zz → ltO ((fLv cs o n c Q).mu 1 zz) (some (n - i)) → Sat E (mkLp (lp Try.f38 0) J) ((fLv cs o n c Q).st 1 zz)) : Sat E (inLp (lp Try.f38 0) J) ((fLv cs o n c Q).st 1 (i, out)) :=
  by_to (T := auto0 t_rgt) (h := hints [(6, 1, {p := true}), (6, 2, {o := some (.int .u64 w)}), (7, 1, {v := some (.tuple ⟨[nd false 0 f a x y, .bool true]⟩)}), (10, 0, {v := some (.int .i64 ((i + 1 : Nat) : Int))})]) (ws := [.b true]) (i0 := (i + 1, out)) hE hm (auto0_ok t_rgt_ok) hL (by kernel_rfl) hob hK
theorem lvE (cs : List Value) (o n c : Nat) (Q : Nat → Nat × List Int → Prop) (i : Nat) (out : List Int) (J : Act → World → Prop) {E : Env} (hE : EnvOK E Try.prog Try.f38 1 1 (.slice (some ⟨100, 0, none⟩) out.length mk) [100] [.vec (eInt.row out) 3 1]) (hob : all ([Back (Value.slice (some (Addr.mk 13 0 none)) out.length 1267650600228229401496703205376) (Value.slice (some (Addr.mk 100 0 none)) out.length 1267650600228229401496703205376) [Blk.vec (eInt.row out) 3 1] [Blk.vec (eInt.row out) 3 1] [(100, 13)], decide ((↑i : Int) < (↑n : Int)) = false])) : Sat E (inLp (lp Try.f38 0) J) ((fLv cs o n c Q).st 1 (i, out)) :=
  by_ret (T := auto0 t_rgt) (h := hints []) (ws := [.b false]) (nx' := 101) hE hm (auto0_ok t_rgt_ok) (by omega) (by simp) (by intro x hx; simp at hx; subst hx; exact Blk.plain.namesLt (b := .vec _ _ _) (Elt.row_pl _) _) (by kernel_rfl) hob
end Go.Proofs.Ythbaccmhdffjdaa.Tr


set_option linter.unusedVariables false
set_option linter.unusedSimpArgs false
set_option maxRecDepth 100000
namespace Go.Proofs.Ythbaccmhdffjdaa.NodeE
open Go Go.RowKit Go.Proofs.Ythbaccmhdffjdaa.Ev Go.Proofs.Ythbaccmhdffjdaa.BitLib Go.Proofs.Ythbaccmhdffjdaa.BitsA Go.Proofs.Ythbaccmhdffjdaa.NodeB Go.Proofs.Ythbaccmhdffjdaa.Within
def bring_F : List Value → Option (Value × List Prop)
  | [.int .i64 n, .int .i64 lo, .int .i64 hi] => some (.int .i64 (withinS n lo hi), [I64 n, -2305843009213693952 ≤ lo, lo ≤ hi, hi ≤ 2305843009213693952])
  | _ => none
theorem bring_sum : SumOK Try.prog 19 (sumOf bring_F) := by
  refine sumOf_ok (en Try.func19 rfl) fun args v ob h hob => ?_
  unfold bring_F at h
  split at h
  · rename_i n lo hi
    obtain ⟨rfl, rfl⟩ := Prod.mk.inj (Option.some.inj h)
    clear h
    have h1 := hob (I64 n) (by simp)
    have h2 := hob (-2305843009213693952 ≤ lo) (by simp)
    have h3 := hob (lo ≤ hi) (by simp)
    have h4 := hob (hi ≤ 2305843009213693952) (by simp)
    exact ⟨rfl, rfl, fun w => (within_calls n lo hi h1.1 h1.2 h2 h3 h4 w).mono fun e w' ⟨he, hw⟩ => ⟨he, hw ▸ Below.refl _ _⟩⟩
  · exact absurd h (by simp)
noncomputable def t_bring : Sums := upd t_runpack 19 (some (sumOf bring_F))
theorem t_bring_ok : SumsOK Try.prog t_bring := sums_cons t_runpack_ok bring_sum
theorem w_rng {n : Int} (h : I64 n) : IntKind.i64.wrap n = n := wrap_id h
end Go.Proofs.Ythbaccmhdffjdaa.NodeE


set_option linter.unusedVariables false
set_option linter.unusedSimpArgs false
set_option maxRecDepth 100000
namespace Go.Proofs.Ythbaccmhdffjdaa.NodeE
open Go Go.RowKit Go.Proofs.Ythbaccmhdffjdaa.Ev Go.Proofs.Ythbaccmhdffjdaa.BitLib Go.Proofs.Ythbaccmhdffjdaa.BitsA Go.Proofs.Ythbaccmhdffjdaa.NodeB
theorem ok_parts {w : Int} (h : okB w = true) : w ≠ 0 ∧ pkB w = w := by
  simpa [okB] using h
theorem ok_back {w : Int} (h : okB w = true) : packS (okB w && lfB w) (sV w) (sF w) (sA w) (sX w) (sY w) = w ∧ rightB (okB w && lfB w) (sV w) (sF w) (sA w) (sX w) (sY w) = true := by
  obtain ⟨h0, hp⟩ := ok_parts h
  have key : packS (okB w && lfB w) (sV w) (sF w) (sA w) (sX w) (sY w) = w := by
    unfold pkB at hp
    simp only [sV, sF, sA, sX, sY, h, Bool.true_and]
    cases hl : lfB w <;> simp only [hl, cond_true, cond_false, Bool.not_true, Bool.not_false] at hp ⊢ <;> exact hp
  refine ⟨key, ?_⟩
  cases hr : rightB (okB w && lfB w) (sV w) (sF w) (sA w) (sX w) (sY w)
  · rw [pack_no hr] at key; omega
  · rfl
/-- What is packed comes back. -/
theorem pack_unp {l : Bool} {v f a x y : Int} (h : rightB l v f a x y = true) : U64 (packS l v f a x y) ∧ okB (packS l v f a x y) = true ∧ unp (packS l v f a x y) = .tuple ⟨[nd l v f a x y, .bool true]⟩ := by
  have hpos := pack_pos h
  cases l
  · have hP : packS false v f a x y = w4 a f x y := by simp only [packS, packI, h, cond_true, cond_false]
    obtain ⟨rfl, f0, f1, a0, ⟨x0, x1⟩, y0, y1⟩ := right_inner h
    have hl : lfB (w4 a f x y) = false := decide_eq_false (by show ¬ 9223372036854775808 ≤ a % 4294967296 + f * 4294967296 + x * 1099511627776 + y * 281474976710656; omega)
    have e1 : low32 (w4 a f x y) = a := by unfold low32; show (a % 4294967296 + f * 4294967296 + x * 1099511627776 + y * 281474976710656 + 2147483648) % 4294967296 - 2147483648 = a; omega
    have e2 : uF (w4 a f x y) = f := by rw [uF_eq]; show (a % 4294967296 + f * 4294967296 + x * 1099511627776 + y * 281474976710656) / 4294967296 % 16 = f; omega
    have e3 : uX (w4 a f x y) = x := by rw [uX_eq]; show (a % 4294967296 + f * 4294967296 + x * 1099511627776 + y * 281474976710656) / 1099511627776 % 256 = x; omega
    have e4 : uY (w4 a f x y) = y := by rw [uY_eq]; show (a % 4294967296 + f * 4294967296 + x * 1099511627776 + y * 281474976710656) / 281474976710656 % 256 = y; omega
    have ho : okB (w4 a f x y) = true := by
      simp only [okB, pkB, hl, cond_false, e1, e2, e3, e4, hP, beq_self_eq_true, Bool.and_true]
      rw [hP] at hpos
      simp only [Bool.not_eq_true', beq_eq_false_iff_ne]
      show a % 4294967296 + f * 4294967296 + x * 1099511627776 + y * 281474976710656 ≠ 0
      have : 0 < a % 4294967296 + f * 4294967296 + x * 1099511627776 + y * 281474976710656 := hpos
      omega
    rw [hP]
    refine ⟨(show 0 ≤ a % 4294967296 + f * 4294967296 + x * 1099511627776 + y * 281474976710656 ∧ a % 4294967296 + f * 4294967296 + x * 1099511627776 + y * 281474976710656 ≤ _ by omega), ho, ?_⟩
    rw [unp_inner ho hl, e1, e2, e3, e4]
  · have hP : packS true v f a x y = 9223372036854775808 + v % 4294967296 := by simp only [packS, packI, h, cond_true]
    obtain ⟨⟨rfl, rfl, rfl, rfl⟩, v0, v1⟩ := right_leaf h
    have hl : lfB (9223372036854775808 + v % 4294967296) = true := decide_eq_true (by omega)
    have e1 : low32 (9223372036854775808 + v % 4294967296) = v := by unfold low32; omega
    have ho : okB (9223372036854775808 + v % 4294967296) = true := by
      simp only [okB, pkB, hl, cond_true, e1, hP, beq_self_eq_true, Bool.and_true]
      simp only [Bool.not_eq_true', beq_eq_false_iff_ne]
      omega
    rw [hP]
    refine ⟨⟨by omega, by omega⟩, ho, ?_⟩
    rw [unp_leaf ho hl, e1]
theorem ok_zero : okB 0 = false := rfl
/-- Where a word that is a node has no bits. -/
theorem ok_gaps {w : Int} (hw : U64 w) (h : okB w = true) : w / 68719476736 % 16 = 0 ∧ w / 72057594037927936 % 128 = 0 ∧ (9223372036854775808 ≤ w → w < 9223372036854775808 + 4294967296) := by
  obtain ⟨h0, hp⟩ := ok_parts h
  have hw0 := hw.1
  have hw1 := hw.2
  unfold pkB at hp
  cases hl : lfB w <;> simp only [hl, cond_true, cond_false] at hp
  · have hl' := of_decide_eq_false hl
    cases hr : rightB false 0 (uF w) (low32 w) (uX w) (uY w)
    · rw [pack_no hr] at hp; omega
    · obtain ⟨_, f0, f1, a0, ⟨x0, x1⟩, y0, y1⟩ := right_inner hr
      simp only [packS, packI, hr, cond_true, cond_false] at hp
      generalize uF w = f at *
      generalize uX w = x at *
      generalize uY w = y at *
      generalize low32 w = a at *
      omega
  · have hl' := of_decide_eq_true hl
    cases hr : rightB true (low32 w) 0 0 0 0
    · rw [pack_no hr] at hp; omega
    · simp only [packS, packI, hr, cond_true] at hp
      generalize low32 w = a at *
      omega
theorem keyEq_two (l : Bool) (v f a x y : Int) (l' : Bool) (v' f' a' x' y' : Int) : keyEq (nd l v f a x y) (nd l' v' f' a' x' y') = true ↔ l = l' ∧ v = v' ∧ f = f' ∧ a = a' ∧ x = x' ∧ y = y' := by
  simp [keyEq, cellsEq, leafEq]
/-- Two right nodes have one word just if they are the same. -/
theorem pack_same {l : Bool} {v f a x y : Int} {l' : Bool} {v' f' a' x' y' : Int} (h : rightB l v f a x y = true) (h' : rightB l' v' f' a' x' y' = true) : (packS l v f a x y == packS l' v' f' a' x' y') = keyEq (nd l v f a x y) (nd l' v' f' a' x' y') := by
  rw [Bool.eq_iff_iff, keyEq_two, beq_iff_eq]
  constructor
  · intro e
    have h1 := (pack_unp h).2.2
    have h2 := (pack_unp h').2.2
    rw [e, h2] at h1
    simp at h1
    obtain ⟨rfl, rfl, rfl, rfl, rfl, rfl⟩ := h1
    exact ⟨rfl, rfl, rfl, rfl, rfl, rfl⟩
  · rintro ⟨rfl, rfl, rfl, rfl, rfl, rfl⟩; rfl
/-- A word that isn't a node's is another one's, or none's. -/
theorem other {l : Bool} {v f a x y m : Int} (hm : m ≠ packS l v f a x y) (ho : okB m = true) : keyEq (nd (okB m && lfB m) (sV m) (sF m) (sA m) (sX m) (sY m)) (nd l v f a x y) = false := by
  cases h : keyEq (nd (okB m && lfB m) (sV m) (sF m) (sA m) (sX m) (sY m)) (nd l v f a x y)
  · rfl
  · rw [keyEq_two] at h
    obtain ⟨e0, e1, e2, e3, e4, e5⟩ := h
    have := (ok_back ho).1
    rw [e0, e1, e2, e3, e4, e5] at this
    exact absurd this.symm hm
/-! ### Bits -/
theorem bit_val (j : Nat) (h : j < 64) : IntKind.u64.wrap (1 * 2 ^ min (Int.ofNat j).toNat 64) = ((2 ^ j : Nat) : Int) := by
  have e : (1 : Int) * 2 ^ min (Int.ofNat j).toNat 64 = ((2 ^ j : Nat) : Int) := by
    rw [show (Int.ofNat j).toNat = j from rfl, Nat.min_eq_left (by omega), Int.one_mul]; simp
  have : (2 : Nat) ^ j ≤ 2 ^ 63 := Nat.pow_le_pow_right (by decide) (by omega)
  have e2 : (2 : Nat) ^ 63 = 9223372036854775808 := rfl
  rw [e]
  rw [e2] at this
  clear e e2
  generalize (2 : Nat) ^ j = t at *
  exact wrapu_id (by omega) (by omega)
theorem pow_lt64 {j : Nat} (h : j < 64) : (2 : Nat) ^ j < 18446744073709551616 := by
  have : (2 : Nat) ^ j < 2 ^ 64 := Nat.pow_lt_pow_right (by decide) h
  exact this
theorem testBit_int (m j : Nat) (h : m.testBit j = true) : (m : Int) / ((2 ^ j : Nat) : Int) % 2 = 1 := by
  have := Nat.testBit_eq_decide_div_mod_eq (x := m) (i := j)
  rw [this] at h
  have := of_decide_eq_true h
  omega
theorem or_bit (P : Int) (hP : U64 P) (j : Nat) (h : j < 64) : ∃ m : Nat, Go.bits .or .u64 P ((2 ^ j : Nat) : Int) = (m : Int) ∧ m < 18446744073709551616 ∧ m.testBit j = true ∧ (9223372036854775808 ≤ P → 9223372036854775808 ≤ m) := by
  obtain ⟨P, rfl⟩ := Int.eq_ofNat_of_zero_le hP.1
  have hP1 : P < 18446744073709551616 := by have := hP.2; omega
  refine ⟨P ||| 2 ^ j, u64_or_nat _ _ hP1 (pow_lt64 h), ?_, ?_, fun hle => ?_⟩
  · exact Nat.or_lt_two_pow (n := 64) hP1 (pow_lt64 h)
  · rw [Nat.testBit_or, Nat.testBit_two_pow_self, Bool.or_true]
  · have : P ≤ P ||| 2 ^ j := Nat.left_le_or
    omega
end Go.Proofs.Ythbaccmhdffjdaa.NodeE

