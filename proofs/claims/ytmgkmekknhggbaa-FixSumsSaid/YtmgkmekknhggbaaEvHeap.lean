/-
  Summaries of functions that read or write memory that they are given, or hand back new memory. No condition.
-/
import Derived.Test.YtmgkmekknhggbaaEvLib
set_option linter.unusedVariables false
set_option linter.unusedSimpArgs false
namespace Go.Proofs.Ytmgkmekknhggbaa.Ev
open Go Go.RowKit
def memN (k : Nat) : List Nat → Bool
  | [] => false
  | j :: js => bif Nat.beq k j then true else memN k js
def restrict (ks : List Nat) (H : Heap) : Heap := fun k => bif memN k ks then H k else none
theorem memN_iff {k : Nat} : ∀ {ks : List Nat}, memN k ks = true ↔ k ∈ ks
  | [] => by simp [memN]
  | j :: js => by
    simp only [memN, List.mem_cons, ← memN_iff (ks := js)]
    cases h : Nat.beq k j
    · have : k ≠ j := fun e => by subst e; simp at h
      simp [this]
    · simp [Nat.eq_of_beq_eq_true h]
theorem restrict_in {ks : List Nat} {H : Heap} {k : Nat} (h : k ∈ ks) : restrict ks H k = H k := by simp [restrict, memN_iff.2 h]
theorem restrict_some {ks : List Nat} {H : Heap} {k : Nat} {b : Blk} (h : restrict ks H k = some b) : k ∈ ks ∧ H k = some b := by
  unfold restrict at h
  cases hm : memN k ks <;> rw [hm] at h
  · simp at h
  · exact ⟨memN_iff.1 hm, h⟩
/-- Names of values told anew. -/
def rnA (f : Nat → Nat) (a : Addr) : Addr := ⟨f a.block, a.off, a.spot⟩
def rn0 (f : Nat → Nat) : Value → Value
  | .pointer (some a) => .pointer (some (rnA f a))
  | .slice (some a) l c => .slice (some (rnA f a)) l c
  | .map (some r) => .map (some (f r))
  | v => v
def mapL (f : Value → Value) : List Value → List Value
  | [] => []
  | v :: l => f v :: mapL f l
def rn1 (f : Nat → Nat) : Value → Value
  | .agg ⟨cs⟩ => .agg ⟨mapL (rn0 f) cs⟩
  | .func fn ⟨x⟩ ⟨c⟩ => .func fn ⟨mapL (rn0 f) x⟩ ⟨mapL (rn0 f) c⟩
  | v => rn0 f v
def rn (f : Nat → Nat) : Value → Value
  | .tuple ⟨vs⟩ => .tuple ⟨mapL (rn1 f) vs⟩
  | v => rn1 f v
theorem mapL_eq (f : Value → Value) : ∀ l, mapL f l = l.map f
  | [] => rfl
  | v :: l => by simp [mapL, mapL_eq f l]
def Nm.comp (g : Nm) (f : Nat → Nat) : Nm := ⟨fun k => g.blk (f k), fun k => g.base (f k), fun k => g.cap (f k)⟩
theorem ren0_rn0 (g : Nm) (f : Nat → Nat) (v : Value) : ren0 g (rn0 f v) = ren0 (g.comp f) v := by
  cases v with
  | pointer a => cases a <;> rfl
  | slice a l c => cases a <;> rfl
  | map r => cases r <;> rfl
  | _ => rfl
theorem ren1_rn1 (g : Nm) (f : Nat → Nat) (v : Value) : ren1 g (rn1 f v) = ren1 (g.comp f) v := by
  cases v with
  | agg cs => cases cs; simp [rn1, ren1, mapL_eq, ren0_rn0, Function.comp_def]
  | func fn x c => cases x; cases c; simp [rn1, ren1, mapL_eq, ren0_rn0, Function.comp_def]
  | pointer a => cases a <;> rfl
  | slice a l c => cases a <;> rfl
  | map r => cases r <;> rfl
  | _ => rfl
theorem ren_rn (g : Nm) (f : Nat → Nat) (v : Value) : ren g (rn f v) = ren (g.comp f) v := by
  cases v with
  | tuple vs => cases vs; simp [rn, ren, mapL_eq, ren1_rn1, Function.comp_def]
  | agg cs => cases cs; exact ren1_rn1 g f (.agg ⟨_⟩)
  | func fn x c => cases x; cases c; exact ren1_rn1 g f (.func fn ⟨_⟩ ⟨_⟩)
  | pointer a => cases a <;> rfl
  | slice a l c => cases a <;> rfl
  | map r => cases r <;> rfl
  | _ => rfl
/-- The blocks that may be written. -/
def Wr (g : Nm) (H : Heap) : Nat → Prop := fun i => ∃ k b, H k = some b ∧ b.wr = true ∧ g.blk k = i
/-- What a call does: from this memory it comes to that one, and hands this back. -/
def CallSpec (P : Program) (f : FuncId) (args : List Value) (H0 : Heap) (nx : Nat) (v : Value) (H1 : Heap) : Prop :=
  ∀ (g : Nm) (B : Nat → Prop) (w : World), (∀ k, B k → k < nx) → HC (Wr g H0) w g B H0 w → (∀ v ∈ args, InB B v) →
    Calls P f (args.map (ren g)).toArray w fun e w' => ∃ g' B', Agree B g g' ∧ HC (Wr g H0) w g' B' H1 w' ∧ e = .returned (ren g' v)
/-- A block without names. -/
def Blk.plain : Blk → Prop
  | .cells cs _ | .vec cs _ _ | .ro cs => ∀ c ∈ cs, leafG c = true
  | .map _ _ _ _ _ => True
theorem Blk.plain.inB {b : Blk} (h : b.plain) {B B' : Nat → Prop} (hb : b.InB B') : b.InB B := by
  cases b with
  | map => exact hb
  | _ => exact fun v hv => In0.leafG (h v hv)
theorem Blk.plain.holds {b : Blk} (h : b.plain) {g g' : Nm} {k k' : Nat} (h1 : g.base k = g'.base k') (h2 : g.cap k = g'.cap k') {o : Option Obj} (hh : b.Holds g k o) : b.Holds g' k' o := by
  cases b with
  | cells cs ty =>
    have e1 : cs.map (ren0 g) = cs := map_ren0_id g (allB_iff.2 h)
    have e2 : cs.map (ren0 g') = cs := map_ren0_id g' (allB_iff.2 h)
    simp only [Blk.Holds] at hh ⊢
    rw [e2, ← h1]; rw [e1] at hh; exact hh
  | vec cs ty s =>
    have e1 : cs.map (ren0 g) = cs := map_ren0_id g (allB_iff.2 h)
    have e2 : cs.map (ren0 g') = cs := map_ren0_id g' (allB_iff.2 h)
    simp only [Blk.Holds] at hh ⊢
    rw [e2, ← h1, ← h2]; rw [e1] at hh; exact hh
  | ro cs =>
    obtain ⟨c, ty, fz, ho, hc⟩ := hh
    refine ⟨c, ty, fz, ho, fun i v hv => ?_⟩
    have := hc i v hv
    have hl := h v (List.mem_of_getElem? hv)
    rw [ren0_leafG g hl] at this
    rw [ren0_leafG g' hl, ← h1]; exact this
  | map => exact hh
/-- Names told anew, by pairs. -/
def look : List (Nat × Nat) → Nat → Nat
  | [], j => j
  | (x, y) :: pr, j => bif Nat.beq j x then y else look pr j
def usOf (pr : List (Nat × Nat)) (H1 : Heap) : List (Nat × Option Blk) := pr.map fun p => (p.2, H1 p.1)
theorem look_spec : ∀ {pr : List (Nat × Nat)} {j k : Nat}, (pr.map (·.1)).Nodup → (j, k) ∈ pr → look pr j = k
  | [], j, k, _, h => by simp at h
  | (x, y) :: pr, j, k, hn, h => by
    obtain ⟨h1, h2⟩ := List.nodup_cons.1 (by rw [List.map_cons] at hn; exact hn)
    simp only [look]
    rcases List.mem_cons.1 h with h | hm
    · simp at h; obtain ⟨rfl, rfl⟩ := h; simp
    · have hne : j ≠ x := fun e => h1 (by subst e; exact List.mem_map.2 ⟨(j, k), hm, rfl⟩)
      have : Nat.beq j x = false := by cases hb : Nat.beq j x with | false => rfl | true => exact absurd (Nat.eq_of_beq_eq_true hb) hne
      simp only [this, cond_false]
      exact look_spec h2 hm
theorem apU_usOf {H1 : Heap} : ∀ {pr : List (Nat × Nat)} {H : Heap} {k : Nat}, (pr.map (·.2)).Nodup → (∀ j, (j, k) ∈ pr → apU (usOf pr H1) H k = H1 j) ∧ ((∀ j, (j, k) ∉ pr) → apU (usOf pr H1) H k = H k)
  | [], H, k, _ => ⟨fun j h => by simp at h, fun _ => rfl⟩
  | (x, y) :: pr, H, k, hn => by
    obtain ⟨h1, h2⟩ := List.nodup_cons.1 (by rw [List.map_cons] at hn; exact hn)
    obtain ⟨h3, h4⟩ := apU_usOf (H1 := H1) (pr := pr) (H := upd H y (H1 x)) (k := k) h2
    refine ⟨fun j hj => ?_, fun hj => ?_⟩
    · show apU (usOf pr H1) (upd H y (H1 x)) k = _
      rcases List.mem_cons.1 hj with hj | hj
      · simp at hj; obtain ⟨rfl, rfl⟩ := hj
        rw [h4 fun i hi => h1 (List.mem_map.2 ⟨(i, k), hi, rfl⟩), upd_self]
      · exact h3 j hj
    · show apU (usOf pr H1) (upd H y (H1 x)) k = _
      rw [h4 fun i hi => hj i (by simp [hi])]
      exact upd_ne _ _ fun e => hj x (by simp [e])
theorem pair_snd {pr : List (Nat × Nat)} (hn : (pr.map (·.2)).Nodup) {i j k : Nat} (h1 : (i, k) ∈ pr) (h2 : (j, k) ∈ pr) : i = j := by
  induction pr with
  | nil => simp at h1
  | cons p pr ih =>
    obtain ⟨x, y⟩ := p
    obtain ⟨h3, h4⟩ := List.nodup_cons.1 (by rw [List.map_cons] at hn; exact hn)
    rcases List.mem_cons.1 h1 with g1 | g1
    · rcases List.mem_cons.1 h2 with g2 | g2
      · simp at g1 g2; exact g1.1.trans g2.1.symm
      · simp at g1; obtain ⟨rfl, rfl⟩ := g1
        exact (h3 (List.mem_map.2 ⟨(j, k), g2, rfl⟩)).elim
    · rcases List.mem_cons.1 h2 with g2 | g2
      · simp at g2; obtain ⟨rfl, rfl⟩ := g2
        exact (h3 (List.mem_map.2 ⟨(i, k), g1, rfl⟩)).elim
      · exact ih h4 g1 g2
theorem pair_fst {pr : List (Nat × Nat)} (hn : (pr.map (·.1)).Nodup) {i j k : Nat} (h1 : (k, i) ∈ pr) (h2 : (k, j) ∈ pr) : i = j := by
  rw [← look_spec hn h1, ← look_spec hn h2]
theorem find_caller (pr : List (Nat × Nat)) (k : Nat) : (∃ j, (j, k) ∈ pr) ∨ ∀ j, (j, k) ∉ pr := by
  by_cases h : ∃ j, (j, k) ∈ pr
  · exact Or.inl h
  · exact Or.inr fun j hj => h ⟨j, hj⟩
section
open Classical
variable {P : Program} {f : FuncId} {args : List Value} {H H0 H1 : Heap} {nm nx : Nat} {v : Value} {old new : List (Nat × Nat)}
/-- From what a call does to what a caller sees. old: the callee's names of blocks that the caller has, and the caller's; new: of blocks that the caller gets. -/
theorem spec_calls (hs : CallSpec P f args H0 nx v H1) (hn1 : ((old ++ new).map (·.1)).Nodup) (hn2 : ((old ++ new).map (·.2)).Nodup)
    (hold : ∀ j k, (j, k) ∈ old → j < nx ∧ ∃ b, H k = some b ∧ H0 j = some b ∧ b.plain) (h0 : ∀ j b, H0 j = some b → ∃ k, (j, k) ∈ old)
    (hnew : ∀ m k, (m, k) ∈ new → Fresh nm k ∧ ∃ b, H1 m = some b ∧ b.plain ∧ b.wr = true)
    (hkeep : ∀ j k, (j, k) ∈ old → ∀ b, H1 j = some b → b.plain ∧ (b.wr = true → ∃ b0, H0 j = some b0 ∧ b0.wr = true))
    (hv : ∀ g1 g2 : Nm, (∀ j k, (j, k) ∈ old ++ new → g1.blk j = g2.blk j ∧ g1.base j = g2.base j ∧ g1.cap j = g2.cap j) → ren g1 v = ren g2 v)
    (hargs : ∀ u ∈ args, ∀ g1 g2 : Nm, (∀ j k, (j, k) ∈ old → g1.blk j = g2.blk j ∧ g1.base j = g2.base j ∧ g1.cap j = g2.cap j) → ren g1 u = ren g2 u)
    {M : Nat → Prop} {w0 w : World} {g : Nm} {B : Nat → Prop} (hH : HC M w0 g B H w) (hn : ∀ k, B k → ¬ Fresh nm k) :
    Calls P f ((args.map (rn (look old))).map (ren g)).toArray w fun e w' => ∃ g', Agree B g g' ∧ HC M w0 g' (Plus B nm) (apU (usOf (old ++ new) H1) H) w' ∧ InB (Plus B nm) (rn (look (old ++ new)) v) ∧ e = .returned (ren g' (rn (look (old ++ new)) v)) := by
  have hn1o : (old.map (·.1)).Nodup := by rw [List.map_append] at hn1; exact (List.nodup_append.1 hn1).1
  have hn2o : (old.map (·.2)).Nodup := by rw [List.map_append] at hn2; exact (List.nodup_append.1 hn2).1
  have hkB : ∀ j k, (j, k) ∈ old → B k := fun j k hjk => let ⟨_, b, hb, _⟩ := hold j k hjk; hH.dom k b hb
  let g0 : Nm := g.comp (look old)
  have hg0 : ∀ j k, (j, k) ∈ old → g0.blk j = g.blk k ∧ g0.base j = g.base k ∧ g0.cap j = g.cap k := fun j k hjk => by
    simp [g0, Nm.comp, look_spec hn1o hjk]
  have hc0 : HC (Wr g0 H0) w g0 (fun j => ∃ k, (j, k) ∈ old) H0 w := by
    refine ⟨BelowBut.refl _ _, fun j b hb => h0 j b hb, fun j b hb => ?_, fun j b hb => ?_, fun j b hb hw => Or.inr ⟨j, b, hb, hw, rfl⟩, fun i j b c hb hc hw he => ?_⟩
    · obtain ⟨k, hk⟩ := h0 j b hb
      obtain ⟨_, b', hb1, hb2, hpl⟩ := hold j k hk
      rw [hb] at hb2; simp at hb2; subst hb2
      exact hpl.inB (hH.scope k b hb1)
    · obtain ⟨k, hk⟩ := h0 j b hb
      obtain ⟨_, b', hb1, hb2, hpl⟩ := hold j k hk
      rw [hb] at hb2; simp at hb2; subst hb2
      obtain ⟨e1, e2, e3⟩ := hg0 j k hk
      rw [e1]
      exact hpl.holds e2.symm e3.symm (hH.holds k b hb1)
    · obtain ⟨k, hk⟩ := h0 i b hb
      obtain ⟨l, hl⟩ := h0 j c hc
      obtain ⟨_, b', hb1, hb2, _⟩ := hold i k hk
      obtain ⟨_, c', hc1, hc2, _⟩ := hold j l hl
      rw [hb] at hb2; simp at hb2; subst hb2
      rw [hc] at hc2; simp at hc2; subst hc2
      rw [(hg0 i k hk).1, (hg0 j l hl).1] at he
      have := hH.inj k l b c hb1 hc1 hw he
      subst this
      exact pair_snd hn2o hk hl
  have hcall := hs g0 (fun j => ∃ k, (j, k) ∈ old) w (fun j ⟨k, hk⟩ => (hold j k hk).1) hc0 (fun u hu g1 g2 ag => hargs u hu g1 g2 fun j k hjk => ag j ⟨k, hjk⟩)
  have hargs' : (args.map (rn (look old))).map (ren g) = args.map (ren g0) := by
    rw [List.map_map]
    exact List.map_congr_left fun u _ => ren_rn g (look old) u
  rw [hargs']
  refine hcall.mono ?_
  rintro e w' ⟨g1, B1, hag, hc, rfl⟩
  have hg1 : ∀ j k, (j, k) ∈ old → g1.blk j = g.blk k ∧ g1.base j = g.base k ∧ g1.cap j = g.cap k := fun j k hjk => by
    obtain ⟨h1, h2, h3⟩ := hag j ⟨k, hjk⟩
    obtain ⟨h4, h5, h6⟩ := hg0 j k hjk
    exact ⟨h1.symm.trans h4, h2.symm.trans h5, h3.symm.trans h6⟩
  have hnewB : ∀ m k, (m, k) ∈ new → ¬ B k := fun m k hmk hb => hn k hb (hnew m k hmk).1
  let pick : Nat → Option Nat := fun k => if h : ∃ m, (m, k) ∈ new then some (Classical.choose h) else none
  have hpick : ∀ m k, (m, k) ∈ new → pick k = some m := fun m k hmk => by
    have h : ∃ m, (m, k) ∈ new := ⟨m, hmk⟩
    simp only [pick, dif_pos h]
    have := Classical.choose_spec h
    rw [pair_snd hn2 (List.mem_append.2 (Or.inr this)) (List.mem_append.2 (Or.inr hmk))]
  have hpickn : ∀ k, (∀ m, (m, k) ∉ new) → pick k = none := fun k hk => by
    simp only [pick]
    rw [dif_neg fun ⟨m, hm⟩ => hk m hm]
  let g2 : Nm := ⟨fun k => match pick k with | some m => g1.blk m | none => g.blk k, fun k => match pick k with | some m => g1.base m | none => g.base k, fun k => match pick k with | some m => g1.cap m | none => g.cap k⟩
  have hg2B : ∀ k, B k → g2.blk k = g.blk k ∧ g2.base k = g.base k ∧ g2.cap k = g.cap k := fun k hb => by
    have := hpickn k fun m hm => hnewB m k hm hb
    simp [g2, this]
  have hg2n : ∀ m k, (m, k) ∈ new → g2.blk k = g1.blk m ∧ g2.base k = g1.base m ∧ g2.cap k = g1.cap m := fun m k hmk => by
    simp [g2, hpick m k hmk]
  have hagree : Agree B g g2 := fun k hb => by obtain ⟨h1, h2, h3⟩ := hg2B k hb; exact ⟨h1.symm, h2.symm, h3.symm⟩
  have hg2 : ∀ j k, (j, k) ∈ old ++ new → g2.blk k = g1.blk j ∧ g2.base k = g1.base j ∧ g2.cap k = g1.cap j := fun j k hjk => by
    rcases List.mem_append.1 hjk with h | h
    · obtain ⟨h1, h2, h3⟩ := hg2B k (hkB j k h)
      obtain ⟨h4, h5, h6⟩ := hg1 j k h
      exact ⟨h1.trans h4.symm, h2.trans h5.symm, h3.trans h6.symm⟩
    · exact hg2n j k h
  have hget : ∀ k b, apU (usOf (old ++ new) H1) H k = some b → (∃ j, (j, k) ∈ old ++ new ∧ H1 j = some b) ∨ ((∀ j, (j, k) ∉ old ++ new) ∧ H k = some b) := by
    intro k b hb
    obtain ⟨h1, h2⟩ := apU_usOf (H1 := H1) (H := H) (k := k) hn2
    rcases find_caller (old ++ new) k with ⟨j, hj⟩ | hno
    · exact Or.inl ⟨j, hj, by rw [← h1 j hj]; exact hb⟩
    · exact Or.inr ⟨hno, by rw [← h2 hno]; exact hb⟩
  have hother : ∀ k b, (∀ j, (j, k) ∉ old ++ new) → H k = some b → w'.heap[g.blk k]? = w.heap[g.blk k]? := by
    intro k b hno hb
    refine hc.below.block _ (hH.lt hb) ?_
    rintro ⟨j, c, hj, hw, he⟩
    obtain ⟨l, hl⟩ := h0 j c hj
    obtain ⟨_, c', hc1, hc2, _⟩ := hold j l hl
    rw [hj] at hc2; simp at hc2; subst hc2
    rw [(hg0 j l hl).1] at he
    have := hH.inj l k c b hc1 hb hw he
    subst this
    exact hno j (List.mem_append.2 (Or.inl hl))
  have hplain : ∀ j k b, (j, k) ∈ old ++ new → H1 j = some b → b.plain := fun j k b hjk hb => by
    rcases List.mem_append.1 hjk with h | h
    · exact (hkeep j k h b hb).1
    · obtain ⟨_, b', hb', hpl, _⟩ := hnew j k h
      rw [hb] at hb'; simp at hb'; subst hb'
      exact hpl
  have cross : ∀ (j k : Nat) (b : Blk) (l : Nat) (c : Blk), (j, k) ∈ old ++ new → H1 j = some b → (∀ i, (i, l) ∉ old ++ new) → H l = some c → g1.blk j = g.blk l → (b.wr = true ∨ c.wr = true) → False := by
    intro j k b l c hjk hb hno hc' he hwr
    rcases List.mem_append.1 hjk with h | h
    · obtain ⟨_, b0, hb0, hb1, _⟩ := hold j k h
      have e1 := (hg1 j k h).1
      rcases hwr with hw | hw
      · obtain ⟨b2, hb2, hw2⟩ := (hkeep j k h b hb).2 hw
        rw [hb1] at hb2; simp at hb2; subst hb2
        have := hH.inj k l b0 c hb0 hc' hw2 (by rw [← e1]; exact he)
        subst this
        exact hno j (List.mem_append.2 (Or.inl h))
      · have := hH.inj l k c b0 hc' hb0 hw (by rw [← e1]; exact he.symm)
        subst this
        exact hno j (List.mem_append.2 (Or.inl h))
    · obtain ⟨_, b', hb', _, hwb⟩ := hnew j k h
      rw [hb] at hb'; simp at hb'; subst hb'
      rcases hc.own j b hb hwb with ho | ⟨i, d, hi, hwi, hei⟩
      · have := hH.lt hc'; omega
      · obtain ⟨l', hl'⟩ := h0 i d hi
        obtain ⟨_, d', hd1, hd2, _⟩ := hold i l' hl'
        rw [hi] at hd2; simp at hd2; subst hd2
        rw [(hg0 i l' hl').1] at hei
        have := hH.inj l' l d c hd1 hc' hwi (by rw [hei]; exact he)
        subst this
        exact hno i (List.mem_append.2 (Or.inl hl'))
  refine ⟨g2, hagree, ⟨⟨hc.below.os.trans hH.below.os, hc.below.tape.trans hH.below.tape, hc.below.output.trans hH.below.output, Nat.le_trans hH.below.size hc.below.size, fun i hi hM => ?_⟩, fun k b hb => ?_, fun k b hb => ?_, fun k b hb => ?_, fun k b hb hw => ?_, fun k l b c hb hcl hw he => ?_⟩, ?_, ?_⟩
  · rw [hc.below.block i (Nat.lt_of_lt_of_le hi hH.below.size) ?_]
    · exact hH.below.block i hi hM
    · rintro ⟨j, c, hj, hw, he⟩
      obtain ⟨l, hl⟩ := h0 j c hj
      obtain ⟨_, c', hc1, hc2, _⟩ := hold j l hl
      rw [hj] at hc2; simp at hc2; subst hc2
      rw [(hg0 j l hl).1] at he
      rcases hH.own l c hc1 hw with ho | ho
      · omega
      · exact hM (he ▸ ho)
  · rcases hget k b hb with ⟨j, hjk, _⟩ | ⟨_, hHk⟩
    · rcases List.mem_append.1 hjk with h | h
      · exact Or.inl (hkB j k h)
      · exact Or.inr (hnew j k h).1
    · exact Or.inl (hH.dom k b hHk)
  · rcases hget k b hb with ⟨j, hjk, hb1⟩ | ⟨_, hHk⟩
    · exact (hplain j k b hjk hb1).inB (hc.scope j b hb1)
    · exact (hH.scope k b hHk).mono plus_mono
  · rcases hget k b hb with ⟨j, hjk, hb1⟩ | ⟨hno, hHk⟩
    · obtain ⟨e1, e2, e3⟩ := hg2 j k hjk
      rw [e1]
      exact (hplain j k b hjk hb1).holds e2.symm e3.symm (hc.holds j b hb1)
    · rw [(hg2B k (hH.dom k b hHk)).1, hother k b hno hHk]
      exact (hH.holds k b hHk).congr hagree (hH.dom k b hHk) (hH.scope k b hHk)
  · rcases hget k b hb with ⟨j, hjk, hb1⟩ | ⟨hno, hHk⟩
    · rw [(hg2 j k hjk).1]
      rcases hc.own j b hb1 hw with ho | ⟨i, d, hi, hwi, hei⟩
      · exact Or.inl (Nat.le_trans hH.below.size ho)
      · obtain ⟨l', hl'⟩ := h0 i d hi
        obtain ⟨_, d', hd1, hd2, _⟩ := hold i l' hl'
        rw [hi] at hd2; simp at hd2; subst hd2
        rw [(hg0 i l' hl').1] at hei
        rw [← hei]
        exact hH.own l' d hd1 hwi
    · rw [(hg2B k (hH.dom k b hHk)).1]
      exact hH.own k b hHk hw
  · rcases hget k b hb with ⟨j, hjk, hb1⟩ | ⟨hno, hHk⟩
    · rcases hget l c hcl with ⟨j', hjl, hc1⟩ | ⟨hno', hHl⟩
      · rw [(hg2 j k hjk).1, (hg2 j' l hjl).1] at he
        have := hc.inj j j' b c hb1 hc1 hw he
        subst this
        exact pair_fst hn1 hjk hjl
      · rw [(hg2 j k hjk).1, (hg2B l (hH.dom l c hHl)).1] at he
        exact (cross j k b l c hjk hb1 hno' hHl he (Or.inl hw)).elim
    · rcases hget l c hcl with ⟨j', hjl, hc1⟩ | ⟨hno', hHl⟩
      · rw [(hg2 j' l hjl).1, (hg2B k (hH.dom k b hHk)).1] at he
        exact (cross j' l c k b hjl hc1 hno hHk he.symm (Or.inr hw)).elim
      · rw [(hg2B k (hH.dom k b hHk)).1, (hg2B l (hH.dom l c hHl)).1] at he
        exact hH.inj k l b c hHk hHl hw he
  · intro g3 g4 ag
    rw [ren_rn, ren_rn]
    refine hv _ _ fun j k hjk => ?_
    simp only [Nm.comp, look_spec hn1 hjk]
    rcases List.mem_append.1 hjk with h | h
    · exact ag k (Or.inl (hkB j k h))
    · exact ag k (Or.inr (hnew j k h).1)
  · rw [ren_rn]
    refine congrArg Ending.returned (hv _ _ fun j k hjk => ?_)
    simp only [Nm.comp, look_spec hn1 hjk]
    obtain ⟨h1, h2, h3⟩ := hg2 j k hjk
    exact ⟨h1.symm, h2.symm, h3.symm⟩
end
noncomputable def runH (P : Program) (sums : Sums) (hint : Nat → Nat → Nat → Hint) (ws : List W) (fn : Func) (c : Code) (args : List Value) (H0 : Heap) (nx : Nat) : Out :=
  run ⟨P, sums, args.length + (fn.ntmps - args.length), hint⟩ 1000000 ws [.code c] ⟨startT args (args.length + (fn.ntmps - args.length)), H0, nx, 0, []⟩
/-- What a run owes, what it hands back, what it leaves in some blocks. -/
def oOb : Out → List Prop
  | .ret S => S.ob
  | _ => [False]
noncomputable def oV (P : Program) (fn : Func) : Out → Option Value
  | .ret S => resOf P fn S
  | _ => none
def oH : Out → Heap
  | .ret S => S.H
  | _ => fun _ => none
/-- The run of a function's body tells what a call does. -/
theorem spec_run {P : Program} (hm : P.follows .mixedOrders = true) {sums : Sums} (hS : SumsOK P sums) {f : FuncId} {fn : Func} {c : Code} (hf : P.funcs[f]? = some fn) (hb : fn.body = some c) {args : List Value} {H0 : Heap} {nx : Nat} {hint : Nat → Nat → Nat → Hint} {ws : List W} {v : Value}
    (hv : oV P fn (runH P sums hint ws fn c args H0 nx) = some v) (hob : all (oOb (runH P sums hint ws fn c args H0 nx))) : CallSpec P f args H0 nx v (oH (runH P sums hint ws fn c args H0 nx)) := by
  intro g B w hB hH hargs
  refine calls_of_sat hf hb hH hB hargs ?_
  cases hrun : runH P sums hint ws fn c args H0 nx with
  | ret S =>
    rw [hrun] at hv hob
    have := run_sound (C := ⟨P, sums, args.length + (fn.ntmps - args.length), hint⟩) (E := ⟨P, (g, B), Wr g H0, w, args.length + (fn.ntmps - args.length), bodyPost P fn fun e w' => ∃ g' B', Agree B g g' ∧ HC (Wr g H0) w g' B' S.H w' ∧ e = .returned (ren g' v)⟩) rfl rfl hm hS 1000000 ws [.code c] _ (by
      unfold runH at hrun
      rw [hrun]
      exact ⟨all_iff.1 hob, satRet_of fun g' B' a w' hB' hrc => ⟨ren g' v, (resOf_ok hrc hv).1, g', B', hrc.anch, hrc.hc, rfl⟩⟩)
    exact this.2
  | fork t x y ob => rw [hrun] at hv; simp [oV] at hv
  | fail => rw [hrun] at hv; simp [oV] at hv
  | atK k S => rw [hrun] at hv; simp [oV] at hv
end Go.Proofs.Ytmgkmekknhggbaa.Ev
