/-
  What the evaluator computes for one operation is what the machine does. No condition.
-/
import Derived.Test.YtmgkmekknhggbaaEvDef
set_option linter.unusedVariables false
set_option linter.unusedSimpArgs false
namespace Go.Proofs.Ytmgkmekknhggbaa.Ev
open Go Go.RowKit

/-! ### Renaming -/
def Agree (B : Nat → Prop) (g g' : Nm) : Prop := ∀ k, B k → g.blk k = g'.blk k ∧ g.base k = g'.base k ∧ g.cap k = g'.cap k
def In0 (B : Nat → Prop) (v : Value) : Prop := ∀ g g', Agree B g g' → ren0 g v = ren0 g' v
def InB (B : Nat → Prop) (v : Value) : Prop := ∀ g g', Agree B g g' → ren g v = ren g' v
theorem Agree.refl (B : Nat → Prop) (g : Nm) : Agree B g g := fun _ _ => ⟨rfl, rfl, rfl⟩
theorem Agree.mono {B B' : Nat → Prop} {g g' : Nm} (h : Agree B' g g') (hb : ∀ k, B k → B' k) : Agree B g g' := fun k hk => h k (hb k hk)
theorem In0.mono {B B' : Nat → Prop} {v : Value} (h : In0 B v) (hb : ∀ k, B k → B' k) : In0 B' v := fun g g' a => h g g' (a.mono hb)
theorem InB.mono {B B' : Nat → Prop} {v : Value} (h : InB B v) (hb : ∀ k, B k → B' k) : InB B' v := fun g g' a => h g g' (a.mono hb)
theorem allB_iff {α : Type} {f : α → Bool} : ∀ {l : List α}, allB f l = true ↔ ∀ x ∈ l, f x = true
  | [] => by simp [allB]
  | x :: xs => by
    simp only [allB, cond_eq_ite, List.mem_cons, forall_eq_or_imp, ← allB_iff (l := xs)]
    by_cases h : f x = true <;> simp [h]
theorem ren0_leafG (g : Nm) {v : Value} (h : leafG v = true) : ren0 g v = v := by
  unfold leafG at h
  split at h <;> first | rfl | simp at h
theorem map_ren0_id (g : Nm) {cs : List Value} (h : allB leafG cs = true) : cs.map (ren0 g) = cs := by
  rw [allB_iff] at h
  conv => rhs; rw [← List.map_id cs]
  exact List.map_congr_left fun x hx => ren0_leafG g (h x hx)
theorem ren1_gnd1 (g : Nm) {v : Value} (h : gnd1 v = true) : ren1 g v = v := by
  unfold gnd1 at h
  split at h
  · rename_i cs; simp [ren1, map_ren0_id g h]
  · rename_i f x c
    cases hx : allB leafG x <;> simp [hx] at h
    simp [ren1, map_ren0_id g hx, map_ren0_id g h]
  · rename_i h1 h2
    have : ren1 g v = ren0 g v := by cases v <;> first | rfl | (simp [leafG] at h)
    rw [this, ren0_leafG g h]
theorem ren_gnd (g : Nm) {v : Value} (h : gnd v = true) : ren g v = v := by
  unfold gnd at h
  split at h
  · rename_i vs
    rw [allB_iff] at h
    simp only [ren, List.map_toArray, Value.tuple.injEq, Array.mk.injEq]
    conv => rhs; rw [← List.map_id vs]
    exact List.map_congr_left fun x hx => ren1_gnd1 g (h x hx)
  · rename_i h1
    have : ren g v = ren1 g v := by cases v <;> first | rfl | (rename_i vs; exact absurd rfl (h1 vs.toList))
    rw [this, ren1_gnd1 g h]
theorem InB.gnd {B : Nat → Prop} {v : Value} (h : gnd v = true) : InB B v := fun g g' _ => by rw [ren_gnd g h, ren_gnd g' h]
theorem In0.leafG {B : Nat → Prop} {v : Value} (h : leafG v = true) : In0 B v := fun g g' _ => by rw [ren0_leafG g h, ren0_leafG g' h]
theorem ren_leaf (g : Nm) {v : Value} (h : leaf v = true) : ren g v = ren0 g v := by
  cases v <;> first | rfl | simp [leaf] at h
theorem InB.leaf {B : Nat → Prop} {v : Value} (h : leaf v = true) : InB B v ↔ In0 B v := by
  unfold InB In0; simp only [ren_leaf _ h]
theorem leaf_of_leafG {v : Value} (h : leafG v = true) : leaf v = true := by
  cases v <;> first | rfl | simp [leafG] at h
theorem ren_agg (g : Nm) (cs : Array Value) : ren g (.agg cs) = .agg (cs.map (ren0 g)) := rfl
theorem InB.agg {B : Nat → Prop} {cs : List Value} : InB B (.agg ⟨cs⟩) ↔ ∀ v ∈ cs, In0 B v := by
  constructor
  · intro h v hv g g' a
    have := h g g' a
    simp only [ren_agg, List.map_toArray, Value.agg.injEq, Array.mk.injEq] at this
    exact List.map_inj_left.1 this v hv
  · intro h g g' a
    simp only [ren_agg, List.map_toArray, Value.agg.injEq, Array.mk.injEq]
    exact List.map_congr_left fun v hv => h v hv g g' a
theorem ren_ren1 (g : Nm) {v : Value} (h : notTuple v = true) : ren g v = ren1 g v := by
  cases v <;> first | rfl | simp [notTuple] at h
theorem InB.tuple {B : Nat → Prop} {vs : List Value} (h : ∀ v ∈ vs, notTuple v = true) : InB B (.tuple ⟨vs⟩) ↔ ∀ v ∈ vs, InB B v := by
  constructor
  · intro hh v hv g g' a
    have := hh g g' a
    simp only [ren, List.map_toArray, Value.tuple.injEq, Array.mk.injEq] at this
    rw [ren_ren1 g (h v hv), ren_ren1 g' (h v hv)]
    exact List.map_inj_left.1 this v hv
  · intro hh g g' a
    simp only [ren, List.map_toArray, Value.tuple.injEq, Array.mk.injEq]
    exact List.map_congr_left fun v hv => by rw [← ren_ren1 g (h v hv), ← ren_ren1 g' (h v hv)]; exact hh v hv g g' a
theorem leaf_ren0 (g : Nm) (v : Value) : leaf (ren0 g v) = leaf v := by
  cases v <;> first | rfl | (rename_i a; cases a <;> rfl) | (rename_i a _ _; cases a <;> rfl)
theorem one_of_leaf {v : Value} (h : leaf v = true) : v.oneCell' = true := by
  cases v <;> first | rfl | simp [leaf] at h
theorem cellsOf_spec (g : Nm) {v : Value} {cs : List Value} (h : cellsOf v = some cs) : (ren g v).cells = (cs.map (ren0 g)).toArray := by
  unfold cellsOf at h
  split at h
  · simp at h; subst h; simp [ren_agg, Value.cells]
  · simp at h
  · rename_i h1 h2
    cases hl : leaf v <;> simp [hl] at h
    subst h
    rw [ren_leaf g hl, List.map_cons, List.map_nil]
    have h3 : leaf (ren0 g v) = true := by rw [leaf_ren0, hl]
    generalize ren0 g v = u at *
    cases u <;> first | rfl | simp [leaf] at h3
theorem cellsOf_in {B : Nat → Prop} {v : Value} {cs : List Value} (h : cellsOf v = some cs) (hv : InB B v) : ∀ c ∈ cs, In0 B c := by
  unfold cellsOf at h
  split at h
  · simp at h; subst h; exact InB.agg.1 hv
  · simp at h
  · cases hl : leaf v <;> simp [hl] at h
    subst h
    intro c hc
    simp at hc; subst hc
    exact (InB.leaf hl).1 hv
theorem forceV_eq {α : Type} (v : Value) (K : Value → α) : forceV v K = K v := by
  cases v <;> rfl
theorem forceL_eq {α : Type} : ∀ (l : List Value) (K : List Value → α), forceL l K = K l
  | [], K => rfl
  | v :: l, K => by simp only [forceL, forceV_eq, forceL_eq l]

/-! ### Lists of cells -/
theorem sub_spec : ∀ {cs : List Value} {o n : Nat} {vs : List Value}, sub cs o n = some vs → vs.length = n ∧ o + n ≤ cs.length ∧ ∀ j v, vs[j]? = some v → cs[o + j]? = some v
  | cs, 0, 0, vs, h => by
    have : vs = [] := by cases cs <;> simpa [sub] using h.symm
    subst this; simp
  | [], 0, n + 1, vs, h => by simp [sub] at h
  | [], o + 1, n, vs, h => by simp [sub] at h
  | c :: cs, 0, n + 1, vs, h => by
    simp only [sub] at h
    split at h
    · rename_i us hu
      simp at h; subst h
      obtain ⟨h1, h2, h3⟩ := sub_spec hu
      refine ⟨by simp [h1], by simp; omega, fun j v hv => ?_⟩
      cases j with
      | zero => simpa using hv
      | succ j => simp at hv ⊢; simpa using h3 j v hv
    · simp at h
  | c :: cs, o + 1, n, vs, h => by
    simp only [sub] at h
    obtain ⟨h1, h2, h3⟩ := sub_spec h
    refine ⟨h1, by simp; omega, fun j v hv => ?_⟩
    have := h3 j v hv
    rw [show o + 1 + j = (o + j) + 1 by omega]
    simpa using this
theorem sub_of : ∀ {cs : List Value} {o n : Nat}, o + n ≤ cs.length → sub cs o n = some ((cs.drop o).take n)
  | cs, 0, 0, h => by cases cs <;> simp [sub]
  | [], 0, n + 1, h => by simp at h
  | [], o + 1, n, h => by simp at h
  | c :: cs, 0, n + 1, h => by
    simp only [sub, sub_of (cs := cs) (o := 0) (n := n) (by simp at h ⊢; omega)]
    simp
  | c :: cs, o + 1, n, h => by
    simp only [sub, sub_of (cs := cs) (o := o) (n := n) (by simp at h; omega)]
    simp
theorem sub_mem {cs : List Value} {o n : Nat} {vs : List Value} (h : sub cs o n = some vs) {v : Value} (hv : v ∈ vs) : v ∈ cs := by
  obtain ⟨j, hj⟩ := List.getElem?_of_mem hv
  exact List.mem_of_getElem? ((sub_spec h).2.2 j v hj)
theorem lset_spec : ∀ {cs : List Value} {o : Nat} {vs l : List Value}, lset cs o vs = some l → l = cs.take o ++ vs ++ cs.drop (o + vs.length) ∧ o + vs.length ≤ cs.length
  | cs, 0, [], l, h => by
    have : l = cs := by cases cs <;> simpa [lset] using h.symm
    subst this; simp
  | [], 0, v :: vs, l, h => by simp [lset] at h
  | [], o + 1, vs, l, h => by simp [lset] at h
  | c :: cs, 0, v :: vs, l, h => by
    simp only [lset] at h
    split at h
    · rename_i us hu
      simp at h; subst h
      obtain ⟨h1, h2⟩ := lset_spec hu
      simp at h1 h2
      exact ⟨by simp [h1], by simp; omega⟩
    · simp at h
  | c :: cs, o + 1, vs, l, h => by
    simp only [lset] at h
    split at h
    · rename_i us hu
      simp at h; subst h
      obtain ⟨h1, h2⟩ := lset_spec hu
      refine ⟨?_, by simp; omega⟩
      rw [h1, show o + 1 + vs.length = (o + vs.length) + 1 by omega]
      simp
    · simp at h
theorem lset_mem {cs : List Value} {o : Nat} {vs l : List Value} (h : lset cs o vs = some l) {v : Value} (hv : v ∈ l) : v ∈ cs ∨ v ∈ vs := by
  rw [(lset_spec h).1] at hv
  simp only [List.mem_append] at hv
  rcases hv with (hv | hv) | hv
  · exact Or.inl (List.mem_of_mem_take hv)
  · exact Or.inr hv
  · exact Or.inl (List.mem_of_mem_drop hv)

/-! ### Memory -/
structure BelowBut (M : Nat → Prop) (w0 w : World) : Prop where
  os : w.os = w0.os
  tape : w.tape = w0.tape
  output : w.output = w0.output
  size : w0.heap.size ≤ w.heap.size
  block : ∀ i, i < w0.heap.size → ¬ M i → w.heap[i]? = w0.heap[i]?
theorem BelowBut.refl (M : Nat → Prop) (w : World) : BelowBut M w w := ⟨rfl, rfl, rfl, Nat.le_refl _, fun _ _ _ => rfl⟩
theorem BelowBut.below {w0 w : World} (h : BelowBut (fun _ => False) w0 w) : Below w0.heap.size w0 w := ⟨h.os, h.tape, h.output, h.size, fun k hk => h.block k hk id⟩
theorem BelowBut.of_below {w0 w : World} (h : Below w0.heap.size w0 w) : BelowBut (fun _ => False) w0 w := ⟨h.os, h.tape, h.output, h.size, fun k hk _ => h.block k hk⟩
def Blk.wr : Blk → Bool
  | .ro _ => false
  | _ => true
def conv (e : Ent) : MapEntry := ⟨e.1, e.2.1, e.2.2⟩
def objMap (es : List Ent) : Array MapEntry := (es.map conv).toArray
structure MapOK (lay : List (Option IntKind)) (agg : Bool) (ek : Option IntKind) (es : List Ent) (clock : Nat) : Prop where
  keys : ∀ e ∈ es, keyFits lay agg e.1 = true
  vals : ∀ e ∈ es, fitsC [ek] [e.2.1] = true
  borns : es.Pairwise fun a b => a.2.2 < b.2.2
  clock : ∀ e ∈ es, e.2.2 < clock
def Blk.Holds (g : Nm) (k : Nat) (b : Blk) (o : Option Obj) : Prop :=
  match b with
  | .cells cs ty => g.base k = 0 ∧ o = some (.cells (cs.map (ren0 g)).toArray ty (0, 0))
  | .vec cs ty size => g.base k = 0 ∧ ∃ rest, o = some (.cells (cs.map (ren0 g) ++ rest).toArray ty (0, 0)) ∧ cs.length + rest.length = g.cap k * size ∧ g.cap k ≤ maxLen
  | .ro cs => ∃ c ty fz, o = some (.cells c ty fz) ∧ ∀ i v, cs[i]? = some v → c[g.base k + i]? = some (ren0 g v)
  | .map _ _ _ es clock => o = some (.map (objMap es) clock)
def Blk.InB (B : Nat → Prop) : Blk → Prop
  | .cells cs _ | .vec cs _ _ | .ro cs => ∀ v ∈ cs, In0 B v
  | .map lay agg ek es clock => MapOK lay agg ek es clock
theorem Blk.InB.mono {B B' : Nat → Prop} {b : Blk} (h : b.InB B) (hb : ∀ k, B k → B' k) : b.InB B' := by
  cases b <;> simp only [Blk.InB] at h ⊢
  case map => exact h
  all_goals exact fun v hv => (h v hv).mono hb
theorem map_ren0_congr {B : Nat → Prop} {g g' : Nm} (a : Agree B g g') {cs : List Value} (h : ∀ v ∈ cs, In0 B v) : cs.map (ren0 g) = cs.map (ren0 g') :=
  List.map_congr_left fun v hv => h v hv g g' a
theorem Blk.Holds.congr {B : Nat → Prop} {g g' : Nm} (a : Agree B g g') {k : Nat} (hk : B k) {b : Blk} (hb : b.InB B) {o : Option Obj} (h : b.Holds g k o) : b.Holds g' k o := by
  obtain ⟨h1, h2, h3⟩ := a k hk
  cases b <;> simp only [Blk.Holds, Blk.InB] at h hb ⊢
  case cells cs ty => rw [← h2, ← map_ren0_congr a hb]; exact h
  case vec cs ty size => rw [← h2, ← h3, ← map_ren0_congr a hb]; exact h
  case ro cs =>
    obtain ⟨c, ty, fz, ho, hc⟩ := h
    refine ⟨c, ty, fz, ho, fun i v hv => ?_⟩
    rw [← h2, hc i v hv, hb v (List.mem_of_getElem? hv) g g' a]
  case map => exact h
/-- The blocks hold what is told of them, in a world that has grown out of another one. -/
structure HC (M : Nat → Prop) (w0 : World) (g : Nm) (B : Nat → Prop) (H : Heap) (w : World) : Prop where
  below : BelowBut M w0 w
  dom : ∀ k b, H k = some b → B k
  scope : ∀ k b, H k = some b → b.InB B
  holds : ∀ k b, H k = some b → b.Holds g k w.heap[g.blk k]?
  own : ∀ k b, H k = some b → b.wr = true → w0.heap.size ≤ g.blk k ∨ M (g.blk k)
  inj : ∀ k l b c, H k = some b → H l = some c → b.wr = true → g.blk k = g.blk l → k = l
section
variable {M : Nat → Prop} {w0 w : World} {g : Nm} {B : Nat → Prop} {H : Heap}
theorem HC.mono {B' : Nat → Prop} (h : HC M w0 g B H w) (hb : ∀ k, B k → B' k) : HC M w0 g B' H w :=
  ⟨h.below, fun k b hk => hb k (h.dom k b hk), fun k b hk => (h.scope k b hk).mono hb, h.holds, h.own, h.inj⟩
theorem Holds.lt {k : Nat} {b : Blk} {g : Nm} {w : World} (h : b.Holds g k w.heap[g.blk k]?) : g.blk k < w.heap.size := by
  have : ∃ o, w.heap[g.blk k]? = some o := by
    cases b <;> simp only [Blk.Holds] at h
    case cells => exact ⟨_, h.2⟩
    case vec => obtain ⟨_, r, h, _⟩ := h; exact ⟨_, h⟩
    case ro => obtain ⟨_, _, _, h, _⟩ := h; exact ⟨_, h⟩
    case map => exact ⟨_, h⟩
  obtain ⟨o, ho⟩ := this
  exact (Array.getElem?_eq_some_iff.1 ho).1
theorem HC.lt (h : HC M w0 g B H w) {k : Nat} {b : Blk} (hk : H k = some b) : g.blk k < w.heap.size := Holds.lt (h.holds k b hk)
/-- What is read of a row. -/
theorem HC.cell (h : HC M w0 g B H w) {k : Nat} {b : Blk} (hk : H k = some b) {cs : List Value} (hr : b.row = some cs) {i : Nat} {v : Value} (hv : cs[i]? = some v) :
    w.cell? ⟨g.blk k, g.base k + i, none⟩ = some (ren0 g v) := by
  have hh := h.holds k b hk
  cases b <;> simp only [Blk.row, Option.some.injEq, reduceCtorEq] at hr <;> subst hr <;> simp only [Blk.Holds] at hh
  case cells =>
    simp [World.cell?, hh.2, hh.1, hv]
  case vec cs ty size =>
    obtain ⟨h0, rest, ho, hl⟩ := hh
    have hi : i < cs.length := (List.getElem?_eq_some_iff.1 hv).1
    have he : cs[i] = v := (List.getElem?_eq_some_iff.1 hv).2
    simp [World.cell?, ho, h0, List.getElem?_append, hi, he]
  case ro =>
    obtain ⟨c, ty, fz, ho, hc⟩ := hh
    simp [World.cell?, ho, hc i v hv]
theorem row_in (h : HC M w0 g B H w) {k : Nat} {b : Blk} (hk : H k = some b) {cs : List Value} (hr : b.row = some cs) : ∀ v ∈ cs, In0 B v := by
  have hh := h.scope k b hk
  cases b <;> simp only [Blk.row, Option.some.injEq, reduceCtorEq] at hr <;> subst hr <;> exact hh
variable {P : Program}
theorem plain_add (x o j : Nat) : (⟨x, o, none⟩ : Addr).add j = ⟨x, o + j, none⟩ := by unfold Addr.add; split <;> simp_all
theorem aggT_spec {ty : TypeId} {b : Bool} (h : aggT P ty = some b) : ∃ d, P.underlying ty = some d ∧ ∀ w, (isAgg ty).run P w = .ok b w := by
  unfold aggT at h
  cases hq : P.underlying ty with
  | none => simp [hq] at h
  | some d =>
    refine ⟨d, rfl, fun w => ?_⟩
    unfold isAgg
    rw [Sem.run_bind, run_underlying hq w]
    rw [hq] at h
    cases d <;> simp_all
theorem sizeOfT_spec {ty : TypeId} {n : Nat} (h : sizeOfT P ty = some n) (w : World) : (sizeOf ty).run P w = .ok n w := by
  unfold sizeOfT at h
  split at h
  · rename_i i hi
    simp at h
    simp [sizeOf, typeInfo, hi, h]
  · simp at h
theorem readPart_in {ty : TypeId} {cs : List Value} {off : Nat} {v : Value} (h : readPart P ty cs off = some v) (hc : ∀ c ∈ cs, In0 B c) : InB B v := by
  unfold readPart at h
  split at h
  · split at h
    · rename_i vs hs
      simp at h; subst h
      exact InB.agg.2 fun c hc' => hc c (sub_mem hs hc')
    · simp at h
  · split at h
    · rename_i u hs
      cases hl : leaf u <;> simp [hl] at h
      subst h
      exact (InB.leaf hl).2 (hc u (sub_mem hs (by simp)))
    · simp at h
  · simp at h
theorem readPart_nt {ty : TypeId} {cs : List Value} {off : Nat} {v : Value} (h : readPart P ty cs off = some v) : notTuple v = true := by
  unfold readPart at h
  split at h
  · split at h
    · simp at h; subst h; rfl
    · simp at h
  · split at h
    · rename_i u hs
      cases hl : leaf u <;> simp [hl] at h
      subst h
      cases u <;> first | rfl | simp [leaf] at hl
    · simp at h
  · simp at h
theorem run_load (h : HC M w0 g B H w) {k : Nat} {b : Blk} (hk : H k = some b) {cs : List Value} (hr : b.row = some cs) {ty : TypeId} {off : Nat} {v : Value} (hv : readPart P ty cs off = some v) :
    (loadVar ty ⟨g.blk k, g.base k + off, none⟩).run P w = .ok (ren g v) w := by
  unfold readPart at hv
  split at hv
  · rename_i n ha hn
    split at hv
    · rename_i vs hs
      simp at hv; subst hv
      obtain ⟨d, _, hagg⟩ := aggT_spec ha
      obtain ⟨hl, _, hj⟩ := sub_spec hs
      have hld : (loadCells ⟨g.blk k, g.base k + off, none⟩ n).run P w = .ok (vs.map (ren0 g)).toArray w := by
        have := run_loadCells_list (P := P) w ⟨g.blk k, g.base k + off, none⟩ (vs.map (ren0 g)) (fun j v hv => by
          rw [plain_add, Nat.add_assoc]
          simp only [List.getElem?_map, Option.map_eq_some_iff] at hv
          obtain ⟨u, hu, rfl⟩ := hv
          exact h.cell hk hr (hj j u hu))
        rwa [List.length_map, hl] at this
      simp [loadVar, Sem.run_bind, hagg, sizeOfT_spec hn, hld, ren_agg]
    · simp at hv
  · rename_i ha
    split at hv
    · rename_i u hs
      cases hl : leaf u <;> simp [hl] at hv
      subst hv
      obtain ⟨d, _, hagg⟩ := aggT_spec ha
      have := (sub_spec hs).2.2 0 u rfl
      rw [Nat.add_zero] at this
      simp [loadVar, Sem.run_bind, hagg, h.cell hk hr this, ren_leaf g hl]
    · simp at hv
  · simp at hv
theorem upd_self {α : Type} (f : Nat → α) (k : Nat) (v : α) : upd f k v k = v := by simp [upd]
theorem upd_ne {α : Type} (f : Nat → α) {k i : Nat} (v : α) (h : i ≠ k) : upd f k v i = f i := by
  have : Nat.beq i k = false := by cases e : Nat.beq i k with | false => rfl | true => exact absurd (Nat.eq_of_beq_eq_true e) h
  simp [upd, this]
/-- One own block more. -/
theorem HC.new (h : HC M w0 g B H w) {nm : Nat} (hn : ¬ B nm) (b : Blk) (hw : b.wr = true) (o : Obj) {B' : Nat → Prop} (hb : ∀ k, B k → B' k) (hB : B' nm) (hin : b.InB B') (c : Nat)
    (ho : ∀ g' : Nm, Agree B g g' → g'.base nm = 0 → g'.cap nm = c → b.Holds g' nm (some o)) :
    ∃ g', Agree B g g' ∧ g'.blk nm = w.heap.size ∧ g'.base nm = 0 ∧ g'.cap nm = c ∧ (∀ k, k ≠ nm → g'.blk k = g.blk k ∧ g'.base k = g.base k ∧ g'.cap k = g.cap k) ∧ HC M w0 g' B' (upd H nm (some b)) (w.alloc o) := by
  have hne : ∀ k, B k → k ≠ nm := fun k hk e => hn (e ▸ hk)
  have hag : Agree B g ⟨upd g.blk nm w.heap.size, upd g.base nm 0, upd g.cap nm c⟩ := fun k hk => by simp [upd_ne _ _ (hne k hk)]
  refine ⟨⟨upd g.blk nm w.heap.size, upd g.base nm 0, upd g.cap nm c⟩, hag, by simp [upd_self], by simp [upd_self], by simp [upd_self], fun k hk => by simp [upd_ne _ _ hk], ?_⟩
  have hold : ∀ k b', upd H nm (some b) k = some b' → k ≠ nm → H k = some b' := fun k b' hk hkn => by rwa [upd_ne _ _ hkn] at hk
  have hsz : ∀ k b', H k = some b' → g.blk k < w.heap.size := fun k b' hk => h.lt hk
  refine ⟨⟨h.below.os, h.below.tape, h.below.output, Nat.le_trans h.below.size (by simp), fun i hi hm => ?_⟩, fun k b' hk => ?_, fun k b' hk => ?_, fun k b' hk => ?_, fun k b' hk hwr => ?_, fun k l b' c' hk hl hwr he => ?_⟩
  · rw [Below.heap_alloc _ _ _ (Nat.lt_of_lt_of_le hi h.below.size)]; exact h.below.block i hi hm
  · by_cases e : k = nm
    · subst e; exact hB
    · exact hb _ (h.dom k b' (hold k b' hk e))
  · by_cases e : k = nm
    · subst e
      rw [upd_self] at hk; simp at hk; subst hk
      exact hin
    · exact (h.scope k b' (hold k b' hk e)).mono hb
  · by_cases e : k = nm
    · subst e
      rw [upd_self] at hk; simp at hk; subst hk
      simp only [upd_self]
      rw [heap_alloc_new]
      exact ho _ hag (by simp [upd_self]) (by simp [upd_self])
    · have hk' := hold k b' hk e
      simp only [upd_ne _ _ e]
      rw [Below.heap_alloc _ _ _ (hsz k b' hk')]
      exact (h.holds k b' hk').congr hag (h.dom k b' hk') (h.scope k b' hk')
  · by_cases e : k = nm
    · subst e; simp only [upd_self]; exact Or.inl h.below.size
    · simp only [upd_ne _ _ e]; exact h.own k b' (hold k b' hk e) hwr
  · by_cases e : k = nm
    · by_cases e' : l = nm
      · rw [e, e']
      · subst e
        simp only [upd_self, upd_ne _ _ e'] at he
        have := hsz l c' (hold l c' hl e')
        omega
    · by_cases e' : l = nm
      · subst e'
        simp only [upd_self, upd_ne _ _ e] at he
        have := hsz k b' (hold k b' hk e)
        omega
      · simp only [upd_ne _ _ e, upd_ne _ _ e'] at he
        exact h.inj k l b' c' (hold k b' hk e) (hold l c' hl e') hwr he
/-- A name for a place. -/
theorem HC.name (h : HC M w0 g B H w) {nm : Nat} (hn : ¬ B nm) (x y c : Nat) {B' : Nat → Prop} (hb : ∀ k, B k → B' k) : ∃ g', Agree B g g' ∧ g'.blk nm = x ∧ g'.base nm = y ∧ g'.cap nm = c ∧ HC M w0 g' B' H w := by
  have hne : ∀ k, B k → k ≠ nm := fun k hk e => hn (e ▸ hk)
  have hag : Agree B g ⟨upd g.blk nm x, upd g.base nm y, upd g.cap nm c⟩ := fun k hk => by simp [upd_ne _ _ (hne k hk)]
  have hq : ∀ k b, H k = some b → upd g.blk nm x k = g.blk k := fun k b hk => upd_ne _ _ (hne k (h.dom k b hk))
  refine ⟨_, hag, by simp [upd_self], by simp [upd_self], by simp [upd_self], h.below, fun k b hk => hb k (h.dom k b hk), fun k b hk => (h.scope k b hk).mono hb, fun k b hk => ?_, fun k b hk hw => ?_, fun i j b c hi hj hw he => ?_⟩
  · have := (h.holds k b hk).congr hag (h.dom k b hk) (h.scope k b hk)
    simp only [hq k b hk]
    exact this
  · simp only [hq k b hk]; exact h.own k b hk hw
  · simp only [hq i b hi, hq j c hj] at he
    exact h.inj i j b c hi hj hw he
/-- One block's object replaced. -/
theorem HC.set (h : HC M w0 g B H w) {k : Nat} {b b' : Blk} (hk : H k = some b) (hw : b.wr = true) (hw' : b'.wr = true) {w1 : World}
    (h1 : w1.os = w.os) (h2 : w1.tape = w.tape) (h3 : w1.output = w.output) (h4 : w1.heap.size = w.heap.size) (h5 : ∀ i, i ≠ g.blk k → w1.heap[i]? = w.heap[i]?)
    (hin : b'.InB B) (ho : b'.Holds g k w1.heap[g.blk k]?) : HC M w0 g B (upd H k (some b')) w1 := by
  have hold : ∀ l c, upd H k (some b') l = some c → l ≠ k → H l = some c := fun l c hl hn => by rwa [upd_ne _ _ hn] at hl
  have hold' : ∀ l c, upd H k (some b') l = some c → ∃ c', H l = some c' ∧ (c.wr = true → c'.wr = true) := fun l c hl => by
    by_cases e : l = k
    · subst e; exact ⟨b, hk, fun _ => hw⟩
    · exact ⟨c, hold l c hl e, id⟩
  refine ⟨⟨h1.trans h.below.os, h2.trans h.below.tape, h3.trans h.below.output, by rw [h4]; exact h.below.size, fun i hi hm => ?_⟩, fun l c hl => ?_, fun l c hl => ?_, fun l c hl => ?_, fun l c hl hwr => ?_, fun l m c d hl hm hwr he => ?_⟩
  · rw [h5 i ?_]
    · exact h.below.block i hi hm
    · intro e
      rcases h.own k b hk hw with ho | ho
      · omega
      · exact hm (e ▸ ho)
  · obtain ⟨c', hc', _⟩ := hold' l c hl; exact h.dom l c' hc'
  · by_cases e : l = k
    · subst e; rw [upd_self] at hl; simp at hl; subst hl; exact hin
    · exact h.scope l c (hold l c hl e)
  · by_cases e : l = k
    · subst e; rw [upd_self] at hl; simp at hl; subst hl; exact ho
    · rw [h5]
      · exact h.holds l c (hold l c hl e)
      · intro e'
        exact e (h.inj k l b c hk (hold l c hl e) hw e'.symm).symm
  · obtain ⟨c', hc', hx⟩ := hold' l c hl; exact h.own l c' hc' (hx hwr)
  · obtain ⟨c', hc', hx⟩ := hold' l c hl
    obtain ⟨d', hd', _⟩ := hold' m d hm
    exact h.inj l m c' d' hc' hd' (hx hwr) he
/-- A store. -/
theorem run_store (h : HC M w0 g B H w) {k : Nat} {b b' : Blk} (hk : H k = some b) {cs cs' vs : List Value} (hr : b.row = some cs) (hp : b.put cs' = some b') {off : Nat} (hl : lset cs off vs = some cs')
    (hlf : allB leaf vs = true) {ty : TypeId} (hn : sizeOfT P ty = some vs.length) (y : Value) (hy : y.cells = (vs.map (ren0 g)).toArray) (hin : ∀ v ∈ vs, In0 B v) :
    ∃ w1, (storeVar ty ⟨g.blk k, g.base k + off, none⟩ y).run P w = .ok () w1 ∧ HC M w0 g B (upd H k (some b')) w1 := by
  obtain ⟨he, hfit⟩ := lset_spec hl
  have hh := h.holds k b hk
  have h1 : ∀ v ∈ vs.map (ren0 g), v.oneCell' = true := by
    intro v hv
    obtain ⟨u, hu, rfl⟩ := List.mem_map.1 hv
    exact one_of_leaf (by rw [leaf_ren0]; exact allB_iff.1 hlf u hu)
  have hrow := row_in h hk hr
  have key : ∀ (cur : List Value) (t : TypeId), g.base k = 0 → w.heap[g.blk k]? = some (.cells cur.toArray t (0, 0)) → off + vs.length ≤ cur.length →
      (storeVar ty ⟨g.blk k, g.base k + off, none⟩ y).run P w = .ok () (w.setRow (g.blk k) (cur.take off ++ vs.map (ren0 g) ++ cur.drop (off + vs.length)).toArray) := by
    intro cur t h0 ho hf
    have := run_storeCells_at P (g.blk k) off t (vs.map (ren0 g)) 0 cur.toArray w ho (by simpa using hf) h1
    simp only [Nat.add_zero, List.toList_toArray, List.length_map] at this
    rw [h0, Nat.zero_add]
    simp [storeVar, Sem.run_bind, sizeOfT_spec hn, hy, this]
  have fin : ∀ (row : List Value) (t : TypeId), w.heap[g.blk k]? = some (.cells row.toArray t (0, 0)) → ∀ new : Array Value, b.wr = true → b'.wr = true → b'.InB B → b'.Holds g k (some (.cells new t (0, 0))) → HC M w0 g B (upd H k (some b')) (w.setRow (g.blk k) new) := by
    intro row t ho new hw hw' hi hho
    refine h.set hk hw hw' rfl rfl rfl (by simp [World.setRow]) (fun i hne => setRow_other w _ _ _ hne) hi ?_
    rw [setRow_heap w _ _ _ t (0, 0) ho]; exact hho
  cases b <;> simp only [Blk.row, Option.some.injEq, reduceCtorEq] at hr <;> subst hr <;> simp only [Blk.put, Option.some.injEq, reduceCtorEq] at hp <;> subst hp <;> simp only [Blk.Holds] at hh
  case cells cs t =>
    refine ⟨_, key _ t hh.1 hh.2 (by simpa using hfit), fin _ t hh.2 _ rfl rfl ?_ ⟨hh.1, ?_⟩⟩
    · intro v hv
      rcases lset_mem hl hv with hv | hv
      · exact hrow v hv
      · exact hin v hv
    · rw [he]; simp
  case vec cs t size =>
    obtain ⟨h0, rest, ho, hlen⟩ := hh
    refine ⟨_, key _ t h0 ho (by have := hlen.1; simp; omega), fin _ t ho _ rfl rfl ?_ ⟨h0, rest, ?_, ?_⟩⟩
    · intro v hv
      rcases lset_mem hl hv with hv | hv
      · exact hrow v hv
      · exact hin v hv
    · rw [he]
      have e1 : (cs.map (ren0 g) ++ rest).take off = (cs.take off).map (ren0 g) := by
        rw [List.take_append_of_le_length (by simp; omega)]; simp
      have e2 : (cs.map (ren0 g) ++ rest).drop (off + vs.length) = (cs.drop (off + vs.length)).map (ren0 g) ++ rest := by
        rw [List.drop_append_of_le_length (by simp; omega)]; simp
      rw [e1, e2]; simp
    · refine ⟨?_, hlen.2⟩
      have := hlen.1
      rw [he]; simp; omega
/-- Cells that go over others. -/
theorem run_storeC (h : HC M w0 g B H w) {k : Nat} {b b' : Blk} (hk : H k = some b) {cs cs' vs : List Value} (hr : b.row = some cs) (hp : b.put cs' = some b') {off : Nat} (hl : lset cs off vs = some cs')
    (hlf : allB leaf vs = true) (hin : ∀ v ∈ vs, In0 B v) :
    ∃ w1, (storeCells ⟨g.blk k, g.base k + off, none⟩ (vs.map (ren0 g))).run P w = .ok () w1 ∧ HC M w0 g B (upd H k (some b')) w1 := by
  obtain ⟨he, hfit⟩ := lset_spec hl
  have hh := h.holds k b hk
  have h1 : ∀ v ∈ vs.map (ren0 g), v.oneCell' = true := by
    intro v hv
    obtain ⟨u, hu, rfl⟩ := List.mem_map.1 hv
    exact one_of_leaf (by rw [leaf_ren0]; exact allB_iff.1 hlf u hu)
  have hrow := row_in h hk hr
  have key : ∀ (cur : List Value) (t : TypeId), g.base k = 0 → w.heap[g.blk k]? = some (.cells cur.toArray t (0, 0)) → off + vs.length ≤ cur.length →
      (storeCells ⟨g.blk k, g.base k + off, none⟩ (vs.map (ren0 g))).run P w = .ok () (w.setRow (g.blk k) (cur.take off ++ vs.map (ren0 g) ++ cur.drop (off + vs.length)).toArray) := by
    intro cur t h0 ho hf
    have := run_storeCells_at P (g.blk k) off t (vs.map (ren0 g)) 0 cur.toArray w ho (by simpa using hf) h1
    simp only [Nat.add_zero, List.toList_toArray, List.length_map] at this
    rw [h0, Nat.zero_add]
    exact this
  have fin : ∀ (row : List Value) (t : TypeId), w.heap[g.blk k]? = some (.cells row.toArray t (0, 0)) → ∀ new : Array Value, b.wr = true → b'.wr = true → b'.InB B → b'.Holds g k (some (.cells new t (0, 0))) → HC M w0 g B (upd H k (some b')) (w.setRow (g.blk k) new) := by
    intro row t ho new hw hw' hi hho
    refine h.set hk hw hw' rfl rfl rfl (by simp [World.setRow]) (fun i hne => setRow_other w _ _ _ hne) hi ?_
    rw [setRow_heap w _ _ _ t (0, 0) ho]; exact hho
  cases b <;> simp only [Blk.row, Option.some.injEq, reduceCtorEq] at hr <;> subst hr <;> simp only [Blk.put, Option.some.injEq, reduceCtorEq] at hp <;> subst hp <;> simp only [Blk.Holds] at hh
  case cells cs t =>
    refine ⟨_, key _ t hh.1 hh.2 (by simpa using hfit), fin _ t hh.2 _ rfl rfl ?_ ⟨hh.1, ?_⟩⟩
    · intro v hv
      rcases lset_mem hl hv with hv | hv
      · exact hrow v hv
      · exact hin v hv
    · rw [he]; simp
  case vec cs t size =>
    obtain ⟨h0, rest, ho, hlen⟩ := hh
    refine ⟨_, key _ t h0 ho (by have := hlen.1; simp; omega), fin _ t ho _ rfl rfl ?_ ⟨h0, rest, ?_, ?_⟩⟩
    · intro v hv
      rcases lset_mem hl hv with hv | hv
      · exact hrow v hv
      · exact hin v hv
    · rw [he]
      have e1 : (cs.map (ren0 g) ++ rest).take off = (cs.take off).map (ren0 g) := by
        rw [List.take_append_of_le_length (by simp; omega)]; simp
      have e2 : (cs.map (ren0 g) ++ rest).drop (off + vs.length) = (cs.drop (off + vs.length)).map (ren0 g) ++ rest := by
        rw [List.drop_append_of_le_length (by simp; omega)]; simp
      rw [e1, e2]; simp
    · refine ⟨?_, hlen.2⟩
      have := hlen.1
      rw [he]; simp; omega
end
end Go.Proofs.Ytmgkmekknhggbaa.Ev
