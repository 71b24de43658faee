/-
  What a call's own blocks hold, told by one predicate over a list of blocks; laws for the walk: a new block, a load, a store, a call, by place in that list. No condition.
-/
import Derived.Test.YtdeedabhgfmgjaaRowLib
import Derived.Laws.CopyRow
import Derived.Laws.Rows
import Derived.WalkKit
import Derived.KernelRfl
import Derived.Lib.Hide
import Derived.Deep.MidRow
import Derived.Deep.Draws
import Derived.Laws.Rows
import Derived.Test.YtdeedabhgfmgjaaWLast
set_option linter.unusedVariables false
set_option linter.unusedSimpArgs false
namespace Go.Proofs.Ytdeedabhgfmgjaa
open Go Go.RowKit

abbrev Blk := Nat × List Value × TypeId
/-- The world w has grown out of w0 alone; beside it these blocks of the call's own hold these cells; no two are one. -/
structure Mem (w0 w : World) (bs : List Blk) : Prop where
  below : Below w0.heap.size w0 w
  blk : ∀ (k g : Nat) (cs : List Value) (t : TypeId), bs[k]? = some (g, cs, t) → w.heap[g]? = some (.cells cs.toArray t (0, 0)) ∧ w0.heap.size ≤ g
  apart : ∀ (k l g : Nat) (cs : List Value) (t : TypeId) (g' : Nat) (cs' : List Value) (t' : TypeId), bs[k]? = some (g, cs, t) → bs[l]? = some (g', cs', t') → k ≠ l → g ≠ g'
namespace Mem
variable {w0 w w1 : World} {bs : List Blk} {k g : Nat} {cs : List Value} {t : TypeId}
theorem start (w : World) : Mem w w [] := ⟨Below.refl _ _, fun k g cs t h => by simp at h, fun k l g cs t g' cs' t' h => by simp at h⟩
theorem lt (M : Mem w0 w bs) (hk : bs[k]? = some (g, cs, t)) : g < w.heap.size := (Array.getElem?_eq_some_iff.1 (M.blk k g cs t hk).1).1
theorem drew (M : Mem w0 w bs) : Mem w0 w.drew bs := ⟨below_drew M.below, M.blk, M.apart⟩
theorem drewN (M : Mem w0 w bs) (n : Nat) : Mem w0 (w.drewN n) bs := ⟨⟨M.below.os, M.below.tape, M.below.output, M.below.size, M.below.block⟩, M.blk, M.apart⟩
theorem call (M : Mem w0 w bs) (hb : Below w.heap.size w w1) : Mem w0 w1 bs :=
  ⟨below_call hb M.below, fun k g cs t h => ⟨(hb.block g (M.lt h)).trans (M.blk k g cs t h).1, (M.blk k g cs t h).2⟩, M.apart⟩
theorem new (M : Mem w0 w bs) (cs : List Value) (t : TypeId) : Mem w0 (w.alloc (.cells cs.toArray t (0, 0))) ((w.heap.size, cs, t) :: bs) := by
  refine ⟨below_alloc M.below _, fun k g cs' t' h => ?_, fun k l g cs1 t1 g' cs2 t2 h h' hne => ?_⟩
  · cases k with
    | zero => simp at h; obtain ⟨rfl, rfl, rfl⟩ := h; exact ⟨heap_alloc_new w _, M.below.size⟩
    | succ k => exact ⟨(Below.heap_alloc w _ g (M.lt h)).trans (M.blk k g cs' t' h).1, (M.blk k g cs' t' h).2⟩
  · cases k with
    | zero =>
      cases l with
      | zero => exact absurd rfl hne
      | succ l => simp at h; obtain ⟨rfl, _, _⟩ := h; have := M.lt (k := l) h'; omega
    | succ k =>
      cases l with
      | zero => simp at h'; obtain ⟨rfl, _, _⟩ := h'; have := M.lt (k := k) h; omega
      | succ l => exact M.apart k l g cs1 t1 g' cs2 t2 h h' (by omega)
theorem row (M : Mem w0 w bs) (hk : bs[k]? = some (g, cs, t)) (cs' : List Value) : Mem w0 (w.setRow g cs'.toArray) (bs.set k (g, cs', t)) := by
  have hkl : k < bs.length := (List.getElem?_eq_some_iff.1 hk).1
  have hold := (M.blk k g cs t hk).1
  refine ⟨M.below.trans ⟨rfl, rfl, rfl, by simp [World.setRow], fun i hi => setRow_other w g i cs'.toArray (by have := (M.blk k g cs t hk).2; omega)⟩, fun l g' cs2 t2 h => ?_, fun l m g1 c1 t1 g2 c2 t2 h h' hne => ?_⟩
  · rw [List.getElem?_set] at h
    by_cases e : k = l
    · subst e
      rw [if_pos rfl, if_pos hkl] at h
      simp at h
      obtain ⟨rfl, rfl, rfl⟩ := h
      exact ⟨setRow_heap w g cs.toArray cs'.toArray t (0, 0) hold, (M.blk k g cs t hk).2⟩
    · rw [if_neg e] at h
      have hne := M.apart l k g' cs2 t2 g cs t h hk (fun he => e he.symm)
      exact ⟨(setRow_other w g g' cs'.toArray hne).trans (M.blk l g' cs2 t2 h).1, (M.blk l g' cs2 t2 h).2⟩
  · have key : ∀ (l : Nat) (g1 : Nat) (c1 : List Value) (t1 : TypeId), (bs.set k (g, cs', t))[l]? = some (g1, c1, t1) → ∃ c, bs[l]? = some (g1, c, t1) := by
      intro l g1 c1 t1 h
      rw [List.getElem?_set] at h
      by_cases e : k = l
      · subst e
        rw [if_pos rfl, if_pos hkl] at h
        simp at h
        obtain ⟨rfl, _, rfl⟩ := h
        exact ⟨cs, hk⟩
      · rw [if_neg e] at h; exact ⟨c1, h⟩
    obtain ⟨d1, e1⟩ := key l g1 c1 t1 h
    obtain ⟨d2, e2⟩ := key m g2 c2 t2 h'
    exact M.apart l m g1 d1 t1 g2 d2 t2 e1 e2 hne
theorem cell (M : Mem w0 w bs) (k : Nat) (hk : bs[k]? = some (g, cs, t)) (i : Nat) {v : Value} (hv : cs[i]? = some v) : w.cell? ⟨g, i, none⟩ = some v := by
  rw [cell_of_row w g i cs.toArray t (0, 0) (M.blk k g cs t hk).1]; simpa using hv
theorem frozen (M : Mem w0 w bs) (k : Nat) (hk : bs[k]? = some (g, cs, t)) (i : Nat) : w.frozen? ⟨g, i, none⟩ = false := by
  simp [World.frozen?, (M.blk k g cs t hk).1]
end Mem

def rowB (P : Program) (ty : TypeId) : Bool := match P.underlying ty with | some (.struct _) | some (.array _ _) => true | _ => false
def cellB (P : Program) (ty : TypeId) : Bool := match P.underlying ty with | some (.struct _) | some (.array _ _) | none => false | some _ => true
theorem rowB_spec {P : Program} {ty : TypeId} (h : rowB P ty = true) : ∃ d, P.underlying ty = some d ∧ (match d with | .struct _ | .array _ _ => true | _ => false) = true := by
  unfold rowB at h
  cases hq : P.underlying ty with
  | none => simp [hq] at h
  | some d => refine ⟨d, rfl, ?_⟩; rw [hq] at h; cases d <;> simp_all
theorem cellB_spec {P : Program} {ty : TypeId} (h : cellB P ty = true) : ∃ d, P.underlying ty = some d ∧ (match d with | .struct _ | .array _ _ => true | _ => false) = false := by
  unfold cellB at h
  cases hq : P.underlying ty with
  | none => simp [hq] at h
  | some d => refine ⟨d, rfl, ?_⟩; rw [hq] at h; cases d <;> simp_all
section
variable {P : Program} {w0 w : World} {bs : List Blk} {g : Nat} {cs : List Value} {t : TypeId}
theorem plain_add (g o j : Nat) : (⟨g, o, none⟩ : Addr).add j = ⟨g, o + j, none⟩ := by unfold Addr.add; split <;> simp_all
/-- A part of a block, read as a struct or an array. -/
theorem run_load_part (M : Mem w0 w bs) (k : Nat) (hk : bs[k]? = some (g, cs, t)) (ty : TypeId) (o : Nat) (vs : List Value) (hu : rowB P ty = true) (hi : (P.info? ty).map (·.size) = some vs.length) (hv : (cs.drop o).take vs.length = vs) :
    (loadVar ty ⟨g, o, none⟩).run P w = .ok (.agg vs.toArray) w := by
  have hl : (loadCells ⟨g, o, none⟩ vs.length).run P w = .ok vs.toArray w :=
    run_loadCells_list (P := P) w ⟨g, o, none⟩ vs (fun j v hj => by
      rw [plain_add]
      refine M.cell k hk (o + j) ?_
      rw [← hv] at hj
      have hjl : j < vs.length := by
        have := (List.getElem?_eq_some_iff.1 hj).1
        simp at this; omega
      rw [List.getElem?_take, if_pos hjl, List.getElem?_drop] at hj
      exact hj)
  cases hq : P.info? ty with
  | none => simp [hq] at hi
  | some i =>
    have hs : i.size = vs.length := by simpa [hq] using hi
    obtain ⟨d, hu, hd⟩ := rowB_spec hu
    have hagg : (isAgg ty).run P w = .ok true w := by
      unfold isAgg
      rw [Sem.run_bind, run_underlying hu w]
      cases d <;> simp_all
    simp [loadVar, Sem.run_bind, hagg, sizeOf, typeInfo, hq, hs, hl]
/-- A part of a block, written by a struct or an array. -/
theorem run_store_part (M : Mem w0 w bs) (k : Nat) (hk : bs[k]? = some (g, cs, t)) (ty : TypeId) (o : Nat) (vs : List Value) (hi : (P.info? ty).map (·.size) = some vs.length) (h1 : vs.all (·.oneCell') = true) (hfit : o + vs.length ≤ cs.length) :
    (storeVar ty ⟨g, o, none⟩ (.agg vs.toArray)).run P w = .ok () (w.setRow g (cs.take o ++ vs ++ cs.drop (o + vs.length)).toArray) := by
  have := run_storeCells_at (P := P) g o t vs 0 cs.toArray w (M.blk k g cs t hk).1 (by simpa using hfit) (fun v hv => List.all_eq_true.1 h1 v hv)
  simp only [Nat.add_zero, List.toList_toArray] at this
  cases hq : P.info? ty with
  | none => simp [hq] at hi
  | some i =>
    have hs : i.size = vs.length := by simpa [hq] using hi
    simp [storeVar, Sem.run_bind, sizeOf, typeInfo, hq, hs, Value.cells, this]
end

section
variable {P : Program} {ops : Array Oper} {rest : List Oper} {o : Oper} {a : Act} {Q : Exit → Act → World → Prop} {w0 w : World} {bs : List Blk} {g : Nat} {cs : List Value} {t : TypeId}
/-- A new block: a struct that came in or is begun. -/
theorem ev_box (M : Mem w0 w bs) {N : Tmp} (hd : o.dst = some N) (hw : Region.wanted o (yielded ops a.tmps) = true) (cs : List Value) (t : TypeId)
    (hrun : (execOp a.eval o).run P w = .ok (.value (.pointer (some ⟨w.heap.size, 0, none⟩))) (w.alloc (.cells cs.toArray t (0, 0))))
    (h : ∀ g w1, Mem w0 w1 ((g, cs, t) :: bs) → wpList P ops Q rest (a.put (some N) (.pointer (some ⟨g, 0, none⟩))) w1) : wpList P ops Q (o :: rest) a w := by
  refine wpList_step fun K hK => ?_
  rw [if_pos hw]
  unfold Oper.wp
  rw [hrun, Oper.upon_value, hd]
  exact hK _ _ (h _ _ (M.new cs t))
/-- A struct, an array or a part of one, loaded. -/
theorem ev_load (M : Mem w0 w bs) (k : Nat) (hk : bs[k]? = some (g, cs, t)) {N : Tmp} (hd : o.dst = some N) (hw : Region.wanted o (yielded ops a.tmps) = true) (ty : TypeId) (x : Operand) (ho : o.op = .load ty x) (off : Nat) (hx : a.eval x = .pointer (some ⟨g, off, none⟩))
    (vs : List Value) (hu : rowB P ty = true) (hi : (P.info? ty).map (·.size) = some vs.length) (hv : (cs.drop off).take vs.length = vs)
    (h : wpList P ops Q rest (a.put (some N) (.agg vs.toArray)) w) : wpList P ops Q (o :: rest) a w := by
  refine wpList_step fun K hK => ?_
  rw [if_pos hw]
  unfold Oper.wp execOp
  simp only [ho, hx, Instr.loadAt, Instr.sureAddr, Sem.run_bind, Sem.run_pure, Result.andThen_ok, run_load_part M k hk ty off vs hu hi hv]
  show K (a.put o.dst _) w
  rw [hd]
  exact hK _ _ h
/-- A struct, an array or a part of one, stored. -/
theorem ev_store (M : Mem w0 w bs) (k : Nat) (hk : bs[k]? = some (g, cs, t)) (hd : o.dst = none) (hw : Region.wanted o (yielded ops a.tmps) = true) (ty : TypeId) (x y : Operand) (ho : o.op = .store ty x y) (off : Nat) (hx : a.eval x = .pointer (some ⟨g, off, none⟩))
    (vs : List Value) (hy : a.eval y = .agg vs.toArray) (hi : (P.info? ty).map (·.size) = some vs.length) (h1 : vs.all (·.oneCell') = true) (hfit : off + vs.length ≤ cs.length) (cs' : List Value) (hc : cs.take off ++ vs ++ cs.drop (off + vs.length) = cs')
    (bs' : List Blk) (hb : bs.set k (g, cs', t) = bs') (h : ∀ w1, Mem w0 w1 bs' → wpList P ops Q rest a w1) : wpList P ops Q (o :: rest) a w := by
  subst hc
  subst hb
  refine wpList_step fun K hK => ?_
  rw [if_pos hw]
  unfold Oper.wp execOp
  simp only [ho, hx, hy, Instr.storeAt, Instr.sureAddr, Sem.run_bind, Sem.run_pure, Result.andThen_ok, run_store_part M k hk ty off vs hi h1 hfit]
  show K (a.put o.dst undef) _
  rw [hd]
  exact hK _ _ (h _ (M.row hk _))
end
section
variable {P : Program} {w0 w : World} {bs : List Blk} {g : Nat} {cs : List Value} {t : TypeId}
theorem run_load_one (M : Mem w0 w bs) (k : Nat) (hk : bs[k]? = some (g, cs, t)) (ty : TypeId) (o : Nat) (v : Value) (hu : cellB P ty = true) (hv : cs[o]? = some v) : (loadVar ty ⟨g, o, none⟩).run P w = .ok v w := by
  obtain ⟨d, hu, hd⟩ := cellB_spec hu
  have hagg : (isAgg ty).run P w = .ok false w := by
    unfold isAgg
    rw [Sem.run_bind, run_underlying hu w]
    cases d <;> simp_all
  simp [loadVar, Sem.run_bind, hagg, M.cell k hk o hv]
theorem run_store_one (M : Mem w0 w bs) (k : Nat) (hk : bs[k]? = some (g, cs, t)) (ty : TypeId) (o : Nat) (v : Value) (hi : (P.info? ty).map (·.size) = some 1) (h1 : v.oneCell' = true) (hfit : o < cs.length) :
    (storeVar ty ⟨g, o, none⟩ v).run P w = .ok () (w.setRow g (cs.set o v).toArray) := by
  have hc : v.cells = #[v] := by cases v <;> first | rfl | simp [Value.oneCell'] at h1
  have := run_storeCells_at (P := P) g o t [v] 0 cs.toArray w (M.blk k g cs t hk).1 (by simp; omega) (by simpa using h1)
  simp only [Nat.add_zero, List.toList_toArray, List.length_singleton] at this
  have e : cs.take o ++ [v] ++ cs.drop (o + 1) = cs.set o v := by rw [List.set_eq_take_append_cons_drop, if_pos hfit]; simp
  rw [e] at this
  cases hq : P.info? ty with
  | none => simp [hq] at hi
  | some i =>
    have hs : i.size = 1 := by simpa [hq] using hi
    simp [storeVar, Sem.run_bind, sizeOf, typeInfo, hq, hs, hc, this]
end

section
variable {P : Program} {ops : Array Oper} {rest : List Oper} {o : Oper} {a : Act} {Q : Exit → Act → World → Prop} {w0 w : World} {bs : List Blk} {g : Nat} {cs : List Value} {t : TypeId}
theorem op_load (M : Mem w0 w bs) (k : Nat) (hk : bs[k]? = some (g, cs, t)) (ty : TypeId) (x : Operand) (ho : o.op = .load ty x) (off : Nat) (hx : a.eval x = .pointer (some ⟨g, off, none⟩))
    (vs : List Value) (hu : rowB P ty = true) (hi : (P.info? ty).map (·.size) = some vs.length) (hv : (cs.drop off).take vs.length = vs) :
    (execOp a.eval o).run P w = .ok (.value (.agg vs.toArray)) w := by
  unfold execOp
  simp only [ho, hx, Instr.loadAt, Instr.sureAddr, Sem.run_bind, Sem.run_pure, Result.andThen_ok, run_load_part M k hk ty off vs hu hi hv]
theorem op_load1 (M : Mem w0 w bs) (k : Nat) (hk : bs[k]? = some (g, cs, t)) (ty : TypeId) (x : Operand) (ho : o.op = .load ty x) (off : Nat) (hx : a.eval x = .pointer (some ⟨g, off, none⟩))
    (v : Value) (hu : cellB P ty = true) (hv : cs[off]? = some v) :
    (execOp a.eval o).run P w = .ok (.value v) w := by
  unfold execOp
  simp only [ho, hx, Instr.loadAt, Instr.sureAddr, Sem.run_bind, Sem.run_pure, Result.andThen_ok, run_load_one M k hk ty off v hu hv]
theorem op_store (M : Mem w0 w bs) (k : Nat) (hk : bs[k]? = some (g, cs, t)) (ty : TypeId) (x y : Operand) (ho : o.op = .store ty x y) (off : Nat) (hx : a.eval x = .pointer (some ⟨g, off, none⟩))
    (vs : List Value) (hy : a.eval y = .agg vs.toArray) (hi : (P.info? ty).map (·.size) = some vs.length) (h1 : vs.all (·.oneCell') = true) (hfit : off + vs.length ≤ cs.length) (cs' : List Value) (hc : cs.take off ++ vs ++ cs.drop (off + vs.length) = cs') :
    (execOp a.eval o).run P w = .ok .skip (w.setRow g cs'.toArray) := by
  subst hc
  unfold execOp
  simp only [ho, hx, hy, Instr.storeAt, Instr.sureAddr, Sem.run_bind, Sem.run_pure, Result.andThen_ok, run_store_part M k hk ty off vs hi h1 hfit]
theorem op_store1 (M : Mem w0 w bs) (k : Nat) (hk : bs[k]? = some (g, cs, t)) (ty : TypeId) (x y : Operand) (ho : o.op = .store ty x y) (off : Nat) (hx : a.eval x = .pointer (some ⟨g, off, none⟩))
    (v : Value) (hy : a.eval y = v) (hi : (P.info? ty).map (·.size) = some 1) (h1 : v.oneCell' = true) (hfit : off < cs.length) (cs' : List Value) (hc : cs.set off v = cs') :
    (execOp a.eval o).run P w = .ok .skip (w.setRow g cs'.toArray) := by
  subst hc
  unfold execOp
  simp only [ho, hx, hy, Instr.storeAt, Instr.sureAddr, Sem.run_bind, Sem.run_pure, Result.andThen_ok, run_store_one M k hk ty off v hi h1 hfit]
/-- One cell, loaded. -/
theorem ev_load1 (M : Mem w0 w bs) (k : Nat) (hk : bs[k]? = some (g, cs, t)) {N : Tmp} (hd : o.dst = some N) (hw : Region.wanted o (yielded ops a.tmps) = true) (ty : TypeId) (x : Operand) (ho : o.op = .load ty x) (off : Nat) (hx : a.eval x = .pointer (some ⟨g, off, none⟩))
    (v : Value) (hu : cellB P ty = true) (hv : cs[off]? = some v)
    (h : wpList P ops Q rest (a.put (some N) v) w) : wpList P ops Q (o :: rest) a w := by
  refine wpList_step fun K hK => ?_
  rw [if_pos hw]
  unfold Oper.wp
  rw [op_load1 M k hk ty x ho off hx v hu hv, Oper.upon_value, hd]
  exact hK _ _ h
/-- One cell, stored. -/
theorem ev_store1 (M : Mem w0 w bs) (k : Nat) (hk : bs[k]? = some (g, cs, t)) (hd : o.dst = none) (hw : Region.wanted o (yielded ops a.tmps) = true) (ty : TypeId) (x y : Operand) (ho : o.op = .store ty x y) (off : Nat) (hx : a.eval x = .pointer (some ⟨g, off, none⟩))
    (v : Value) (hy : a.eval y = v) (hi : (P.info? ty).map (·.size) = some 1) (h1 : v.oneCell' = true) (hfit : off < cs.length) (cs' : List Value) (hc : cs.set off v = cs')
    (bs' : List Blk) (hb : bs.set k (g, cs', t) = bs') (h : ∀ w1, Mem w0 w1 bs' → wpList P ops Q rest a w1) : wpList P ops Q (o :: rest) a w := by
  subst hb
  refine wpList_step fun K hK => ?_
  rw [if_pos hw]
  unfold Oper.wp
  rw [op_store1 M k hk ty x y ho off hx v hy hi h1 hfit cs' hc, Oper.upon_skip, hd]
  exact hK _ _ (h _ (M.row hk _))
end

/-! ### Steps of a region that draws -/
section
variable {P : Program} {ops : Array Oper} {o : Oper} {a : Act} {Q : Exit → Act → World → Prop} {K : Act → World → Prop} {w0 w : World} {bs : List Blk} {g : Nat} {cs : List Value} {t : TypeId}
theorem skip_store (M : Mem w0 w bs) (k : Nat) (hk : bs[k]? = some (g, cs, t)) (hw : Region.wanted o (yielded ops a.tmps) = true) (hN : o.dst = none) (ty : TypeId) (x y : Operand) (ho : o.op = .store ty x y) (off : Nat) (hx : a.eval x = .pointer (some ⟨g, off, none⟩))
    (vs : List Value) (hy : a.eval y = .agg vs.toArray) (hi : (P.info? ty).map (·.size) = some vs.length) (h1 : vs.all (·.oneCell') = true) (hfit : off + vs.length ≤ cs.length) (cs' : List Value) (hc : cs.take off ++ vs ++ cs.drop (off + vs.length) = cs')
    (bs' : List Blk) (hb : bs.set k (g, cs', t) = bs') (h : ∀ w1, Mem w0 w1 bs' → K a w1) : if Region.wanted o (yielded ops a.tmps) = true then Oper.wp P o a w K Q else K (a.put none undef) w := by
  subst hb
  exact Go.Proofs.YtdeedabhgfmgjaaW.PrintLast.skip_ hw hN (op_store M k hk ty x y ho off hx vs hy hi h1 hfit cs' hc) (h _ (M.row hk _))
theorem skip_store1 (M : Mem w0 w bs) (k : Nat) (hk : bs[k]? = some (g, cs, t)) (hw : Region.wanted o (yielded ops a.tmps) = true) (hN : o.dst = none) (ty : TypeId) (x y : Operand) (ho : o.op = .store ty x y) (off : Nat) (hx : a.eval x = .pointer (some ⟨g, off, none⟩))
    (v : Value) (hy : a.eval y = v) (hi : (P.info? ty).map (·.size) = some 1) (h1 : v.oneCell' = true) (hfit : off < cs.length) (cs' : List Value) (hc : cs.set off v = cs')
    (bs' : List Blk) (hb : bs.set k (g, cs', t) = bs') (h : ∀ w1, Mem w0 w1 bs' → K a w1) : if Region.wanted o (yielded ops a.tmps) = true then Oper.wp P o a w K Q else K (a.put none undef) w := by
  subst hb
  exact Go.Proofs.YtdeedabhgfmgjaaW.PrintLast.skip_ hw hN (op_store1 M k hk ty x y ho off hx v hy hi h1 hfit cs' hc) (h _ (M.row hk _))
end

/-! ### New blocks -/
section
variable {P : Program} {ops : Array Oper} {rest : List Oper} {o : Oper} {a : Act} {Q : Exit → Act → World → Prop} {w0 w : World} {bs : List Blk}
theorem op_box (ty : TypeId) (x : Operand) (ho : o.op = .box ty x) (vs : List Value) (hx : (a.eval x).cells = vs.toArray) :
    (execOp a.eval o).run P w = .ok (.value (.pointer (some ⟨w.heap.size, 0, none⟩))) (w.alloc (.cells vs.toArray ty (0, 0))) := by
  unfold execOp
  simp only [ho, Instr.box, newVar, newRow, hx]
  rfl
theorem op_alloc (ty : TypeId) (ho : o.op = .alloc ty) (z : Value) (hz : (P.info? ty).bind (·.zero) = some z) (vs : List Value) (hx : z.cells = vs.toArray) :
    (execOp a.eval o).run P w = .ok (.value (.pointer (some ⟨w.heap.size, 0, none⟩))) (w.alloc (.cells vs.toArray ty (0, 0))) := by
  have hq : (zeroValue ty).run P w = .ok z w := by
    cases hi : P.info? ty with
    | none => simp [hi] at hz
    | some i =>
      have : i.zero = some z := by simpa [hi] using hz
      simp [zeroValue, typeInfo, hi, this]
  unfold execOp
  simp only [ho, Instr.alloc, newVar, newRow, Sem.run_bind, hq, Result.andThen_ok, hx]
  rfl
theorem ev_boxv (M : Mem w0 w bs) {N : Tmp} (hd : o.dst = some N) (hw : Region.wanted o (yielded ops a.tmps) = true) (ty : TypeId) (x : Operand) (ho : o.op = .box ty x) (vs : List Value) (hx : (a.eval x).cells = vs.toArray)
    (h : ∀ g w1, Mem w0 w1 ((g, vs, ty) :: bs) → wpList P ops Q rest (a.put (some N) (.pointer (some ⟨g, 0, none⟩))) w1) : wpList P ops Q (o :: rest) a w :=
  ev_box M hd hw vs ty (op_box ty x ho vs hx) h
theorem ev_alloc (M : Mem w0 w bs) {N : Tmp} (hd : o.dst = some N) (hw : Region.wanted o (yielded ops a.tmps) = true) (ty : TypeId) (ho : o.op = .alloc ty) (z : Value) (hz : (P.info? ty).bind (·.zero) = some z) (vs : List Value) (hx : z.cells = vs.toArray)
    (h : ∀ g w1, Mem w0 w1 ((g, vs, ty) :: bs) → wpList P ops Q rest (a.put (some N) (.pointer (some ⟨g, 0, none⟩))) w1) : wpList P ops Q (o :: rest) a w :=
  ev_box M hd hw vs ty (op_alloc ty ho z hz vs hx) h
end

/-! ### One step, whatever it is -/
section
variable {P : Program} {ops : Array Oper} {rest : List Oper} {o : Oper} {a : Act} {Q : Exit → Act → World → Prop} {w0 w : World} {bs : List Blk}
theorem ev_pure (N : Tmp) {v : Value} {a' : Act} (hd : o.dst = some N) (hw : Region.wanted o (yielded ops a.tmps) = true) (hrun : ∀ w, (execOp a.eval o).run P w = .ok (.value v) w) (ha : a.put (some N) v = a')
    (h : wpList P ops Q rest a' w) : wpList P ops Q (o :: rest) a w := by
  subst ha
  refine wpList_step fun K hK => ?_
  rw [if_pos hw]
  unfold Oper.wp
  rw [hrun, Oper.upon_value, hd]
  exact hK _ _ h
theorem ev_norm {l : List Oper} {a' : Act} (ha : a = a') (h : wpList P ops Q l a' w) : wpList P ops Q l a w := by
  subst ha
  exact h
theorem ev_off (N : Option Tmp) {a' : Act} (hd : o.dst = N) (hw : Region.wanted o (yielded ops a.tmps) = false) (ha : a.put N undef = a') (h : wpList P ops Q rest a' w) : wpList P ops Q (o :: rest) a w := by
  subst ha
  subst hd
  refine wpList_step fun K hK => ?_
  rw [hw, if_neg (by simp)]
  exact hK _ _ h
theorem ev_call (N : Option Tmp) (hd : o.dst = N) (hw : Region.wanted o (yielded ops a.tmps) = true) {f : FuncId} {fn : Func} {as : Array Operand} {ts : Array TypeId} (hf : P.funcs[f]? = some fn) (hname : (fn.name == "runtime.NumGoroutine") = false) (hb : fn.body.isSome = true) (args : Array Value)
    (hop : o.op = .call { callee := .value (.func f), args := as, argTypes := ts }) (hargs : as.map a.eval = args) {v : Value} (hc : Calls P f args w fun e w' => e = .returned v ∧ Below w.heap.size w w') {a' : Act} (ha : a.put N v = a')
    (M : Mem w0 w bs) (h : ∀ w1, Mem w0 w1 bs → wpList P ops Q rest a' w1) : wpList P ops Q (o :: rest) a w := by
  subst ha
  subst hd
  refine wpList_step fun K hK => ?_
  rw [if_pos hw]
  have he := Go.Proofs.YtdeedabhgfmgjaaW.PrintLast.enters_ hf hname hb args w
  have hrun : (execOp a.eval o).run P w = .ok (.enter f args) w := by
    unfold execOp
    simp [hop, resolve, Deferred.ofValue, invoke, Act.eval, hargs, he]
  unfold Oper.wp
  rw [hrun, Oper.upon_enter]
  refine hc.mono fun e w1 hh => ?_
  obtain ⟨rfl, hb⟩ := hh
  exact hK _ _ (h _ (M.call hb))
end

/-! ### What a function hands back -/
def rvSem (tmps : Array Value) : ResultVar → Sem Value
  | .tmp t => pure (tmps.getD t undef)
  | .cell p t => do loadVar t (← asAddr (tmps.getD p undef))
def RV (P : Program) (w : World) (tmps : Array Value) (r : ResultVar) (v : Value) : Prop := (rvSem tmps r).run P w = .ok v w
theorem results_eq (fn : Func) (tmps : Array Value) : results fn tmps = (do let vs ← fn.results.mapM (rvSem tmps); pure (if h : vs.size = 1 then vs[0] else .tuple vs)) := by
  unfold results
  congr 1
section
variable {P : Program} {w0 w : World} {bs : List Blk} {g : Nat} {cs : List Value} {t : TypeId} {fn : Func} {tmps : Array Value}
theorem rv_tmp (p : Tmp) : RV P w tmps (.tmp p) (tmps.getD p undef) := rfl
theorem rv_cell (M : Mem w0 w bs) (k : Nat) (hk : bs[k]? = some (g, cs, t)) (p : Tmp) (ty : TypeId) (off : Nat) (hx : tmps.getD p undef = .pointer (some ⟨g, off, none⟩))
    (vs : List Value) (hu : rowB P ty = true) (hi : (P.info? ty).map (·.size) = some vs.length) (hv : (cs.drop off).take vs.length = vs) :
    RV P w tmps (.cell p ty) (.agg vs.toArray) := by
  simp only [RV, rvSem, hx, asAddr, Sem.run_bind, Sem.run_pure, Result.andThen_ok, run_load_part M k hk ty off vs hu hi hv]
theorem rv_cell1 (M : Mem w0 w bs) (k : Nat) (hk : bs[k]? = some (g, cs, t)) (p : Tmp) (ty : TypeId) (off : Nat) (hx : tmps.getD p undef = .pointer (some ⟨g, off, none⟩))
    (v : Value) (hu : cellB P ty = true) (hv : cs[off]? = some v) :
    RV P w tmps (.cell p ty) v := by
  simp only [RV, rvSem, hx, asAddr, Sem.run_bind, Sem.run_pure, Result.andThen_ok, run_load_one M k hk ty off v hu hv]
theorem res1 {r : ResultVar} {v : Value} (h : fn.results = #[r]) (h1 : RV P w tmps r v) : (results fn tmps).run P w = .ok v w := by
  unfold RV at h1
  rw [results_eq, h]
  simp [h1]
theorem res2 {r s : ResultVar} {v u : Value} (h : fn.results = #[r, s]) (h1 : RV P w tmps r v) (h2 : RV P w tmps s u) : (results fn tmps).run P w = .ok (.tuple #[v, u]) w := by
  unfold RV at h1 h2
  rw [results_eq, h]
  simp [h1, h2]
end
end Go.Proofs.Ytdeedabhgfmgjaa
