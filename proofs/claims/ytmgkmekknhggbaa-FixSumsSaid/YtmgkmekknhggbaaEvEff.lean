/-
  What the evaluator computes for one operation is what the machine does, operation by operation. No condition.
-/
import Derived.Test.YtmgkmekknhggbaaEvMap
set_option linter.unusedVariables false
set_option linter.unusedSimpArgs false
namespace Go.Proofs.Ytmgkmekknhggbaa.Ev
open Go Go.RowKit

/-- The names that an operation may give. -/
def Fresh (nm k : Nat) : Prop := nm ≤ k ∧ k < nm + 4
def Plus (B : Nat → Prop) (nm : Nat) : Nat → Prop := fun k => B k ∨ Fresh nm k
theorem HC.grow {M : Nat → Prop} {w0 w w' : World} {g : Nm} {B : Nat → Prop} {H : Heap} (h : HC M w0 g B H w) (hb : Below w.heap.size w w') : HC M w0 g B H w' := by
  refine ⟨⟨hb.os.trans h.below.os, hb.tape.trans h.below.tape, hb.output.trans h.below.output, Nat.le_trans h.below.size hb.size, fun i hi hm => (hb.block i (Nat.lt_of_lt_of_le hi h.below.size)).trans (h.below.block i hi hm)⟩, h.dom, h.scope, fun k b hk => ?_, h.own, h.inj⟩
  rw [hb.block _ (h.lt hk)]; exact h.holds k b hk

/-- Of a function of the program that has a body. -/
structure Enters (P : Program) (f : FuncId) : Prop where
  run : ∀ args w, (callFunc f args).run P w = .ok (.enter f args) w
theorem Enters.of {P : Program} {f : FuncId} {fn : Func} (hf : P.funcs[f]? = some fn) (hname : (fn.name == "runtime.NumGoroutine") = false) (hb : fn.body.isNone = false) : Enters P f := ⟨fun args w => by
  unfold callFunc
  simp only [Sem.run_bind, run_program, Result.andThen_ok, hf]
  rw [if_neg (by rw [hname]; simp), if_neg (by rw [hb]; simp)]
  rfl⟩
/-- What a summary of a function says. -/
def SumOK (P : Program) (f : FuncId) (s : List Value → Heap → Nat → Option Res) : Prop :=
  Enters P f ∧
  (∀ args H nm r, s args H nm = some r → (∀ p ∈ r.ob, p) → ∀ M w0 g B w, HC M w0 g B H w → (∀ v ∈ args, InB B v) → (∀ k, B k → ¬ Fresh nm k) →
    Calls P f (args.map (ren g)).toArray w fun e w' => ∃ g', Agree B g g' ∧ HC M w0 g' (Plus B nm) (apU r.us H) w' ∧ InB (Plus B nm) r.v ∧ e = .returned (ren g' r.v)) ∧
  (∀ args H nm r, s args H nm = some r → ∀ H', (∀ k ∈ r.rs, H' k = H k) → s args H' nm = some r)
def SumsOK (P : Program) (sums : Sums) : Prop := ∀ f s, sums f = some s → SumOK P f s

section
variable {P : Program} {M : Nat → Prop} {w0 w : World} {g : Nm} {B : Nat → Prop} {H : Heap} {r : Res}
theorem pureRun_ok {α : Type} {s : Sem α} {a : α} (h : pureRun P s = some a) (w : World) : s.run P w = .ok a w := by
  induction s with
  | pure b => simp [pureRun] at h; subst h; rfl
  | program k ih => exact ih P h
  | _ => simp [pureRun] at h
/-- What an operand stands for. -/
def Stands (g : Nm) (B : Nat → Prop) (ρ : Operand → Option Value) (e : Operand → Value) : Prop := ∀ x v, ρ x = some v → e x = ren g v ∧ InB B v
theorem evs_spec {ρ : Operand → Option Value} {e : Operand → Value} (hρ : Stands g B ρ e) : ∀ {xs : List Operand} {vs : List Value}, evs ρ xs = some vs → xs.map e = vs.map (ren g) ∧ (∀ v ∈ vs, InB B v) ∧ ∀ x ∈ xs, ∃ v ∈ vs, ρ x = some v
  | [], vs, h => by simp [evs] at h; subst h; simp
  | x :: xs, vs, h => by
    simp only [evs] at h
    split at h
    · rename_i v hv
      split at h
      · rename_i us hu
        simp at h; subst h
        obtain ⟨h1, h2, h3⟩ := evs_spec hρ hu
        obtain ⟨h4, h5⟩ := hρ x v hv
        refine ⟨by simp [h1, h4], by simp [h5]; exact h2, fun y hy => ?_⟩
        rcases List.mem_cons.1 hy with rfl | hy
        · exact ⟨v, by simp, hv⟩
        · obtain ⟨u, hu, he⟩ := h3 y hy; exact ⟨u, by simp [hu], he⟩
      · simp at h
    · simp at h
/-- A value, and the world as it was. -/
structure VOK (g : Nm) (B : Nat → Prop) (P : Program) (w : World) (s : Sem Value) (r : Res) : Prop where
  us : r.us = []
  inb : InB B r.v
  run : s.run P w = .ok (ren g r.v) w
theorem val_v {v : Value} {r : Res} (h : val v = some r) : r.v = v ∧ r.us = [] ∧ r.rs = [] ∧ r.ob = [] := by
  unfold val at h; simp at h; subst h; exact ⟨rfl, rfl, rfl, rfl⟩
theorem pureOp_ok {h : Hint} {o : Oper} {ρ : Operand → Option Value} {e : Operand → Value} (hρ : Stands g B ρ e) (hr : pureOp P h o ρ = some r) (hob : ∀ p ∈ r.ob, p) :
    r.us = [] ∧ InB B r.v ∧ (execOp e o).run P w = .ok (.value (ren g r.v)) w := by
  unfold pureOp at hr
  cases hsel : isSel o.op <;> simp only [hsel, cond_true, cond_false, reduceCtorEq] at hr
  split at hr
  · simp at hr
  · rename_i vs hvs
    cases hg : allB gnd vs <;> simp only [hg, cond_true, cond_false, reduceCtorEq] at hr
    obtain ⟨_, _, h3⟩ := evs_spec hρ hvs
    have hcong : execOp e o = execOp (fun x => (ρ x).getD undef) o := by
      refine execOp_congr o (fun cs b hc => by rw [hc] at hsel; simp [isSel] at hsel) fun x hx => ?_
      obtain ⟨v, hv, he⟩ := h3 x (by simpa using hx)
      rw [(hρ x v he).1, ren_gnd g (allB_iff.1 hg v hv), he]; rfl
    rw [hcong]
    split at hr
    · rename_i v hv
      cases hgv : gnd v <;> simp only [hgv, cond_true, cond_false, reduceCtorEq, Option.some.injEq] at hr
      subst hr
      have := hob _ (List.mem_singleton.2 rfl)
      exact ⟨rfl, InB.gnd hgv, by rw [pureRun_ok this w, ren_gnd g hgv]⟩
    · split at hr
      · rename_i v hv
        cases hgv : gnd v <;> simp only [hgv, cond_true, cond_false, reduceCtorEq] at hr
        obtain ⟨e1, e2, _, _⟩ := val_v hr
        exact ⟨e2, e1 ▸ InB.gnd hgv, by rw [pureRun_ok hv w, e1, ren_gnd g hgv]⟩
      · simp at hr
theorem ren_int (k : IntKind) (n : Int) : ren g (.int k n) = .int k n := rfl
theorem ren_ptr {a : Addr} : ren g (.pointer (some a)) = .pointer (some (renA g a)) := rfl
theorem renA_none {k o : Nat} : renA g ⟨k, o, none⟩ = ⟨g.blk k, g.base k + o, none⟩ := rfl
theorem in_ptr {k o o' : Nat} (h : InB B (.pointer (some ⟨k, o, none⟩))) : InB B (.pointer (some ⟨k, o', none⟩)) := by
  intro g g' a
  have := h g g' a
  simp only [ren_ptr, renA_none, Value.pointer.injEq, Option.some.injEq, Addr.mk.injEq, and_true] at this ⊢
  exact ⟨this.1, by omega⟩
theorem loadOp_ok {h : Hint} {ty : TypeId} {x : Option Value} {u : Value} (hH : HC M w0 g B H w) (hx : ∀ v, x = some v → u = ren g v) (hr : loadOp P h ty x H = some r) (hob : ∀ p ∈ r.ob, p) : VOK g B P w (Instr.loadAt ty u) r := by
  unfold loadOp at hr
  split at hr
  · rename_i k off
    have hu := hx _ rfl
    subst hu
    split at hr
    · rename_i b hb
      split at hr
      · rename_i cs hcs
        have key : ∀ v, readPart P ty cs off = some v → InB B v ∧ (Instr.loadAt ty (ren g (.pointer (some ⟨k, off, none⟩)))).run P w = .ok (ren g v) w := fun v hv =>
          ⟨readPart_in hv (row_in hH hb hcs), by simp [Instr.loadAt, Instr.sureAddr, ren_ptr, renA_none, run_load hH hb hcs hv]⟩
        split at hr
        · rename_i v hv
          cases hn : notTuple v <;> simp only [hn, cond_true, cond_false, reduceCtorEq, Option.some.injEq] at hr
          subst hr
          obtain ⟨h1, h2⟩ := key v (hob _ (List.mem_singleton.2 rfl))
          exact ⟨rfl, h1, h2⟩
        · split at hr
          · rename_i v hv
            simp at hr; subst hr
            obtain ⟨h1, h2⟩ := key v hv
            exact ⟨rfl, h1, h2⟩
          · simp at hr
      · simp at hr
    · simp at hr
  · simp at hr
theorem fieldAddrOp_ok {s : TypeId} {f : Nat} {x : Option Value} {u : Value} (hx : ∀ v, x = some v → u = ren g v ∧ InB B v) (hr : fieldAddrOp P s x f = some r) : VOK g B P w (Instr.fieldAt s u f) r := by
  unfold fieldAddrOp at hr
  split at hr
  · rename_i k off fields hu
    obtain ⟨e1, e2⟩ := hx _ rfl
    subst e1
    split at hr
    · rename_i fl hf
      split at hr
      · rename_i n hn
        obtain ⟨e3, e4, _, _⟩ := val_v hr
        refine ⟨e4, e3 ▸ in_ptr e2, ?_⟩
        have hf' : fields[f]? = some fl := by simpa using hf
        simp [Instr.fieldAt, run_underlying hu, hf', Instr.sureAddr, ren_ptr, fieldPlace, sizeOfT_spec hn, renA_none, plain_add, e3, Nat.add_assoc]
      · simp at hr
    · simp at hr
  · simp at hr
theorem within_ok {h : Hint} {i : Int} {n : Nat} {K : List Prop → Option Res} (hr : within h i n K = some r) : ∃ ob, K ob = some r ∧ ((∀ p ∈ ob, p) → 0 ≤ i ∧ i < (n : Int)) := by
  unfold within at hr
  cases hp : h.p <;> simp only [hp, cond_true, cond_false] at hr
  · split at hr
    · rename_i h1 h2
      exact ⟨_, hr, fun _ => ⟨by simpa using h1, by simpa using h2⟩⟩
    · simp at hr
  · exact ⟨_, hr, fun hh => hh _ (List.mem_singleton.2 rfl)⟩
theorem ren_slice {a : Addr} {n c : Nat} : ren g (.slice (some a) n c) = .slice (some (renA g a)) n (capOf g a.block c) := rfl
theorem in_slice_ptr {k o o' n c : Nat} (h : InB B (.slice (some ⟨k, o, none⟩) n c)) : InB B (.pointer (some ⟨k, o', none⟩)) := by
  intro g g' a
  have := h g g' a
  simp only [ren_slice, ren_ptr, renA_none, Value.slice.injEq, Value.pointer.injEq, Option.some.injEq, Addr.mk.injEq, and_true] at this ⊢
  exact ⟨this.1.1, by omega⟩
theorem indexAddrOp_ok {h : Hint} {t : TypeId} {x ix : Option Value} {u i : Value} (hx : ∀ v, x = some v → u = ren g v ∧ InB B v) (hi : ∀ v, ix = some v → i = ren g v) (hr : indexAddrOp P h t x ix = some r) (hob : ∀ p ∈ r.ob, p) : VOK g B P w (Instr.indexAt t u i) r := by
  unfold indexAddrOp at hr
  split at hr
  · rename_i k off ik q n e hu
    obtain ⟨e1, e2⟩ := hx _ rfl
    have e3 := hi _ rfl
    subst e1 e3
    split at hr
    · rename_i s hs
      obtain ⟨ob, h1, h2⟩ := within_ok hr
      simp at h1; subst h1
      obtain ⟨h3, h4⟩ := h2 hob
      refine ⟨rfl, in_ptr e2, ?_⟩
      simp [Instr.indexAt, asIntOf, ren_int, run_underlying hu, Instr.sureAddr, ren_ptr, sizeOfT_spec hs, renA_none, plain_add, h3, h4, Nat.add_assoc, Sem.run_ite]
    · simp at hr
  · rename_i k off n c ik q e hu
    obtain ⟨e1, e2⟩ := hx _ rfl
    have e3 := hi _ rfl
    subst e1 e3
    split at hr
    · rename_i s hs
      obtain ⟨ob, h1, h2⟩ := within_ok hr
      simp at h1; subst h1
      obtain ⟨h3, h4⟩ := h2 hob
      refine ⟨rfl, in_slice_ptr e2, ?_⟩
      simp [Instr.indexAt, asIntOf, ren_int, run_underlying hu, ren_slice, ren_ptr, sizeOfT_spec hs, renA_none, plain_add, h3, h4, Nat.add_assoc, Sem.run_ite]
    · simp at hr
  · simp at hr
theorem run_part {ty : TypeId} {cs : List Value} {off : Nat} {v : Value} (hv : readPart P ty cs off = some v) : (part ty (cs.map (ren0 g)).toArray off).run P w = .ok (ren g v) w := by
  unfold readPart at hv
  split at hv
  · rename_i n ha hn
    split at hv
    · rename_i vs hs
      simp at hv; subst hv
      obtain ⟨d, _, hagg⟩ := aggT_spec ha
      obtain ⟨hl, hlt, hj⟩ := sub_spec hs
      have e : List.take n (List.drop off (cs.map (ren0 g))) = vs.map (ren0 g) := by
        apply List.ext_getElem?
        intro j
        rw [List.getElem?_take, List.getElem?_drop]
        by_cases hjn : j < n
        · rw [if_pos hjn]
          have hv : vs[j]? = some vs[j] := List.getElem?_eq_getElem (by omega)
          simp [hj j _ hv, hv]
        · rw [if_neg hjn]
          simp [List.getElem?_eq_none (l := vs) (i := j) (by omega)]
      simp [part, hagg, sizeOfT_spec hn, ren_agg, e]
    · simp at hv
  · rename_i ha
    split at hv
    · rename_i u hs
      cases hl : leaf u <;> simp [hl] at hv
      subst hv
      obtain ⟨d, _, hagg⟩ := aggT_spec ha
      have := (sub_spec hs).2.2 0 u rfl
      rw [Nat.add_zero] at this
      simp [part, hagg, this, ren_leaf g hl]
    · simp at hv
  · simp at hv
theorem fieldOp_ok {s : TypeId} {f : Nat} {x : Option Value} {u : Value} (hx : ∀ v, x = some v → u = ren g v ∧ InB B v) (hr : fieldOp P s x f = some r) : VOK g B P w (Instr.field s u f) r := by
  unfold fieldOp at hr
  split at hr
  · rename_i cs fields hu
    obtain ⟨e1, e2⟩ := hx _ rfl
    subst e1
    split at hr
    · rename_i fl hf
      split at hr
      · rename_i v hv
        obtain ⟨e3, e4, _, _⟩ := val_v hr
        refine ⟨e4, e3 ▸ readPart_in hv (InB.agg.1 e2), ?_⟩
        have hf' : fields[f]? = some fl := by simpa using hf
        have := run_part (g := g) (w := w) hv
        simp [Instr.field, run_underlying hu, hf', asAgg, ren_agg, e3, this]
      · simp at hr
    · simp at hr
  · simp at hr
theorem indexOp_ok {h : Hint} {t : TypeId} {x ix : Option Value} {u i : Value} (hx : ∀ v, x = some v → u = ren g v ∧ InB B v) (hi : ∀ v, ix = some v → i = ren g v) (hr : indexOp P h t x ix = some r) (hob : ∀ p ∈ r.ob, p) : VOK g B P w (Instr.index t u i) r := by
  unfold indexOp at hr
  split at hr
  · rename_i cs ik q n e hu
    obtain ⟨e1, e2⟩ := hx _ rfl
    have e3 := hi _ rfl
    subst e1 e3
    split at hr
    · rename_i s hs
      obtain ⟨ob, h1, h2⟩ := within_ok hr
      have fin : ∀ v, readPart P e cs (q.toNat * s) = some v → 0 ≤ q → q < n → InB B v ∧ (Instr.index t (ren g (.agg ⟨cs⟩)) (ren g (.int ik q))).run P w = .ok (ren g v) w := fun v hv h3 h4 =>
        ⟨readPart_in hv (InB.agg.1 e2), by
          have := run_part (g := g) (w := w) hv
          simp [Instr.index, asIntOf, ren_int, run_underlying hu, ren_agg, sizeOfT_spec hs, h3, h4, Sem.run_ite, this]⟩
      split at h1
      · rename_i v hv
        cases hn : notTuple v <;> simp only [hn, cond_true, cond_false, reduceCtorEq, Option.some.injEq] at h1
        subst h1
        obtain ⟨h3, h4⟩ := h2 fun p hp => hob p (List.mem_cons_of_mem _ hp)
        obtain ⟨h5, h6⟩ := fin v (hob _ (List.mem_cons_self ..)) h3 h4
        exact ⟨rfl, h5, h6⟩
      · split at h1
        · rename_i v hv
          simp at h1; subst h1
          obtain ⟨h3, h4⟩ := h2 hob
          obtain ⟨h5, h6⟩ := fin v hv h3 h4
          exact ⟨rfl, h5, h6⟩
        · simp at h1
    · simp at hr
  · simp at hr
theorem nth_eq : ∀ (l : List Value) (i : Nat), nth l i = l[i]?
  | [], i => by simp [nth]
  | v :: l, 0 => by simp [nth]
  | v :: l, i + 1 => by simp [nth, nth_eq l i]
theorem extractOp_ok {i : Nat} {x : Option Value} {u : Value} (hx : ∀ v, x = some v → u = ren g v ∧ InB B v) (hr : extractOp x i = some r) : VOK g B P w (Instr.extract u i) r := by
  unfold extractOp at hr
  split at hr
  · rename_i vs
    obtain ⟨e1, e2⟩ := hx _ rfl
    subst e1
    split at hr
    · rename_i v hv
      rw [nth_eq] at hv
      cases hn : notTuple v <;> simp only [hn, cond_true, cond_false, reduceCtorEq] at hr
      obtain ⟨e3, e4, _, _⟩ := val_v hr
      refine ⟨e4, ?_, ?_⟩
      · rw [e3]
        intro g g' a
        have := e2 g g' a
        simp only [ren, List.map_toArray, Value.tuple.injEq, Array.mk.injEq] at this
        rw [ren_ren1 g hn, ren_ren1 g' hn]
        exact List.map_inj_left.1 this v (List.mem_of_getElem? hv)
      · simp [Instr.extract, ren, hv, e3, ← ren_ren1 g hn]
    · simp at hr
  · simp at hr
/-! ### Structs and arrays built -/
theorem overlay (g : Nm) : ∀ (vs : List Value) (cs : List Value) (off : Nat), off + vs.length ≤ cs.length →
    (vs.zipIdx.foldl (fun (a : Array Value) (p : Value × Nat) => a.setIfInBounds (off + p.2) p.1) cs.toArray) = (cs.take off ++ vs ++ cs.drop (off + vs.length)).toArray := by
  have key : ∀ (vs : List Value) (k : Nat) (cs : List Value) (off : Nat), off + k + vs.length ≤ cs.length →
      ((vs.zipIdx k).foldl (fun (a : Array Value) (p : Value × Nat) => a.setIfInBounds (off + p.2) p.1) cs.toArray) = (cs.take (off + k) ++ vs ++ cs.drop (off + k + vs.length)).toArray := by
    intro vs
    induction vs with
    | nil => intro k cs off h; simp
    | cons v vs ih =>
      intro k cs off h
      simp only [List.zipIdx_cons, List.foldl_cons, List.setIfInBounds_toArray]
      rw [ih (k + 1) (cs.set (off + k) v) off (by simp at h ⊢; omega)]
      have := list_seg_step cs (off + k) v vs (by simp at h; omega)
      simp only [List.length_cons]
      rw [← this]
      simp [Nat.add_assoc]
  intro vs cs off h
  have := key vs 0 cs off (by simpa using h)
  simpa using this
theorem fillL_ok {ρ : Operand → Option Value} {e : Operand → Value} (hρ : Stands g B ρ e) {place : Nat → Option (Nat × Nat)} {place' : Nat → Option (Nat × Nat)} (hp : ∀ i x, place i = some x → place' i = some x) : ∀ {ps : List (Nat × Operand)} {cs l : List Value}, fillL place cs (ps.map fun (i, x) => (i, ρ x)) = some l →
    Instr.fill place' (cs.map (ren0 g)).toArray (ps.map fun (i, x) => (i, e x)) = some (l.map (ren0 g)).toArray ∧ ((∀ c ∈ cs, In0 B c) → ∀ c ∈ l, In0 B c)
  | [], cs, l, h => by
    have : cs = l := by simpa [fillL] using h
    subst this
    exact ⟨rfl, id⟩
  | (i, x) :: ps, cs, l, h => by
    simp only [List.map_cons] at h ⊢
    cases hx : ρ x with
    | none => simp [hx, fillL] at h
    | some v =>
      rw [hx] at h
      obtain ⟨h1, h2⟩ := hρ x v hx
      simp only [fillL] at h
      split at h
      · rename_i off size vs hpl hcs
        cases hb : Nat.beq vs.length size <;> simp only [hb, cond_true, cond_false, reduceCtorEq] at h
        have hsz : vs.length = size := Nat.eq_of_beq_eq_true hb
        split at h
        · rename_i cs' hset
          obtain ⟨h3, h4⟩ := fillL_ok hρ hp h
          obtain ⟨h5, h6⟩ := lset_spec hset
          have hc := cellsOf_spec g hcs
          refine ⟨?_, fun hc' => h4 fun c hcm => ?_⟩
          · simp only [Instr.fill, hp i _ hpl, h1, hc]
            rw [if_neg (by simp [hsz]; omega)]
            rw [← h3]
            congr 1
            rw [h5]
            have := overlay g (vs.map (ren0 g)) (cs.map (ren0 g)) off (by simpa using h6)
            rw [← Array.foldl_toList, Array.toList_zipIdx, List.toList_toArray, this]
            simp
          · rcases lset_mem hset hcm with hm | hm
            · exact hc' c hm
            · exact cellsOf_in hcs h2 c hm
        · simp at h
      · simp at h
theorem zeroCells_ok {t : TypeId} {zs : List Value} (h : zeroCells P t = some zs) : (∃ z, (∀ w, (zeroValue t).run P w = .ok z w) ∧ z.cells = zs.toArray) ∧ zs.map (ren0 g) = zs ∧ ∀ c ∈ zs, In0 B c := by
  unfold zeroCells at h
  split at h
  · rename_i i hi
    split at h
    · rename_i z hz
      cases hg : gnd1 z <;> simp only [hg, cond_true, cond_false, reduceCtorEq] at h
      have hall : allB leafG zs = true := by
        unfold cellsOf at h
        split at h
        · simp at h; subst h; exact hg
        · simp at h
        · rename_i h1 h2
          cases hl : leaf z <;> simp [hl] at h
          subst h
          have : leafG z = true := by cases z <;> first | exact hg | simp [leaf] at hl
          simp [allB, this]
      have hid := map_ren0_id g hall
      refine ⟨⟨z, fun w => by simp [zeroValue, typeInfo, hi, hz], ?_⟩, hid, fun c hc => In0.leafG (allB_iff.1 hall c hc)⟩
      have := cellsOf_spec g h
      rw [hid] at this
      rw [← this]
      unfold cellsOf at h
      split at h
      · rw [ren_agg]; simp at h; subst h; simp [hid]
      · simp at h
      · cases hl : leaf z <;> simp [hl] at h
        subst h
        rw [ren_leaf g hl]
        simp at hid
        rw [hid]
    · simp at h
  · simp at h
theorem sizesKnown_ok {fields : List Field} (h : sizesKnown P fields = true) : ∀ f ∈ fields, ∃ n, sizeOfT P f.type = some n := fun f hf => by
  have := allB_iff.1 h f hf
  exact Option.isSome_iff_exists.1 this
theorem mapM_places {fields : List Field} (h : sizesKnown P fields = true) (w : World) : ∃ pl : List (Nat × Nat), (fields.mapM (m := Sem) fun f => do pure (f.offset, ← sizeOf f.type)).run P w = .ok pl w ∧ ∀ i x, fieldPlaceL P fields i = some x → pl[i]? = some x := by
  induction fields with
  | nil => exact ⟨[], by simp, fun i x hx => by simp [fieldPlaceL] at hx⟩
  | cons f fs ih =>
    obtain ⟨n, hn⟩ := sizesKnown_ok h f (by simp)
    have hfs : sizesKnown P fs = true := allB_iff.2 fun x hx => allB_iff.1 h x (by simp [hx])
    obtain ⟨pl, h1, h2⟩ := ih hfs
    refine ⟨(f.offset, n) :: pl, ?_, fun i x hx => ?_⟩
    · rw [List.mapM_cons]
      simp only [Sem.run_bind, sizeOfT_spec hn, Result.andThen_ok, Sem.run_pure, h1]
    · cases i with
      | zero => simp [fieldPlaceL, hn] at hx; simpa using hx
      | succ i => exact h2 i x (by simpa [fieldPlaceL] using hx)
theorem buildOp_ok {t : TypeId} {ps : Array (Nat × Operand)} {ρ : Operand → Option Value} {e : Operand → Value} (hρ : Stands g B ρ e) (hr : buildOp P t (partsL ρ ps) = some r) : VOK g B P w (Instr.build t (ps.map fun (i, x) => (i, e x))) r := by
  unfold buildOp at hr
  split at hr
  · rename_i zs fields hz hu
    obtain ⟨⟨z, hz1, hz2⟩, hz3, hz4⟩ := zeroCells_ok (g := g) (B := B) hz
    cases hk : sizesKnown P fields.toList <;> simp only [hk, cond_true, cond_false, reduceCtorEq] at hr
    split at hr
    · rename_i cs hcs
      rw [forceL_eq] at hr
      obtain ⟨e3, e4, _, _⟩ := val_v hr
      obtain ⟨pl, hp1, hp2⟩ := mapM_places hk w
      obtain ⟨h1, h2⟩ := fillL_ok hρ (place' := (pl.toArray[·]?)) (fun i x hx => by simpa using hp2 i x hx) hcs
      refine ⟨e4, e3 ▸ InB.agg.2 (h2 hz4), ?_⟩
      rw [hz3] at h1
      have hpl : (fields.mapM (m := Sem) fun f => do pure (f.offset, ← sizeOf f.type)).run P w = .ok pl.toArray w := by
        have : (fields.mapM (m := Sem) fun f => do pure (f.offset, ← sizeOf f.type)) = List.toArray <$> (fields.toList.mapM (m := Sem) fun f => do pure (f.offset, ← sizeOf f.type)) := by
          exact Array.mapM_eq_mapM_toList ..
        rw [this, Sem.run_map, hp1]; rfl
      have hps : (ps.map fun (i, x) => (i, e x)).toList = ps.toList.map fun (i, x) => (i, e x) := by simp
      simp only [Instr.build, Sem.run_bind, hz1, Result.andThen_ok, Sem.run_pure, run_underlying hu, hpl, hps, hz2, h1, e3, ren_agg]
      simp
    · simp at hr
  · rename_i zs n el hz hu
    obtain ⟨⟨z, hz1, hz2⟩, hz3, hz4⟩ := zeroCells_ok (g := g) (B := B) hz
    split at hr
    · rename_i s hs
      split at hr
      · rename_i cs hcs
        rw [forceL_eq] at hr
        obtain ⟨e3, e4, _, _⟩ := val_v hr
        obtain ⟨h1, h2⟩ := fillL_ok hρ (place' := fun i => some (i * s, s)) (fun i x hx => hx) hcs
        refine ⟨e4, e3 ▸ InB.agg.2 (h2 hz4), ?_⟩
        rw [hz3] at h1
        have hps : (ps.map fun (i, x) => (i, e x)).toList = ps.toList.map fun (i, x) => (i, e x) := by simp
        simp only [Instr.build, Sem.run_bind, hz1, Result.andThen_ok, Sem.run_pure, run_underlying hu, sizeOfT_spec hs, hps, hz2, h1, e3, ren_agg]
        simp
      · simp at hr
    · simp at hr
  · simp at hr
theorem makeFuncOp_ok {fn : Fn} {x c : Array Operand} {ρ : Operand → Option Value} {e : Operand → Value} (hρ : Stands g B ρ e) (hr : makeFuncOp fn (evs ρ x.toList) (evs ρ c.toList) = some r) : VOK g B P w (Instr.makeFunc fn (x.map e) (c.map e)) r := by
  unfold makeFuncOp at hr
  split at hr
  · rename_i xs cs hx hc
    cases h1 : allB leaf xs <;> rw [h1] at hr
    · exact absurd hr (by simp)
    cases h2 : allB leaf cs <;> rw [h2] at hr
    · exact absurd hr (by simp)
    simp only [cond_true] at hr
    obtain ⟨e3, e4, _, _⟩ := val_v hr
    obtain ⟨x1, x2, _⟩ := evs_spec hρ hx
    obtain ⟨c1, c2, _⟩ := evs_spec hρ hc
    have l1 : ∀ g', xs.map (ren g') = xs.map (ren0 g') := fun g' => List.map_congr_left fun v hv => ren_leaf g' (allB_iff.1 h1 v hv)
    have l2 : ∀ g', cs.map (ren g') = cs.map (ren0 g') := fun g' => List.map_congr_left fun v hv => ren_leaf g' (allB_iff.1 h2 v hv)
    have xa : x.map e = (xs.map (ren g)).toArray := Array.ext' (by rw [Array.toList_map, x1])
    have ca : c.map e = (cs.map (ren g)).toArray := Array.ext' (by rw [Array.toList_map, c1])
    refine ⟨e4, ?_, ?_⟩
    · rw [e3]
      intro g1 g2 a
      have y1 : xs.map (ren g1) = xs.map (ren g2) := List.map_congr_left fun v hv => x2 v hv g1 g2 a
      have y2 : cs.map (ren g1) = cs.map (ren g2) := List.map_congr_left fun v hv => c2 v hv g1 g2 a
      rw [l1, l1] at y1
      rw [l2, l2] at y2
      simp [ren, ren1, y1, y2]
    · rw [e3, xa, ca, l1, l2]
      simp [Instr.makeFunc, ren, ren1]
  · simp at hr
theorem fold2_ok {f : Int → Int → Int} {k : IntKind} {m2 : Value → Value → Sem Value} (hm : ∀ x k' y, m2 (.int k x) (.int k' y) = pure (.int k (f x y))) : ∀ {l : List Value} {x : Int} {v : Value}, fold2 f k x l = some v → ((l.map (ren g)).foldlM m2 (.int k x)).run P w = .ok v w ∧ ∃ n, v = .int k n
  | [], x, v, h => by
    simp [fold2] at h; subst h; exact ⟨rfl, _, rfl⟩
  | u :: l, x, v, h => by
    cases u <;> simp only [fold2, reduceCtorEq] at h
    rename_i k' y
    obtain ⟨h1, h2⟩ := fold2_ok hm h
    refine ⟨?_, h2⟩
    simp only [List.map_cons, List.foldlM_cons, ren_int, hm, Sem.run_bind, Sem.run_pure, Result.andThen_ok, h1]
theorem builtinOp_ok {b : Builtin} {ts : Array TypeId} {xs : List Operand} {ρ : Operand → Option Value} {e : Operand → Value} (hρ : Stands g B ρ e) (ty : TypeId) (consts : Array Bool) (hr : builtinOp P b ts (evs ρ xs) = some r) :
    r.us = [] ∧ InB B r.v ∧ (builtin b ts ty consts (xs.map e).toArray).run P w = .ok (.value (ren g r.v)) w := by
  unfold builtinOp at hr
  split at hr
  · rename_i x hx
    obtain ⟨x1, x2, -⟩ := evs_spec hρ hx
    split at hr
    · rename_i t tl hts
      have ht : ts[0]? = some t := by rw [← Array.getElem?_toList, hts]; rfl
      split at hr
      · rename_i el a n c hu
        obtain ⟨e3, e4, _, _⟩ := val_v hr
        refine ⟨e4, e3 ▸ InB.gnd rfl, ?_⟩
        rw [x1, e3]
        cases a <;> simp [builtin, Builtin.len_, ht, ren, ren1, ren0, run_underlying hu, goInt, goLen]
      · rename_i n el v hu
        obtain ⟨e3, e4, _, _⟩ := val_v hr
        refine ⟨e4, e3 ▸ InB.gnd rfl, ?_⟩
        rw [x1, e3]
        simp [builtin, Builtin.len_, ht, run_underlying hu, goInt, goLen, ren_int]
      · simp at hr
    · simp at hr
  · rename_i k x l hx
    obtain ⟨x1, x2, -⟩ := evs_spec hρ hx
    split at hr
    · rename_i v hv
      obtain ⟨e3, e4, _, _⟩ := val_v hr
      obtain ⟨h1, n, h2⟩ := fold2_ok (g := g) (P := P) (w := w) (m2 := Builtin.max2) (fun x k' y => rfl) hv
      subst h2
      refine ⟨e4, e3 ▸ InB.gnd rfl, ?_⟩
      rw [x1, e3]
      simp only [builtin, Builtin.max_, List.map_cons, ren_int, List.toList_toArray, Sem.run_bind, h1, Result.andThen_ok, Sem.run_pure]
    · simp at hr
  · rename_i k x l hx
    obtain ⟨x1, x2, -⟩ := evs_spec hρ hx
    split at hr
    · rename_i v hv
      obtain ⟨e3, e4, _, _⟩ := val_v hr
      obtain ⟨h1, n, h2⟩ := fold2_ok (g := g) (P := P) (w := w) (m2 := Builtin.min2) (fun x k' y => rfl) hv
      subst h2
      refine ⟨e4, e3 ▸ InB.gnd rfl, ?_⟩
      rw [x1, e3]
      simp only [builtin, Builtin.min_, List.map_cons, ren_int, List.toList_toArray, Sem.run_bind, h1, Result.andThen_ok, Sem.run_pure]
    · simp at hr
  · simp at hr
end
end Go.Proofs.Ytmgkmekknhggbaa.Ev
