/-
  Summaries of functions that touch memory, by their runs: names are kept, new blocks are told anew. No condition.
-/
import Derived.Test.YtmgkmekknhggbaaEvHeap
set_option linter.unusedVariables false
set_option linter.unusedSimpArgs false
namespace Go.Proofs.Ytmgkmekknhggbaa.Ev
open Go Go.RowKit
/-! ### Names of a value -/
def nm0 : Value → List Nat
  | .pointer (some a) => [a.block]
  | .slice (some a) _ _ => [a.block]
  | .map (some r) => [r]
  | _ => []
def nmL (f : Value → List Nat) : List Value → List Nat
  | [] => []
  | v :: l => f v ++ nmL f l
def nm1 : Value → List Nat
  | .agg ⟨cs⟩ => nmL nm0 cs
  | .func _ ⟨x⟩ ⟨c⟩ => nmL nm0 x ++ nmL nm0 c
  | v => nm0 v
def nms : Value → List Nat
  | .tuple ⟨vs⟩ => nmL nm1 vs
  | v => nm1 v
theorem mem_nmL {f : Value → List Nat} {k : Nat} {v : Value} : ∀ {l : List Value}, v ∈ l → k ∈ f v → k ∈ nmL f l
  | u :: l, h, hk => by
    simp only [nmL, List.mem_append]
    rcases List.mem_cons.1 h with rfl | h
    · exact Or.inl hk
    · exact Or.inr (mem_nmL h hk)
def AgreeAt (g1 g2 : Nm) (k : Nat) : Prop := g1.blk k = g2.blk k ∧ g1.base k = g2.base k ∧ g1.cap k = g2.cap k
theorem ren0_names {g1 g2 : Nm} {v : Value} (h : ∀ k ∈ nm0 v, AgreeAt g1 g2 k) : ren0 g1 v = ren0 g2 v := by
  cases v with
  | pointer a => cases a with
    | none => rfl
    | some a => have := h a.block (by simp [nm0]); simp only [ren0, renA, this.1, this.2.1]
  | slice a l c => cases a with
    | none => rfl
    | some a => have := h a.block (by simp [nm0]); simp only [ren0, renA, capOf, this.1, this.2.1, this.2.2]
  | map r => cases r with
    | none => rfl
    | some r => have := h r (by simp [nm0]); simp only [ren0, this.1]
  | _ => rfl
theorem ren1_names {g1 g2 : Nm} {v : Value} (h : ∀ k ∈ nm1 v, AgreeAt g1 g2 k) : ren1 g1 v = ren1 g2 v := by
  have key : ∀ l : List Value, (∀ k ∈ nmL nm0 l, AgreeAt g1 g2 k) → l.map (ren0 g1) = l.map (ren0 g2) := fun l hl =>
    List.map_congr_left fun u hu => ren0_names fun k hk => hl k (mem_nmL hu hk)
  cases v with
  | agg cs => cases cs; rename_i l; simp only [ren1, List.map_toArray, key l h]
  | func fn x c =>
    cases x; cases c; rename_i l l'
    simp only [ren1, List.map_toArray, key l (fun k hk => h k (List.mem_append_left _ hk)), key l' (fun k hk => h k (List.mem_append_right _ hk))]
  | pointer a => exact ren0_names h
  | slice a l c => exact ren0_names h
  | map r => exact ren0_names h
  | _ => rfl
theorem ren_names {g1 g2 : Nm} {v : Value} (h : ∀ k ∈ nms v, AgreeAt g1 g2 k) : ren g1 v = ren g2 v := by
  cases v with
  | tuple vs => cases vs; rename_i l; simp only [ren, List.map_toArray]; rw [List.map_congr_left fun u hu => ren1_names fun k hk => h k (mem_nmL hu hk)]
  | agg cs => exact ren1_names (v := .agg cs) h
  | func fn x c => exact ren1_names (v := .func fn x c) h
  | pointer a => exact ren0_names h
  | slice a l c => exact ren0_names h
  | map r => exact ren0_names h
  | _ => rfl
theorem rn0_names {f : Nat → Nat} {v : Value} (h : ∀ k ∈ nm0 v, f k = k) : rn0 f v = v := by
  cases v with
  | pointer a => cases a with
    | none => rfl
    | some a => have := h a.block (by simp [nm0]); simp only [rn0, rnA, this]
  | slice a l c => cases a with
    | none => rfl
    | some a => have := h a.block (by simp [nm0]); simp only [rn0, rnA, this]
  | map r => cases r with
    | none => rfl
    | some r => have := h r (by simp [nm0]); simp only [rn0, this]
  | _ => rfl
theorem mapL_id {f : Value → Value} : ∀ {l : List Value}, (∀ v ∈ l, f v = v) → mapL f l = l
  | [], _ => rfl
  | v :: l, h => by simp only [mapL]; rw [h v (by simp), mapL_id fun u hu => h u (by simp [hu])]
theorem rn1_names {f : Nat → Nat} {v : Value} (h : ∀ k ∈ nm1 v, f k = k) : rn1 f v = v := by
  cases v with
  | agg cs => cases cs; rename_i l; simp only [rn1]; rw [mapL_id fun u hu => rn0_names fun k hk => h k (mem_nmL hu hk)]
  | func fn x c =>
    cases x; cases c; rename_i l l'
    simp only [rn1]
    rw [mapL_id fun u hu => rn0_names fun k hk => h k (List.mem_append_left _ (mem_nmL hu hk)), mapL_id fun u hu => rn0_names fun k hk => h k (List.mem_append_right _ (mem_nmL hu hk))]
  | pointer a => exact rn0_names h
  | slice a l c => exact rn0_names h
  | map r => exact rn0_names h
  | _ => rfl
theorem rn_names {f : Nat → Nat} {v : Value} (h : ∀ k ∈ nms v, f k = k) : rn f v = v := by
  cases v with
  | tuple vs => cases vs; rename_i l; simp only [rn]; rw [mapL_id fun u hu => rn1_names fun k hk => h k (mem_nmL hu hk)]
  | agg cs => exact rn1_names (v := .agg cs) h
  | func fn x c => exact rn1_names (v := .func fn x c) h
  | pointer a => exact rn0_names h
  | slice a l c => exact rn0_names h
  | map r => exact rn0_names h
  | _ => rfl
/-! ### The summary -/
def dedup : List Nat → List Nat
  | [] => []
  | k :: ks => bif memN k (dedup ks) then dedup ks else k :: dedup ks
def without (ks : List Nat) : List Nat → List Nat
  | [] => []
  | k :: l => bif memN k ks then without ks l else k :: without ks l
def nodupB : List Nat → Bool
  | [] => true
  | k :: ks => bif memN k ks then false else nodupB ks
def subB (l ks : List Nat) : Bool := allB (fun k => memN k ks) l
def maxL : List Nat → Nat
  | [] => 0
  | k :: ks => bif Nat.ble k (maxL ks) then maxL ks else k
def idP : List Nat → List (Nat × Nat)
  | [] => []
  | k :: ks => (k, k) :: idP ks
def toP : List Nat → Nat → List (Nat × Nat)
  | [], _ => []
  | k :: ks, n => (k, n) :: toP ks (n + 1)
def plainB : Blk → Bool
  | .cells cs _ | .vec cs _ _ | .ro cs => allB leafG cs
  | .map _ _ _ _ _ => true
def oldB (H0 : Heap) (k : Nat) : Bool := match H0 k with
  | some b => plainB b
  | none => false
def newB (H1 : Heap) (k : Nat) : Bool := match H1 k with
  | some b => bif plainB b then b.wr else false
  | none => false
def keepB (H0 H1 : Heap) (k : Nat) : Bool := match H1 k with
  | some b => bif plainB b then (match b.wr with
    | true => (match H0 k with
      | some b0 => b0.wr
      | none => false)
    | false => true) else false
  | none => true
theorem nodupB_ok : ∀ {l : List Nat}, nodupB l = true → l.Nodup
  | [], _ => List.nodup_nil
  | k :: ks, h => by
    simp only [nodupB] at h
    cases hm : memN k ks <;> simp only [hm, cond_true, cond_false, Bool.false_eq_true] at h
    exact List.nodup_cons.2 ⟨fun hk => by rw [memN_iff.2 hk] at hm; simp at hm, nodupB_ok h⟩
theorem subB_ok {l ks : List Nat} (h : subB l ks = true) : ∀ k ∈ l, k ∈ ks := fun k hk => memN_iff.1 (allB_iff.1 h k hk)
theorem maxL_ge : ∀ {l : List Nat} {k : Nat}, k ∈ l → k ≤ maxL l
  | a :: l, k, h => by
    simp only [maxL]
    cases hb : Nat.ble a (maxL l) <;> simp only [cond_true, cond_false]
    · have h1 : maxL l < a := by
        rcases Nat.lt_or_ge (maxL l) a with h | h
        · exact h
        · rw [Nat.ble_eq_true_of_le h] at hb; simp at hb
      rcases List.mem_cons.1 h with rfl | h
      · exact Nat.le_refl _
      · have := maxL_ge h; omega
    · have h1 := Nat.le_of_ble_eq_true hb
      rcases List.mem_cons.1 h with rfl | h
      · exact h1
      · exact maxL_ge h
theorem plainB_ok {b : Blk} (h : plainB b = true) : b.plain := by
  cases b with
  | map => trivial
  | cells cs t => exact allB_iff.1 h
  | vec cs t n => exact allB_iff.1 h
  | ro cs => exact allB_iff.1 h
theorem idP_mem : ∀ {ks : List Nat} {j k : Nat}, (j, k) ∈ idP ks ↔ j = k ∧ k ∈ ks
  | [], j, k => by simp [idP]
  | a :: ks, j, k => by
    simp only [idP, List.mem_cons, Prod.mk.injEq, idP_mem (ks := ks)]
    constructor
    · rintro (⟨rfl, rfl⟩ | ⟨rfl, h⟩)
      · exact ⟨rfl, Or.inl rfl⟩
      · exact ⟨rfl, Or.inr h⟩
    · rintro ⟨rfl, rfl | h⟩
      · exact Or.inl ⟨rfl, rfl⟩
      · exact Or.inr ⟨rfl, h⟩
theorem idP_fst : ∀ ks : List Nat, (idP ks).map (·.1) = ks
  | [] => rfl
  | a :: ks => by simp [idP, idP_fst ks]
theorem idP_snd : ∀ ks : List Nat, (idP ks).map (·.2) = ks
  | [] => rfl
  | a :: ks => by simp [idP, idP_snd ks]
theorem toP_fst : ∀ (ks : List Nat) (n : Nat), (toP ks n).map (·.1) = ks
  | [], _ => rfl
  | a :: ks, n => by simp [toP, toP_fst ks]
theorem toP_mem : ∀ {ks : List Nat} {n m k : Nat}, (m, k) ∈ toP ks n → m ∈ ks ∧ n ≤ k ∧ k < n + ks.length
  | [], n, m, k, h => by simp [toP] at h
  | a :: ks, n, m, k, h => by
    simp only [toP, List.mem_cons, Prod.mk.injEq] at h
    rcases h with ⟨rfl, rfl⟩ | h
    · exact ⟨by simp, by omega, by simp⟩
    · obtain ⟨h1, h2, h3⟩ := toP_mem h
      exact ⟨by simp [h1], by omega, by simp; omega⟩
noncomputable def heapCore (P : Program) (fn : Func) (args : List Value) (ks : List Nat) (H0 : Heap) (nm : Nat) : Out → Option Res
  | .ret S => match resOf P fn S with
    | some v =>
      bif subB (nmL nms args) ks then bif nodupB ks then bif allB (oldB H0) ks then
      bif nodupB (ks ++ without ks (dedup (nms v))) then bif nodupB (((idP ks) ++ (toP (without ks (dedup (nms v))) nm)).map (·.2)) then bif Nat.ble (without ks (dedup (nms v))).length 4 then
      bif allB (newB S.H) (without ks (dedup (nms v))) then bif allB (keepB H0 S.H) ks then bif subB (nms v) (ks ++ without ks (dedup (nms v))) then
        some ⟨rn (look (idP ks ++ toP (without ks (dedup (nms v))) nm)) v, usOf (idP ks ++ toP (without ks (dedup (nms v))) nm) S.H, ks, S.ob⟩
      else none else none else none else none else none else none else none else none else none
    | none => none
  | _ => none
noncomputable def heapRun (P : Program) (sums : Sums) (hint : Nat → Nat → Nat → Hint) (ws : List W) (f : FuncId) : List Value → Heap → Nat → Option Res := fun args H nm =>
  match P.funcs.toList[f]? with
  | some fn => match fn.body with
    | some c => heapCore P fn args (dedup (nmL nms args)) (restrict (dedup (nmL nms args)) H) nm (runH P sums hint ws fn c args (restrict (dedup (nmL nms args)) H) (maxL (dedup (nmL nms args)) + 1))
    | none => none
  | none => none
theorem heapRun_ok {P : Program} (hm : P.follows .mixedOrders = true) (hN : namesB P = true) {sums : Sums} (hS : SumsOK P sums) {f : FuncId} {fn : Func} {c : Code} (hf : P.funcs[f]? = some fn) (hb : fn.body = some c) (hint : Nat → Nat → Nat → Hint) (ws : List W) : SumOK P f (heapRun P sums hint ws f) := by
  have hf' : P.funcs.toList[f]? = some fn := by rw [Array.getElem?_toList]; exact hf
  refine ⟨enters_of hN hf hb, ?_, ?_⟩
  · intro args H nm r hr hob M w0 g B w hH hargs hn
    simp only [heapRun, hf', hb] at hr
    generalize hks : dedup (nmL nms args) = ks at hr
    cases hrun : runH P sums hint ws fn c args (restrict ks H) (maxL ks + 1) with
    | ret S =>
      rw [hrun] at hr
      simp only [heapCore] at hr
      split at hr
      · rename_i v hv
        generalize hms : without ks (dedup (nms v)) = ms at hr
        have p1 := bifB hr
        have p2 := bifB p1.2
        have p3 := bifB p2.2
        have p4 := bifB p3.2
        have p5 := bifB p4.2
        have p6 := bifL p5.2
        have p7 := bifB p6.2
        have p8 := bifB p7.2
        have p9 := bifB p8.2
        have hr9 := p9.2
        simp only [Option.some.injEq] at hr9
        subst hr9
        have hspec := spec_run (f := f) hm hS hf hb (args := args) (H0 := restrict ks H) (nx := maxL ks + 1) (hint := hint) (ws := ws) (v := v) (by rw [hrun]; exact hv) (by rw [hrun]; exact all_iff.2 hob)
        rw [hrun] at hspec
        have hin : ∀ u ∈ args, ∀ k ∈ nms u, k ∈ ks := fun u hu k hk => subB_ok p1.1 k (mem_nmL hu hk)
        have hlook : ∀ k ∈ ks, look (idP ks) k = k := fun k hk => look_spec (by rw [idP_fst]; exact nodupB_ok p2.1) (idP_mem.2 ⟨rfl, hk⟩)
        have := spec_calls (old := idP ks) (new := toP ms nm) (nm := nm) hspec (by rw [List.map_append, idP_fst, toP_fst]; exact nodupB_ok p4.1) (nodupB_ok p5.1)
          (fun j k h => by
            obtain ⟨rfl, hk⟩ := idP_mem.1 h
            refine ⟨by have := maxL_ge hk; omega, ?_⟩
            have h3 := allB_iff.1 p3.1 j hk
            unfold oldB at h3
            split at h3
            · rename_i b hb'
              exact ⟨b, (restrict_some hb').2, hb', plainB_ok h3⟩
            · simp at h3)
          (fun j b h => ⟨j, idP_mem.2 ⟨rfl, (restrict_some h).1⟩⟩)
          (fun m k h => by
            obtain ⟨h1, h2, h3⟩ := toP_mem h
            have h4 := p6.1
            refine ⟨⟨h2, by omega⟩, ?_⟩
            have h5 := allB_iff.1 p7.1 m h1
            unfold newB at h5
            split at h5
            · rename_i b hb'
              cases hp : plainB b <;> simp only [hp, cond_true, cond_false, Bool.false_eq_true] at h5
              exact ⟨b, hb', plainB_ok hp, h5⟩
            · simp at h5)
          (fun j k h b hb' => by
            obtain ⟨rfl, hk⟩ := idP_mem.1 h
            have h5 := allB_iff.1 p8.1 j hk
            unfold keepB at h5
            have hb2 : S.H j = some b := hb'
            rw [hb2] at h5
            simp only at h5
            cases hp : plainB b <;> simp only [hp, cond_true, cond_false, Bool.false_eq_true] at h5
            refine ⟨plainB_ok hp, fun hw => ?_⟩
            rw [hw] at h5
            simp only at h5
            split at h5
            · rename_i b0 hb0
              exact ⟨b0, hb0, h5⟩
            · simp at h5)
          (fun g1 g2 hg => ren_names fun k hk => by
            have := subB_ok p9.1 k hk
            rcases List.mem_append.1 this with h | h
            · exact hg k k (List.mem_append_left _ (idP_mem.2 ⟨rfl, h⟩))
            · have h' : k ∈ (toP ms nm).map (·.1) := by rw [toP_fst]; exact h
              obtain ⟨⟨m, k'⟩, hm', he⟩ := List.mem_map.1 h'
              simp only at he; subst he
              exact hg m k' (List.mem_append_right _ hm'))
          (fun u hu g1 g2 hg => ren_names fun k hk => hg k k (idP_mem.2 ⟨rfl, hin u hu k hk⟩))
          hH hn
        have hid : args.map (rn (look (idP ks))) = args := by
          conv => rhs; rw [← List.map_id args]
          exact List.map_congr_left fun u hu => rn_names fun k hk => hlook k (hin u hu k hk)
        rw [hid] at this
        exact this
      · simp at hr
    | fork t x y ob => rw [hrun] at hr; simp [heapCore] at hr
    | fail => rw [hrun] at hr; simp [heapCore] at hr
    | atK k S => rw [hrun] at hr; simp [heapCore] at hr
  · intro args H nm r hr H' hH'
    simp only [heapRun, hf', hb] at hr ⊢
    generalize hks : dedup (nmL nms args) = ks at hr ⊢
    have hrs : r.rs = ks := by
      unfold heapCore at hr
      split at hr
      · split at hr
        · have p1 := bifB hr
          have p2 := bifB p1.2
          have p3 := bifB p2.2
          have p4 := bifB p3.2
          have p5 := bifB p4.2
          have p6 := bifL p5.2
          have p7 := bifB p6.2
          have p8 := bifB p7.2
          have p9 := bifB p8.2
          have hr9 := p9.2
          simp only [Option.some.injEq] at hr9
          rw [← hr9]
        · simp at hr
      · simp at hr
    have : restrict ks H' = restrict ks H := by
      funext k
      unfold restrict
      cases hm' : memN k ks
      · rfl
      · simp only [cond_true]; exact hH' k (by rw [hrs]; exact memN_iff.1 hm')
    rw [this]; exact hr
/-- Numbers alone first, then with memory. -/
theorem or_ok {P : Program} {f : FuncId} {s1 : List Value → Option Res} {s2 : List Value → Heap → Nat → Option Res} (h1 : SumOK P f (fun args _ _ => s1 args)) (h2 : SumOK P f s2) :
    SumOK P f (fun args H nm => match s1 args with
      | some r => some r
      | none => s2 args H nm) := by
  refine ⟨h1.1, ?_, ?_⟩
  · intro args H nm r hr hob
    simp only at hr
    cases h : s1 args with
    | some r1 =>
      rw [h] at hr
      simp only [Option.some.injEq] at hr
      subst hr
      exact h1.2.1 args H nm r1 h hob
    | none =>
      rw [h] at hr
      exact h2.2.1 args H nm r hr hob
  · intro args H nm r hr H' hH'
    simp only at hr ⊢
    cases h : s1 args with
    | some r1 => rw [h] at hr; exact hr
    | none => rw [h] at hr; exact h2.2.2 args H nm r hr H' hH'
/-- Summaries that are given, and for all other functions their runs, so deep; memory too. -/
noncomputable def autoH (P : Program) (given : Sums) (ways : FuncId → List W) (hints : FuncId → Nat → Nat → Nat → Hint) : Nat → Sums
  | 0 => given
  | d + 1 => fun f => match given f with
    | some s => some s
    | none => match P.funcs.toList[f]? with
      | some fn => match fn.body with
        | some _ => some fun args H nm => match callRun P (autoH P given ways hints d) (hints f) (ways f) f args with
          | some r => some r
          | none => heapRun P (autoH P given ways hints d) (hints f) (ways f) f args H nm
        | none => none
      | none => none
theorem autoH_ok {P : Program} (hm : P.follows .mixedOrders = true) (hN : namesB P = true) {given : Sums} (hg : SumsOK P given) (ways : FuncId → List W) (hints : FuncId → Nat → Nat → Nat → Hint) : ∀ d, SumsOK P (autoH P given ways hints d)
  | 0 => hg
  | d + 1 => by
    intro f s hs
    simp only [autoH] at hs
    split at hs
    · rename_i s' hs'
      simp at hs; subst hs
      exact hg f s' hs'
    · split at hs
      · rename_i fn hfn
        split at hs
        · rename_i c hc
          have hfn' : P.funcs[f]? = some fn := by simpa using hfn
          have hd := autoH_ok hm hN hg ways hints d
          have h1 : SumOK P f (fun args _ _ => callRun P (autoH P given ways hints d) (hints f) (ways f) f args) := by
            refine sum_of_pure (enters_of hN hfn' hc) fun args r hr hob => ?_
            obtain ⟨h1, h2, h3, h4, h5⟩ := callRun_calls hm hd hr hob
            exact ⟨h1, h3, h4, h5⟩
          have := or_ok h1 (heapRun_ok hm hN hd hfn' hc (hints f) (ways f))
          simp only [Option.some.injEq] at hs
          rw [← hs]
          exact this
        · simp at hs
      · simp at hs
end Go.Proofs.Ytmgkmekknhggbaa.Ev
