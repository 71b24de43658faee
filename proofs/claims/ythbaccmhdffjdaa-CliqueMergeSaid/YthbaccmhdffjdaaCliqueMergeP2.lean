/-
  The row of the law copselaw15.CliqueMerge: for every input the call returns true, and each argument reads afterwards as it read before. No condition beside the form's own.
-/
import Derived.Laws.IdiomRangeMap
import Derived.Test.YthbaccmhdffjdaaProg
import Derived.Test.YthbaccmhdffjdaaRows
import Derived.WalkKit
import Derived.ProofKit
import Derived.OpenShut
import Derived.Deep.Slices
import Derived.RowKit
import Derived.RowKit3
import Derived.Laws.BitsAllLaws
import Derived.Laws.BitsLemmas
import Derived.Laws.Bits64
import Derived.Below
import Derived.WalkLawsBesides
import Derived.KernelRfl
import Derived.Lib.Hide
import Derived.ShutString
import Derived.ChangeOld
import Derived.SizedLaws
import Derived.Test.YthbaccmhdffjdaaCliqueMergeP1
set_option linter.unusedVariables false
set_option linter.unusedSimpArgs false
namespace Go.Proofs.Ythbaccmhdffjdaa.Ev
open Go Go.RowKit
/-- Code unfolded up to its first region. -/
def peel : Nat → List Ctl → List Ctl
  | 0, k => k
  | n + 1, .code (.seq x y) :: k => peel n (.code x :: .code y :: k)
  | n + 1, .code (.block id c) :: k => peel n (.code c :: .inBlock id :: k)
  | n + 1, .code .skip :: k => peel n k
  | _ + 1, k => k
theorem sat_peel {E : Env} {S : St} : ∀ (n : Nat) (k : List Ctl), Sat E (peel n k) S → Sat E k S
  | 0, k, h => h
  | n + 1, k, h => by
    unfold peel at h
    split at h
    · simp at *
    · rename_i n' x y k' e1
      obtain rfl : n' = n := by omega
      have := sat_peel n' _ h
      exact fun g a w hc => wp_seq (this g a w hc)
    · rename_i n' id c k' e1
      obtain rfl : n' = n := by omega
      have := sat_peel n' _ h
      exact fun g a w hc => wp_block (this g a w hc)
    · rename_i n' k' e1
      obtain rfl : n' = n := by omega
      have := sat_peel n' _ h
      exact fun g a w hc => wp_skip (this g a w hc)
    · exact h
/-- What 'next' does: nothing is left, or one entry that is left comes out. -/
theorem run_next {P : Program} (w : World) (ty : TypeId) (r bm since c0 : Nat) (seen : Array Nat) (es : Array MapEntry) (clock : Nat) (hr : w.heap[r]? = some (.mapIter (some bm) since seen c0)) (hb : w.heap[bm]? = some (.map es clock)) (hold : ∀ x ∈ es.toList, x.born < since) (hsc : since ≤ c0) :
    ((leftOf es seen).size = 0 ∧ (Instr.next (.pointer (some ⟨r, 0, none⟩)) false ty).run P w = .ok (.tuple #[.bool false]) w) ∨
    ∃ e ∈ (leftOf es seen).toList, ∃ d : Nat, (Instr.next (.pointer (some ⟨r, 0, none⟩)) false ty).run P w = .ok (.tuple #[.bool true, e.key, e.val]) { w with heap := w.heap.setIfInBounds r (.mapIter (some bm) since (seen.push e.born) clock), drawn := d } := by
  simp only [Instr.next, getObj, Sem.run_bind, Sem.run, hr, hb, Result.andThen, next_test_false seen es since c0 hold hsc, Bool.false_eq_true, if_false]
  unfold leftOf
  have hmem : ∀ x ∈ (Array.filter (fun e => !seen.contains e.born) es).toList, x.born < since := fun x hx => hold x (by simp at hx ⊢; exact hx.1)
  generalize Array.filter (fun e => !seen.contains e.born) es = L at hmem ⊢
  have e1 : L.filter (fun x => decide (x.born < since)) = L := Array.filter_eq_self.2 (fun x hx => by simpa using hmem x (by simpa using hx))
  have e2 : L.filter (fun x => decide (x.born ≥ since)) = #[] := by
    rw [Array.filter_eq_empty_iff]
    intro x hx
    have := hmem x (by simpa using hx)
    simp
    omega
  simp only [e1, e2, Array.append_empty]
  by_cases h0 : L.size = 0
  · left
    have : L = #[] := Array.eq_empty_of_size_eq_zero h0
    subst this
    refine ⟨rfl, ?_⟩
    simp [choose, Sem.run, Question.forced]
  · right
    have hne : L.isEmpty = false := by simp [Array.isEmpty, h0]
    simp only [hne, Bool.false_eq_true, if_false, Array.empty_append, Array.size_map]
    have hch : ∃ (j d : Nat), j < L.size ∧ (choose (Question.mapNext L.size)).run P w = .ok j { w with drawn := d } := by
      by_cases hf : L.size ≤ 1
      · exact ⟨0, w.drawn, by omega, by simp [choose, Sem.run, Question.forced, hf]⟩
      · exact ⟨_, w.drew.drawn, Nat.mod_lt _ (by omega), by
          simp only [choose, Sem.run, Question.forced, decide_eq_true_eq, hf, if_false, Question.cut]
          rfl⟩
    obtain ⟨j, d, hj, hrun⟩ := hch
    refine ⟨L[j], by simp, d, ?_⟩
    have hset : ∀ o', (setObj r o').run P { w with drawn := d } = .ok () { w with heap := w.heap.setIfInBounds r o', drawn := d } := fun o' => by
      simp only [setObj, Sem.run]
      rw [show ({ w with drawn := d } : World).heap[r]? = some (.mapIter (some bm) since seen c0) from hr]
    simp only [hrun, Array.getElem?_map, Array.getElem?_eq_getElem hj, Option.map_some, Sem.run_bind, hset, Result.andThen]
    rfl
def stNo (S : St) (t0 t1 : Nat) : St := ⟨upd (upd S.T t0 (some (.tuple ⟨[.bool false]⟩))) t1 (some (.bool false)), S.H, S.nx, S.c, S.ob⟩
def stYes (S : St) (t0 t1 j k since : Nat) (seen : List Nat) (clock : Nat) (e : Ent) : St := ⟨upd (upd S.T t0 (some (.tuple ⟨[.bool true, e.1, e.2.1]⟩))) t1 (some (.bool true)), upd S.H j (some (.it k since (seen ++ [e.2.2]) clock)), S.nx, S.c, S.ob⟩
theorem hc_drawn {M : Nat → Prop} {w0 w : World} {g : Nm} {B : Nat → Prop} {H : Heap} (h : HC M w0 g B H w) (d : Nat) : HC M w0 g B H { w with drawn := d } :=
  ⟨⟨h.below.os, h.below.tape, h.below.output, h.below.size, h.below.block⟩, h.dom, h.scope, h.holds, h.own, h.inj⟩
theorem set_it {M : Nat → Prop} {w0 w : World} {g : Nm} {B : Nat → Prop} {H : Heap} (hH : HC M w0 g B H w) {j k since c c' : Nat} {seen seen' : List Nat} (hb : H j = some (.it k since seen c)) :
    HC M w0 g B (upd H j (some (.it k since seen' c'))) { w with heap := w.heap.setIfInBounds (g.blk j) (.mapIter (some (g.blk k)) since seen'.toArray c') } := by
  have hlt := hH.lt hb
  have h0 := hH.holds j _ hb
  refine hH.set hb rfl rfl rfl rfl rfl (by simp) (fun i hi => ?_) (show B k from hH.scope j (.it k since seen c) hb) ?_
  · simp [Array.getElem?_setIfInBounds_ne (Ne.symm hi)]
  · refine ⟨h0.1, ?_⟩
    simp [hlt]
theorem put_rc {An : Nm × (Nat → Prop)} {M : Nat → Prop} {w0 w w' : World} {n : Nat} {g : Nm} {B : Nat → Prop} {T : Tm} {H H' : Heap} {a : Act} (h : RC An M w0 n g B T H a w) (hc : HC M w0 g B H' w') {t : Nat} (ht : t < n) {v : Value} (hg : gnd v = true) : RC An M w0 n g B (upd T t (some v)) H' (a.put (some t) v) w' := by
  refine ⟨hc, by simp [Act.put, h.size], h.defers, fun i u hu => ?_, h.anch, h.sub⟩
  by_cases e : i = t
  · subst e
    rw [upd_self] at hu
    simp at hu; subst hu
    exact ⟨by rw [ren_gnd g hg]; simp [Act.put, h.size, ht], InB.gnd hg⟩
  · rw [upd_ne _ _ e] at hu
    obtain ⟨h1, h2⟩ := h.tm i u hu
    exact ⟨by simp [Act.put, Array.getElem?_setIfInBounds_ne (Ne.symm e), h1], h2⟩
theorem sat_next {E : Env} {id : Nat} {o0 o1 : Oper} {K : List Ctl} {S : St} {x : Operand} {t0 t1 j k since c clock : Nat} {seen : List Nat} {lay : List (Option IntKind)} {agg : Bool} {ek : Option IntKind} {es : List Ent}
    (h0 : o0.op = .next x false) (g0 : o0.guard = none) (d0 : o0.dst = some t0) (h1 : o1.op = .extract (.tmp t0) 0) (g1 : o1.guard = none) (d1 : o1.dst = some t1) (n0 : t0 < E.n) (n1 : t1 < E.n)
    (hx : ev S.T x = some (.pointer (some ⟨j, 0, none⟩))) (hj : S.H j = some (.it k since seen c)) (hk : S.H k = some (.map lay agg ek es clock)) (hold : ∀ e ∈ es, e.2.2 < since) (hsc : since ≤ c)
    (hend : (∀ e ∈ es, e.2.2 ∈ seen) → Sat E K (stNo S t0 t1)) (hnext : ∀ e ∈ es, e.2.2 ∉ seen → Sat E K (stYes S t0 t1 j k since seen clock e)) :
    Sat E (.code (.region id #[o0, o1] false) :: K) S := by
  intro g a w ⟨B, hB, hrc⟩
  refine wp_region ?_
  show wpOps _ _ _ [0, 1] a w
  rw [wpOps_cons]
  have hjw : g.base j = 0 ∧ w.heap[g.blk j]? = some (.mapIter (some (g.blk k)) since seen.toArray c) := hrc.hc.holds j _ hj
  have hkw : w.heap[g.blk k]? = some (.map (objMap es) clock) := hrc.hc.holds k _ hk
  have hxv := (hrc.stands x _ hx).1
  have hxe : a.eval x = .pointer (some ⟨g.blk j, 0, none⟩) := by rw [hxv]; simp [ren_ptr, renA_none, hjw.1]
  -- one operation
  have step : ∀ (i : Nat) (o : Oper) (KK : Act → World → Prop) (a : Act) (w : World), (#[o0, o1] : Array Oper)[i]? = some o → o.guard = none → o.wp E.P a w KK (wpK E.P E.R K) → wpOp E.P #[o0, o1] (wpK E.P E.R K) i KK a w := fun i o KK a w ho hg hw => by
    unfold wpOp
    simp only [ho]
    rw [if_pos (by simp [Region.wanted, hg])]
    exact .inl hw
  have ext : ∀ (S1 : St) (b : Bool) (vs : List Value) (a1 : Act) (w1 : World), RC E.An E.M E.w0 E.n g B S1.T S1.H a1 w1 → S1.T t0 = some (.tuple ⟨.bool b :: vs⟩) → gnd (.tuple ⟨.bool b :: vs⟩) = true → (∀ k, B k → k < S1.nx) → Sat E K ⟨upd S1.T t1 (some (.bool b)), S1.H, S1.nx, S1.c, S1.ob⟩ → wpOps E.P #[o0, o1] (wpK E.P E.R K) [1] a1 w1 := fun S1 b vs a1 w1 hr ht hg hB1 hs => by
    rw [wpOps_cons]
    refine step 1 o1 _ a1 w1 rfl g1 ?_
    obtain ⟨h2, _⟩ := hr.tm t0 _ ht
    rw [ren_gnd g hg] at h2
    have he : a1.eval (.tmp t0) = .tuple ⟨.bool b :: vs⟩ := by
      obtain ⟨hlt, he⟩ := Array.getElem?_eq_some_iff.1 h2
      simp [Act.eval, Array.getD, hlt, he]
    unfold Oper.wp
    have hex : (execOp a1.eval o1).run E.P w1 = .ok (.value (.bool b)) w1 := by
      unfold execOp
      rw [h1]
      simp only [he, Instr.extract]
      rfl
    rw [hex, Oper.upon_value, d1]
    exact hs g _ _ ⟨B, hB1, put_rc hr hr.hc n1 rfl⟩
  refine step 0 o0 _ a w rfl g0 ?_
  unfold Oper.wp
  rcases run_next (P := E.P) w o0.type (g.blk j) (g.blk k) since c seen.toArray (objMap es) clock hjw.2 hkw (fun y hy => by
    have : y ∈ es.map conv := by simpa [objMap] using hy
    obtain ⟨e, he, rfl⟩ := List.mem_map.1 this
    exact hold e he) hsc with ⟨hz, hrun⟩ | ⟨y, hy, d, hrun⟩
  · have hex : (execOp a.eval o0).run E.P w = .ok (.value (.tuple #[.bool false])) w := by
      unfold execOp
      rw [h0]
      simp only [hxe, Sem.run_bind, hrun, Result.andThen]
      rfl
    rw [hex, Oper.upon_value, d0]
    have hall : ∀ e ∈ es, e.2.2 ∈ seen := fun e he => by
      have hsz : leftOf (objMap es) seen.toArray = #[] := Array.eq_empty_of_size_eq_zero hz
      unfold leftOf at hsz
      rw [Array.filter_eq_empty_iff] at hsz
      have := hsz (conv e) (by simp only [objMap, List.mem_toArray, List.mem_map]; exact ⟨e, he, rfl⟩)
      simpa [conv] using this
    exact ext ⟨upd S.T t0 (some (.tuple ⟨[.bool false]⟩)), S.H, S.nx, S.c, S.ob⟩ false [] _ w (put_rc hrc hrc.hc n0 rfl) (upd_self _ _ _) rfl hB (hend hall)
  · have hm := mem_left hy
    have hyl : y ∈ es.map conv := by simpa [objMap] using hm.1
    obtain ⟨e, he, rfl⟩ := List.mem_map.1 hyl
    have hns : e.2.2 ∉ seen := by
      have := hm.2
      simpa [conv] using this
    obtain ⟨q1, q2⟩ := entry_gnd (hrc.hc.scope k _ hk) he
    have hg : gnd (.tuple ⟨[.bool true, e.1, e.2.1]⟩) = true := allB_iff.2 fun u hu => by
      simp at hu
      rcases hu with rfl | rfl | rfl
      · rfl
      · exact q1
      · exact q2
    have hex : (execOp a.eval o0).run E.P w = .ok (.value (.tuple ⟨[.bool true, e.1, e.2.1]⟩)) { w with heap := w.heap.setIfInBounds (g.blk j) (.mapIter (some (g.blk k)) since (seen ++ [e.2.2]).toArray clock), drawn := d } := by
      unfold execOp
      rw [h0]
      simp only [hxe, Sem.run_bind, hrun, Result.andThen]
      simp only [List.push_toArray]
      rfl
    rw [hex, Oper.upon_value, d0]
    have hc' : HC E.M E.w0 g B (upd S.H j (some (.it k since (seen ++ [e.2.2]) clock))) { w with heap := w.heap.setIfInBounds (g.blk j) (.mapIter (some (g.blk k)) since (seen ++ [e.2.2]).toArray clock), drawn := d } := hc_drawn (set_it hrc.hc hj) d
    exact ext ⟨upd S.T t0 (some (.tuple ⟨[.bool true, e.1, e.2.1]⟩)), upd S.H j (some (.it k since (seen ++ [e.2.2]) clock)), S.nx, S.c, S.ob⟩ true [e.1, e.2.1] _ _ (put_rc hrc hc' n0 hg) (upd_self _ _ _) hg hB (hnext e he hns)
/-- Is the next thing a region of 'next' and 'extract' alone? -/
def nextOK (k : List Ctl) (tx t0 t1 : Nat) : Bool :=
  match k with
  | .code (.region _ ⟨[o0, o1]⟩ false) :: _ => match o0.op, o0.guard, o0.dst, o1.op, o1.guard, o1.dst with
    | .next (.tmp x) false, none, some a, .extract (.tmp a') 0, none, some b => Nat.beq x tx && (Nat.beq a t0 && (Nat.beq a' t0 && Nat.beq b t1))
    | _, _, _, _, _, _ => false
  | _ => false
/-- What follows it. -/
def afterN (k : List Ctl) : List Ctl := (peel 20 k).tail
theorem sat_nextB {E : Env} {k0 : List Ctl} {S : St} {tx t0 t1 j k since c clock : Nat} {seen : List Nat} {lay : List (Option IntKind)} {agg : Bool} {ek : Option IntKind} {es : List Ent}
    (hb : nextOK (peel 20 k0) tx t0 t1 = true) (n0 : t0 < E.n) (n1 : t1 < E.n)
    (hx : S.T tx = some (.pointer (some ⟨j, 0, none⟩))) (hj : S.H j = some (.it k since seen c)) (hk : S.H k = some (.map lay agg ek es clock)) (hold : ∀ e ∈ es, e.2.2 < since) (hsc : since ≤ c)
    (hend : (∀ e ∈ es, e.2.2 ∈ seen) → Sat E (afterN k0) (stNo S t0 t1)) (hnext : ∀ e ∈ es, e.2.2 ∉ seen → Sat E (afterN k0) (stYes S t0 t1 j k since seen clock e)) : Sat E k0 S := by
  refine sat_peel 20 k0 ?_
  unfold afterN at hend hnext
  generalize peel 20 k0 = kk at hb hend hnext ⊢
  unfold nextOK at hb
  split at hb
  · rename_i id o0 o1 K
    split at hb
    · rename_i x a a' b e1 e2 e3 e4 e5 e6
      simp only [Bool.and_eq_true] at hb
      obtain ⟨q1, q2, q3, q4⟩ := hb
      obtain rfl := Nat.eq_of_beq_eq_true q1
      obtain rfl := Nat.eq_of_beq_eq_true q2
      obtain rfl := Nat.eq_of_beq_eq_true q3
      obtain rfl := Nat.eq_of_beq_eq_true q4
      exact sat_next e1 e2 e3 e4 e5 e6 n0 n1 hx hj hk hold hsc hend hnext
    · simp at hb
  · simp at hb
end Go.Proofs.Ythbaccmhdffjdaa.Ev


set_option linter.unusedVariables false
set_option linter.unusedSimpArgs false
namespace Go.Proofs.Ythbaccmhdffjdaa.Ev
open Go Go.RowKit
def can0 : Value → Nat → Option (Value × List Nat)
  | .slice (some ⟨k, off, none⟩) n c, i => some (.slice (some ⟨i, off, none⟩) n c, [k])
  | v, _ => bif leafG v then some (v, []) else none
def canL (f : Value → Nat → Option (Value × List Nat)) : List Value → Nat → Option (List Value × List Nat)
  | [], _ => some ([], [])
  | v :: l, i => match f v i with
    | some (u, ks) => match canL f l (i + ks.length) with
      | some (us, ks') => some (u :: us, ks ++ ks')
      | none => none
    | none => none
def can1 : Value → Nat → Option (Value × List Nat)
  | .agg ⟨cs⟩, i => match canL can0 cs i with
    | some (us, ks) => some (.agg ⟨us⟩, ks)
    | none => none
  | v, i => can0 v i
def At (f : Nat → Nat) (i : Nat) (ks : List Nat) : Prop := ∀ j k, ks[j]? = some k → f (i + j) = k
theorem At.app {f : Nat → Nat} {i : Nat} {ks ks' : List Nat} (h : At f i (ks ++ ks')) : At f i ks ∧ At f (i + ks.length) ks' := by
  refine ⟨fun j k hj => ?_, fun j k hj => ?_⟩
  · have hlt := (List.getElem?_eq_some_iff.1 hj).1
    exact h j k (by rw [List.getElem?_append_left hlt]; exact hj)
  · have := h (ks.length + j) k (by rw [List.getElem?_append_right (by omega)]; simpa using hj)
    rw [← this]; congr 1; omega
def CanOK (r : (Nat → Nat) → Value → Value) (nn : Value → List Nat) (can : Value → Nat → Option (Value × List Nat)) : Prop :=
  ∀ v i u ks, can v i = some (u, ks) → (∀ f, At f i ks → r f u = v) ∧ ∀ m ∈ nn u, i ≤ m ∧ m < i + ks.length
theorem can0_ok : CanOK rn0 nm0 can0 := by
  intro v i u ks h
  unfold can0 at h
  split at h
  · rename_i k off n c
    simp at h; obtain ⟨rfl, rfl⟩ := h
    refine ⟨fun f hf => ?_, fun m hm => ?_⟩
    · have := hf 0 k rfl
      simp only [rn0, rnA]
      rw [show f i = k by simpa using this]
    · simp [nm0] at hm; subst hm; simp
  · rename_i hne
    cases hl : leafG v <;> rw [hl] at h <;> simp at h
    obtain ⟨rfl, rfl⟩ := h
    exact ⟨fun f _ => rn0_leafG f hl, fun m hm => by rw [nm0_leafG hl] at hm; simp at hm⟩
theorem canL_ok {r : (Nat → Nat) → Value → Value} {nn : Value → List Nat} {can : Value → Nat → Option (Value × List Nat)} (hc : CanOK r nn can) : ∀ {l : List Value} {i : Nat} {us : List Value} {ks : List Nat}, canL can l i = some (us, ks) →
    (∀ f, At f i ks → us.map (r f) = l) ∧ ∀ u ∈ us, ∀ m ∈ nn u, i ≤ m ∧ m < i + ks.length
  | [], i, us, ks, h => by simp [canL] at h; obtain ⟨rfl, rfl⟩ := h; simp
  | v :: l, i, us, ks, h => by
    simp only [canL] at h
    split at h
    · rename_i u ks1 hu
      split at h
      · rename_i us' ks2 hus
        simp at h; obtain ⟨rfl, rfl⟩ := h
        obtain ⟨h1, h2⟩ := hc v i u ks1 hu
        obtain ⟨h3, h4⟩ := canL_ok hc hus
        refine ⟨fun f hf => ?_, fun x hx m hm => ?_⟩
        · rw [List.map_cons, h1 f hf.app.1, h3 f hf.app.2]
        · rw [List.length_append]
          rcases List.mem_cons.1 hx with rfl | hx
          · have := h2 m hm; omega
          · have := h4 x hx m hm; omega
      · simp at h
    · simp at h
theorem mem_nmL' {f : Value → List Nat} {k : Nat} : ∀ {l : List Value}, k ∈ nmL f l → ∃ v ∈ l, k ∈ f v
  | [], h => by simp [nmL] at h
  | v :: l, h => by
    simp only [nmL, List.mem_append] at h
    rcases h with h | h
    · exact ⟨v, by simp, h⟩
    · obtain ⟨u, hu, hk⟩ := mem_nmL' h; exact ⟨u, by simp [hu], hk⟩
theorem can0_nt {v u : Value} {i : Nat} {ks : List Nat} (h : can0 v i = some (u, ks)) : leaf u = true := by
  unfold can0 at h
  split at h
  · simp at h; obtain ⟨rfl, rfl⟩ := h; rfl
  · rename_i hne
    cases hl : leafG v <;> rw [hl] at h <;> simp at h
    obtain ⟨rfl, rfl⟩ := h
    exact leaf_of_leafG hl
theorem can1_ok : CanOK rn nms can1 := by
  intro v i u ks h
  unfold can1 at h
  split at h
  · rename_i cs
    split at h
    · rename_i us ks' hus
      simp at h; obtain ⟨rfl, rfl⟩ := h
      obtain ⟨h1, h2⟩ := canL_ok can0_ok hus
      refine ⟨fun f hf => ?_, fun m hm => ?_⟩
      · simp only [rn, rn1, mapL_eq]
        rw [h1 f hf]
      · obtain ⟨x, hx, hm⟩ := mem_nmL' (f := nm0) hm
        exact h2 x hx m hm
    · simp at h
  · have hl := can0_nt h
    obtain ⟨h1, h2⟩ := can0_ok v i u ks h
    refine ⟨fun f hf => ?_, fun m hm => ?_⟩
    · rw [← h1 f hf]
      cases u <;> first | rfl | simp [leaf] at hl
    · refine h2 m ?_
      cases u <;> first | exact hm | simp [leaf] at hl
def num : List Nat → Nat → List (Nat × Nat)
  | [], _ => []
  | k :: ks, i => (i, k) :: num ks (i + 1)
theorem num_fst : ∀ (ks : List Nat) (i : Nat), (num ks i).map (·.1) = List.range' i ks.length
  | [], _ => rfl
  | k :: ks, i => by simp [num, num_fst ks (i + 1), List.range'_succ]
theorem num_mem : ∀ {ks : List Nat} {i j k : Nat}, (j, k) ∈ num ks i ↔ ∃ m, ks[m]? = some k ∧ j = i + m
  | [], i, j, k => by simp [num]
  | a :: ks, i, j, k => by
    simp only [num, List.mem_cons, Prod.mk.injEq, num_mem (ks := ks)]
    constructor
    · rintro (⟨rfl, rfl⟩ | ⟨m, h1, rfl⟩)
      · exact ⟨0, by simp, rfl⟩
      · exact ⟨m + 1, by simpa using h1, by omega⟩
    · rintro ⟨m, h1, rfl⟩
      cases m with
      | zero => simp at h1; exact Or.inl ⟨rfl, h1.symm⟩
      | succ m => exact Or.inr ⟨m, by simpa using h1, by omega⟩
theorem look_num {ks : List Nat} {more : List (Nat × Nat)} : At (look (num ks 0 ++ more)) 0 ks := by
  have key : ∀ (ks : List Nat) (i : Nat), At (look (num ks i ++ more)) i ks := by
    intro ks
    induction ks with
    | nil => intro i j k h; simp at h
    | cons a ks ih =>
      intro i j k h
      cases j with
      | zero => simp at h; subst h; simp [num, look]
      | succ j =>
        have := ih (i + 1) j k (by simpa using h)
        simp only [num, List.cons_append, look]
        have hne : Nat.beq (i + (j + 1)) i = false := by
          cases e : Nat.beq (i + (j + 1)) i with
          | false => rfl
          | true => have := Nat.eq_of_beq_eq_true e; omega
        rw [hne]
        simp only [cond_false]
        rw [← this]
        congr 1; omega
  exact key ks 0
def rowsOf (H : Heap) : List Nat → Option (List (List Value))
  | [] => some []
  | k :: ks => match H k with
    | some b => match b.row with
      | some cs => match rowsOf H ks with
        | some css => some (cs :: css)
        | none => none
      | none => none
    | none => none
theorem rowsOf_spec {H : Heap} : ∀ {ks : List Nat} {css : List (List Value)}, rowsOf H ks = some css → ks.length = css.length ∧ ∀ (m : Nat) (k : Nat), ks[m]? = some k → ∃ b cs, H k = some b ∧ b.row = some cs ∧ css[m]? = some cs
  | [], css, h => by simp [rowsOf] at h; subst h; simp
  | k :: ks, css, h => by
    simp only [rowsOf] at h
    split at h
    · rename_i b hb
      split at h
      · rename_i cs hcs
        split at h
        · rename_i css' hc
          simp at h; subst h
          obtain ⟨h1, h2⟩ := rowsOf_spec hc
          refine ⟨by simp [h1], fun m k' hk => ?_⟩
          cases m with
          | zero => simp at hk; subst hk; exact ⟨b, cs, hb, hcs, by simp⟩
          | succ m => simpa using h2 m k' (by simpa using hk)
        · simp at h
      · simp at h
    · simp at h
theorem rowsOf_congr {H H' : Heap} : ∀ {ks : List Nat}, (∀ k ∈ ks, H' k = H k) → rowsOf H' ks = rowsOf H ks
  | [], _ => rfl
  | k :: ks, h => by simp only [rowsOf]; rw [h k (by simp), rowsOf_congr fun j hj => h j (by simp [hj])]
def plainR (css : List (List Value)) : Prop := ∀ cs ∈ css, ∀ c ∈ cs, leafG c = true
def roRows (css : List (List Value)) : Heap := fun j => match css[j]? with
  | some cs => some (.ro cs)
  | none => none
/-- Names of the new blocks: 100 on. -/
def newNs : List Blk → Nat → List Nat
  | [], _ => []
  | _ :: l, i => i :: newNs l (i + 1)
theorem newNs_mem : ∀ {l : List Blk} {i j : Nat}, j ∈ newNs l i ↔ i ≤ j ∧ j < i + l.length
  | [], i, j => by simp [newNs]
  | b :: l, i, j => by simp [newNs, newNs_mem (l := l)]; omega
theorem newNs_nodup : ∀ (l : List Blk) (i : Nat), (newNs l i).Nodup
  | [], _ => List.nodup_nil
  | b :: l, i => List.nodup_cons.2 ⟨fun h => by have := newNs_mem.1 h; omega, newNs_nodup l (i + 1)⟩
theorem newNs_len : ∀ (l : List Blk) (i : Nat), (newNs l i).length = l.length
  | [], _ => rfl
  | b :: l, i => by simp [newNs, newNs_len l]
theorem assoc_new : ∀ {l : List Blk} {i j : Nat}, i ≤ j → j < i + l.length → ∃ x ∈ l, assocN (newNs l i) l j = some x
  | [], i, j, h1, h2 => by simp at h2; omega
  | b :: l, i, j, h1, h2 => by
    simp only [newNs, assocN]
    cases e : Nat.beq j i
    · have hne : j ≠ i := fun h => by subst h; simp at e
      obtain ⟨x, hx, hy⟩ := assoc_new (l := l) (i := i + 1) (j := j) (by omega) (by simp at h2; omega)
      exact ⟨x, by simp [hx], hy⟩
    · exact ⟨b, by simp, rfl⟩
abbrev RoF := List Value → List (List Value) → Option (Value × List Blk × List Prop)
noncomputable def roSum (F : RoF) : List Value → Heap → Nat → Option Res := fun args H nm =>
  match canL can1 args 0 with
  | some (ar, ks) => match rowsOf H ks with
    | some css => match F ar css with
      | some (v, blks, ob) => some ⟨rn (look (num ks 0 ++ toP (newNs blks 100) nm)) v, usOf (toP (newNs blks 100) nm) (assocN (newNs blks 100) blks), ks, plainR css :: ob⟩
      | none => none
    | none => none
  | none => none
theorem roSum_ok {P : Program} {f : FuncId} (he : Enters P f) {F : RoF}
    (h : ∀ ar css v blks ob, F ar css = some (v, blks, ob) → (∀ p ∈ ob, p) → plainR css → css.length ≤ 100 →
      blks.length ≤ 4 ∧ (∀ x ∈ blks, x.plain ∧ x.wr = true) ∧ (∀ j ∈ nms v, j < css.length ∨ (100 ≤ j ∧ j < 100 + blks.length)) ∧ CallSpec P f ar (roRows css) css.length v (assocN (newNs blks 100) blks))
    (hlen : ∀ ar css r, F ar css = some r → css.length ≤ 100) : SumOK P f (roSum F) := by
  refine ⟨he, ?_, ?_⟩
  · intro args H nm r hr hob M w0 g B w hH hargs hn
    unfold roSum at hr
    split at hr
    · rename_i ar ks hc
      split at hr
      · rename_i css hcss
        split at hr
        · rename_i v blks ob hF
          simp only [Option.some.injEq] at hr
          subst hr
          have hpl : plainR css := hob _ (List.mem_cons_self ..)
          have hl100 := hlen ar css _ hF
          obtain ⟨h1, h2, h3, h4⟩ := h ar css v blks ob hF (fun p hp => hob p (List.mem_cons_of_mem _ hp)) hpl hl100
          obtain ⟨c1, c2⟩ := canL_ok can1_ok hc
          obtain ⟨r1, r2⟩ := rowsOf_spec hcss
          have hnd : ((num ks 0 ++ toP (newNs blks 100) nm).map (·.1)).Nodup := by
            rw [List.map_append, num_fst, toP_fst]
            refine List.nodup_append.2 ⟨List.nodup_range', newNs_nodup _ _, fun a ha b hb => ?_⟩
            have e1 := List.mem_range'.1 ha
            have e2 := newNs_mem.1 hb
            obtain ⟨m, hm1, hm2⟩ := e1
            omega
          have hall : ∀ j, (j < css.length ∨ (100 ≤ j ∧ j < 100 + blks.length)) → ∃ k, (j, k) ∈ num ks 0 ++ toP (newNs blks 100) nm := by
            rintro j (hj | hj)
            · have hj' : j < ks.length := by omega
              exact ⟨ks[j], List.mem_append_left _ (num_mem.2 ⟨j, List.getElem?_eq_getElem hj', by omega⟩)⟩
            · have h' : j ∈ (toP (newNs blks 100) nm).map (·.1) := by rw [toP_fst]; exact newNs_mem.2 hj
              obtain ⟨⟨m, k'⟩, hm', he⟩ := List.mem_map.1 h'
              simp only at he; subst he
              exact ⟨k', List.mem_append_right _ hm'⟩
          have := ro_calls (old := num ks 0) (new := toP (newNs blks 100) nm) (nm := nm) h4 hnd (toP_snd _ nm)
            (fun j k hjk => by
              obtain ⟨m, hm1, rfl⟩ := num_mem.1 hjk
              obtain ⟨b, cs, hb, hr, hcs⟩ := r2 m k hm1
              have hlt := (List.getElem?_eq_some_iff.1 hcs).1
              refine ⟨by omega, b, hb, fun b0 hb0 => ⟨cs, hr, ?_, hpl cs (List.mem_of_getElem? hcs)⟩⟩
              unfold roRows at hb0
              rw [Nat.zero_add, hcs] at hb0
              simp at hb0
              exact hb0.symm)
            (fun j b hb => by
              unfold roRows at hb
              split at hb
              · rename_i cs hcs
                have hlt := (List.getElem?_eq_some_iff.1 hcs).1
                have hj' : j < ks.length := by omega
                exact ⟨ks[j], num_mem.2 ⟨j, List.getElem?_eq_getElem hj', by omega⟩⟩
              · simp at hb)
            (fun m k hmk => by
              obtain ⟨e1, e2, e3⟩ := toP_mem hmk
              rw [newNs_len] at e3
              have e4 := newNs_mem.1 e1
              obtain ⟨x, hx, hy⟩ := assoc_new e4.1 e4.2
              refine ⟨⟨e2, by omega⟩, x, hy, (h2 x hx).2, (h2 x hx).1.noIt, fun cs hcs c hcc j hj => ?_⟩
              have hp := (h2 x hx).1
              have : leafG c = true := by
                cases x <;> simp only [Blk.row, Option.some.injEq, reduceCtorEq] at hcs <;> subst hcs <;> exact hp c hcc
              rw [nm0_leafG this] at hj; simp at hj)
            (fun j hj => hall j (h3 j hj))
            (fun u hu j hj => by
              have := c2 u hu j hj
              have hj' : j < ks.length := by omega
              exact ⟨ks[j], num_mem.2 ⟨j, List.getElem?_eq_getElem hj', by omega⟩⟩)
            hH hn
          have hl0 : At (look (num ks 0)) 0 ks := by have := look_num (ks := ks) (more := []); rwa [List.append_nil] at this
          rw [c1 _ hl0] at this
          have hus : ∀ f, usR f (toP (newNs blks 100) nm) (assocN (newNs blks 100) blks) = usOf (toP (newNs blks 100) nm) (assocN (newNs blks 100) blks) := by
            intro f
            unfold usR usOf
            refine List.map_congr_left fun p hp => ?_
            congr 1
            simp only
            cases ha : assocN (newNs blks 100) blks p.1 with
            | none => rfl
            | some x =>
              obtain ⟨i, _, hi⟩ := assocN_mem ha
              have := (h2 x (List.mem_of_getElem? hi)).1
              simp only [this.rnB]
          rw [hus] at this
          exact this
        · simp at hr
      · simp at hr
    · simp at hr
  · intro args H nm r hr H' hH'
    unfold roSum at hr ⊢
    split at hr
    · rename_i ar ks hc
      split at hr
      · rename_i css hcss
        split at hr
        · rename_i v blks ob hF
          simp only [Option.some.injEq] at hr
          have : rowsOf H' ks = rowsOf H ks := rowsOf_congr fun k hk => hH' k (by rw [← hr]; exact hk)
          rw [this, hcss]
          simp only [hF]
          rw [hr]
        · simp at hr
      · simp at hr
    · simp at hr
end Go.Proofs.Ythbaccmhdffjdaa.Ev


set_option linter.unusedVariables false
set_option linter.unusedSimpArgs false
set_option maxRecDepth 100000
namespace Go.Proofs.Ythbaccmhdffjdaa.Ev
open Go Go.RowKit
theorem hm : Try.prog.follows .mixedOrders = true := by kernel_rfl
theorem hN : namesB Try.prog = true := by kernel_rfl
abbrev noHint : Nat → Nat → Nat → Hint := fun _ _ _ => {}
noncomputable abbrev auto0 (given : Sums) : Sums := auto Try.prog given (fun _ => []) (fun _ => noHint) 8
theorem auto0_ok {given : Sums} (h : SumsOK Try.prog given) : SumsOK Try.prog (auto0 given) := auto_ok hm hN h _ _ 8
noncomputable abbrev auto1 (given : Sums) : Sums := autoH Try.prog given (fun _ => []) (fun _ => noHint) 8
theorem auto1_ok {given : Sums} (h : SumsOK Try.prog given) : SumsOK Try.prog (auto1 given) := autoH_ok hm hN h _ _ 8
noncomputable abbrev autoM (given : Sums) : Sums := autoR Try.prog given (fun _ => []) (fun _ => noHint) 8
theorem autoM_ok {given : Sums} (h : SumsOK Try.prog given) : SumsOK Try.prog (autoM given) := autoR_ok hm hN h _ _ 8
theorem en {f : FuncId} {fn : Func} {c : Code} (hf : Try.prog.funcs[f]? = some fn) (hb : fn.body = some c) : Enters Try.prog f := enters_of hN hf hb
noncomputable abbrev t_none : Sums := fun _ => none
theorem t_none_ok : SumsOK Try.prog t_none := sums_none
abbrev i64 (n : Int) : Value := .int .i64 n
abbrev sp (a b : Int) : Value := .agg ⟨[.int .i64 a, .int .i64 b]⟩
abbrev I64 (n : Int) : Prop := -9223372036854775808 ≤ n ∧ n ≤ 9223372036854775807
abbrev bb (x y : Bool) : Prop := Value.bool x = Value.bool y
theorem bb_of {x y : Bool} (h : x = y) : bb x y := by rw [h]
abbrev ht (b : Bool) : Hint := { v := some (.bool b) }
theorem cond_ite (b : Bool) {α : Type} (x y : α) : (bif b then x else y) = if b = true then x else y := by cases b <;> rfl
theorem bool_eq {a b : Bool} (h : a = b) : Value.bool a = Value.bool b := by rw [h]
theorem int_eq {k : IntKind} {a b : Int} (h : a = b) : Value.int k a = Value.int k b := by rw [h]
theorem wrap_id {n : Int} (h : I64 n) : IntKind.i64.wrap n = n := by rw [IntKind.wrap_i64]; omega
end Go.Proofs.Ythbaccmhdffjdaa.Ev


set_option linter.unusedVariables false
set_option linter.unusedSimpArgs false
namespace Go.Proofs.Ythbaccmhdffjdaa.Ev
open Go Go.RowKit
/-- The mark of a room. -/
abbrev mk : Nat := Ev.mark
def ro1 (cs : List Value) : Heap := upd (fun _ => none) 0 (some (.ro cs))
/-- The numbers that stand in a row from a place on. -/
def intsOf (cs : List Value) (off n : Nat) : List Int := ((cs.drop off).take n).map intV
def IntRow (k : IntKind) (cs : List Value) (off n : Nat) : Prop := off + n ≤ cs.length ∧ ∀ j, j < n → cs[off + j]? = some (.int k ((intsOf cs off n).getD j 0))
theorem intsOf_len {cs : List Value} {off n : Nat} (h : off + n ≤ cs.length) : (intsOf cs off n).length = n := by simp [intsOf]; omega
theorem intRow_of (k : IntKind) (zs : List Int) : IntRow k (zs.map (Value.int k)) 0 zs.length ∧ intsOf (zs.map (Value.int k)) 0 zs.length = zs := by
  have h : intsOf (zs.map (Value.int k)) 0 zs.length = zs := by
    simp only [intsOf, List.drop_zero]
    rw [List.take_of_length_le (by simp), List.map_map]
    conv => rhs; rw [← List.map_id zs]
    exact List.map_congr_left fun x _ => rfl
  refine ⟨⟨by simp, fun j hj => ?_⟩, h⟩
  rw [h]
  simp [List.getD, List.getElem?_eq_getElem hj]
/-- What is read of a row of one-cell values. -/
theorem readPart_one {P : Program} {ty : TypeId} (ha : aggT P ty = some false) {cs : List Value} {off : Nat} {v : Value} (h : cs[off]? = some v) (hl : leaf v = true) : readPart P ty cs off = some v := by
  have hlt : off < cs.length := (List.getElem?_eq_some_iff.1 h).1
  have he : cs[off] = v := (List.getElem?_eq_some_iff.1 h).2
  have : sub cs off 1 = some [v] := by
    rw [sub_of (by omega)]
    simp [List.drop_eq_getElem_cons hlt, he]
  simp [readPart, ha, this, hl]
theorem i64_id {z w : Int} (h : z = w) (h1 : -9223372036854775808 ≤ w) (h2 : w ≤ 9223372036854775807) : Value.int .i64 (IntKind.i64.wrap z) = Value.int .i64 w := by
  subst h; rw [wrap_id ⟨h1, h2⟩]
theorem i64_succ {i : Nat} (h : i < 9223372036854775807) : Value.int .i64 (IntKind.i64.wrap (Int.ofNat i.succ)) = Value.int .i64 (Int.ofNat i.succ) := by
  refine i64_id rfl ?_ ?_
  · exact Int.le_trans (by decide) (Int.natCast_nonneg (i + 1))
  · show ((i + 1 : Nat) : Int) ≤ _
    omega
end Go.Proofs.Ythbaccmhdffjdaa.Ev


set_option linter.unusedVariables false
set_option linter.unusedSimpArgs false
namespace Go.Proofs.Ythbaccmhdffjdaa.Ev
open Go Go.RowKit
structure Elt (α : Type) where
  cells : α → List Value
  s : Nat
  of : List Value → α
  len : ∀ x, (cells x).length = s
  ofc : ∀ x, of (cells x) = x
  pl : ∀ x, ∀ c ∈ cells x, leafG c = true
namespace Elt
variable {α : Type} (e : Elt α)
def row (l : List α) : List Value := l.flatMap e.cells
def list (cs : List Value) (off n : Nat) : List α := (List.range n).map fun i => e.of ((cs.drop (off + i * e.s)).take e.s)
def Row (cs : List Value) (off n : Nat) : Prop := off + n * e.s ≤ cs.length ∧ ∀ i, i < n → (cs.drop (off + i * e.s)).take e.s = e.cells (e.of ((cs.drop (off + i * e.s)).take e.s))
variable {e}
theorem row_nil : e.row [] = [] := rfl
theorem row_cons (x : α) (l : List α) : e.row (x :: l) = e.cells x ++ e.row l := by simp [row]
theorem row_app (l m : List α) : e.row (l ++ m) = e.row l ++ e.row m := by simp [row]
theorem row_one (x : α) : e.row [x] = e.cells x := by simp [row]
theorem row_len (l : List α) : (e.row l).length = l.length * e.s := by
  induction l with
  | nil => simp [row]
  | cons x l ih => rw [row_cons, List.length_append, ih, e.len]; simp [Nat.succ_mul]; omega
theorem row_pl (l : List α) : ∀ c ∈ e.row l, leafG c = true := by
  intro c hc
  obtain ⟨x, _, hx⟩ := List.mem_flatMap.1 hc
  exact e.pl x c hx
theorem row_drop (l : List α) (i : Nat) : (e.row l).drop (i * e.s) = e.row (l.drop i) := by
  induction l generalizing i with
  | nil => simp [row]
  | cons x l ih =>
    cases i with
    | zero => simp
    | succ i =>
      rw [row_cons, Nat.succ_mul, Nat.add_comm, ← List.drop_drop, List.drop_left' (e.len x), ih]
      simp
theorem row_take (l : List α) (i : Nat) : (e.row l).take (i * e.s) = e.row (l.take i) := by
  induction l generalizing i with
  | nil => simp [row]
  | cons x l ih =>
    cases i with
    | zero => simp [row]
    | succ i =>
      rw [row_cons, Nat.succ_mul, List.take_append, e.len, List.take_of_length_le (by rw [e.len]; omega), show i * e.s + e.s - e.s = i * e.s by omega, ih]
      rw [List.take_succ_cons, row_cons]
theorem row_at (l : List α) (tail : List Value) {i : Nat} {x : α} (h : l[i]? = some x) : ((e.row l ++ tail).drop (i * e.s)).take e.s = e.cells x := by
  have hlt := (List.getElem?_eq_some_iff.1 h).1
  have he := (List.getElem?_eq_some_iff.1 h).2
  have h1 : (i + 1) * e.s ≤ l.length * e.s := Nat.mul_le_mul_right _ hlt
  rw [Nat.succ_mul] at h1
  rw [List.drop_append_of_le_length (by rw [row_len]; omega), row_drop, List.drop_eq_getElem_cons hlt, he, row_cons, List.append_assoc, List.take_left' (e.len x)]
theorem row_sub (l : List α) (tail : List Value) {i : Nat} {x : α} (h : l[i]? = some x) : sub (e.row l ++ tail) (i * e.s) e.s = some (e.cells x) := by
  have hlt := (List.getElem?_eq_some_iff.1 h).1
  have h1 : (i + 1) * e.s ≤ l.length * e.s := Nat.mul_le_mul_right _ hlt
  rw [Nat.succ_mul] at h1
  rw [sub_of (by rw [List.length_append, row_len]; omega), row_at l tail h]
/-- A row that is laid as a list tells: it reads as that list. -/
theorem canon (l : List α) (tail : List Value) : e.Row (e.row l ++ tail) 0 l.length ∧ e.list (e.row l ++ tail) 0 l.length = l := by
  refine ⟨⟨by rw [List.length_append, row_len]; omega, fun i hi => ?_⟩, ?_⟩
  · rw [Nat.zero_add, row_at l tail (List.getElem?_eq_getElem hi), e.ofc]
  · apply List.ext_getElem
    · simp [list]
    · intro i h1 h2
      simp only [list, List.getElem_map, List.getElem_range, Nat.zero_add]
      rw [row_at l tail (List.getElem?_eq_getElem h2), e.ofc]
theorem canon0 (l : List α) : e.Row (e.row l) 0 l.length ∧ e.list (e.row l) 0 l.length = l := by have := canon (e := e) l []; simpa using this
theorem list_len (cs : List Value) (off n : Nat) : (e.list cs off n).length = n := by simp [list]
theorem Row.get {cs : List Value} {off n : Nat} (h : e.Row cs off n) {i : Nat} {x : α} (hx : (e.list cs off n)[i]? = some x) : sub cs (off + i * e.s) e.s = some (e.cells x) := by
  have hlt := (List.getElem?_eq_some_iff.1 hx).1
  have he := (List.getElem?_eq_some_iff.1 hx).2
  rw [list_len] at hlt
  have h1 : (i + 1) * e.s ≤ n * e.s := Nat.mul_le_mul_right _ hlt
  rw [Nat.succ_mul] at h1
  have h0 := h.1
  rw [sub_of (by omega), h.2 i hlt]
  simp [list] at he
  rw [he]
/-- What is read of a row of structs. -/
theorem Row.read {P : Program} {ty : TypeId} (ha : aggT P ty = some true) (hs : sizeOfT P ty = some e.s) {cs : List Value} {off n : Nat} (h : e.Row cs off n) {i : Nat} {x : α} (hx : (e.list cs off n)[i]? = some x) : readPart P ty cs (off + i * e.s) = some (.agg ⟨e.cells x⟩) := by
  simp only [readPart, ha, hs, h.get hx]
theorem Row.read1 {P : Program} {ty : TypeId} (ha : aggT P ty = some false) (hs : e.s = 1) {cs : List Value} {off n : Nat} (h : e.Row cs off n) {i : Nat} {x : α} (hx : (e.list cs off n)[i]? = some x) {v : Value} (hv : e.cells x = [v]) (hl : leaf v = true) : readPart P ty cs (off + i) = some v := by
  have := h.get hx
  rw [hs, Nat.mul_one, hv] at this
  simp [readPart, ha, this, hl]
theorem Row.take {cs : List Value} {off n m : Nat} (h : e.Row cs off n) (hm : m ≤ n) : e.Row cs off m ∧ e.list cs off m = (e.list cs off n).take m := by
  have h1 : m * e.s ≤ n * e.s := Nat.mul_le_mul_right _ hm
  refine ⟨⟨by have := h.1; omega, fun i hi => h.2 i (by omega)⟩, ?_⟩
  simp only [list, ← List.map_take, List.take_range, Nat.min_eq_left hm]
end Elt
/-! ### What the evaluator owes of rows -/
section
variable {α : Type} {e : Elt α}
theorem appOK {L new : List α} {ty : TypeId} {own : Option Blk} {n m size bytes : Nat} {src res : List Value} (hown : own = some (.vec (e.row L) ty size)) (hs : size = e.s) (hm : m = new.length) (hsrc : src = e.row new) (hn : n ≤ L.length) (hres : res = e.row (L.take n ++ new))
    (h1 : 1 ≤ m) (hb : n + m ≤ 16777216) (hby : (n + m) * bytes ≤ 140737488355328) : AppOK own n mk size bytes m src 0 res := by
  subst hown
  subst hs
  subst hm
  subst hsrc
  subst hres
  refine ⟨e.row (L.take n), e.row new, ?_, ?_, h1, hb, hby, Elt.row_app _ _, rfl, ?_, (Elt.row_take L n).symm⟩
  · rw [sub_of (by rw [Elt.row_len]; omega), List.drop_zero, List.take_of_length_le (by rw [Elt.row_len]; omega)]
  · exact allB_iff.2 fun c hc => leaf_of_leafG (Elt.row_pl _ c hc)
  · rw [Elt.row_len]; exact Nat.mul_le_mul_right _ hn
theorem appOK_nil {new : List α} {m size bytes : Nat} {src res : List Value} (hs : size = e.s) (hm : m = new.length) (hsrc : src = e.row new) (hres : res = e.row new)
    (h1 : 1 ≤ m) (hb : m ≤ 16777216) (hby : m * bytes ≤ 140737488355328) : AppOK none 0 0 size bytes m src 0 res := by
  subst hs
  subst hm
  subst hsrc
  subst hres
  refine ⟨[], e.row new, ?_, ?_, h1, by omega, by rw [Nat.zero_add]; exact hby, rfl, rfl, rfl, rfl⟩
  · rw [sub_of (by rw [Elt.row_len]; omega), List.drop_zero, List.take_of_length_le (by rw [Elt.row_len]; omega)]
  · exact allB_iff.2 fun c hc => leaf_of_leafG (Elt.row_pl _ c hc)
theorem slOK_pre {size k n h : Nat} {i : Int} {cs : List Value} {ty : TypeId} (hi : i = (h : Int)) (hh : h ≤ n) (hs : 1 ≤ size) (hc : n * size ≤ cs.length) :
    SlOK size k 0 n mk none (some i) (some (.vec cs ty size)) (.slice (some ⟨k, 0, none⟩) h mk) :=
  ⟨0, h, rfl, hi, Nat.zero_le _, hh, Or.inl ⟨Nat.le_refl _, ⟨cs, ty, rfl, hs, by rw [Nat.sub_self, Nat.zero_add]; exact hc⟩, Or.inl rfl, by simp⟩⟩
theorem read_row {P : Program} {ty : TypeId} (ha : aggT P ty = some true) (hs : sizeOfT P ty = some e.s) {L : List α} {i : Nat} {x : α} (h : L[i]? = some x) : readPart P ty (e.row L) (0 + (Int.ofNat i).toNat * e.s) = some (.agg ⟨e.cells x⟩) := by
  have := (Elt.canon0 (e := e) L).1.read (P := P) (ty := ty) ha hs (i := i) (x := x) (by rw [(Elt.canon0 L).2]; exact h)
  exact this
theorem i64_pred {n : Nat} (h : n < 9223372036854775807) : Value.int .i64 (IntKind.i64.wrap (Int.ofNat n.succ - 1)) = Value.int .i64 (Int.ofNat n) := by
  have e : Int.ofNat n.succ - 1 = (n : Int) := by show ((n + 1 : Nat) : Int) - 1 = n; omega
  rw [e]
  exact i64_id (w := (n : Int)) rfl (by omega) (by omega)
theorem nat_in {n : Nat} : (0 : Int) ≤ Int.ofNat n ∧ Int.ofNat n < Int.ofNat n.succ := ⟨Int.natCast_nonneg n, Int.ofNat_lt.2 (Nat.lt_succ_self n)⟩
end
abbrev i64s (l : List Int) : List Value := l.map (Value.int .i64)
/-- Numbers. -/
def eInt : Elt Int := ⟨fun z => [.int .i64 z], 1, fun cs => match cs with | [.int _ z] => z | _ => 0, fun _ => rfl, fun _ => rfl, fun x c hc => by simp at hc; subst hc; rfl⟩
def eWord : Elt Int := ⟨fun z => [.int .u64 z], 1, fun cs => match cs with | [.int _ z] => z | _ => 0, fun _ => rfl, fun _ => rfl, fun x c hc => by simp at hc; subst hc; rfl⟩
/-- A box: five spans. -/
structure Bx where
  a0 : Int
  b0 : Int
  a1 : Int
  b1 : Int
  a2 : Int
  b2 : Int
  a3 : Int
  b3 : Int
  a4 : Int
  b4 : Int
deriving DecidableEq
def Bx.cs (x : Bx) : List Value := [.int .i64 x.a0, .int .i64 x.b0, .int .i64 x.a1, .int .i64 x.b1, .int .i64 x.a2, .int .i64 x.b2, .int .i64 x.a3, .int .i64 x.b3, .int .i64 x.a4, .int .i64 x.b4]
def eBox : Elt Bx := ⟨Bx.cs, 10, fun cs => match cs with | [.int _ a0, .int _ b0, .int _ a1, .int _ b1, .int _ a2, .int _ b2, .int _ a3, .int _ b3, .int _ a4, .int _ b4] => ⟨a0, b0, a1, b1, a2, b2, a3, b3, a4, b4⟩ | _ => ⟨0, 0, 0, 0, 0, 0, 0, 0, 0, 0⟩, fun _ => rfl, fun _ => rfl, fun x c hc => by
  simp [Bx.cs] at hc
  rcases hc with rfl | rfl | rfl | rfl | rfl | rfl | rfl | rfl | rfl | rfl <;> rfl⟩
/-- A step of a proof. -/
structure Stp where
  sum : Bool
  place : Int
  at_ : Int
deriving DecidableEq
def eStp : Elt Stp := ⟨fun x => [.bool x.sum, .int .i64 x.place, .int .i64 x.at_], 3, fun cs => match cs with | [.bool s, .int _ p, .int _ a] => ⟨s, p, a⟩ | _ => ⟨false, 0, 0⟩, fun _ => rfl, fun _ => rfl, fun x c hc => by
  simp at hc
  rcases hc with rfl | rfl | rfl <;> rfl⟩
/-- A piece: a box, a value. -/
structure Pc where
  box : Bx
  val : Int
deriving DecidableEq
def ePc : Elt Pc := ⟨fun x => x.box.cs ++ [.int .i64 x.val], 11, fun cs => match cs with | [.int _ a0, .int _ b0, .int _ a1, .int _ b1, .int _ a2, .int _ b2, .int _ a3, .int _ b3, .int _ a4, .int _ b4, .int _ v] => ⟨⟨a0, b0, a1, b1, a2, b2, a3, b3, a4, b4⟩, v⟩ | _ => ⟨⟨0, 0, 0, 0, 0, 0, 0, 0, 0, 0⟩, 0⟩, fun _ => rfl, fun _ => rfl, fun x c hc => by
  simp [Bx.cs] at hc
  rcases hc with rfl | rfl | rfl | rfl | rfl | rfl | rfl | rfl | rfl | rfl | rfl <;> rfl⟩
/-- cells of numbers and bools that are the same. -/
theorem cellsEq_app {a b c d : List Value} (h : a.length = b.length) : cellsEq (a ++ c) (b ++ d) = (cellsEq a b && cellsEq c d) := by
  have key : ∀ (x y : Value) (xs ys : List Value), xs.length = ys.length → cellsEq (x :: xs) (y :: ys) = (leafEq x y && cellsEq xs ys) := by
    intro x y xs ys hl
    cases xs with
    | nil =>
      cases ys with
      | nil => simp [cellsEq]
      | cons _ _ => simp at hl
    | cons u us =>
      cases ys with
      | nil => simp at hl
      | cons _ _ => simp [cellsEq]
  have key2 : ∀ (x y : Value) (xs ys : List Value), cellsEq (x :: xs) (y :: ys) = (leafEq x y && cellsEq xs ys) := by
    intro x y xs ys
    by_cases hl : xs.length = ys.length
    · exact key x y xs ys hl
    · cases xs with
      | nil =>
        cases ys with
        | nil => simp at hl
        | cons _ _ => simp [cellsEq]
      | cons u us =>
        cases ys with
        | nil => simp [cellsEq]
        | cons _ _ => simp [cellsEq]
  induction a generalizing b with
  | nil =>
    cases b with
    | nil => simp [cellsEq]
    | cons _ _ => simp at h
  | cons x a ih =>
    cases b with
    | nil => simp at h
    | cons y b =>
      simp only [List.cons_append, key2, ih (b := b) (by simpa using h), Bool.and_assoc]
end Go.Proofs.Ythbaccmhdffjdaa.Ev


set_option linter.unusedVariables false
set_option linter.unusedSimpArgs false
namespace Go.Proofs.Ythbaccmhdffjdaa.Ev
open Go Go.RowKit
abbrev L10 : List (Option IntKind) := [some .i64, some .i64, some .i64, some .i64, some .i64, some .i64, some .i64, some .i64, some .i64, some .i64]
abbrev kB (b : Bx) : Value := .agg ⟨b.cs⟩
structure EB where
  b : Bx
  n : Int
  s : Nat
def EB.ent (e : EB) : Ent := (kB e.b, .int .i64 e.n, e.s)
def esB (l : List EB) : List Ent := l.map EB.ent
def putB (b : Bx) (n : Int) (c : Nat) : List EB → List EB
  | [] => [⟨b, n, c⟩]
  | e :: l => if b = e.b then ⟨e.b, n, e.s⟩ :: l else e :: putB b n c l
def getK (b : Bx) : List EB → Int
  | [] => 0
  | e :: l => if b = e.b then e.n else getK b l
def hasK (b : Bx) : List EB → Bool
  | [] => false
  | e :: l => if b = e.b then true else hasK b l
theorem keyEq_kB (a b : Bx) : keyEq (kB a) (kB b) = decide (a = b) := by
  obtain ⟨a0, b0, a1, b1, a2, b2, a3, b3, a4, b4⟩ := a
  obtain ⟨c0, d0, c1, d1, c2, d2, c3, d3, c4, d4⟩ := b
  rw [Bool.eq_iff_iff]
  simp [keyEq, cellsEq, leafEq, Bx.cs, and_assoc]
theorem mput_esB (b : Bx) (n : Int) (c : Nat) : ∀ l : List EB, mput (kB b) (.int .i64 n) c (esB l) = esB (putB b n c l)
  | [] => rfl
  | e :: l => by
    show (bif keyEq (kB b) (kB e.b) then _ else _) = _
    rw [keyEq_kB]
    by_cases h : b = e.b
    · rw [decide_eq_true h]; simp only [putB, if_pos h]; rfl
    · rw [decide_eq_false h]; simp only [putB, if_neg h, cond_false]
      show _ :: mput (kB b) (.int .i64 n) c (esB l) = _
      rw [mput_esB b n c l]; rfl
theorem mget_esB (b : Bx) : ∀ l : List EB, mgetI (kB b) (esB l) = getK b l
  | [] => rfl
  | e :: l => by
    show (bif keyEq (kB b) (kB e.b) then _ else mgetI (kB b) (esB l)) = _
    rw [keyEq_kB, mget_esB b l]
    by_cases h : b = e.b
    · rw [decide_eq_true h]; simp only [getK, if_pos h]; rfl
    · rw [decide_eq_false h]; simp only [getK, if_neg h, cond_false]
theorem mhas_esB (b : Bx) : ∀ l : List EB, mhas (kB b) (esB l) = hasK b l
  | [] => rfl
  | e :: l => by
    show (bif keyEq (kB b) (kB e.b) then true else mhas (kB b) (esB l)) = _
    rw [keyEq_kB, mhas_esB b l]
    by_cases h : b = e.b
    · rw [decide_eq_true h]; simp only [hasK, if_pos h]; rfl
    · rw [decide_eq_false h]; simp only [hasK, if_neg h, cond_false]
/-- Keys apart, stamps rising, all below the clock. -/
structure OKB (l : List EB) (c : Nat) : Prop where
  keys : (l.map (·.b)).Nodup
  borns : l.Pairwise fun a b => a.s < b.s
  clock : ∀ e ∈ l, e.s < c
theorem okB_nil : OKB [] 0 := ⟨List.nodup_nil, List.Pairwise.nil, fun e h => by simp at h⟩
theorem hasK_iff {b : Bx} : ∀ {l : List EB}, hasK b l = true ↔ b ∈ l.map (·.b)
  | [] => by simp [hasK]
  | e :: l => by
    simp only [hasK, List.map_cons, List.mem_cons]
    by_cases h : b = e.b
    · simp [h]
    · simp only [if_neg h, hasK_iff (l := l)]; simp [h]
theorem put_keys (b : Bx) (n : Int) (c : Nat) : ∀ l : List EB, (putB b n c l).map (·.b) = bif hasK b l then l.map (·.b) else l.map (·.b) ++ [b]
  | [] => rfl
  | e :: l => by
    simp only [putB, hasK]
    by_cases h : b = e.b
    · simp [h]
    · simp only [if_neg h, List.map_cons, put_keys b n c l]
      cases hasK b l <;> rfl
theorem put_stamps (b : Bx) (n : Int) (c : Nat) : ∀ l : List EB, (putB b n c l).map (·.s) = bif hasK b l then l.map (·.s) else l.map (·.s) ++ [c]
  | [] => rfl
  | e :: l => by
    simp only [putB, hasK]
    by_cases h : b = e.b
    · simp [h]
    · simp only [if_neg h, List.map_cons, put_stamps b n c l]
      cases hasK b l <;> rfl
theorem okB_put {l : List EB} {c : Nat} (h : OKB l c) (b : Bx) (n : Int) : OKB (putB b n c l) (bif hasK b l then c else c + 1) := by
  have hk := put_keys b n c l
  have hs := put_stamps b n c l
  have hb : (l.map (·.s)).Pairwise (· < ·) := by rw [List.pairwise_map]; exact h.borns
  have hc : ∀ x ∈ l.map (·.s), x < c := fun x hx => by obtain ⟨e, he, rfl⟩ := List.mem_map.1 hx; exact h.clock e he
  refine ⟨?_, ?_, fun e he => ?_⟩
  · rw [hk]
    cases hh : hasK b l
    · rw [cond_false, List.nodup_append]
      refine ⟨h.keys, by simp, fun x hx y hy => ?_⟩
      simp at hy
      subst hy
      intro e
      subst e
      have := hasK_iff.2 hx
      rw [hh] at this
      exact absurd this (by simp)
    · exact h.keys
  · have : ((putB b n c l).map (·.s)).Pairwise (· < ·) := by
      rw [hs]
      cases hasK b l
      · rw [cond_false, List.pairwise_append]
        exact ⟨hb, by simp, fun x hx y hy => by simp at hy; subst hy; exact hc x hx⟩
      · exact hb
    rw [List.pairwise_map] at this
    exact this
  · have he' : e.s ∈ (putB b n c l).map (·.s) := List.mem_map.2 ⟨e, he, rfl⟩
    rw [hs] at he'
    cases hh : hasK b l <;> rw [hh] at he'
    · rw [cond_false, List.mem_append] at he'
      rcases he' with he' | he'
      · have := hc _ he'; simp only [cond_false]; omega
      · simp at he'; simp only [cond_false]; omega
    · exact hc _ he'
theorem okB_map {l : List EB} {c : Nat} (h : OKB l c) : MapOK L10 true (some .i64) (esB l) c := by
  refine ⟨fun e he => ?_, fun e he => ?_, ?_, fun e he => ?_⟩
  · obtain ⟨x, _, rfl⟩ := List.mem_map.1 he; rfl
  · obtain ⟨x, _, rfl⟩ := List.mem_map.1 he; rfl
  · rw [esB, List.pairwise_map]; exact h.borns
  · obtain ⟨x, hx, rfl⟩ := List.mem_map.1 he; exact h.clock x hx
theorem getK_put (a b : Bx) (n : Int) (c : Nat) : ∀ l : List EB, getK a (putB b n c l) = if a = b then n else getK a l
  | [] => by simp only [putB, getK]
  | e :: l => by
    by_cases h : b = e.b
    · subst h
      simp only [putB, if_true, getK]
      by_cases h2 : a = e.b <;> simp [h2]
    · simp only [putB, if_neg h, getK, getK_put a b n c l]
      by_cases h2 : a = e.b
      · have : a ≠ b := fun e' => h (e' ▸ h2)
        rw [if_pos h2, if_neg this, if_pos h2]
      · rw [if_neg h2, if_neg h2]
theorem hasK_put (a b : Bx) (n : Int) (c : Nat) (l : List EB) : hasK a (putB b n c l) = (decide (a = b) || hasK a l) := by
  rw [Bool.eq_iff_iff, hasK_iff, put_keys]
  cases h : hasK b l
  · rw [cond_false, List.mem_append, Bool.or_eq_true, decide_eq_true_eq, hasK_iff]
    simp only [List.mem_cons, List.not_mem_nil, or_false]
    exact Or.comm
  · rw [cond_true, Bool.or_eq_true, decide_eq_true_eq, hasK_iff]
    constructor
    · exact Or.inr
    · rintro (rfl | h2)
      · exact hasK_iff.1 h
      · exact h2
theorem len_put (b : Bx) (n : Int) (c : Nat) (l : List EB) : (putB b n c l).length = bif hasK b l then l.length else l.length + 1 := by
  have := congrArg List.length (put_keys b n c l)
  rw [List.length_map] at this
  rw [this]
  cases hasK b l <;> simp
theorem getK_mem {l : List EB} {c : Nat} (h : OKB l c) {e : EB} (he : e ∈ l) : getK e.b l = e.n ∧ hasK e.b l = true := by
  refine ⟨?_, hasK_iff.2 (List.mem_map.2 ⟨e, he, rfl⟩)⟩
  have hk := h.keys
  clear h
  induction l with
  | nil => simp at he
  | cons x l ih =>
    obtain ⟨h1, h2⟩ := List.nodup_cons.1 hk
    rcases List.mem_cons.1 he with rfl | he
    · simp [getK]
    · have hne : e.b ≠ x.b := fun e' => h1 (List.mem_map.2 ⟨e, he, e'⟩)
      simp only [getK, if_neg hne]
      exact ih he h2
theorem getK_no {b : Bx} : ∀ {l : List EB}, hasK b l = false → getK b l = 0
  | [], _ => rfl
  | e :: l, h => by
    simp only [hasK] at h
    split at h
    · simp at h
    · rename_i hne
      simp only [getK, if_neg hne]
      exact getK_no h
end Go.Proofs.Ythbaccmhdffjdaa.Ev


set_option linter.unusedVariables false
set_option linter.unusedSimpArgs false
namespace Go.Proofs.Ythbaccmhdffjdaa.Ev
open Go Go.RowKit Go.Deep
/-- A slice whose elements are such. -/
def Opened {α : Type} (W : World) (e : Elt α) (good : α → Prop) (v : Value) : Prop :=
  v = .slice none 0 0 ∨ ∃ (b off cap : Nat) (l : List α), v = .slice (some ⟨b, off, none⟩) l.length cap ∧ l.length ≤ cap ∧ cap ≤ maxLen ∧ (∀ x ∈ l, good x) ∧ ∃ c ty fz, W.heap[b]? = some (.cells c ty fz) ∧ ∀ i u, (e.row l)[i]? = some u → c[off + i]? = some u
theorem row_get {α : Type} (e : Elt α) : ∀ (l : List α) (i : Nat) (u : Value), (e.row l)[i]? = some u → ∃ (j r : Nat) (x : α), l[j]? = some x ∧ (e.cells x)[r]? = some u ∧ i = j * e.s + r ∧ r < e.s
  | [], i, u, h => by simp [Elt.row] at h
  | x :: l, i, u, h => by
    rw [Elt.row_cons] at h
    by_cases hi : i < e.s
    · rw [List.getElem?_append_left (by rw [e.len]; exact hi)] at h
      exact ⟨0, i, x, rfl, h, by omega, hi⟩
    · rw [List.getElem?_append_right (by rw [e.len]; omega), e.len] at h
      obtain ⟨j, r, y, h1, h2, h3, h4⟩ := row_get e l _ u h
      exact ⟨j + 1, r, y, by simpa using h1, h2, by rw [Nat.succ_mul]; omega, h4⟩
theorem choose_list {α : Type} (p : Nat → α → Prop) : ∀ n, (∀ i, i < n → ∃ x, p i x) → ∃ l : List α, l.length = n ∧ ∀ i x, l[i]? = some x → p i x
  | 0, _ => ⟨[], rfl, by simp⟩
  | n + 1, h => by
    obtain ⟨l, h1, h2⟩ := choose_list p n (fun i hi => h i (by omega))
    obtain ⟨x, hx⟩ := h n (by omega)
    refine ⟨l ++ [x], by simp [h1], fun i y hy => ?_⟩
    by_cases hi : i < l.length
    · rw [List.getElem?_append_left hi] at hy; exact h2 i y hy
    · rw [List.getElem?_append_right (by omega)] at hy
      have : i - l.length = 0 := by
        rcases Nat.eq_zero_or_pos (i - l.length) with h0 | h0
        · exact h0
        · rw [List.getElem?_eq_none (by simp; omega)] at hy; simp at hy
      rw [this] at hy
      simp at hy
      subst hy
      have : i = n := by omega
      subst this
      exact hx
section
variable {H : Type} {enc : TypeId × Value → H} {P : Program} {W : World} {base : Nat} {spare : Nat → Bool} {held : Bool} {r : Reach} {b0 : Nat}
theorem open_row {α : Type} {e : Elt α} {good : α → Prop} {t et : TypeId} {fuel : Nat} {v : Value} {y : DataW H × List MemPlace} (ht : P.underlying t = some (.slice et)) (hc : P.cellsOf et = e.s)
    (elem : ∀ n cs z, DataW.trod enc P W base spare held n et cs = some z → ∃ x, cs = e.cells x ∧ good x) (hv : Cell.okWide P W r b0 t v) (h : DataW.trod enc P W base spare held fuel t [v] = some y) : Opened W e good v := by
  rcases open_slice ht h with ⟨h0, _⟩ | ⟨a, len, cap, m, n, D, Pl, hcs, _, hl, hm, hmm, _, hx⟩
  · left; simpa using h0
  right
  have hcs : v = .slice (some a) len cap := by simpa using hcs
  subst hcs
  have hok : W.has P r b0 a et cap := by
    simp only [Cell.okWide, ht, Cell.ok] at hv
    exact hv.2.2
  obtain ⟨_, hsp, row, cells, hsh, _⟩ := hok
  obtain ⟨blk, off, spot⟩ := a
  simp only at hsp hsh
  subst hsp
  have hlm : len ≤ m := by rw [hmm]; split <;> omega
  obtain ⟨c, ty, fz, hblk⟩ : ∃ c ty fz, W.heap[blk]? = some (.cells c ty fz) := by
    unfold World.shape? at hsh
    split at hsh
    · rename_i c ty fz hb; exact ⟨c, ty, fz, hb⟩
    · simp at hsh
  obtain ⟨l, hl1, hl2⟩ := choose_list (fun i x => good x ∧ ∀ j u, (e.cells x)[j]? = some u → c[off + (i * e.s + j)]? = some u) len (fun i hi => by
    obtain ⟨cs', h1, h2⟩ := hx i (by omega)
    obtain ⟨x, rfl, hg⟩ := elem _ _ _ h2
    obtain ⟨_, hlen, hcell⟩ := World.cells?_some h1
    refine ⟨x, hg, fun j u hj => ?_⟩
    have hjl : j < P.cellsOf et := by
      have := (List.getElem?_eq_some_iff.1 hj).1
      omega
    have := hcell j hjl
    rw [add_add, hj, plain_add, hc] at this
    simpa [World.cell?, hblk] using this)
  refine ⟨blk, off, cap, l, by rw [hl1], by rw [hl1]; exact hl, hm, fun x hx' => ?_, c, ty, fz, hblk, fun i u hu => ?_⟩
  · obtain ⟨j, hj⟩ := List.getElem?_of_mem hx'
    exact (hl2 j x hj).1
  · obtain ⟨j, q, x, h1, h2, h3, _⟩ := row_get e l i u hu
    rw [h3]
    exact (hl2 j x h1).2 q u h2
theorem elem_int {k : IntKind} {t : TypeId} (ht : P.underlying t = some (.int k)) (n : Nat) (cs : List Value) (z : DataW H × List MemPlace) (h : DataW.trod enc P W base spare held n t cs = some z) : ∃ x : Int, cs = [.int k x] ∧ (Lit.int k x).wf = true := by
  obtain ⟨m, h1, _, h2⟩ := DataW.trod_int ht h
  exact ⟨m, h1, h2⟩
theorem wf64 {n : Int} (h : (Lit.int .i64 n).wf = true) : I64 n := by
  simp [Lit.wf, IntKind.has, IntKind.min, IntKind.max, IntKind.signed, IntKind.bits] at h
  exact ⟨by omega, by omega⟩
end
/-- Names stand for these addresses. -/
def Nm.at (l : List (Nat × Nat)) : Nm := ⟨fun k => match l[k]? with | some p => p.1 | none => 0, fun k => match l[k]? with | some p => p.2 | none => 0, fun _ => 0⟩
/-- What a call does that only reads, where its arguments lie there. -/
theorem calls_ro {P : Program} {f : FuncId} {args : List Value} {H0 : Heap} {nx : Nat} {v : Value} (hs : CallSpec P f args H0 nx v (assocN [] [])) (hv : gnd v = true) (hro : ∀ j b, H0 j = some b → j < nx ∧ ∃ cs, b = .ro cs ∧ ∀ c ∈ cs, leafG c = true)
    (hnm : ∀ u ∈ args, ∀ j ∈ nms u, j < nx) {W : World} {l : List (Nat × Nat)} (hat : ∀ j cs, H0 j = some (.ro cs) → (Blk.ro cs).Holds (Nm.at l) j W.heap[(Nm.at l).blk j]?) :
    Calls P f (args.map (ren (Nm.at l))).toArray W fun e w' => e = .returned v ∧ Below W.heap.size W w' := by
  have hwr : ∀ j b, H0 j = some b → b.wr = false := fun j b hb => by obtain ⟨_, cs, rfl, _⟩ := hro j b hb; rfl
  have hH : HC (fun _ => False) W (Nm.at l) (· < nx) H0 W := by
    refine ⟨BelowBut.refl _ _, fun j b hb => (hro j b hb).1, fun j b hb => ?_, fun j b hb => ?_, fun j b hb hw => by rw [hwr j b hb] at hw; simp at hw, fun i j b c hb hc hw he => by rw [hwr i b hb] at hw; simp at hw⟩
    · obtain ⟨_, cs, rfl, hp⟩ := hro j b hb
      exact fun c hc => In0.leafG (hp c hc)
    · obtain ⟨_, cs, rfl, _⟩ := hro j b hb
      exact hat j cs hb
  refine (ro_own hs hwr (fun _ h => h) hH (fun u hu => inB_lt (hnm u hu))).mono ?_
  rintro e w' ⟨g', B', _, hc, rfl⟩
  exact ⟨by rw [ren_gnd g' hv], hc.below.below⟩
end Go.Proofs.Ythbaccmhdffjdaa.Ev


set_option linter.unusedVariables false
set_option linter.unusedSimpArgs false
namespace Go.Proofs.Ythbaccmhdffjdaa.Ev
open Go Go.RowKit
/-- Under that name: nil, or a row. -/
def CanAt {α : Type} (e : Elt α) (good : α → Prop) (k : Nat) (u : Value) (r : Option (List Value)) : Prop :=
  (u = .slice none 0 0 ∧ r = none) ∨ ∃ (l : List α) (cap : Nat), u = .slice (some ⟨k, 0, none⟩) l.length cap ∧ r = some (e.row l) ∧ l.length ≤ cap ∧ cap ≤ maxLen ∧ ∀ x ∈ l, good x
section
variable {α : Type} {e : Elt α} {good : α → Prop} {k : Nat} {u : Value} {r : Option (List Value)}
theorem CanAt.nm0 (h : CanAt e good k u r) : ∀ j ∈ nm0 u, j = k := by
  rcases h with ⟨rfl, _⟩ | ⟨l, cap, rfl, _⟩
  · simp [Ev.nm0]
  · simp [Ev.nm0]
theorem CanAt.nms (h : CanAt e good k u r) : ∀ j ∈ nms u, j = k := by
  rcases h with ⟨rfl, _⟩ | ⟨l, cap, rfl, _⟩
  · simp [Ev.nms, nm1, Ev.nm0]
  · simp [Ev.nms, nm1, Ev.nm0]
theorem CanAt.ren (h : CanAt e good k u r) (g : Nm) : ren g u = ren0 g u := by
  rcases h with ⟨rfl, _⟩ | ⟨l, cap, rfl, _⟩ <;> rfl
theorem small_cap {c : Nat} (h : c ≤ maxLen) : Nat.ble mark c = false := by
  cases hb : Nat.ble mark c with
  | false => rfl
  | true =>
    have := Nat.le_of_ble_eq_true hb
    unfold mark maxLen at *
    omega
theorem Opened.can {W : World} {v : Value} (h : Opened W e good v) (k : Nat) : ∃ (u : Value) (r : Option (List Value)) (ad : Nat × Nat), CanAt e good k u r ∧ (∀ l : List (Nat × Nat), l[k]? = some ad → ren0 (Nm.at l) u = v) ∧ (∀ j ∈ Ev.nms u, j = k) ∧
    ∀ cs, r = some cs → (∀ c ∈ cs, leafG c = true) ∧ ∀ l : List (Nat × Nat), l[k]? = some ad → (Blk.ro cs).Holds (Nm.at l) k W.heap[(Nm.at l).blk k]? := by
  rcases h with rfl | ⟨b, off, cap, l, rfl, hl, hm, hg, c, ty, fz, hb, hc⟩
  · exact ⟨.slice none 0 0, none, (0, 0), Or.inl ⟨rfl, rfl⟩, fun _ _ => rfl, by simp [Ev.nms, nm1, Ev.nm0], fun _ h => by simp at h⟩
  · have hca : CanAt e good k (.slice (some ⟨k, 0, none⟩) l.length cap) (some (e.row l)) := Or.inr ⟨l, cap, rfl, rfl, hl, hm, hg⟩
    refine ⟨_, _, (b, off), hca, fun m hk => ?_, hca.nms, fun cs hcs => ?_⟩
    · simp only [ren0, renA, Nm.at, hk, capOf, small_cap hm, cond_false, Nat.add_zero]
    · simp at hcs; subst hcs
      refine ⟨Elt.row_pl _, fun m hk => ?_⟩
      have e1 : (Nm.at m).blk k = b := by simp [Nm.at, hk]
      have e2 : (Nm.at m).base k = off := by simp [Nm.at, hk]
      rw [e1]
      refine ⟨c, ty, fz, hb, fun i v hv => ?_⟩
      rw [e2, hc i v hv, ren0_leafG _ (Elt.row_pl _ v (List.mem_of_getElem? hv))]
end
theorem slOK_ro {size k off n c h : Nat} {b : Option Blk} (hh : h ≤ n) (hn : n ≤ c) (hc : c ≤ maxLen) : SlOK size k off n c none (some (h : Int)) b (.slice (some ⟨k, off, none⟩) h c) := by
  have hm : c < mark := by unfold mark maxLen at *; omega
  refine ⟨0, h, rfl, rfl, Nat.zero_le _, hh, Or.inr ⟨hm, hn, ?_⟩⟩
  by_cases h0 : c = 0
  · exact Or.inl ⟨h0, by simp⟩
  · exact Or.inr ⟨h0, by simp⟩
theorem eInt_row (l : List Int) : eInt.row l = l.map (Value.int .i64) := by
  induction l with
  | nil => rfl
  | cons x l ih => rw [Elt.row_cons, ih]; rfl
theorem int_row {l : List Int} (h : ∀ x ∈ l, I64 x) : IntRow .i64 (eInt.row l) 0 l.length ∧ ∀ z ∈ intsOf (eInt.row l) 0 l.length, I64 z := by
  obtain ⟨h1, h2⟩ := intRow_of .i64 l
  rw [eInt_row]
  exact ⟨h1, by rw [h2]; exact h⟩
theorem ints_of (l : List Int) : intsOf (eInt.row l) 0 l.length = l := by
  rw [eInt_row]; exact (intRow_of .i64 l).2
end Go.Proofs.Ythbaccmhdffjdaa.Ev


set_option linter.unusedVariables false
set_option linter.unusedSimpArgs false
namespace Go.Proofs.Ythbaccmhdffjdaa.Ev
open Go Go.RowKit
theorem lset_of : ∀ {cs : List Value} {o : Nat} {vs : List Value}, o + vs.length ≤ cs.length → lset cs o vs = some (cs.take o ++ vs ++ cs.drop (o + vs.length))
  | cs, 0, [], _ => by cases cs <;> simp [lset]
  | [], 0, v :: vs, h => by simp at h
  | [], o + 1, vs, h => by simp at h
  | c :: cs, 0, v :: vs, h => by
    have := lset_of (cs := cs) (o := 0) (vs := vs) (by simp at h ⊢; omega)
    simp only [lset, this]
    simp
  | c :: cs, o + 1, vs, h => by
    have := lset_of (cs := cs) (o := o) (vs := vs) (by simp at h; omega)
    simp only [lset, this]
    rw [show o + 1 + vs.length = (o + vs.length) + 1 by omega]
    simp
theorem lset_mid {a b c vs r : List Value} {f : Nat} (h : lset b f vs = some r) : lset (a ++ (b ++ c)) (a.length + f) vs = some (a ++ (r ++ c)) := by
  obtain ⟨h1, h2⟩ := lset_spec h
  rw [lset_of (by simp; omega), h1]
  congr 1
  rw [List.take_length_add_append, List.take_append_of_le_length (by omega), show a.length + f + vs.length = a.length + (f + vs.length) by omega, List.drop_length_add_append, List.drop_append_of_le_length (by omega)]
  simp
/-- A store into one struct of a row. -/
theorem lset_row {α : Type} {e : Elt α} {l : List α} {k f : Nat} {x y : α} {vs : List Value} (hk : l[k]? = some y) (h : lset (e.cells y) f vs = some (e.cells x)) : lset (e.row l) (k * e.s + f) vs = some (e.row (l.set k x)) := by
  have hlt := (List.getElem?_eq_some_iff.1 hk).1
  have he := (List.getElem?_eq_some_iff.1 hk).2
  have e1 : l = l.take k ++ y :: l.drop (k + 1) := by
    conv => lhs; rw [← List.take_append_drop k l]
    rw [List.drop_eq_getElem_cons hlt, he]
  have e2 : l.set k x = l.take k ++ x :: l.drop (k + 1) := by
    rw [List.set_eq_take_append_cons_drop, if_pos hlt]
  have e3 : e.row l = e.row (l.take k) ++ (e.cells y ++ e.row (l.drop (k + 1))) := by
    conv => lhs; rw [e1]
    rw [Elt.row_app, Elt.row_cons]
  rw [e2, e3, Elt.row_app, Elt.row_cons]
  have hl : (e.row (l.take k)).length = k * e.s := by rw [Elt.row_len, List.length_take, Nat.min_eq_left (by omega)]
  rw [← hl]
  exact lset_mid h
section
variable {α : Type} {e : Elt α}
theorem appG {L M : List α} {ty : TypeId} {own : Option Blk} {n m c size bytes o : Nat} {res : List Value} (hown : (own = some (.vec (e.row L) ty size) ∧ c = mk) ∨ (own = some (.cells [] ty) ∧ n = 0 ∧ c = 0)) (hs : size = e.s) {k : Nat} (ho : o = k * e.s) (hk : k + m ≤ M.length) (hn : n ≤ L.length) (hres : res = e.row (L.take n ++ (M.drop k).take m))
    (h1 : 1 ≤ m) (hb : n + m ≤ 16777216) (hby : (n + m) * bytes ≤ 140737488355328) : AppOK own n c size bytes m (e.row M) o res := by
  subst hs
  subst hres
  subst ho
  have hkm : k * e.s + m * e.s ≤ M.length * e.s := by rw [← Nat.add_mul]; exact Nat.mul_le_mul_right _ hk
  refine ⟨e.row (L.take n), e.row ((M.drop k).take m), ?_, ?_, h1, hb, hby, Elt.row_app _ _, ?_⟩
  · rw [sub_of (by rw [Elt.row_len]; exact hkm), Elt.row_drop, Elt.row_take]
  · exact allB_iff.2 fun c hc => leaf_of_leafG (Elt.row_pl _ c hc)
  · rcases hown with ⟨rfl, rfl⟩ | ⟨rfl, rfl, rfl⟩
    · refine ⟨rfl, ?_, (Elt.row_take L n).symm⟩
      rw [Elt.row_len]; exact Nat.mul_le_mul_right _ hn
    · refine ⟨by simp, by omega, by omega, ?_⟩
      simp [Elt.row]
theorem rowN {L : List α} {n : Nat} (h : n = L.length) : e.Row (e.row L) 0 n := by subst h; exact (Elt.canon0 L).1
theorem rowM {L : List α} {n : Nat} (h : n ≤ L.length) : e.Row (e.row L) 0 n := ((Elt.canon0 L).1.take h).1
theorem listM {L : List α} {n : Nat} (h : n ≤ L.length) : e.list (e.row L) 0 n = L.take n := by rw [((Elt.canon0 L).1.take h).2, (Elt.canon0 L).2]
theorem plain1 {cs : List Value} (h : ∀ x ∈ cs, leafG x = true) : plainR [cs] := by
  intro x hx
  simp at hx
  subst hx
  exact h
end
section
variable {α : Type} {e : Elt α}
theorem appC {L M : List α} {ty : TypeId} {own : Option Blk} {n m c size bytes : Nat} {res : List Value} (hown : own = some (.cells (e.row L) ty)) (hs : size = e.s) (hn : n ≤ c) (hc16 : c ≤ 16777216) (hc : c = L.length) (hres : res = e.row (L.take n ++ M))
    (h1 : 1 ≤ m) (hb : n + m ≤ 16777216) (hby : (n + m) * bytes ≤ 140737488355328) (hm : m = M.length := by rfl) : AppOK own n c size bytes m (e.row M) 0 res := by
  subst hs
  subst hres
  subst hown
  subst hc
  subst hm
  refine ⟨e.row (L.take n), e.row M, ?_, ?_, h1, hb, hby, Elt.row_app _ _, ?_⟩
  · rw [sub_of (by rw [Elt.row_len]; omega), List.drop_zero, List.take_of_length_le (by rw [Elt.row_len]; omega)]
  · exact allB_iff.2 fun c hc => leaf_of_leafG (Elt.row_pl _ c hc)
  · exact ⟨Elt.row_len L, hn, hc16, (Elt.row_take L n).symm⟩
theorem plain2 {cs ds : List Value} (h : ∀ x ∈ cs, leafG x = true) (g : ∀ x ∈ ds, leafG x = true) : plainR [cs, ds] := by
  intro x hx
  simp at hx
  rcases hx with rfl | rfl
  · exact h
  · exact g
end
theorem lsetE {α : Type} {e : Elt α} {l : List α} {k f o : Nat} {x y : α} {vs : List Value} (hk : l[k]? = some y) (h : lset (e.cells y) f vs = some (e.cells x)) (ho : o = k * e.s + f) : lset (e.row l) o vs = some (e.row (l.set k x)) := by
  subst ho; exact lset_row hk h
/-- The rest of a row. -/
theorem slK {i : Int} {α : Type} {e : Elt α} {n h m c : Nat} {L : List α} {ty : TypeId} {nm o size : Nat} (hi : i = (h : Int)) (hh : h + 1 ≤ n) (hm : m = n - h) (hc : c = mk + h) (ho : o = 0 + h * size) (hs : size = e.s) (h1 : 1 ≤ size) (hl : n ≤ L.length := by omega) : SlOK size nm 0 n mk (some i) none (some (.vec (e.row L) ty size)) (.slice (some ⟨nm, o, none⟩) m c) := by
  subst hm
  subst hc
  subst ho
  subst hs
  refine ⟨h, n, hi, rfl, by omega, Nat.le_refl _, Or.inl ⟨Nat.le_refl _, ⟨_, ty, rfl, h1, ?_⟩, Or.inr hh, rfl⟩⟩
  rw [Elt.row_len, Nat.sub_self, Nat.zero_add]
  exact Nat.mul_le_mul_right _ hl
section
variable {α : Type} {e : Elt α}
theorem Elt.Row.eq_row {cs : List Value} {off n : Nat} (h : e.Row cs off n) : (cs.drop off).take (n * e.s) = e.row (e.list cs off n) := by
  induction n with
  | zero => simp [Elt.row, Elt.list]
  | succ n ih =>
    have h1 : e.Row cs off n := (h.take (Nat.le_succ n)).1
    have hn := h.2 n (Nat.lt_succ_self n)
    rw [Nat.succ_mul, List.take_add, ih h1, List.drop_drop, hn]
    simp only [Elt.list, List.range_succ, List.map_append, List.map_cons, List.map_nil, Elt.row_app, Elt.row_one]
theorem repl_row {x : α} {zs : List Value} (h : e.cells x = zs) : ∀ n : Nat, repl zs n = e.row (List.replicate n x)
  | 0 => rfl
  | n + 1 => by simp only [repl, repl_row h n, List.replicate_succ, Elt.row_cons, h]
/-- A copy of a whole list into new memory. -/
theorem copyOK {cs : List Value} {o n m : Nat} {zs : List α} {size : Nat} {res : List Value} (hr : e.Row cs o n) (hs : size = e.s) (hm : n ≤ m) (hz : zs.length = m) (hpl : ∀ c ∈ cs, leafG c = true) (hres : res = e.row (e.list cs o n ++ zs.drop n)) : CopyOK n m size 0 cs o (e.row zs) res := by
  subst hs
  subst hres
  have hmin : Nat.min n m = n := Nat.min_eq_left hm
  have hle : n * e.s ≤ zs.length * e.s := Nat.mul_le_mul_right _ (by omega)
  refine ⟨e.row (e.list cs o n), ?_, allB_iff.2 fun c hc => leaf_of_leafG (Elt.row_pl _ c hc), ?_⟩
  · rw [hmin, sub_of hr.1, hr.eq_row]
  · rw [lset_of (by rw [Elt.row_len, Elt.list_len, Elt.row_len]; omega)]
    rw [Elt.row_len, Elt.list_len, Nat.zero_add, Elt.row_drop, List.take_zero, List.nil_append, Elt.row_app]
end
end Go.Proofs.Ythbaccmhdffjdaa.Ev


set_option linter.unusedVariables false
set_option linter.unusedSimpArgs false
namespace Go.Proofs.Ythbaccmhdffjdaa.Ev
open Go Go.RowKit
def rowsL (rs : List (Option (List Value))) : Heap := fun k => match rs[k]? with
  | some (some x) => some (.ro x)
  | _ => none
/-- What a slice that comes in tells, under its name. -/
def CanQ (W : World) (k : Nat) (r : Option (List Value)) (ad : Nat × Nat) : Prop :=
  ∀ cs, r = some cs → (∀ c ∈ cs, leafG c = true) ∧ ∀ l : List (Nat × Nat), l[k]? = some ad → (Blk.ro cs).Holds (Nm.at l) k W.heap[(Nm.at l).blk k]?
/-- What a call does that only reads rows. -/
theorem calls_rows {P : Program} {f : FuncId} {args : List Value} {rs : List (Option (List Value))} {nx : Nat} {v : Value} (hs : CallSpec P f args (rowsL rs) nx v (assocN [] [])) (hv : gnd v = true) (hlen : rs.length ≤ nx)
    (hnm : ∀ u ∈ args, ∀ j ∈ nms u, j < nx) {W : World} {l : List (Nat × Nat)} (hq : ∀ j r ad, rs[j]? = some r → l[j]? = some ad → CanQ W j r ad) (hl : rs.length ≤ l.length) :
    Calls P f (args.map (ren (Nm.at l))).toArray W fun e w' => e = .returned v ∧ Below W.heap.size W w' := by
  have key : ∀ j b, rowsL rs j = some b → j < rs.length ∧ ∃ cs, b = .ro cs ∧ rs[j]? = some (some cs) := by
    intro j b h
    unfold rowsL at h
    split at h
    · rename_i x hx
      simp at h
      exact ⟨(List.getElem?_eq_some_iff.1 hx).1, x, h.symm, hx⟩
    · simp at h
  refine calls_ro hs hv (fun j b hb => ?_) hnm (fun j cs hj => ?_)
  · obtain ⟨h1, cs, h2, h3⟩ := key j b hb
    exact ⟨by omega, cs, h2, (hq j _ (l[j]'(by omega)) h3 (List.getElem?_eq_getElem (by omega)) cs rfl).1⟩
  · obtain ⟨h1, cs', h2, h3⟩ := key j _ hj
    injection h2 with h2
    subst h2
    exact (hq j _ (l[j]'(by omega)) h3 (List.getElem?_eq_getElem (by omega)) _ rfl).2 l (List.getElem?_eq_getElem (by omega))
theorem canQ_none (W : World) (k : Nat) (ad : Nat × Nat) : CanQ W k none ad := fun _ h => by simp at h
end Go.Proofs.Ythbaccmhdffjdaa.Ev


set_option linter.unusedVariables false
set_option linter.unusedSimpArgs false
set_option maxRecDepth 100000
namespace Go.Proofs.Ythbaccmhdffjdaa.Mg
open Go Go.RowKit Go.Proofs.Ythbaccmhdffjdaa.Ev

structure MG where
  i : Nat
  l : List EB
  c : Nat
def fMg (cs : List Value) (o n c0 : Nat) (Q : MG → Prop) : LoopF MG where
  ts _ := [3, 7, 8, 9]
  hs _ := [0, 10]
  tv _ := fun ⟨i, l, c⟩ => [.map (some 10), .slice (some ⟨0, o, none⟩) n c0, .int .i64 (n : Int), .int .i64 (i : Int)]
  hv _ := fun ⟨i, l, c⟩ => [.ro cs, .map L10 true (some .i64) (esB l) c]
  inv _ := Q
  mu _ := fun ⟨i, l, c⟩ => n - i
  nx := 12
theorem fMg_ok (cs : List Value) (o n c0 : Nat) (Q : MG → Prop) (hpl : ∀ x ∈ cs, leafG x = true) : (fMg cs o n c0 Q).OK 1 := by
  refine ⟨(by decide : 1 ≤ 12), fun z i h k hk => ?_, fun z i h v hv k hk => ?_, fun z i h x hx => ?_⟩
  · show k < 12
    simp [fMg] at hk; omega
  · show k < 12
    simp [fMg] at hv
    rcases hv with rfl | rfl | rfl | rfl <;> simp [nms, nm1, nm0] at hk <;> omega
  · simp [fMg] at hx
    rcases hx with rfl | rfl
    · exact Blk.plain.namesLt (b := .ro cs) hpl _
    · trivial
/-- One piece more. -/
def mgS (s : List EB × Nat) (x : Pc) : List EB × Nat := (putB x.box (IntKind.i64.wrap (getK x.box s.1 + x.val)) s.2 s.1, bif hasK x.box s.1 then s.2 else s.2 + 1)
def mgGo (l : List Pc) : List EB × Nat := l.foldl mgS ([], 0)
def mergeL (l : List Pc) : List EB := (mgGo l).1
def mergeC (l : List Pc) : Nat := (mgGo l).2
theorem mg_ok (l : List Pc) : OKB (mgGo l).1 (mgGo l).2 := by
  unfold mgGo
  have : ∀ (l : List Pc) (s : List EB × Nat), OKB s.1 s.2 → OKB (l.foldl mgS s).1 (l.foldl mgS s).2 := fun l => by
    induction l with
    | nil => exact fun s h => h
    | cons x l ih => exact fun s h => ih _ (okB_put h _ _)
  exact this l _ okB_nil
end Go.Proofs.Ythbaccmhdffjdaa.Mg


set_option linter.unusedVariables false
set_option linter.unusedSimpArgs false
set_option maxRecDepth 100000
namespace Go.Proofs.Ythbaccmhdffjdaa.Mg
open Go Go.RowKit Go.Proofs.Ythbaccmhdffjdaa.Ev Go.Proofs.Ythbaccmhdffjdaa.Mg

theorem mgNil (u : Unit)  {E : Env} (hE : EnvOK E Try.prog Try.f16 1 0 (.map (some 100)) [100] [.map L10 true (some .i64) (esB []) 0]) (hob : all ([Back (Value.map (some 4)) (Value.map (some 100)) [Blk.map [some IntKind.i64, some IntKind.i64, some IntKind.i64, some IntKind.i64, some IntKind.i64, some IntKind.i64, some IntKind.i64, some IntKind.i64, some IntKind.i64, some IntKind.i64] true (some IntKind.i64) [] 0] [Blk.map [some IntKind.i64, some IntKind.i64, some IntKind.i64, some IntKind.i64, some IntKind.i64, some IntKind.i64, some IntKind.i64, some IntKind.i64, some IntKind.i64, some IntKind.i64] true (some IntKind.i64) [] 0] [(100, 4)]])) : Sat E [.code (bodyOf Try.f16)] (st0 Try.f16 [.slice none 0 0] (roRows []) 0) :=
  by_ret (T := auto0 t_none) (h := hints []) (ws := []) (nx' := 101) hE hm (auto0_ok t_none_ok) (by omega) (by simp) (by intro x hx; simp at hx; subst hx; trivial) (by kernel_rfl) hob
theorem mgIn (cs : List Value) (o n c0 : Nat) (Q : MG → Prop)  {E : Env} {rv : Value} {rhs : List Nat} {rhv : List Blk} (hE : EnvOK E Try.prog Try.f16 1 1 rv rhs rhv) (hL : (fMg cs o n c0 Q).OK 1) (hob : all ([SameK (atLp (lp Try.f16 0)) (atLp (lp Try.f16 0)), Enter (fMg cs o n c0 Q) 0 none [Value.map (some 5), Value.slice (some (Addr.mk 0 o none)) n c0, Value.int IntKind.i64 ((n : Int)), Value.int IntKind.i64 ((0 : Int))] [Blk.ro cs, Blk.map [some IntKind.i64, some IntKind.i64, some IntKind.i64, some IntKind.i64, some IntKind.i64, some IntKind.i64, some IntKind.i64, some IntKind.i64, some IntKind.i64, some IntKind.i64] true (some IntKind.i64) [] 0] [(10, 5), (0, 0)]])) (hK : ∀ zz, (fMg cs o n c0 Q).inv 0 zz → ltO ((fMg cs o n c0 Q).mu 0 zz) none → Sat E (atLp (lp Try.f16 0)) ((fMg cs o n c0 Q).st 0 zz)) : Sat E [.code (bodyOf Try.f16)] (st0 Try.f16 [.slice (some ⟨0, o, none⟩) n c0] (roRows [cs]) 1) :=
  by_to (T := auto0 t_none) (h := hints []) (ws := [.stop]) (i0 := ⟨0, [], 0⟩) hE hm (auto0_ok t_none_ok) hL (by kernel_rfl) hob hK
theorem mgB (cs : List Value) (o n c0 : Nat) (Q : MG → Prop) (i : Nat) (l l2 : List EB) (c : Nat) (bo : Bx) (v g nn : Int) (J : Act → World → Prop) {E : Env} {rv : Value} {rhs : List Nat} {rhv : List Blk} (hE : EnvOK E Try.prog Try.f16 1 1 rv rhs rhv) (hL : (fMg cs o n c0 Q).OK 1) (hob : all ([SameK (mkLp (lp Try.f16 0) J) (mkLp (lp Try.f16 0) J), Enter (fMg cs o n c0 Q) 0 (some (n - i)) [Value.map (some 10), Value.slice (some (Addr.mk 0 o none)) n c0, Value.int IntKind.i64 ((n : Int)), Value.int IntKind.i64 (Int.ofNat i.succ)] [Blk.ro cs, Blk.map [some IntKind.i64, some IntKind.i64, some IntKind.i64, some IntKind.i64, some IntKind.i64, some IntKind.i64, some IntKind.i64, some IntKind.i64, some IntKind.i64, some IntKind.i64] true (some IntKind.i64) (esB l2) (bif mhas (Value.agg (Array.mk [Value.int IntKind.i64 bo.a0, Value.int IntKind.i64 bo.b0, Value.int IntKind.i64 bo.a1, Value.int IntKind.i64 bo.b1, Value.int IntKind.i64 bo.a2, Value.int IntKind.i64 bo.b2, Value.int IntKind.i64 bo.a3, Value.int IntKind.i64 bo.b3, Value.int IntKind.i64 bo.a4, Value.int IntKind.i64 bo.b4])) (esB l) then c else c + 1)] [(10, 10), (0, 0)], Value.int IntKind.i64 (IntKind.i64.wrap (Int.ofNat i.succ)) = Value.int IntKind.i64 (Int.ofNat i.succ), some (Value.int IntKind.i64 (mgetI (Value.agg (Array.mk [Value.int IntKind.i64 bo.a0, Value.int IntKind.i64 bo.b0, Value.int IntKind.i64 bo.a1, Value.int IntKind.i64 bo.b1, Value.int IntKind.i64 bo.a2, Value.int IntKind.i64 bo.b2, Value.int IntKind.i64 bo.a3, Value.int IntKind.i64 bo.b3, Value.int IntKind.i64 bo.a4, Value.int IntKind.i64 bo.b4])) (mens (Value.agg (Array.mk [Value.int IntKind.i64 bo.a0, Value.int IntKind.i64 bo.b0, Value.int IntKind.i64 bo.a1, Value.int IntKind.i64 bo.b1, Value.int IntKind.i64 bo.a2, Value.int IntKind.i64 bo.b2, Value.int IntKind.i64 bo.a3, Value.int IntKind.i64 bo.b3, Value.int IntKind.i64 bo.a4, Value.int IntKind.i64 bo.b4])) (zeroOf (some IntKind.i64)) c (esB l)))) = some (Value.int IntKind.i64 (mgetI (Value.agg (Array.mk [Value.int IntKind.i64 bo.a0, Value.int IntKind.i64 bo.b0, Value.int IntKind.i64 bo.a1, Value.int IntKind.i64 bo.b1, Value.int IntKind.i64 bo.a2, Value.int IntKind.i64 bo.b2, Value.int IntKind.i64 bo.a3, Value.int IntKind.i64 bo.b3, Value.int IntKind.i64 bo.a4, Value.int IntKind.i64 bo.b4])) (esB l))), mborn (Int.ofNat (mstamp (Value.agg (Array.mk [Value.int IntKind.i64 bo.a0, Value.int IntKind.i64 bo.b0, Value.int IntKind.i64 bo.a1, Value.int IntKind.i64 bo.b1, Value.int IntKind.i64 bo.a2, Value.int IntKind.i64 bo.b2, Value.int IntKind.i64 bo.a3, Value.int IntKind.i64 bo.b3, Value.int IntKind.i64 bo.a4, Value.int IntKind.i64 bo.b4])) c (esB l))) (mens (Value.agg (Array.mk [Value.int IntKind.i64 bo.a0, Value.int IntKind.i64 bo.b0, Value.int IntKind.i64 bo.a1, Value.int IntKind.i64 bo.b1, Value.int IntKind.i64 bo.a2, Value.int IntKind.i64 bo.b2, Value.int IntKind.i64 bo.a3, Value.int IntKind.i64 bo.b3, Value.int IntKind.i64 bo.a4, Value.int IntKind.i64 bo.b4])) (zeroOf (some IntKind.i64)) c (esB l)) = true, mset (Int.ofNat (mstamp (Value.agg (Array.mk [Value.int IntKind.i64 bo.a0, Value.int IntKind.i64 bo.b0, Value.int IntKind.i64 bo.a1, Value.int IntKind.i64 bo.b1, Value.int IntKind.i64 bo.a2, Value.int IntKind.i64 bo.b2, Value.int IntKind.i64 bo.a3, Value.int IntKind.i64 bo.b3, Value.int IntKind.i64 bo.a4, Value.int IntKind.i64 bo.b4])) c (esB l))) (Value.int IntKind.i64 nn) (mens (Value.agg (Array.mk [Value.int IntKind.i64 bo.a0, Value.int IntKind.i64 bo.b0, Value.int IntKind.i64 bo.a1, Value.int IntKind.i64 bo.b1, Value.int IntKind.i64 bo.a2, Value.int IntKind.i64 bo.b2, Value.int IntKind.i64 bo.a3, Value.int IntKind.i64 bo.b3, Value.int IntKind.i64 bo.a4, Value.int IntKind.i64 bo.b4])) (zeroOf (some IntKind.i64)) c (esB l)) = esB l2, Value.int IntKind.i64 (IntKind.i64.wrap (g + v)) = Value.int IntKind.i64 nn, Value.int IntKind.i64 (mgetI (Value.agg (Array.mk [Value.int IntKind.i64 bo.a0, Value.int IntKind.i64 bo.b0, Value.int IntKind.i64 bo.a1, Value.int IntKind.i64 bo.b1, Value.int IntKind.i64 bo.a2, Value.int IntKind.i64 bo.b2, Value.int IntKind.i64 bo.a3, Value.int IntKind.i64 bo.b3, Value.int IntKind.i64 bo.a4, Value.int IntKind.i64 bo.b4])) (esB l)) = Value.int IntKind.i64 g, readPart Try.prog 27 cs (o + ((i : Int)).toNat * 11) = some (Value.agg (Array.mk [Value.int IntKind.i64 bo.a0, Value.int IntKind.i64 bo.b0, Value.int IntKind.i64 bo.a1, Value.int IntKind.i64 bo.b1, Value.int IntKind.i64 bo.a2, Value.int IntKind.i64 bo.b2, Value.int IntKind.i64 bo.a3, Value.int IntKind.i64 bo.b3, Value.int IntKind.i64 bo.a4, Value.int IntKind.i64 bo.b4, Value.int IntKind.i64 v])), (0 : Int) ≤ (i : Int) ∧ (i : Int) < (n : Int), decide ((↑i : Int) < (↑n : Int)) = true])) (hK : ∀ zz, (fMg cs o n c0 Q).inv 0 zz → ltO ((fMg cs o n c0 Q).mu 0 zz) (some (n - i)) → Sat E (mkLp (lp Try.f16 0) J) ((fMg cs o n c0 Q).st 0 zz)) : Sat E (inLp (lp Try.f16 0) J) ((fMg cs o n c0 Q).st 0 ⟨i, l, c⟩) :=
  by_to (T := auto0 t_none) (h := hints [(4, 0, {p := true}), (4, 1, {o := some (.agg ⟨bo.cs ++ [.int .i64 v]⟩)}), (5, 3, {v := some (.int .i64 g)}), (5, 6, {v := some (.int .i64 nn)}), (5, 9, {e := some (esB l2)}), (6, 0, {v := some (.int .i64 ((i + 1 : Nat) : Int))})]) (ws := [.b true]) (i0 := ⟨i + 1, l2, c⟩) hE hm (auto0_ok t_none_ok) hL (by kernel_rfl) hob hK
theorem mgE (cs : List Value) (o n c0 : Nat) (Q : MG → Prop) (i : Nat) (l : List EB) (c : Nat) (J : Act → World → Prop) {E : Env} (hE : EnvOK E Try.prog Try.f16 1 1 (.map (some 100)) [100] [.map L10 true (some .i64) (esB l) c]) (hob : all ([Back (Value.map (some 10)) (Value.map (some 100)) [Blk.map [some IntKind.i64, some IntKind.i64, some IntKind.i64, some IntKind.i64, some IntKind.i64, some IntKind.i64, some IntKind.i64, some IntKind.i64, some IntKind.i64, some IntKind.i64] true (some IntKind.i64) (esB l) c] [Blk.map [some IntKind.i64, some IntKind.i64, some IntKind.i64, some IntKind.i64, some IntKind.i64, some IntKind.i64, some IntKind.i64, some IntKind.i64, some IntKind.i64, some IntKind.i64] true (some IntKind.i64) (esB l) c] [(100, 10)], decide ((↑i : Int) < (↑n : Int)) = false])) : Sat E (inLp (lp Try.f16 0) J) ((fMg cs o n c0 Q).st 0 ⟨i, l, c⟩) :=
  by_ret (T := auto0 t_none) (h := hints []) (ws := [.b false]) (nx' := 101) hE hm (auto0_ok t_none_ok) (by omega) (by simp) (by intro x hx; simp at hx; subst hx; trivial) (by kernel_rfl) hob
end Go.Proofs.Ythbaccmhdffjdaa.Mg


set_option linter.unusedVariables false
set_option linter.unusedSimpArgs false
set_option maxRecDepth 100000
namespace Go.Proofs.Ythbaccmhdffjdaa.Mg
open Go Go.RowKit Go.Proofs.Ythbaccmhdffjdaa.Ev Go.Proofs.Ythbaccmhdffjdaa.Mg

theorem merge_spec (cs : List Value) (o n c0 : Nat) (hr : ePc.Row cs o n) (hpl : ∀ x ∈ cs, leafG x = true) (hn : n ≤ 65536) :
    CallSpec Try.prog 16 [.slice (some ⟨0, o, none⟩) n c0] (roRows [cs]) 1 (.map (some 100)) (assocN [100] [.map L10 true (some .i64) (esB (mergeL (ePc.list cs o n))) (mergeC (ePc.list cs o n))]) := by
  refine spec_of_sat Try.func16 rfl fun E hE => ?_
  have hlen : (ePc.list cs o n).length = n := Elt.list_len _ _ _
  have hget : ∀ i y, (ePc.list cs o n)[i]? = some y → readPart Try.prog 27 cs (o + (Int.ofNat i).toNat * 11) = some (.agg ⟨y.box.cs ++ [.int .i64 y.val]⟩) := fun i y hy => hr.read (P := Try.prog) (ty := 27) (by kernel_rfl) (by kernel_rfl) (i := i) (x := y) hy
  generalize hps : ePc.list cs o n = ps at hE hlen hget
  let Q : MG → Prop := fun s => s.i ≤ n ∧ (s.l, s.c) = mgGo (ps.take s.i)
  have okL := fMg_ok cs o n c0 Q hpl
  have rnr : ∀ f : Nat → Nat, Blk.rnB f (.ro cs) = .ro cs := fun f => Blk.plain.rnB (b := .ro cs) hpl f
  have rnm : ∀ (f : Nat → Nat) (es : List Ent) (c : Nat), Blk.rnB f (.map L10 true (some .i64) es c) = .map L10 true (some .i64) es c := fun f es c => rfl
  refine mgIn cs o n c0 Q hE okL ⟨rfl, ⟨⟨0, [], 0⟩, ⟨Nat.zero_le _, rfl⟩, trivial, rfl, by simp only [fMg, List.map_cons, List.map_nil, rnr, rnm]; rfl⟩, trivial⟩ fun zz hz _ => by_loop (fMg cs o n c0 Q) (lp Try.f16 0) ?_ 0 zz hz
  rintro b ⟨i, l, c⟩ hinv J hJ
  have hinv : i ≤ n ∧ (l, c) = mgGo (ps.take i) := hinv
  obtain ⟨k1, k2⟩ := hinv
  show Sat E (inLp (lp Try.f16 0) J) ((fMg cs o n c0 Q).st 0 ⟨i, l, c⟩)
  have hJ' : ∀ zz, (fMg cs o n c0 Q).inv 0 zz → ltO ((fMg cs o n c0 Q).mu 0 zz) (some (n - i)) → Sat E (mkLp (lp Try.f16 0) J) ((fMg cs o n c0 Q).st 0 zz) := fun zz h1 h2 => hJ 0 zz h1 h2
  have ok : OKB l c := by have := mg_ok (ps.take i); rw [← k2] at this; exact this
  by_cases hin : i < n
  · have hlt : decide ((i : Int) < (n : Int)) = true := decide_eq_true (by omega)
    obtain ⟨y, hy⟩ : ∃ y, ps[i]? = some y := ⟨_, List.getElem?_eq_getElem (by omega)⟩
    have htk : ps.take (i + 1) = ps.take i ++ [y] := by rw [List.take_add_one, hy]; rfl
    have hnx : mgGo (ps.take (i + 1)) = mgS (l, c) y := by rw [htk]; unfold mgGo; rw [List.foldl_append]; unfold mgGo at k2; rw [← k2]; rfl
    have hm := okB_map ok
    have hkf : keyFits L10 true (kB y.box) = true := rfl
    exact mgB cs o n c0 Q i l (mgS (l, c) y).1 c y.box y.val (getK y.box l) (IntKind.i64.wrap (getK y.box l + y.val)) J hE okL ⟨rfl, ⟨⟨i + 1, (mgS (l, c) y).1, (mgS (l, c) y).2⟩, ⟨hin, hnx.symm⟩, (by show n - (i + 1) < n - i; omega), rfl, (by
      simp only [fMg, List.map_cons, List.map_nil, rnr, rnm]
      show [Blk.ro cs, Blk.map L10 true (some .i64) (esB (mgS (l, c) y).1) (bif mhas (kB y.box) (esB l) then c else c + 1)] = _
      rw [mhas_esB]
      rfl)⟩, i64_succ (by omega), (congrArg (fun z => some (Value.int .i64 z)) (mgetI_ens (esB l))), mborn_ens hkf (esB l), ((mset_ens (esB l) hm.borns hm.clock).trans (mput_esB _ _ _ _)), rfl, (congrArg (Value.int .i64) (mget_esB _ _)), hget i y hy, ⟨Int.natCast_nonneg _, Int.ofNat_lt.2 hin⟩, hlt, trivial⟩ hJ'
  · have hlt : decide ((i : Int) < (n : Int)) = false := decide_eq_false (by omega)
    rw [List.take_of_length_le (by omega)] at k2
    have e1 : mergeL ps = l := by unfold mergeL; rw [← k2]
    have e2 : mergeC ps = c := by unfold mergeC; rw [← k2]
    rw [e1, e2] at hE
    exact mgE cs o n c0 Q i l c J hE ⟨⟨rfl, rfl⟩, hlt, trivial⟩
def merge_F (ML : List Pc → List EB) (MC : List Pc → Nat) : RoF := fun xs css => match xs, css with
  | [.slice (some ⟨0, o, none⟩) n c0], [cs] => some (.map (some 100), [.map L10 true (some .i64) (esB (ML (ePc.list cs o n))) (MC (ePc.list cs o n))], [ML = mergeL, MC = mergeC, ePc.Row cs o n, n ≤ 65536])
  | [.slice none 0 0], [] => some (.map (some 100), [.map L10 true (some .i64) (esB []) 0], [])
  | _, _ => none
theorem merge_sum (ML : List Pc → List EB) (MC : List Pc → Nat) : SumOK Try.prog 16 (roSum (merge_F ML MC)) := by
  refine roSum_ok (en Try.func16 rfl) ?_ (fun xs css r h => ?_)
  · intro xs css v blks ob h hob hpl hl
    unfold merge_F at h
    split at h
    · rename_i o n c0 cs
      simp only [Option.some.injEq, Prod.mk.injEq] at h
      obtain ⟨rfl, rfl, rfl⟩ := h
      obtain rfl : ML = mergeL := hob _ (List.mem_cons_self ..)
      obtain rfl : MC = mergeC := hob _ (List.mem_cons_of_mem _ (List.mem_cons_self ..))
      refine ⟨by simp, fun x hx => by simp at hx; subst hx; exact ⟨trivial, rfl⟩, fun j hj => by simp [nms, nm1, nm0] at hj; subst hj; simp, ?_⟩
      exact merge_spec cs o n c0 (hob _ (List.mem_cons_of_mem _ (List.mem_cons_of_mem _ (List.mem_cons_self ..)))) (hpl cs (by simp)) (hob _ (by simp))
    · simp only [Option.some.injEq, Prod.mk.injEq] at h
      obtain ⟨rfl, rfl, rfl⟩ := h
      refine ⟨by simp, fun x hx => by simp at hx; subst hx; exact ⟨trivial, rfl⟩, fun j hj => by simp [nms, nm1, nm0] at hj; subst hj; simp, ?_⟩
      exact spec_of_sat Try.func16 rfl fun E hE => mgNil () hE ⟨⟨rfl, rfl⟩, trivial⟩
    · simp at h
  · unfold merge_F at h
    split at h <;> simp at h <;> simp
end Go.Proofs.Ythbaccmhdffjdaa.Mg


set_option linter.unusedVariables false
set_option linter.unusedSimpArgs false
set_option maxRecDepth 100000
namespace Go.Proofs.Ythbaccmhdffjdaa.PickE
open Go Go.RowKit Go.Proofs.Ythbaccmhdffjdaa.Ev
theorem pick0 (cs : List Value) (off n c : Nat) (i : Int)  {E : Env} (hE : EnvOK E Try.prog Try.f44 2 1 (.int .i64 0) [] []) (hob : all ([Back (Value.int IntKind.i64 ((0 : Int))) (Value.int IntKind.i64 ((0 : Int))) [] [] [], ((n : Int) == (0 : Int)) = true])) : Sat E [.code (bodyOf Try.f44)] (st0 Try.f44 [.slice (some ⟨0, off, none⟩) n c, .int .i64 i] (roRows [cs]) 1) :=
  by_ret (T := auto0 t_none) (h := hints []) (ws := [.b true]) (nx' := 1) hE hm (auto0_ok t_none_ok) (by omega) (by simp) (by simp) (by kernel_rfl) hob
theorem pick1 (cs : List Value) (off n c : Nat) (i z : Int)  {E : Env} (hE : EnvOK E Try.prog Try.f44 2 1 (.int .i64 z) [] []) (hob : all ([Back (Value.int IntKind.i64 z) (Value.int IntKind.i64 z) [] [] [], readPart Try.prog 3 cs (off + (i.tmod ((n : Int))).toNat * 1) = some (Value.int IntKind.i64 z), (0 : Int) ≤ i.tmod ((n : Int)) ∧ i.tmod ((n : Int)) < (n : Int), (n : Int) ≠ (0 : Int), ((n : Int) == (0 : Int)) = false])) : Sat E [.code (bodyOf Try.f44)] (st0 Try.f44 [.slice (some ⟨0, off, none⟩) n c, .int .i64 i] (roRows [cs]) 1) :=
  by_ret (T := auto0 t_none) (h := hints [(3, 4, { p := true }), (3, 5, { p := true }), (3, 6, { o := some (.int .i64 z) })]) (ws := [.b false]) (nx' := 1) hE hm (auto0_ok t_none_ok) (by omega) (by simp) (by simp) (by kernel_rfl) hob
theorem pickN (i : Int)  {E : Env} (hE : EnvOK E Try.prog Try.f44 2 0 (.int .i64 0) [] []) (hob : all ([Back (Value.int IntKind.i64 ((0 : Int))) (Value.int IntKind.i64 ((0 : Int))) [] [] []])) : Sat E [.code (bodyOf Try.f44)] (st0 Try.f44 [.slice none 0 0, .int .i64 i] (roRows []) 0) :=
  by_ret (T := auto0 t_none) (h := hints []) (ws := []) (nx' := 0) hE hm (auto0_ok t_none_ok) (by omega) (by simp) (by simp) (by kernel_rfl) hob
def pickI (zs : List Int) (i : Int) : Int := zs.getD (Int.tmod i zs.length).toNat 0
def pick_F : RoF := fun xs css =>
  match xs, css with
  | [.slice none 0 0, .int .i64 i], [] => some (.int .i64 (pickI [] i), [], [])
  | [.slice (some ⟨0, off, none⟩) n c, .int .i64 i], [cs] => some (.int .i64 (pickI (intsOf cs off n) i), [], [IntRow .i64 cs off n, 0 ≤ i])
  | _, _ => none
theorem pick_sum : SumOK Try.prog 44 (roSum pick_F) := by
  refine roSum_ok (en Try.func44 rfl) ?_ (fun xs css r h => ?_)
  · intro xs css v blks ob h hob hpl hl
    unfold pick_F at h
    split at h
    · rename_i i
      simp only [Option.some.injEq, Prod.mk.injEq] at h
      obtain ⟨rfl, rfl, rfl⟩ := h
      refine ⟨by simp, by simp, fun j hj => by simp [nms, nm1, nm0] at hj, ?_⟩
      refine spec_of_sat Try.func44 rfl fun E hE => ?_
      exact pickN i hE ⟨⟨rfl, rfl⟩, trivial⟩
    · rename_i off n c i cs
      simp only [Option.some.injEq, Prod.mk.injEq] at h
      obtain ⟨rfl, rfl, rfl⟩ := h
      refine ⟨by simp, by simp, fun j hj => by simp [nms, nm1, nm0] at hj, ?_⟩
      obtain ⟨h1, h2⟩ := hob _ (List.mem_cons_self ..)
      have h0 : 0 ≤ i := hob _ (by simp)
      refine spec_of_sat Try.func44 rfl fun E hE => ?_
      have hlen := intsOf_len h1
      by_cases hn : n = 0
      · subst hn
        have e : pickI (intsOf cs off 0) i = 0 := by simp [pickI, intsOf]
        rw [e] at hE
        exact pick0 cs off 0 c i hE ⟨⟨rfl, rfl⟩, rfl, trivial⟩
      · have hm0 : 0 ≤ i.tmod (n : Int) := Int.tmod_nonneg _ h0
        have hm1 : i.tmod (n : Int) < (n : Int) := by have := Int.tmod_lt_of_pos i (b := (n : Int)) (by omega); omega
        refine pick1 cs off n c i _ hE ⟨⟨rfl, rfl⟩, ?_, ⟨hm0, hm1⟩, by omega, ?_, trivial⟩
        · refine readPart_one (by kernel_rfl) ?_ rfl
          rw [Nat.mul_one, h2 _ (by omega)]
          simp only [pickI, hlen]
        · have : ((n : Int) == 0) = false := by rw [beq_eq_false_iff_ne]; omega
          exact this
    · simp at h
  · unfold pick_F at h
    split at h <;> simp at h <;> simp
noncomputable def t_pick : Sums := upd t_none 44 (some (roSum pick_F))
theorem t_pick_ok : SumsOK Try.prog t_pick := sums_cons t_none_ok pick_sum
end Go.Proofs.Ythbaccmhdffjdaa.PickE


set_option linter.unusedVariables false
set_option linter.unusedSimpArgs false
namespace Go.Proofs.Ythbaccmhdffjdaa.BitLib
open Go Go.RowKit

theorem wrap64_id {n : Int} (h0 : -9223372036854775808 ≤ n) (h1 : n ≤ 9223372036854775807) : wrap64 n = n := by unfold wrap64; omega
theorem wrap64_eq (n : Int) : wrap64 n = IntKind.i64.wrap n := by rw [IntKind.wrap_i64]; unfold wrap64; rfl
theorem wf_i64 {n : Int} (h : (Lit.int .i64 n).wf = true) : -9223372036854775808 ≤ n ∧ n ≤ 9223372036854775807 := by
  simpa [Lit.wf, IntKind.min, IntKind.max, IntKind.signed, IntKind.bits] using h
theorem wf_u64 {n : Int} (h : (Lit.int .u64 n).wf = true) : 0 ≤ n ∧ n ≤ 18446744073709551615 := by
  simpa [Lit.wf, IntKind.min, IntKind.max, IntKind.signed, IntKind.bits] using h
theorem wrapu_id {n : Int} (h0 : 0 ≤ n) (h1 : n ≤ 18446744073709551615) : IntKind.u64.wrap n = n := by rw [IntKind.wrap_u64]; omega
theorem wrap64_range (n : Int) : -9223372036854775808 ≤ wrap64 n ∧ wrap64 n ≤ 9223372036854775807 := by unfold wrap64; omega

/-! ### 64 bits with a sign -/
theorem toInt_of (x : Int) (h0 : -9223372036854775808 ≤ x) (h1 : x ≤ 9223372036854775807) : (BitVec.ofInt 64 x).toInt = x := by
  rw [BitVec.toInt_ofInt, Int.bmod_eq_of_le] <;> omega
theorem i64_toNat (b : BitVec 64) : IntKind.i64.wrap (b.toNat : Int) = b.toInt := by
  have := b.isLt
  rw [IntKind.wrap_i64, BitVec.toInt_eq_toNat_cond]
  split <;> omega
theorem toNat_of (x : Int) : ((BitVec.ofInt 64 x).toNat : Int) = x % 18446744073709551616 := by
  rw [BitVec.toNat_ofInt]
  exact Int.toNat_of_nonneg (Int.emod_nonneg _ (by decide))
theorem neg_iff (x : Int) (h0 : -9223372036854775808 ≤ x) (h1 : x ≤ 9223372036854775807) : (BitVec.ofInt 64 x).msb = decide (x < 0) := by
  rw [BitVec.msb_eq_toInt, toInt_of x h0 h1]
theorem bits_and_i (x y : Int) : Go.bits .and .i64 x y = (BitVec.ofInt 64 x &&& BitVec.ofInt 64 y).toInt := i64_toNat _
theorem bits_or_i (x y : Int) : Go.bits .or .i64 x y = (BitVec.ofInt 64 x ||| BitVec.ofInt 64 y).toInt := i64_toNat _
theorem bits_xor_i (x y : Int) : Go.bits .xor .i64 x y = (BitVec.ofInt 64 x ^^^ BitVec.ofInt 64 y).toInt := i64_toNat _
theorem toInt_range (b : BitVec 64) : -9223372036854775808 ≤ b.toInt ∧ b.toInt ≤ 9223372036854775807 := by
  have := b.isLt
  rw [BitVec.toInt_eq_toNat_cond]
  split <;> omega
theorem and_neg {x y : Int} (hx0 : -9223372036854775808 ≤ x) (hx1 : x ≤ 9223372036854775807) (hy0 : -9223372036854775808 ≤ y) (hy1 : y ≤ 9223372036854775807) :
    Go.bits .and .i64 x y < 0 ↔ (x < 0 ∧ y < 0) := by
  rw [bits_and_i]
  have h := BitVec.msb_eq_toInt (x := BitVec.ofInt 64 x &&& BitVec.ofInt 64 y)
  rw [BitVec.msb_and, neg_iff x hx0 hx1, neg_iff y hy0 hy1] at h
  have h2 : decide ((BitVec.ofInt 64 x &&& BitVec.ofInt 64 y).toInt < 0) = true ↔ (decide (x < 0) && decide (y < 0)) = true := by rw [h]
  simpa using h2
theorem xor_neg {x y : Int} (hx0 : -9223372036854775808 ≤ x) (hx1 : x ≤ 9223372036854775807) (hy0 : -9223372036854775808 ≤ y) (hy1 : y ≤ 9223372036854775807) :
    Go.bits .xor .i64 x y < 0 ↔ ¬ (x < 0 ↔ y < 0) := by
  rw [bits_xor_i]
  have h := BitVec.msb_eq_toInt (x := BitVec.ofInt 64 x ^^^ BitVec.ofInt 64 y)
  rw [BitVec.msb_xor, neg_iff x hx0 hx1, neg_iff y hy0 hy1] at h
  have h2 : decide ((BitVec.ofInt 64 x ^^^ BitVec.ofInt 64 y).toInt < 0) = true ↔ (decide (x < 0) ^^ decide (y < 0)) = true := by rw [h]
  by_cases a : x < 0 <;> by_cases b : y < 0 <;> simpa [a, b] using h2
theorem xor_range (x y : Int) : -9223372036854775808 ≤ Go.bits .xor .i64 x y ∧ Go.bits .xor .i64 x y ≤ 9223372036854775807 := by
  rw [bits_xor_i]; exact toInt_range _
theorem pow_le {a b : Nat} (h : a ≤ b) : (2 : Int) ^ a ≤ 2 ^ b := by
  have := Nat.pow_le_pow_right (show 0 < 2 by decide) h
  exact_mod_cast this
/-- The lowest bits of a number with a sign. -/
theorem i64_low (x : Int) (w : Nat) (hw : w ≤ 63) : Go.bits .and .i64 x (2 ^ w - 1) = x % 2 ^ w := by
  have hp : (0 : Int) < 2 ^ w := Int.pow_pos (by decide)
  have hle : (2 : Int) ^ w ≤ 2 ^ 63 := pow_le hw
  have hd : (2 : Int) ^ w ∣ 18446744073709551616 := by
    have : (2 : Int) ^ 64 = 2 ^ w * 2 ^ (64 - w) := by rw [← Int.pow_add]; congr 1; omega
    exact ⟨2 ^ (64 - w), by rw [← this]; rfl⟩
  have h63 : (2 : Int) ^ 63 = 9223372036854775808 := rfl
  unfold Go.bits
  simp only
  have e1 : (BitVec.ofInt IntKind.i64.bits (2 ^ w - 1 : Int)).toNat = 2 ^ w - 1 := by
    have h := toNat_of (2 ^ w - 1)
    have e : (2 ^ w - 1 : Int) % 18446744073709551616 = 2 ^ w - 1 := Int.emod_eq_of_lt (by omega) (by omega)
    rw [e] at h
    have h' : ((BitVec.ofInt IntKind.i64.bits (2 ^ w - 1 : Int)).toNat : Int) = (2 : Int) ^ w - 1 := h
    have hn : (1 : Nat) ≤ 2 ^ w := Nat.one_le_two_pow
    have hc : ((2 ^ w - 1 : Nat) : Int) = (2 : Int) ^ w - 1 := by rw [Int.natCast_sub hn]; simp
    exact Int.ofNat.inj (h'.trans hc.symm)
  rw [BitVec.toNat_and, e1, Nat.and_two_pow_sub_one_eq_mod]
  have h2 : (((BitVec.ofInt IntKind.i64.bits x).toNat % 2 ^ w : Nat) : Int) = x % 2 ^ w := by
    rw [Int.natCast_emod]
    have := toNat_of x
    have h' : ((BitVec.ofInt IntKind.i64.bits x).toNat : Int) = x % 18446744073709551616 := this
    rw [h']
    simp only [Int.natCast_pow, Int.cast_ofNat_Int]
    exact Int.emod_emod_of_dvd _ hd
  rw [h2]
  have a0 := Int.emod_nonneg x (show (2 : Int) ^ w ≠ 0 by omega)
  have a1 := Int.emod_lt_of_pos x hp
  rw [IntKind.wrap_i64]
  omega
theorem i64_low32 (x : Int) : Go.bits .and .i64 x 4294967295 = x % 4294967296 := i64_low x 32 (by decide)
theorem i64_low1 (x : Int) : Go.bits .and .i64 x 1 = x % 2 := i64_low x 1 (by decide)
/-- An upper half and a lower one, put together. -/
theorem or_halves (h l : Int) (h0 : -2147483648 ≤ h) (h1 : h < 2147483648) (l0 : 0 ≤ l) (l1 : l < 4294967296) :
    Go.bits .or .i64 (h * 4294967296) l = h * 4294967296 + l := by
  unfold Go.bits
  simp only
  rw [BitVec.toNat_or]
  have eh : ((BitVec.ofInt IntKind.i64.bits (h * 4294967296)).toNat : Int) = (h * 4294967296) % 18446744073709551616 := toNat_of _
  have el : ((BitVec.ofInt IntKind.i64.bits l).toNat : Int) = l % 18446744073709551616 := toNat_of _
  generalize (BitVec.ofInt IntKind.i64.bits (h * 4294967296)).toNat = a at *
  generalize (BitVec.ofInt IntKind.i64.bits l).toNat = b at *
  have hb : b < 2 ^ 32 := by have : (2 : Nat) ^ 32 = 4294967296 := rfl; omega
  have ha : a % 2 ^ 32 = 0 := by have : (2 : Nat) ^ 32 = 4294967296 := rfl; rw [this]; omega
  rw [nat_join 32 a b ha hb, IntKind.wrap_i64]
  push_cast
  omega
end Go.Proofs.Ythbaccmhdffjdaa.BitLib


set_option linter.unusedVariables false
set_option linter.unusedSimpArgs false
namespace Go.Proofs.Ythbaccmhdffjdaa
open Go Go.RowKit
theorem below_alloc {w W : World} (h : Below w.heap.size w W) (o : Obj) : Below w.heap.size w (W.alloc o) := h.alloc h.size o
theorem below_drew {B : Nat} {w W : World} (h : Below B w W) : Below B w W.drew := ⟨h.os, h.tape, h.output, h.size, h.block⟩
/-- What was there before a call that only adds is there behind it: cells and marks. -/
theorem bcell {W w1 : World} (hb : Below W.heap.size W w1) : (∀ b o, b < W.heap.size → w1.cell? ⟨b, o, none⟩ = W.cell? ⟨b, o, none⟩) ∧ (∀ b o, b < W.heap.size → w1.frozen? ⟨b, o, none⟩ = W.frozen? ⟨b, o, none⟩) :=
  ⟨fun b o h => hb.cell (p := ⟨b, o, none⟩) h, fun b o h => hb.frozen (p := ⟨b, o, none⟩) h⟩
theorem below_call {w X w1 : World} (k : Below X.heap.size X w1) (h : Below w.heap.size w X) : Below w.heap.size w w1 := h.trans (k.mono h.size)
theorem add_plain (g j : Nat) : (⟨g, 0, none⟩ : Addr).add j = ⟨g, j, none⟩ := by unfold Addr.add; split <;> simp_all
/-- A slice reads as a list of numbers of a kind. -/
def ReadsInt (w : World) (k : IntKind) (A : Option Addr) (n : Nat) (xs : List Int) : Prop :=
  xs.length = n ∧ n ≤ 9223372036854775807 ∧ (0 < n → ∃ ad, A = some ad ∧ ∀ j, j < n → w.cell? (ad.add j) = some (.int k (xs.getD j 0)))
theorem reads_alloc (w : World) (xs : List Int) (T : TypeId) (hn : xs.length ≤ 9223372036854775807) : ReadsInt (w.alloc (.cells (xs.map (Value.int .i64)).toArray T)) .i64 (some ⟨w.heap.size, 0, none⟩) xs.length xs := by
  refine ⟨rfl, hn, fun _ => ⟨_, rfl, fun j hj => ?_⟩⟩
  rw [add_plain]
  simp [List.getD, List.getElem?_eq_getElem hj]
/-- The slice reads as these numbers, up to its length. -/
structure ReadsInts (w : World) (A : Option Addr) (n c : Nat) (zs : List Int) : Prop where
  reads : ReadsInt w .i64 A n zs
  cap : n ≤ c
theorem ReadsInts.nil {w : World} : ReadsInts w none 0 0 [] := ⟨⟨rfl, by decide, fun h => absurd h (by decide)⟩, Nat.le_refl _⟩
theorem ReadsInts.of {w : World} {x : Addr} {n c : Nat} {zs : List Int} (hl : n ≤ c) (hm : c ≤ maxLen) (hz : zs.length = c) (hcell : ∀ i, i < zs.length → w.cell? (x.add i) = some (.int .i64 (zs.getD i 0))) :
    ReadsInts w (some x) n c (zs.take n) := by
  refine ⟨⟨by simp; omega, by unfold maxLen at hm; omega, fun _ => ⟨x, rfl, fun j hj => ?_⟩⟩, hl⟩
  rw [hcell j (by omega)]
  simp [List.getD, List.getElem?_take, hj]
end Go.Proofs.Ythbaccmhdffjdaa


set_option linter.unusedVariables false
set_option linter.unusedSimpArgs false
namespace Go.Proofs.Ythbaccmhdffjdaa.Within
open Go Go.RowKit Go.Proofs.Ythbaccmhdffjdaa.BitLib

theorem emod_of_tmod {n m : Int} (hm : 0 < m) : (n.tmod m < 0 → n % m = n.tmod m + m) ∧ (0 ≤ n.tmod m → n % m = n.tmod m) ∧ -m < n.tmod m ∧ n.tmod m < m := by
  have h := Int.tmod_eq_emod (a := n) (b := m)
  have h0 := Int.emod_nonneg n (show m ≠ 0 by omega)
  have h1 := Int.emod_lt_of_pos n hm
  have ha : ((m.natAbs : Nat) : Int) = m := by omega
  by_cases hc : 0 ≤ n ∨ m ∣ n
  · rw [if_pos hc] at h; omega
  · rw [if_neg hc] at h; omega
def withinS (n lo hi : Int) : Int := lo + n % (hi - lo + 1)
theorem within_range (n : Int) {lo hi : Int} (h : lo ≤ hi) : lo ≤ withinS n lo hi ∧ withinS n lo hi ≤ hi := by
  have h0 := Int.emod_nonneg n (show hi - lo + 1 ≠ 0 by omega)
  have h1 := Int.emod_lt_of_pos n (show 0 < hi - lo + 1 by omega)
  unfold withinS; omega
set_option maxHeartbeats 1000000 in
theorem within_calls (n lo hi : Int) (n0 : -9223372036854775808 ≤ n) (n1 : n ≤ 9223372036854775807) (h0 : -2305843009213693952 ≤ lo) (h1 : lo ≤ hi) (h2 : hi ≤ 2305843009213693952) (w : World) :
    Calls Try.prog 19 #[.int .i64 n, .int .i64 lo, .int .i64 hi] w fun e w' => e = .returned (.int .i64 (withinS n lo hi)) ∧ w = w' := by
  obtain ⟨t1, t2, t3, t4⟩ := emod_of_tmod (n := n) (m := hi - lo + 1) (by omega)
  have hne : ¬ hi - lo + 1 = 0 := by omega
  by_cases ht : n.tmod (hi - lo + 1) < 0
  · have HR : Hid (withinS n lo hi = lo + (n.tmod (hi - lo + 1) + hi - lo + 1)) := Lib.hid (by unfold withinS; rw [t1 ht]; omega)
    clear t1 t2
    go_enter Try.func19, Try.ntmps19
    go_wp2
    go_ret
    exact ⟨by rw [HR.out]; rfl, rfl⟩
  · have HR : Hid (withinS n lo hi = lo + n.tmod (hi - lo + 1)) := Lib.hid (by unfold withinS; rw [t2 (by omega)])
    clear t1 t2
    go_enter Try.func19, Try.ntmps19
    go_wp2
    go_ret
    exact ⟨by rw [HR.out]; rfl, rfl⟩
end Go.Proofs.Ythbaccmhdffjdaa.Within


set_option linter.unusedVariables false
set_option linter.unusedSimpArgs false
set_option maxRecDepth 100000
namespace Go.Proofs.Ythbaccmhdffjdaa.BoxF
open Go Go.RowKit Go.Proofs.Ythbaccmhdffjdaa.Ev Go.Proofs.Ythbaccmhdffjdaa.Within Go.Proofs.Ythbaccmhdffjdaa.PickE
def ofLo (lo hi : Int) : Int := bif decide (lo > hi) then 1 else lo
def ofHi (lo hi : Int) : Int := bif decide (lo > hi) then 0 else hi
def of_F : List Value → Option (Value × List Prop)
  | [.int .i64 lo, .int .i64 hi] => some (sp (ofLo lo hi) (ofHi lo hi), [])
  | _ => none
theorem of_sum : SumOK Try.prog 61 (sumOf of_F) := by
  refine sumOf_ok (en Try.func61 rfl) fun args v ob h hob => ?_
  unfold of_F at h
  split at h
  · obtain ⟨rfl, rfl⟩ := Prod.mk.inj (Option.some.inj h)
    exact calls_run0 hm (auto0_ok t_pick_ok) noHint [.fork] (by kernel_rfl)
  · exact absurd h (by simp)
noncomputable def t_of : Sums := upd t_pick 61 (some (sumOf of_F))
theorem t_of_ok : SumsOK Try.prog t_of := sums_cons t_pick_ok of_sum
def has_F : List Value → Option (Value × List Prop)
  | [.agg ⟨[.int .i64 a, .int .i64 b]⟩, .int .i64 n] => some (.bool (decide (a ≤ n) && decide (n ≤ b)), [])
  | _ => none
theorem has_sum : SumOK Try.prog 52 (sumOf has_F) := by
  refine sumOf_ok (en Try.func52 rfl) fun args v ob h hob => ?_
  unfold has_F at h
  split at h
  · rename_i a b n
    obtain ⟨rfl, rfl⟩ := Prod.mk.inj (Option.some.inj h)
    clear h
    cases h : decide (a ≤ n)
    · exact calls_runO hm (auto0_ok t_of_ok) (hints [(1, 3, ht false)]) [] [bb (decide (a ≤ n)) false] (by kernel_rfl) ⟨bb_of h, trivial⟩
    · exact calls_runO hm (auto0_ok t_of_ok) (hints [(1, 3, ht true)]) [] [bb (decide (a ≤ n)) true] (by kernel_rfl) ⟨bb_of h, trivial⟩
  · exact absurd h (by simp)
noncomputable def t_has : Sums := upd t_of 52 (some (sumOf has_F))
theorem t_has_ok : SumsOK Try.prog t_has := sums_cons t_of_ok has_sum
def empty_F : List Value → Option (Value × List Prop)
  | [.agg ⟨[.int .i64 a, .int .i64 b]⟩] => some (.bool (decide (a > b)), [])
  | _ => none
theorem empty_sum : SumOK Try.prog 51 (sumOf empty_F) := by
  refine sumOf_ok (en Try.func51 rfl) fun args v ob h hob => ?_
  unfold empty_F at h
  split at h
  · rename_i a b
    obtain ⟨rfl, rfl⟩ := Prod.mk.inj (Option.some.inj h)
    clear h
    exact calls_run0 hm (auto0_ok t_has_ok) noHint [] (by kernel_rfl)
  · exact absurd h (by simp)
noncomputable def t_empty : Sums := upd t_has 51 (some (sumOf empty_F))
theorem t_empty_ok : SumsOK Try.prog t_empty := sums_cons t_has_ok empty_sum
def within_F : List Value → Option (Value × List Prop)
  | [.agg ⟨[.int .i64 a, .int .i64 b]⟩, .agg ⟨[.int .i64 c, .int .i64 d]⟩] => some (.bool (decide (a > b) || (decide (c ≤ a) && decide (b ≤ d))), [])
  | _ => none
theorem within_sum : SumOK Try.prog 49 (sumOf within_F) := by
  refine sumOf_ok (en Try.func49 rfl) fun args v ob h hob => ?_
  unfold within_F at h
  split at h
  · rename_i a b c d
    obtain ⟨rfl, rfl⟩ := Prod.mk.inj (Option.some.inj h)
    clear h
    cases h : decide (a > b)
    · cases h2 : decide (c ≤ a)
      · exact calls_runO hm (auto0_ok t_empty_ok) (hints [(1, 1, ht false), (1, 7, ht false)]) [] [bb (decide (c ≤ a)) false, bb (decide (a > b)) false] (by kernel_rfl) ⟨bb_of h2, bb_of h, trivial⟩
      · exact calls_runO hm (auto0_ok t_empty_ok) (hints [(1, 1, ht false), (1, 7, ht true)]) [] [bb (decide (c ≤ a)) true, bb (decide (a > b)) false] (by kernel_rfl) ⟨bb_of h2, bb_of h, trivial⟩
    · exact calls_runO hm (auto0_ok t_empty_ok) (hints [(1, 1, ht true)]) [] [bb (decide (a > b)) true] (by kernel_rfl) ⟨bb_of h, trivial⟩
  · exact absurd h (by simp)
noncomputable def t_within : Sums := upd t_empty 49 (some (sumOf within_F))
theorem t_within_ok : SumsOK Try.prog t_within := sums_cons t_empty_ok within_sum
def cutLo (a b n : Int) : Int := ofLo a (minI b n)
def cutHi (a b n : Int) : Int := ofHi a (minI b n)
def cutLo' (a b n : Int) : Int := bif decide (n ≥ b) then 1 else ofLo (maxI a (n + 1)) b
def cutHi' (a b n : Int) : Int := bif decide (n ≥ b) then 0 else ofHi (maxI a (n + 1)) b
def cut_F : List Value → Option (Value × List Prop)
  | [.agg ⟨[.int .i64 a, .int .i64 b]⟩, .int .i64 n] => some (.tuple ⟨[sp (cutLo a b n) (cutHi a b n), sp (cutLo' a b n) (cutHi' a b n)]⟩, [I64 n, b ≤ 9223372036854775807])
  | _ => none
theorem cut_sum : SumOK Try.prog 48 (sumOf cut_F) := by
  refine sumOf_ok (en Try.func48 rfl) fun args v ob h hob => ?_
  unfold cut_F at h
  split at h
  · rename_i a b n
    obtain ⟨rfl, rfl⟩ := Prod.mk.inj (Option.some.inj h)
    clear h
    cases h : decide (n ≥ b)
    · have hn := hob (I64 n) (by simp)
      have hb := hob (b ≤ 9223372036854775807) (by simp)
      have e1 : cutLo' a b n = ofLo (maxI a (n + 1)) b := by unfold cutLo'; rw [h]; rfl
      have e2 : cutHi' a b n = ofHi (maxI a (n + 1)) b := by unfold cutHi'; rw [h]; rfl
      rw [e1, e2]
      exact calls_runO hm (auto0_ok t_within_ok) (hints [(2, 3, ht false), (4, 4, { v := some (.int .i64 (n + 1)) })]) [] [Value.int .i64 (IntKind.i64.wrap (n + 1)) = .int .i64 (n + 1), bb (decide (n ≥ b)) false] (by kernel_rfl)
        ⟨int_eq (wrap_id ⟨by omega, by have := of_decide_eq_false h; omega⟩), bb_of h, trivial⟩
    · have e1 : cutLo' a b n = 1 := by unfold cutLo'; rw [h]; rfl
      have e2 : cutHi' a b n = 0 := by unfold cutHi'; rw [h]; rfl
      rw [e1, e2]
      exact calls_runO hm (auto0_ok t_within_ok) (hints [(2, 3, ht true)]) [] [bb (decide (n ≥ b)) true] (by kernel_rfl) ⟨bb_of h, trivial⟩
  · exact absurd h (by simp)
noncomputable def t_cut : Sums := upd t_within 48 (some (sumOf cut_F))
theorem t_cut_ok : SumsOK Try.prog t_cut := sums_cons t_within_ok cut_sum
theorem minI_eq (x y : Int) : minI x y = min x y := by unfold minI; split <;> omega
theorem maxI_eq (x y : Int) : maxI x y = max x y := by unfold maxI; split <;> omega
theorem cut_cases (a b n : Int) : (cutLo a b n = 1 ∧ cutHi a b n = 0 ∧ cutLo' a b n = 1 ∧ cutHi' a b n = 0 ∧ b < a) ∨ (cutLo a b n = 1 ∧ cutHi a b n = 0 ∧ cutLo' a b n = a ∧ cutHi' a b n = b ∧ a ≤ b ∧ n < a) ∨
    (cutLo a b n = a ∧ cutHi a b n = n ∧ cutLo' a b n = n + 1 ∧ cutHi' a b n = b ∧ a ≤ b ∧ a ≤ n ∧ n < b) ∨ (cutLo a b n = a ∧ cutHi a b n = b ∧ cutLo' a b n = 1 ∧ cutHi' a b n = 0 ∧ a ≤ b ∧ b ≤ n) := by
  by_cases h1 : b < a
  · refine Or.inl ⟨?_, ?_, ?_, ?_, h1⟩ <;> first | omega | (simp only [cutLo, cutHi, cutLo', cutHi', ofLo, ofHi, minI_eq, maxI_eq, cond_eq_ite, decide_eq_true_eq] <;> (repeat' split) <;> omega)
  by_cases h2 : n < a
  · refine Or.inr (Or.inl ⟨?_, ?_, ?_, ?_, ?_, h2⟩) <;> first | omega | (simp only [cutLo, cutHi, cutLo', cutHi', ofLo, ofHi, minI_eq, maxI_eq, cond_eq_ite, decide_eq_true_eq] <;> (repeat' split) <;> omega)
  by_cases h3 : n < b
  · refine Or.inr (Or.inr (Or.inl ⟨?_, ?_, ?_, ?_, ?_, ?_, h3⟩)) <;> first | omega | (simp only [cutLo, cutHi, cutLo', cutHi', ofLo, ofHi, minI_eq, maxI_eq, cond_eq_ite, decide_eq_true_eq] <;> (repeat' split) <;> omega)
  · refine Or.inr (Or.inr (Or.inr ⟨?_, ?_, ?_, ?_, ?_, ?_⟩)) <;> first | omega | (simp only [cutLo, cutHi, cutLo', cutHi', ofLo, ofHi, minI_eq, maxI_eq, cond_eq_ite, decide_eq_true_eq] <;> (repeat' split) <;> omega)
def bring_F : List Value → Option (Value × List Prop)
  | [.int .i64 n, .int .i64 lo, .int .i64 hi] => some (.int .i64 (withinS n lo hi), [I64 n, -2305843009213693952 ≤ lo, lo ≤ hi, hi ≤ 2305843009213693952])
  | _ => none
theorem bring_sum : SumOK Try.prog 19 (sumOf bring_F) := by
  refine sumOf_ok (en Try.func19 rfl) fun args v ob h hob => ?_
  unfold bring_F at h
  split at h
  · rename_i n lo hi
    obtain ⟨rfl, rfl⟩ := Prod.mk.inj (Option.some.inj h)
    clear h
    have h1 := hob (I64 n) (by simp)
    have h2 := hob (-2305843009213693952 ≤ lo) (by simp)
    have h3 := hob (lo ≤ hi) (by simp)
    have h4 := hob (hi ≤ 2305843009213693952) (by simp)
    exact ⟨rfl, rfl, fun w => (within_calls n lo hi h1.1 h1.2 h2 h3 h4 w).mono fun e w' ⟨he, hw⟩ => ⟨he, hw ▸ Below.refl _ _⟩⟩
  · exact absurd h (by simp)
noncomputable def t_bring : Sums := upd t_cut 19 (some (sumOf bring_F))
theorem t_bring_ok : SumsOK Try.prog t_bring := sums_cons t_cut_ok bring_sum
abbrev bx (a0 a1 a2 a3 a4 a5 a6 a7 a8 a9 : Int) : Value := .agg ⟨[i64 a0, i64 a1, i64 a2, i64 a3, i64 a4, i64 a5, i64 a6, i64 a7, i64 a8, i64 a9]⟩
abbrev pt (p0 p1 p2 p3 : Int) : Value := .agg ⟨[i64 p0, i64 p1, i64 p2, i64 p3]⟩
def e2 (a b : Int) : Bool := decide (a > b)
def h3 (a b n : Int) : Bool := decide (a ≤ n) && decide (n ≤ b)
def w4 (a b c d : Int) : Bool := decide (a > b) || (decide (c ≤ a) && decide (b ≤ d))
def emptyB (a0 a1 a2 a3 a4 a5 a6 a7 a8 a9 : Int) : Bool := bif e2 a0 a1 then true else bif e2 a2 a3 then true else bif e2 a4 a5 then true else bif e2 a6 a7 then true else bif e2 a8 a9 then true else false
def hasB (a0 a1 a2 a3 a4 a5 a6 a7 a8 a9 p0 p1 p2 p3 n : Int) : Bool := bif !h3 a0 a1 p0 then false else bif !h3 a2 a3 p1 then false else bif !h3 a4 a5 p2 then false else bif !h3 a6 a7 p3 then false else h3 a8 a9 n
def withinB (a0 a1 a2 a3 a4 a5 a6 a7 a8 a9 b0 b1 b2 b3 b4 b5 b6 b7 b8 b9 : Int) : Bool := bif emptyB a0 a1 a2 a3 a4 a5 a6 a7 a8 a9 then true else bif !w4 a0 a1 b0 b1 then false else bif !w4 a2 a3 b2 b3 then false else bif !w4 a4 a5 b4 b5 then false else bif !w4 a6 a7 b6 b7 then false else bif !w4 a8 a9 b8 b9 then false else true
def cL (i p a b n : Int) : Int := bif p == i then cutLo a b n else a
def cH (i p a b n : Int) : Int := bif p == i then cutHi a b n else b
def dL (i p a b n : Int) : Int := bif p == i then cutLo' a b n else a
def dH (i p a b n : Int) : Int := bif p == i then cutHi' a b n else b
def bempty_F : List Value → Option (Value × List Prop)
  | [.agg ⟨[.int .i64 a0, .int .i64 a1, .int .i64 a2, .int .i64 a3, .int .i64 a4, .int .i64 a5, .int .i64 a6, .int .i64 a7, .int .i64 a8, .int .i64 a9]⟩] => some (.bool (emptyB a0 a1 a2 a3 a4 a5 a6 a7 a8 a9), [])
  | _ => none
theorem bempty_sum : SumOK Try.prog 33 (sumOf bempty_F) := by
  refine sumOf_ok (en Try.func33 rfl) fun args v ob h hob => ?_
  unfold bempty_F at h
  split at h
  · obtain ⟨rfl, rfl⟩ := Prod.mk.inj (Option.some.inj h)
    exact calls_run0 hm (auto0_ok t_bring_ok) noHint [.go,.go,.fork,.go,.fork,.go,.fork,.go,.fork,.go,.fork] (by kernel_rfl)
  · exact absurd h (by simp)
noncomputable def t_bempty : Sums := upd t_bring 33 (some (sumOf bempty_F))
theorem t_bempty_ok : SumsOK Try.prog t_bempty := sums_cons t_bring_ok bempty_sum
def bhas_F : List Value → Option (Value × List Prop)
  | [.agg ⟨[.int .i64 a0, .int .i64 a1, .int .i64 a2, .int .i64 a3, .int .i64 a4, .int .i64 a5, .int .i64 a6, .int .i64 a7, .int .i64 a8, .int .i64 a9]⟩, .agg ⟨[.int .i64 p0, .int .i64 p1, .int .i64 p2, .int .i64 p3]⟩, .int .i64 n] => some (.bool (hasB a0 a1 a2 a3 a4 a5 a6 a7 a8 a9 p0 p1 p2 p3 n), [])
  | _ => none
theorem bhas_sum : SumOK Try.prog 34 (sumOf bhas_F) := by
  refine sumOf_ok (en Try.func34 rfl) fun args v ob h hob => ?_
  unfold bhas_F at h
  split at h
  · obtain ⟨rfl, rfl⟩ := Prod.mk.inj (Option.some.inj h)
    exact calls_run0 hm (auto0_ok t_bempty_ok) noHint [.go,.go,.fork,.go,.fork,.go,.fork,.go,.fork] (by kernel_rfl)
  · exact absurd h (by simp)
noncomputable def t_bhas : Sums := upd t_bempty 34 (some (sumOf bhas_F))
theorem t_bhas_ok : SumsOK Try.prog t_bhas := sums_cons t_bempty_ok bhas_sum
def bwithin_F : List Value → Option (Value × List Prop)
  | [.agg ⟨[.int .i64 a0, .int .i64 a1, .int .i64 a2, .int .i64 a3, .int .i64 a4, .int .i64 a5, .int .i64 a6, .int .i64 a7, .int .i64 a8, .int .i64 a9]⟩, .agg ⟨[.int .i64 b0, .int .i64 b1, .int .i64 b2, .int .i64 b3, .int .i64 b4, .int .i64 b5, .int .i64 b6, .int .i64 b7, .int .i64 b8, .int .i64 b9]⟩] => some (.bool (withinB a0 a1 a2 a3 a4 a5 a6 a7 a8 a9 b0 b1 b2 b3 b4 b5 b6 b7 b8 b9), [])
  | _ => none
theorem bwithin_sum : SumOK Try.prog 30 (sumOf bwithin_F) := by
  refine sumOf_ok (en Try.func30 rfl) fun args v ob h hob => ?_
  unfold bwithin_F at h
  split at h
  · obtain ⟨rfl, rfl⟩ := Prod.mk.inj (Option.some.inj h)
    exact calls_run0 hm (auto0_ok t_bhas_ok) noHint [.fork,.go,.go,.fork,.go,.fork,.go,.fork,.go,.fork,.go,.fork] (by kernel_rfl)
  · exact absurd h (by simp)
noncomputable def t_bwithin : Sums := upd t_bhas 30 (some (sumOf bwithin_F))
theorem t_bwithin_ok : SumsOK Try.prog t_bwithin := sums_cons t_bhas_ok bwithin_sum
theorem cut_no {i p : Int} (h : p ≠ i) (a b n : Int) : cL i p a b n = a ∧ cH i p a b n = b ∧ dL i p a b n = a ∧ dH i p a b n = b := by
  have : (p == i) = false := by simpa using h
  simp [cL, cH, dL, dH, this]
abbrev cutPair (a0 a1 a2 a3 a4 a5 a6 a7 a8 a9 p n : Int) : Value := .tuple ⟨[bx (cL 0 p a0 a1 n) (cH 0 p a0 a1 n) (cL 1 p a2 a3 n) (cH 1 p a2 a3 n) (cL 2 p a4 a5 n) (cH 2 p a4 a5 n) (cL 3 p a6 a7 n) (cH 3 p a6 a7 n) (cL 4 p a8 a9 n) (cH 4 p a8 a9 n),
  bx (dL 0 p a0 a1 n) (dH 0 p a0 a1 n) (dL 1 p a2 a3 n) (dH 1 p a2 a3 n) (dL 2 p a4 a5 n) (dH 2 p a4 a5 n) (dL 3 p a6 a7 n) (dH 3 p a6 a7 n) (dL 4 p a8 a9 n) (dH 4 p a8 a9 n)]⟩
abbrev mx : Int := 9223372036854775807
def bcut_F : List Value → Option (Value × List Prop)
  | [.agg ⟨[.int .i64 a0, .int .i64 a1, .int .i64 a2, .int .i64 a3, .int .i64 a4, .int .i64 a5, .int .i64 a6, .int .i64 a7, .int .i64 a8, .int .i64 a9]⟩, .int .i64 p, .int .i64 n] => some (cutPair a0 a1 a2 a3 a4 a5 a6 a7 a8 a9 p n, [I64 n, a1 ≤ mx, a3 ≤ mx, a5 ≤ mx, a7 ≤ mx, a9 ≤ mx])
  | _ => none
theorem bcut_sum : SumOK Try.prog 29 (sumOf bcut_F) := by
  refine sumOf_ok (en Try.func29 rfl) fun args v ob h hob => ?_
  unfold bcut_F at h
  split at h
  · rename_i a0 a1 a2 a3 a4 a5 a6 a7 a8 a9 p n
    obtain ⟨rfl, rfl⟩ := Prod.mk.inj (Option.some.inj h)
    clear h
    have hn := hob (I64 n) (by simp)
    have k1 := hob (a1 ≤ mx) (by simp)
    have k3 := hob (a3 ≤ mx) (by simp)
    have k5 := hob (a5 ≤ mx) (by simp)
    have k7 := hob (a7 ≤ mx) (by simp)
    have k9 := hob (a9 ≤ mx) (by simp)
    by_cases c0 : p = 0
    · subst c0; exact calls_runO hm (auto0_ok t_bwithin_ok) noHint [] [I64 n, a1 ≤ mx] (by kernel_rfl) ⟨hn, k1, trivial⟩
    by_cases c1 : p = 1
    · subst c1; exact calls_runO hm (auto0_ok t_bwithin_ok) noHint [] [I64 n, a3 ≤ mx] (by kernel_rfl) ⟨hn, k3, trivial⟩
    by_cases c2 : p = 2
    · subst c2; exact calls_runO hm (auto0_ok t_bwithin_ok) noHint [] [I64 n, a5 ≤ mx] (by kernel_rfl) ⟨hn, k5, trivial⟩
    by_cases c3 : p = 3
    · subst c3; exact calls_runO hm (auto0_ok t_bwithin_ok) noHint [] [I64 n, a7 ≤ mx] (by kernel_rfl) ⟨hn, k7, trivial⟩
    by_cases c4 : p = 4
    · subst c4; exact calls_runO hm (auto0_ok t_bwithin_ok) noHint [] [I64 n, a9 ≤ mx] (by kernel_rfl) ⟨hn, k9, trivial⟩
    obtain ⟨q1, q2, q3, q4⟩ := cut_no c0 a0 a1 n
    obtain ⟨q5, q6, q7, q8⟩ := cut_no c1 a2 a3 n
    obtain ⟨r1, r2, r3, r4⟩ := cut_no c2 a4 a5 n
    obtain ⟨r5, r6, r7, r8⟩ := cut_no c3 a6 a7 n
    obtain ⟨s1, s2, s3, s4⟩ := cut_no c4 a8 a9 n
    simp only [cutPair, q1, q2, q3, q4, q5, q6, q7, q8, r1, r2, r3, r4, r5, r6, r7, r8, s1, s2, s3, s4]
    cases h : decide (p ≥ 0)
    · exact calls_runO hm (auto0_ok t_bwithin_ok) (hints [(2, 1, ht false)]) [] [bb (decide (p ≥ 0)) false] (by kernel_rfl) ⟨bb_of h, trivial⟩
    · have h' := of_decide_eq_true h
      exact calls_runO hm (auto0_ok t_bwithin_ok) (hints [(2, 1, ht true), (2, 4, ht false)]) [] [bb (decide (p < 5)) false, bb (decide (p ≥ 0)) true] (by kernel_rfl) ⟨bb_of (decide_eq_false (by omega)), bb_of h, trivial⟩
  · exact absurd h (by simp)
noncomputable def t_bcut : Sums := upd t_bwithin 29 (some (sumOf bcut_F))
theorem t_bcut_ok : SumsOK Try.prog t_bcut := sums_cons t_bwithin_ok bcut_sum
def _root_.Go.Proofs.Ythbaccmhdffjdaa.Ev.Bx.lo (x : Bx) (k : Int) : Int := if k = 0 then x.a0 else if k = 1 then x.a1 else if k = 2 then x.a2 else if k = 3 then x.a3 else x.a4
def _root_.Go.Proofs.Ythbaccmhdffjdaa.Ev.Bx.hi (x : Bx) (k : Int) : Int := if k = 0 then x.b0 else if k = 1 then x.b1 else if k = 2 then x.b2 else if k = 3 then x.b3 else x.b4
/-- The lower part of a cut. -/
def _root_.Go.Proofs.Ythbaccmhdffjdaa.Ev.Bx.low (x : Bx) (p n : Int) : Bx := ⟨cL 0 p x.a0 x.b0 n, cH 0 p x.a0 x.b0 n, cL 1 p x.a1 x.b1 n, cH 1 p x.a1 x.b1 n, cL 2 p x.a2 x.b2 n, cH 2 p x.a2 x.b2 n, cL 3 p x.a3 x.b3 n, cH 3 p x.a3 x.b3 n, cL 4 p x.a4 x.b4 n, cH 4 p x.a4 x.b4 n⟩
def _root_.Go.Proofs.Ythbaccmhdffjdaa.Ev.Bx.high (x : Bx) (p n : Int) : Bx := ⟨dL 0 p x.a0 x.b0 n, dH 0 p x.a0 x.b0 n, dL 1 p x.a1 x.b1 n, dH 1 p x.a1 x.b1 n, dL 2 p x.a2 x.b2 n, dH 2 p x.a2 x.b2 n, dL 3 p x.a3 x.b3 n, dH 3 p x.a3 x.b3 n, dL 4 p x.a4 x.b4 n, dH 4 p x.a4 x.b4 n⟩
def _root_.Go.Proofs.Ythbaccmhdffjdaa.Ev.Bx.I64s (x : Bx) : Prop := I64 x.a0 ∧ I64 x.b0 ∧ I64 x.a1 ∧ I64 x.b1 ∧ I64 x.a2 ∧ I64 x.b2 ∧ I64 x.a3 ∧ I64 x.b3 ∧ I64 x.a4 ∧ I64 x.b4
theorem lo_read0 (x : Bx) : readPart Try.prog 3 x.cs (0 + (0 : Int).toNat * 2 + 0) = some (.int .i64 x.a0) := by kernel_rfl
theorem hi_read0 (x : Bx) : readPart Try.prog 3 x.cs (0 + (0 : Int).toNat * 2 + 1) = some (.int .i64 x.b0) := by kernel_rfl
theorem lo_read1 (x : Bx) : readPart Try.prog 3 x.cs (0 + (1 : Int).toNat * 2 + 0) = some (.int .i64 x.a1) := by kernel_rfl
theorem hi_read1 (x : Bx) : readPart Try.prog 3 x.cs (0 + (1 : Int).toNat * 2 + 1) = some (.int .i64 x.b1) := by kernel_rfl
theorem lo_read2 (x : Bx) : readPart Try.prog 3 x.cs (0 + (2 : Int).toNat * 2 + 0) = some (.int .i64 x.a2) := by kernel_rfl
theorem hi_read2 (x : Bx) : readPart Try.prog 3 x.cs (0 + (2 : Int).toNat * 2 + 1) = some (.int .i64 x.b2) := by kernel_rfl
theorem lo_read3 (x : Bx) : readPart Try.prog 3 x.cs (0 + (3 : Int).toNat * 2 + 0) = some (.int .i64 x.a3) := by kernel_rfl
theorem hi_read3 (x : Bx) : readPart Try.prog 3 x.cs (0 + (3 : Int).toNat * 2 + 1) = some (.int .i64 x.b3) := by kernel_rfl
theorem lo_read4 (x : Bx) : readPart Try.prog 3 x.cs (0 + (4 : Int).toNat * 2 + 0) = some (.int .i64 x.a4) := by kernel_rfl
theorem hi_read4 (x : Bx) : readPart Try.prog 3 x.cs (0 + (4 : Int).toNat * 2 + 1) = some (.int .i64 x.b4) := by kernel_rfl
theorem lo_read (x : Bx) {p : Int} (h0 : 0 ≤ p) (h5 : p < 5) : readPart Try.prog 3 x.cs (0 + p.toNat * 2 + 0) = some (.int .i64 (x.lo p)) := by
  have : p = 0 ∨ p = 1 ∨ p = 2 ∨ p = 3 ∨ p = 4 := by omega
  rcases this with h | h | h | h | h <;> rw [h]
  · rw [lo_read0]; simp [Bx.lo]
  · rw [lo_read1]; simp [Bx.lo]
  · rw [lo_read2]; simp [Bx.lo]
  · rw [lo_read3]; simp [Bx.lo]
  · rw [lo_read4]; simp [Bx.lo]
theorem hi_read (x : Bx) {p : Int} (h0 : 0 ≤ p) (h5 : p < 5) : readPart Try.prog 3 x.cs (0 + p.toNat * 2 + 1) = some (.int .i64 (x.hi p)) := by
  have : p = 0 ∨ p = 1 ∨ p = 2 ∨ p = 3 ∨ p = 4 := by omega
  rcases this with h | h | h | h | h <;> rw [h]
  · rw [hi_read0]; simp [Bx.hi]
  · rw [hi_read1]; simp [Bx.hi]
  · rw [hi_read2]; simp [Bx.hi]
  · rw [hi_read3]; simp [Bx.hi]
  · rw [hi_read4]; simp [Bx.hi]
/-- One end told anew. -/
def _root_.Go.Proofs.Ythbaccmhdffjdaa.Ev.Bx.setHi (x : Bx) (k v : Int) : Bx := ⟨x.a0, if k = 0 then v else x.b0, x.a1, if k = 1 then v else x.b1, x.a2, if k = 2 then v else x.b2, x.a3, if k = 3 then v else x.b3, x.a4, if k = 4 then v else x.b4⟩
def _root_.Go.Proofs.Ythbaccmhdffjdaa.Ev.Bx.setLo (x : Bx) (k v : Int) : Bx := ⟨if k = 0 then v else x.a0, x.b0, if k = 1 then v else x.a1, x.b1, if k = 2 then v else x.a2, x.b2, if k = 3 then v else x.a3, x.b3, if k = 4 then v else x.a4, x.b4⟩
/-- A cut that leaves no part empty. -/
theorem cut_in (x : Bx) {p a : Int} (h0 : 0 ≤ p) (h5 : p < 5) (hl : x.lo p ≤ a) (hh : a < x.hi p) : x.low p a = x.setHi p a ∧ x.high p a = x.setLo p (a + 1) := by
  have cc : ∀ u v : Int, u ≤ a → a < v → cutLo u v a = u ∧ cutHi u v a = a ∧ cutLo' u v a = a + 1 ∧ cutHi' u v a = v := fun u v h1 h2 => by
    have := cut_cases u v a
    omega
  have : p = 0 ∨ p = 1 ∨ p = 2 ∨ p = 3 ∨ p = 4 := by omega
  obtain ⟨a0, b0, a1, b1, a2, b2, a3, b3, a4, b4⟩ := x
  rcases this with rfl | rfl | rfl | rfl | rfl <;> simp [Bx.lo, Bx.hi] at hl hh <;> obtain ⟨h1, h2, h3, h4⟩ := cc _ _ hl hh <;> simp [Bx.low, Bx.high, Bx.setHi, Bx.setLo, cL, cH, dL, dH, h1, h2, h3, h4]
theorem i64s_set (x : Bx) {p a : Int} (hx : x.I64s) (h0 : 0 ≤ p) (h5 : p < 5) (hl : x.lo p ≤ a) (hh : a < x.hi p) : (x.setHi p a).I64s ∧ (x.setLo p (a + 1)).I64s ∧ I64 a := by
  have : p = 0 ∨ p = 1 ∨ p = 2 ∨ p = 3 ∨ p = 4 := by omega
  obtain ⟨a0, b0, a1, b1, a2, b2, a3, b3, a4, b4⟩ := x
  obtain ⟨⟨c1, c2⟩, ⟨c3, c4⟩, ⟨c5, c6⟩, ⟨c7, c8⟩, ⟨c9, c10⟩, ⟨c11, c12⟩, ⟨c13, c14⟩, ⟨c15, c16⟩, ⟨c17, c18⟩, ⟨c19, c20⟩⟩ := hx
  simp only at *
  rcases this with rfl | rfl | rfl | rfl | rfl <;> simp [Bx.lo, Bx.hi] at hl hh <;> simp [Bx.setHi, Bx.setLo, Bx.I64s] <;> omega
end Go.Proofs.Ythbaccmhdffjdaa.BoxF


set_option linter.unusedVariables false
set_option linter.unusedSimpArgs false
set_option maxRecDepth 100000
namespace Go.Proofs.Ythbaccmhdffjdaa.WkCliqueRuns
open Go Go.RowKit Go.Proofs.Ythbaccmhdffjdaa.Ev
abbrev z (n : Int) : Value := .int .i64 n
def obs : List Prop := [some (Value.agg ⟨[z 4, z 5, z 0, z 0, z 0, z 0, z 0, z 0, z 0, z 0]⟩) = some (Value.agg ⟨[z 4, z 5, z 0, z 0, z 0, z 0, z 0, z 0, z 0, z 0]⟩), some (z 22) = some (z 22), some (z 21) = some (z 21), some (z 11) = some (z 11), some (z 0) = some (z 0), some (z 0) = some (z 0), some (z 0) = some (z 0)]
theorem walk (w : World) : Calls Try.prog 3 #[] w fun e w' => e = .returned (.bool true) ∧ Below w.heap.size w w' :=
  (calls_runO hm (autoM_ok t_none_ok) (hints [(6, 33, { k := some true }), (6, 38, { k := some true })]) [] obs (by kernel_rfl) ⟨rfl, rfl, rfl, rfl, rfl, rfl, rfl, trivial⟩).2.2 w
end Go.Proofs.Ythbaccmhdffjdaa.WkCliqueRuns


set_option linter.unusedVariables false
set_option linter.unusedSimpArgs false
set_option maxRecDepth 100000
namespace Go.Proofs.Ythbaccmhdffjdaa.Cm
open Go Go.RowKit Go.Proofs.Ythbaccmhdffjdaa.Ev Go.Proofs.Ythbaccmhdffjdaa.Mg Go.Proofs.Ythbaccmhdffjdaa.BoxF Go.Proofs.Ythbaccmhdffjdaa.Within

theorem fwNil (u : Unit)  {E : Env} (hE : EnvOK E Try.prog Try.f17 1 0 (.slice (some ⟨100, 0, none⟩) 0 0) [100] [.cells [] 27]) (hob : all ([Back (Value.slice (some (Addr.mk 4 0 none)) 0 0) (Value.slice (some (Addr.mk 100 0 none)) 0 0) [Blk.cells [] 27] [Blk.cells [] 27] [(100, 4)], ZeroOK 0 (Value.slice (some (Addr.mk 4 0 none)) 0 0) (some (Blk.cells [] 27))])) : Sat E [.code (bodyOf Try.f17)] (st0 Try.f17 [.slice none 0 0] (roRows []) 0) :=
  by_ret (T := auto0 t_none) (h := hints [(1, 6, {p := true})]) (ws := []) (nx' := 101) hE hm (auto0_ok t_none_ok) (by omega) (by simp) (by intro x hx; simp at hx; subst hx; exact Blk.plain.namesLt (b := .cells _ _) (fun c hc => by simp at hc) _) (by kernel_rfl) hob
theorem fw0 (cs : List Value) (o n c : Nat)  {E : Env} (hE : EnvOK E Try.prog Try.f17 1 1 (.slice (some ⟨100, 0, none⟩) 0 0) [100] [.cells [] 27]) (hob : all ([Back (Value.slice (some (Addr.mk 5 0 none)) 0 0) (Value.slice (some (Addr.mk 100 0 none)) 0 0) [Blk.cells [] 27] [Blk.cells [] 27] [(100, 5)], ZeroOK 0 (Value.slice (some (Addr.mk 5 0 none)) 0 0) (some (Blk.cells [] 27)), SlOK 11 0 o n c none (some ((0 : Int))) (some (Blk.ro cs)) (Value.slice (some (Addr.mk 0 o none)) 0 c), Value.int IntKind.i64 (minI ((n : Int)) ((8 : Int))) = Value.int IntKind.i64 ((0 : Int))])) : Sat E [.code (bodyOf Try.f17)] (st0 Try.f17 [.slice (some ⟨0, o, none⟩) n c] (roRows [cs]) 1) :=
  by_ret (T := auto0 t_none) (h := hints [(1, 4, {v := some (.int .i64 0)}), (1, 5, {o := some (.slice (some ⟨0, o, none⟩) 0 c)}), (1, 6, {p := true})]) (ws := []) (nx' := 101) hE hm (auto0_ok t_none_ok) (by omega) (by simp) (by intro x hx; simp at hx; subst hx; exact Blk.plain.namesLt (b := .cells _ _) (fun c hc => by simp at hc) _) (by kernel_rfl) hob
theorem fwN (cs : List Value) (o n c m : Nat) (L : List Pc)  {E : Env} (hE : EnvOK E Try.prog Try.f17 1 1 (.slice (some ⟨100, 0, none⟩) m mk) [100] [.vec (ePc.row L) 27 11]) (hob : all ([Back (Value.slice (some (Addr.mk 29 0 none)) (0 + m) 1267650600228229401496703205376) (Value.slice (some (Addr.mk 100 0 none)) m 1267650600228229401496703205376) [Blk.vec (ePc.row L) 27 11] [Blk.vec (ePc.row L) 27 11] [(100, 29)], AppOK (some (Blk.cells [] 27)) 0 0 11 88 m cs o (ePc.row L), SlOK 11 0 o n c none (some ((m : Int))) (some (Blk.ro cs)) (Value.slice (some (Addr.mk 0 o none)) m c), Value.int IntKind.i64 (minI ((n : Int)) ((8 : Int))) = Value.int IntKind.i64 ((m : Int))])) : Sat E [.code (bodyOf Try.f17)] (st0 Try.f17 [.slice (some ⟨0, o, none⟩) n c] (roRows [cs]) 1) :=
  by_ret (T := auto0 t_none) (h := hints [(1, 4, {v := some (.int .i64 (m : Int))}), (1, 5, {o := some (.slice (some ⟨0, o, none⟩) m c)}), (1, 6, {c := some (ePc.row L)})]) (ws := []) (nx' := 101) hE hm (auto0_ok t_none_ok) (by omega) (by simp) (by intro x hx; simp at hx; subst hx; exact Blk.plain.namesLt (b := .vec _ _ _) (Elt.row_pl _) _) (by kernel_rfl) hob
end Go.Proofs.Ythbaccmhdffjdaa.Cm


set_option linter.unusedVariables false
set_option linter.unusedSimpArgs false
set_option maxRecDepth 100000
namespace Go.Proofs.Ythbaccmhdffjdaa.Cm
open Go Go.RowKit Go.Proofs.Ythbaccmhdffjdaa.Ev Go.Proofs.Ythbaccmhdffjdaa.Mg Go.Proofs.Ythbaccmhdffjdaa.BoxF Go.Proofs.Ythbaccmhdffjdaa.Within Go.Proofs.Ythbaccmhdffjdaa.Cm

def few_F (K : Bool) : RoF := fun xs css => match xs, css with
  | [.slice (some ⟨0, 0, none⟩) n c], [cs] => match K with
    | true => some (.slice (some ⟨100, 0, none⟩) (min n 8) mk, [.vec (ePc.row ((ePc.list cs 0 n).take 8)) 27 11], [cs = ePc.row (ePc.list cs 0 n), 1 ≤ n, n ≤ c, c ≤ maxLen])
    | false => some (.slice (some ⟨100, 0, none⟩) 0 0, [.cells [] 27], [n = 0, n ≤ c, c ≤ maxLen])
  | [.slice none 0 0], [] => some (.slice (some ⟨100, 0, none⟩) 0 0, [.cells [] 27], [])
  | _, _ => none
theorem few_sum (K : Bool) : SumOK Try.prog 17 (roSum (few_F K)) := by
  have zok : ∀ k : Nat, ZeroOK 0 (.slice (some ⟨k, 0, none⟩) 0 0) (some (.cells [] 27)) := fun k => ⟨rfl, Nat.le_refl _, by decide⟩
  refine roSum_ok (en Try.func17 rfl) ?_ (fun xs css r h => ?_)
  · intro xs css v blks ob h hob hpl hl
    unfold few_F at h
    split at h
    · rename_i n c cs
      cases K
      · simp only [Option.some.injEq, Prod.mk.injEq] at h
        obtain ⟨rfl, rfl, rfl⟩ := h
        obtain rfl : n = 0 := hob _ (List.mem_cons_self ..)
        refine ⟨by simp, fun x hx => by simp at hx; subst hx; exact ⟨fun c hc => by simp at hc, rfl⟩, fun j hj => by simp [nms, nm1, nm0] at hj; subst hj; simp, ?_⟩
        exact spec_of_sat Try.func17 rfl fun E hE => fw0 cs 0 0 c hE ⟨⟨rfl, rfl⟩, zok _, slOK_ro (h := 0) (Nat.le_refl _) (hob _ (by simp)) (hob _ (by simp)), rfl, trivial⟩
      · simp only [Option.some.injEq, Prod.mk.injEq] at h
        obtain ⟨rfl, rfl, rfl⟩ := h
        have h1 := hob (cs = ePc.row (ePc.list cs 0 n)) (by simp)
        have h2 := hob (1 ≤ n) (by simp)
        have h3 := hob (n ≤ c) (by simp)
        have h4 := hob (c ≤ maxLen) (by simp)
        have hlen : (ePc.list cs 0 n).length = n := Elt.list_len _ _ _
        generalize ePc.list cs 0 n = L at h1 hlen hl
        subst h1
        refine ⟨by simp, fun x hx => by simp at hx; subst hx; exact ⟨Elt.row_pl _, rfl⟩, fun j hj => by simp [nms, nm1, nm0] at hj; subst hj; simp, ?_⟩
        have hmin : Value.int .i64 (minI (n : Int) 8) = .int .i64 ((min n 8 : Nat) : Int) := congrArg _ (by unfold minI; split <;> omega)
        have htk : L.take 8 = L.take (min n 8) := by
          by_cases h : n ≤ 8
          · rw [Nat.min_eq_left h, List.take_of_length_le (by omega), List.take_of_length_le (by omega)]
          · rw [Nat.min_eq_right (by omega)]
        refine spec_of_sat Try.func17 rfl fun E hE => ?_
        have rnv : ∀ (f : Nat → Nat) (l : List Pc), Blk.rnB f (.vec (ePc.row l) 27 11) = .vec (ePc.row l) 27 11 := fun f l => Blk.plain.rnB (b := .vec (ePc.row l) 27 11) (Elt.row_pl _) f
        exact fwN (ePc.row L) 0 n c (min n 8) (L.take 8) hE ⟨⟨by rw [Nat.zero_add]; rfl, by simp only [List.map_cons, List.map_nil, rnv]⟩, appG (e := ePc) (L := []) (M := L) (k := 0) (Or.inr ⟨rfl, rfl, rfl⟩) rfl (by rw [Nat.zero_mul]) (by omega) (Nat.zero_le _) (by rw [htk]; simp) (by omega) (by omega) (by omega), slOK_ro (by omega) h3 h4, hmin, trivial⟩
    · simp only [Option.some.injEq, Prod.mk.injEq] at h
      obtain ⟨rfl, rfl, rfl⟩ := h
      refine ⟨by simp, fun x hx => by simp at hx; subst hx; exact ⟨fun c hc => by simp at hc, rfl⟩, fun j hj => by simp [nms, nm1, nm0] at hj; subst hj; simp, ?_⟩
      exact spec_of_sat Try.func17 rfl fun E hE => fwNil () hE ⟨⟨rfl, rfl⟩, zok _, trivial⟩
    · simp at h
  · unfold few_F at h
    split at h
    · cases K <;> simp at h <;> simp
    all_goals (simp at h <;> simp)
def cruns_F : List Value → Option (Value × List Prop)
  | [] => some (.bool true, [])
  | _ => none
theorem cruns_sum : SumOK Try.prog 3 (sumOf cruns_F) := by
  refine sumOf_ok (en Try.func3 rfl) fun args v ob h hob => ?_
  unfold cruns_F at h
  split at h
  · obtain ⟨rfl, rfl⟩ := Prod.mk.inj (Option.some.inj h)
    exact ⟨rfl, rfl, WkCliqueRuns.walk⟩
  · exact absurd h (by simp)
noncomputable def t_cruns : Sums := upd t_bring 3 (some (sumOf cruns_F))
theorem t_cruns_ok : SumsOK Try.prog t_cruns := sums_cons t_bring_ok cruns_sum
noncomputable def t_few (K : Bool) : Sums := upd t_cruns 17 (some (roSum (few_F K)))
theorem t_few_ok (K : Bool) : SumsOK Try.prog (t_few K) := sums_cons t_cruns_ok (few_sum K)
noncomputable def t_cm (K : Bool) (ML : List Pc → List EB) (MC : List Pc → Nat) : Sums := upd (t_few K) 16 (some (roSum (merge_F ML MC)))
theorem t_cm_ok (K : Bool) (ML : List Pc → List EB) (MC : List Pc → Nat) : SumsOK Try.prog (t_cm K ML MC) := sums_cons (t_few_ok K) (merge_sum ML MC)
/-- The pieces that are drawn. -/
structure CM where
  i : Nat
  ps : List Pc
  tot : Int
def psV (z : Nat) (ps : List Pc) : Value := match z with | 0 => .slice none 0 0 | _ => .slice (some ⟨13, 0, none⟩) ps.length mk
def cm1 (ow : List Pc) (k : Nat) (ts : List Int) (tn tc : Nat) (Q : Nat → CM → Prop) : LoopF CM where
  ts _ := [1, 5, 6, 7, 8]
  hs z := match z with | 0 => [1, 10] | _ => [1, 10, 13]
  tv z := fun ⟨i, ps, tot⟩ => [.slice (some ⟨1, 0, none⟩) tn tc, .slice (some ⟨10, 0, none⟩) k mk, psV z ps, .int .i64 tot, .int .i64 (i : Int)]
  hv z := fun ⟨i, ps, tot⟩ => match z with | 0 => [.ro (eInt.row ts), .vec (ePc.row ow) 27 11] | _ => [.ro (eInt.row ts), .vec (ePc.row ow) 27 11, .vec (ePc.row ps) 27 11]
  inv := Q
  mu _ := fun ⟨i, ps, tot⟩ => 20 - i
  nx := 14
theorem cm1_ok (ow : List Pc) (k : Nat) (ts : List Int) (tn tc : Nat) (Q : Nat → CM → Prop) : (cm1 ow k ts tn tc Q).OK 2 := by
  refine ⟨(by decide : 2 ≤ 14), fun z i h k hk => ?_, fun z i h v hv k hk => ?_, fun z i h x hx => ?_⟩
  · show k < 14
    match z with
    | 0 => simp [cm1] at hk; omega
    | z + 1 => simp [cm1] at hk; omega
  · show k < 14
    match z with
    | 0 =>
      simp [cm1, psV] at hv
      repeat' (refine Or.elim hv (fun hv => ?_) (fun hv => ?_))
      all_goals (subst hv; simp [nms, nm1, nm0] at hk; try omega)
    | z + 1 =>
      simp [cm1, psV] at hv
      repeat' (refine Or.elim hv (fun hv => ?_) (fun hv => ?_))
      all_goals (subst hv; simp [nms, nm1, nm0] at hk; try omega)
  · match z with
    | 0 =>
      simp [cm1] at hx
      rcases hx with rfl | rfl
      · exact Blk.plain.namesLt (b := .ro _) (Elt.row_pl _) _
      · exact Blk.plain.namesLt (b := .vec _ _ _) (Elt.row_pl _) _
    | z + 1 =>
      simp [cm1] at hx
      rcases hx with rfl | rfl | rfl
      · exact Blk.plain.namesLt (b := .ro _) (Elt.row_pl _) _
      · exact Blk.plain.namesLt (b := .vec _ _ _) (Elt.row_pl _) _
      · exact Blk.plain.namesLt (b := .vec _ _ _) (Elt.row_pl _) _
/-- The loop over the map. -/
structure CI where
  seen : List Nat
  sum : Int
def cm2 (ps : List Pc) (tot : Int) (l : List EB) (c : Nat) (l2 : List EB) (c2 : Nat) (Q : CI → Prop) : LoopF CI where
  ts _ := [6, 7, 10, 11, 12, 80]
  hs z := match z with | 0 => [20, 21, 22] | _ => [20, 21, 22, 13]
  tv z := fun ⟨seen, sum⟩ => [psV z ps, .int .i64 tot, .map (some 20), .map (some 21), .int .i64 sum, .pointer (some ⟨22, 0, none⟩)]
  hv z := fun ⟨seen, sum⟩ => match z with | 0 => [.map L10 true (some .i64) (esB l) c, .map L10 true (some .i64) (esB l2) c2, .it 20 c seen c] | _ => [.map L10 true (some .i64) (esB l) c, .map L10 true (some .i64) (esB l2) c2, .it 20 c seen c, .vec (ePc.row ps) 27 11]
  inv _ := Q
  mu _ := fun ⟨seen, sum⟩ => l.length - seen.length
  nx := 30
theorem cm2_ok (ps : List Pc) (tot : Int) (l : List EB) (c : Nat) (l2 : List EB) (c2 : Nat) (Q : CI → Prop) : (cm2 ps tot l c l2 c2 Q).OK 2 := by
  refine ⟨(by decide : 2 ≤ 30), fun z i h k hk => ?_, fun z i h v hv k hk => ?_, fun z i h x hx => ?_⟩
  · show k < 30
    match z with
    | 0 => simp [cm2] at hk; omega
    | z + 1 => simp [cm2] at hk; omega
  · show k < 30
    match z with
    | 0 =>
      simp [cm2, psV] at hv
      repeat' (refine Or.elim hv (fun hv => ?_) (fun hv => ?_))
      all_goals (subst hv; simp [nms, nm1, nm0] at hk; try omega)
    | z + 1 =>
      simp [cm2, psV] at hv
      repeat' (refine Or.elim hv (fun hv => ?_) (fun hv => ?_))
      all_goals (subst hv; simp [nms, nm1, nm0] at hk; try omega)
  · match z with
    | 0 =>
      simp [cm2] at hx
      rcases hx with rfl | rfl | rfl
      · trivial
      · trivial
      · show 20 < 30; omega
    | z + 1 =>
      simp [cm2] at hx
      rcases hx with rfl | rfl | rfl | rfl
      · trivial
      · trivial
      · show 20 < 30; omega
      · exact Blk.plain.namesLt (b := .vec _ _ _) (Elt.row_pl _) _
/-- The loop over the pieces. -/
def cm3 (ps : List Pc) (tot sum : Int) (l : List EB) (c : Nat) (Q : Nat → Prop) : LoopF Nat where
  ts _ := [7, 10, 12, 95, 96, 97]
  hs _ := [20, 13]
  tv _ i := [.int .i64 tot, .map (some 20), .int .i64 sum, .slice (some ⟨13, 0, none⟩) ps.length mk, .int .i64 (ps.length : Int), .int .i64 (i : Int)]
  hv _ _ := [.map L10 true (some .i64) (esB l) c, .vec (ePc.row ps) 27 11]
  inv _ := Q
  mu _ i := ps.length - i
  nx := 30
theorem cm3_ok (ps : List Pc) (tot sum : Int) (l : List EB) (c : Nat) (Q : Nat → Prop) : (cm3 ps tot sum l c Q).OK 2 := by
  refine ⟨(by decide : 2 ≤ 30), fun z i h k hk => ?_, fun z i h v hv k hk => ?_, fun z i h x hx => ?_⟩
  · show k < 30
    simp [cm3] at hk; omega
  · show k < 30
    simp [cm3] at hv
    repeat' (refine Or.elim hv (fun hv => ?_) (fun hv => ?_))
    all_goals (subst hv; simp [nms, nm1, nm0] at hk; try omega)
  · simp [cm3] at hx
    rcases hx with rfl | rfl
    · trivial
    · exact Blk.plain.namesLt (b := .vec _ _ _) (Elt.row_pl _) _
end Go.Proofs.Ythbaccmhdffjdaa.Cm


set_option linter.unusedVariables false
set_option linter.unusedSimpArgs false
set_option maxRecDepth 100000
namespace Go.Proofs.Ythbaccmhdffjdaa.Cm
open Go Go.RowKit Go.Proofs.Ythbaccmhdffjdaa.Ev Go.Proofs.Ythbaccmhdffjdaa.Mg Go.Proofs.Ythbaccmhdffjdaa.BoxF Go.Proofs.Ythbaccmhdffjdaa.Within Go.Proofs.Ythbaccmhdffjdaa.Cm

theorem csNN (ML : List Pc → List EB) (MC : List Pc → Nat)   (l2 : List EB) (c2 : Nat) (Q : CI → Prop)  {E : Env} {rv : Value} {rhs : List Nat} {rhv : List Blk} (hE : EnvOK E Try.prog Try.f5 2 2 rv rhs rhv) (hL : (cm2 [] 0 [] 0 l2 c2 Q).OK 2) (hob : all ([SameK (atLp (lp Try.f5 1)) (atLp (lp Try.f5 1)), Enter (cm2 [] 0 [] 0 l2 c2 Q) 0 none [Value.slice none 0 0, Value.int IntKind.i64 ((0 : Int)), Value.map (some 86), Value.map (some 114), Value.int IntKind.i64 ((0 : Int)), Value.pointer (some (Addr.mk 178 0 none))] [Blk.map [some IntKind.i64, some IntKind.i64, some IntKind.i64, some IntKind.i64, some IntKind.i64, some IntKind.i64, some IntKind.i64, some IntKind.i64, some IntKind.i64, some IntKind.i64] true (some IntKind.i64) [] 0, Blk.map [some IntKind.i64, some IntKind.i64, some IntKind.i64, some IntKind.i64, some IntKind.i64, some IntKind.i64, some IntKind.i64, some IntKind.i64, some IntKind.i64, some IntKind.i64] true (some IntKind.i64) (esB (ML (ePc.list [] 0 0))) (MC (ePc.list [] 0 0)), Blk.it 86 0 [] 0] [(20, 86), (21, 114), (22, 178)], Value.bool false = Value.bool false, Value.bool ((0 : Int) != Int.ofNat (esB (ML (ePc.list [] 0 0))).length) = Value.bool false, plainR [[]], ML = Ythbaccmhdffjdaa.Mg.mergeL, MC = mergeC, ePc.Row [] 0 0, 0 ≤ 65536, ZeroOK 0 (Value.slice (some (Addr.mk 94 0 none)) 0 0) (some (Blk.cells [] 27)), ZeroOK 0 (Value.slice (some (Addr.mk 94 0 none)) 0 0) (some (Blk.cells [] 27)), plainR [], plainR []])) (hK : ∀ zz, (cm2 [] 0 [] 0 l2 c2 Q).inv 0 zz → ltO ((cm2 [] 0 [] 0 l2 c2 Q).mu 0 zz) none → Sat E (atLp (lp Try.f5 1)) ((cm2 [] 0 [] 0 l2 c2 Q).st 0 zz)) : Sat E [.code (bodyOf Try.f5)] (st0 Try.f5 [.slice none 0 0, .slice none 0 0] (rowsL [none, none]) 2) :=
  by_to (T := auto0 (t_cm true ML MC)) (h := hints [(12, 2, {p := true}), (12, 4, {p := true}), (13, 4, ht false), (13, 10, ht false)]) (ws := [.go, .go, .go, .stop]) (i0 := ⟨[], 0⟩) hE hm (auto0_ok (t_cm_ok true ML MC)) hL (by kernel_rfl) hob hK
theorem csNF (ML : List Pc → List EB) (MC : List Pc → Nat)  (ts : List Int) (tn tc : Nat) (l2 : List EB) (c2 : Nat) (Q : CI → Prop)  {E : Env} {rv : Value} {rhs : List Nat} {rhv : List Blk} (hE : EnvOK E Try.prog Try.f5 2 2 rv rhs rhv) (hL : (cm2 [] 0 [] 0 l2 c2 Q).OK 2) (hob : all ([SameK (atLp (lp Try.f5 1)) (atLp (lp Try.f5 1)), Enter (cm2 [] 0 [] 0 l2 c2 Q) 0 none [Value.slice none 0 0, Value.int IntKind.i64 ((0 : Int)), Value.map (some 86), Value.map (some 114), Value.int IntKind.i64 ((0 : Int)), Value.pointer (some (Addr.mk 178 0 none))] [Blk.map [some IntKind.i64, some IntKind.i64, some IntKind.i64, some IntKind.i64, some IntKind.i64, some IntKind.i64, some IntKind.i64, some IntKind.i64, some IntKind.i64, some IntKind.i64] true (some IntKind.i64) [] 0, Blk.map [some IntKind.i64, some IntKind.i64, some IntKind.i64, some IntKind.i64, some IntKind.i64, some IntKind.i64, some IntKind.i64, some IntKind.i64, some IntKind.i64, some IntKind.i64] true (some IntKind.i64) (esB (ML (ePc.list [] 0 0))) (MC (ePc.list [] 0 0)), Blk.it 86 0 [] 0] [(20, 86), (21, 114), (22, 178)], Value.bool false = Value.bool false, Value.bool ((0 : Int) != Int.ofNat (esB (ML (ePc.list [] 0 0))).length) = Value.bool false, plainR [[]], ML = Ythbaccmhdffjdaa.Mg.mergeL, MC = mergeC, ePc.Row [] 0 0, 0 ≤ 65536, ZeroOK 0 (Value.slice (some (Addr.mk 94 0 none)) 0 0) (some (Blk.cells [] 27)), ZeroOK 0 (Value.slice (some (Addr.mk 94 0 none)) 0 0) (some (Blk.cells [] 27)), plainR [], Value.bool (decide (0 < (↑tn : Int))) = Value.bool false, plainR []])) (hK : ∀ zz, (cm2 [] 0 [] 0 l2 c2 Q).inv 0 zz → ltO ((cm2 [] 0 [] 0 l2 c2 Q).mu 0 zz) none → Sat E (atLp (lp Try.f5 1)) ((cm2 [] 0 [] 0 l2 c2 Q).st 0 zz)) : Sat E [.code (bodyOf Try.f5)] (st0 Try.f5 [.slice none 0 0, .slice (some ⟨1, 0, none⟩) tn tc] (rowsL [none, some (eInt.row ts)]) 2) :=
  by_to (T := auto0 (t_cm true ML MC)) (h := hints [(5, 3, ht false), (12, 2, {p := true}), (12, 4, {p := true}), (13, 4, ht false), (13, 10, ht false)]) (ws := [.go, .go, .go, .stop]) (i0 := ⟨[], 0⟩) hE hm (auto0_ok (t_cm_ok true ML MC)) hL (by kernel_rfl) hob hK
theorem csNT (ML : List Pc → List EB) (MC : List Pc → Nat)  (ts : List Int) (tn tc : Nat) (l2 : List EB) (c2 : Nat) (Q : CI → Prop)  {E : Env} {rv : Value} {rhs : List Nat} {rhv : List Blk} (hE : EnvOK E Try.prog Try.f5 2 2 rv rhs rhv) (hL : (cm2 [] 0 [] 0 l2 c2 Q).OK 2) (hob : all ([SameK (atLp (lp Try.f5 1)) (atLp (lp Try.f5 1)), Enter (cm2 [] 0 [] 0 l2 c2 Q) 0 none [Value.slice none 0 0, Value.int IntKind.i64 ((0 : Int)), Value.map (some 86), Value.map (some 114), Value.int IntKind.i64 ((0 : Int)), Value.pointer (some (Addr.mk 178 0 none))] [Blk.map [some IntKind.i64, some IntKind.i64, some IntKind.i64, some IntKind.i64, some IntKind.i64, some IntKind.i64, some IntKind.i64, some IntKind.i64, some IntKind.i64, some IntKind.i64] true (some IntKind.i64) [] 0, Blk.map [some IntKind.i64, some IntKind.i64, some IntKind.i64, some IntKind.i64, some IntKind.i64, some IntKind.i64, some IntKind.i64, some IntKind.i64, some IntKind.i64, some IntKind.i64] true (some IntKind.i64) (esB (ML (ePc.list [] 0 0))) (MC (ePc.list [] 0 0)), Blk.it 86 0 [] 0] [(20, 86), (21, 114), (22, 178)], Value.bool false = Value.bool false, Value.bool ((0 : Int) != Int.ofNat (esB (ML (ePc.list [] 0 0))).length) = Value.bool false, plainR [[]], ML = Ythbaccmhdffjdaa.Mg.mergeL, MC = mergeC, ePc.Row [] 0 0, 0 ≤ 65536, ZeroOK 0 (Value.slice (some (Addr.mk 94 0 none)) 0 0) (some (Blk.cells [] 27)), ZeroOK 0 (Value.slice (some (Addr.mk 94 0 none)) 0 0) (some (Blk.cells [] 27)), plainR [], Value.bool (decide (0 < (↑tn : Int))) = Value.bool true, plainR []])) (hK : ∀ zz, (cm2 [] 0 [] 0 l2 c2 Q).inv 0 zz → ltO ((cm2 [] 0 [] 0 l2 c2 Q).mu 0 zz) none → Sat E (atLp (lp Try.f5 1)) ((cm2 [] 0 [] 0 l2 c2 Q).st 0 zz)) : Sat E [.code (bodyOf Try.f5)] (st0 Try.f5 [.slice none 0 0, .slice (some ⟨1, 0, none⟩) tn tc] (rowsL [none, some (eInt.row ts)]) 2) :=
  by_to (T := auto0 (t_cm true ML MC)) (h := hints [(5, 3, ht true), (12, 2, {p := true}), (12, 4, {p := true}), (13, 4, ht false), (13, 10, ht false)]) (ws := [.go, .go, .go, .stop]) (i0 := ⟨[], 0⟩) hE hm (auto0_ok (t_cm_ok true ML MC)) hL (by kernel_rfl) hob hK
theorem cs0N (ML : List Pc → List EB) (MC : List Pc → Nat) (L : List Pc) (n c : Nat)  (l2 : List EB) (c2 : Nat) (Q : CI → Prop)  {E : Env} {rv : Value} {rhs : List Nat} {rhv : List Blk} (hE : EnvOK E Try.prog Try.f5 2 2 rv rhs rhv) (hL : (cm2 [] 0 [] 0 l2 c2 Q).OK 2) (hob : all ([SameK (atLp (lp Try.f5 1)) (atLp (lp Try.f5 1)), Enter (cm2 [] 0 [] 0 l2 c2 Q) 0 none [Value.slice none 0 0, Value.int IntKind.i64 ((0 : Int)), Value.map (some 86), Value.map (some 114), Value.int IntKind.i64 ((0 : Int)), Value.pointer (some (Addr.mk 178 0 none))] [Blk.map [some IntKind.i64, some IntKind.i64, some IntKind.i64, some IntKind.i64, some IntKind.i64, some IntKind.i64, some IntKind.i64, some IntKind.i64, some IntKind.i64, some IntKind.i64] true (some IntKind.i64) [] 0, Blk.map [some IntKind.i64, some IntKind.i64, some IntKind.i64, some IntKind.i64, some IntKind.i64, some IntKind.i64, some IntKind.i64, some IntKind.i64, some IntKind.i64, some IntKind.i64] true (some IntKind.i64) (esB (ML (ePc.list [] 0 0))) (MC (ePc.list [] 0 0)), Blk.it 86 0 [] 0] [(20, 86), (21, 114), (22, 178)], Value.bool false = Value.bool false, Value.bool ((0 : Int) != Int.ofNat (esB (ML (ePc.list [] 0 0))).length) = Value.bool false, plainR [[]], ML = Ythbaccmhdffjdaa.Mg.mergeL, MC = mergeC, ePc.Row [] 0 0, 0 ≤ 65536, ZeroOK 0 (Value.slice (some (Addr.mk 94 0 none)) 0 0) (some (Blk.cells [] 27)), ZeroOK 0 (Value.slice (some (Addr.mk 94 0 none)) 0 0) (some (Blk.cells [] 27)), plainR [], plainR [ePc.row L], n = 0, n ≤ c, c ≤ 9223372036854775807])) (hK : ∀ zz, (cm2 [] 0 [] 0 l2 c2 Q).inv 0 zz → ltO ((cm2 [] 0 [] 0 l2 c2 Q).mu 0 zz) none → Sat E (atLp (lp Try.f5 1)) ((cm2 [] 0 [] 0 l2 c2 Q).st 0 zz)) : Sat E [.code (bodyOf Try.f5)] (st0 Try.f5 [.slice (some ⟨0, 0, none⟩) n c, .slice none 0 0] (rowsL [some (ePc.row L), none]) 2) :=
  by_to (T := auto0 (t_cm false ML MC)) (h := hints [(12, 2, {p := true}), (12, 4, {p := true}), (13, 4, ht false), (13, 10, ht false)]) (ws := [.go, .go, .go, .stop]) (i0 := ⟨[], 0⟩) hE hm (auto0_ok (t_cm_ok false ML MC)) hL (by kernel_rfl) hob hK
theorem cs0F (ML : List Pc → List EB) (MC : List Pc → Nat) (L : List Pc) (n c : Nat) (ts : List Int) (tn tc : Nat) (l2 : List EB) (c2 : Nat) (Q : CI → Prop)  {E : Env} {rv : Value} {rhs : List Nat} {rhv : List Blk} (hE : EnvOK E Try.prog Try.f5 2 2 rv rhs rhv) (hL : (cm2 [] 0 [] 0 l2 c2 Q).OK 2) (hob : all ([SameK (atLp (lp Try.f5 1)) (atLp (lp Try.f5 1)), Enter (cm2 [] 0 [] 0 l2 c2 Q) 0 none [Value.slice none 0 0, Value.int IntKind.i64 ((0 : Int)), Value.map (some 86), Value.map (some 114), Value.int IntKind.i64 ((0 : Int)), Value.pointer (some (Addr.mk 178 0 none))] [Blk.map [some IntKind.i64, some IntKind.i64, some IntKind.i64, some IntKind.i64, some IntKind.i64, some IntKind.i64, some IntKind.i64, some IntKind.i64, some IntKind.i64, some IntKind.i64] true (some IntKind.i64) [] 0, Blk.map [some IntKind.i64, some IntKind.i64, some IntKind.i64, some IntKind.i64, some IntKind.i64, some IntKind.i64, some IntKind.i64, some IntKind.i64, some IntKind.i64, some IntKind.i64] true (some IntKind.i64) (esB (ML (ePc.list [] 0 0))) (MC (ePc.list [] 0 0)), Blk.it 86 0 [] 0] [(20, 86), (21, 114), (22, 178)], Value.bool false = Value.bool false, Value.bool ((0 : Int) != Int.ofNat (esB (ML (ePc.list [] 0 0))).length) = Value.bool false, plainR [[]], ML = Ythbaccmhdffjdaa.Mg.mergeL, MC = mergeC, ePc.Row [] 0 0, 0 ≤ 65536, ZeroOK 0 (Value.slice (some (Addr.mk 94 0 none)) 0 0) (some (Blk.cells [] 27)), ZeroOK 0 (Value.slice (some (Addr.mk 94 0 none)) 0 0) (some (Blk.cells [] 27)), plainR [], Value.bool (decide (0 < (↑tn : Int))) = Value.bool false, plainR [ePc.row L], n = 0, n ≤ c, c ≤ 9223372036854775807])) (hK : ∀ zz, (cm2 [] 0 [] 0 l2 c2 Q).inv 0 zz → ltO ((cm2 [] 0 [] 0 l2 c2 Q).mu 0 zz) none → Sat E (atLp (lp Try.f5 1)) ((cm2 [] 0 [] 0 l2 c2 Q).st 0 zz)) : Sat E [.code (bodyOf Try.f5)] (st0 Try.f5 [.slice (some ⟨0, 0, none⟩) n c, .slice (some ⟨1, 0, none⟩) tn tc] (rowsL [some (ePc.row L), some (eInt.row ts)]) 2) :=
  by_to (T := auto0 (t_cm false ML MC)) (h := hints [(5, 3, ht false), (12, 2, {p := true}), (12, 4, {p := true}), (13, 4, ht false), (13, 10, ht false)]) (ws := [.go, .go, .go, .stop]) (i0 := ⟨[], 0⟩) hE hm (auto0_ok (t_cm_ok false ML MC)) hL (by kernel_rfl) hob hK
theorem cs0T (ML : List Pc → List EB) (MC : List Pc → Nat) (L : List Pc) (n c : Nat) (ts : List Int) (tn tc : Nat) (l2 : List EB) (c2 : Nat) (Q : CI → Prop)  {E : Env} {rv : Value} {rhs : List Nat} {rhv : List Blk} (hE : EnvOK E Try.prog Try.f5 2 2 rv rhs rhv) (hL : (cm2 [] 0 [] 0 l2 c2 Q).OK 2) (hob : all ([SameK (atLp (lp Try.f5 1)) (atLp (lp Try.f5 1)), Enter (cm2 [] 0 [] 0 l2 c2 Q) 0 none [Value.slice none 0 0, Value.int IntKind.i64 ((0 : Int)), Value.map (some 86), Value.map (some 114), Value.int IntKind.i64 ((0 : Int)), Value.pointer (some (Addr.mk 178 0 none))] [Blk.map [some IntKind.i64, some IntKind.i64, some IntKind.i64, some IntKind.i64, some IntKind.i64, some IntKind.i64, some IntKind.i64, some IntKind.i64, some IntKind.i64, some IntKind.i64] true (some IntKind.i64) [] 0, Blk.map [some IntKind.i64, some IntKind.i64, some IntKind.i64, some IntKind.i64, some IntKind.i64, some IntKind.i64, some IntKind.i64, some IntKind.i64, some IntKind.i64, some IntKind.i64] true (some IntKind.i64) (esB (ML (ePc.list [] 0 0))) (MC (ePc.list [] 0 0)), Blk.it 86 0 [] 0] [(20, 86), (21, 114), (22, 178)], Value.bool false = Value.bool false, Value.bool ((0 : Int) != Int.ofNat (esB (ML (ePc.list [] 0 0))).length) = Value.bool false, plainR [[]], ML = Ythbaccmhdffjdaa.Mg.mergeL, MC = mergeC, ePc.Row [] 0 0, 0 ≤ 65536, ZeroOK 0 (Value.slice (some (Addr.mk 94 0 none)) 0 0) (some (Blk.cells [] 27)), ZeroOK 0 (Value.slice (some (Addr.mk 94 0 none)) 0 0) (some (Blk.cells [] 27)), plainR [], Value.bool (decide (0 < (↑tn : Int))) = Value.bool true, plainR [ePc.row L], n = 0, n ≤ c, c ≤ 9223372036854775807])) (hK : ∀ zz, (cm2 [] 0 [] 0 l2 c2 Q).inv 0 zz → ltO ((cm2 [] 0 [] 0 l2 c2 Q).mu 0 zz) none → Sat E (atLp (lp Try.f5 1)) ((cm2 [] 0 [] 0 l2 c2 Q).st 0 zz)) : Sat E [.code (bodyOf Try.f5)] (st0 Try.f5 [.slice (some ⟨0, 0, none⟩) n c, .slice (some ⟨1, 0, none⟩) tn tc] (rowsL [some (ePc.row L), some (eInt.row ts)]) 2) :=
  by_to (T := auto0 (t_cm false ML MC)) (h := hints [(5, 3, ht true), (12, 2, {p := true}), (12, 4, {p := true}), (13, 4, ht false), (13, 10, ht false)]) (ws := [.go, .go, .go, .stop]) (i0 := ⟨[], 0⟩) hE hm (auto0_ok (t_cm_ok false ML MC)) hL (by kernel_rfl) hob hK
theorem csVN (ML : List Pc → List EB) (MC : List Pc → Nat) (L : List Pc) (n c : Nat)  (l2 : List EB) (c2 : Nat) (Q : CI → Prop)  {E : Env} {rv : Value} {rhs : List Nat} {rhv : List Blk} (hE : EnvOK E Try.prog Try.f5 2 2 rv rhs rhv) (hL : (cm2 [] 0 [] 0 l2 c2 Q).OK 2) (hob : all ([SameK (atLp (lp Try.f5 1)) (atLp (lp Try.f5 1)), Enter (cm2 [] 0 [] 0 l2 c2 Q) 0 none [Value.slice none 0 0, Value.int IntKind.i64 ((0 : Int)), Value.map (some 86), Value.map (some 114), Value.int IntKind.i64 ((0 : Int)), Value.pointer (some (Addr.mk 178 0 none))] [Blk.map [some IntKind.i64, some IntKind.i64, some IntKind.i64, some IntKind.i64, some IntKind.i64, some IntKind.i64, some IntKind.i64, some IntKind.i64, some IntKind.i64, some IntKind.i64] true (some IntKind.i64) [] 0, Blk.map [some IntKind.i64, some IntKind.i64, some IntKind.i64, some IntKind.i64, some IntKind.i64, some IntKind.i64, some IntKind.i64, some IntKind.i64, some IntKind.i64, some IntKind.i64] true (some IntKind.i64) (esB (ML (ePc.list [] 0 0))) (MC (ePc.list [] 0 0)), Blk.it 86 0 [] 0] [(20, 86), (21, 114), (22, 178)], Value.bool false = Value.bool false, Value.bool ((0 : Int) != Int.ofNat (esB (ML (ePc.list [] 0 0))).length) = Value.bool false, plainR [[]], ML = Ythbaccmhdffjdaa.Mg.mergeL, MC = mergeC, ePc.Row [] 0 0, 0 ≤ 65536, ZeroOK 0 (Value.slice (some (Addr.mk 94 0 none)) 0 0) (some (Blk.cells [] 27)), ZeroOK 0 (Value.slice (some (Addr.mk 94 0 none)) 0 0) (some (Blk.cells [] 27)), plainR [], plainR [ePc.row L], ePc.row L = ePc.row (ePc.list (ePc.row L) 0 n), 1 ≤ n, n ≤ c, c ≤ 9223372036854775807])) (hK : ∀ zz, (cm2 [] 0 [] 0 l2 c2 Q).inv 0 zz → ltO ((cm2 [] 0 [] 0 l2 c2 Q).mu 0 zz) none → Sat E (atLp (lp Try.f5 1)) ((cm2 [] 0 [] 0 l2 c2 Q).st 0 zz)) : Sat E [.code (bodyOf Try.f5)] (st0 Try.f5 [.slice (some ⟨0, 0, none⟩) n c, .slice none 0 0] (rowsL [some (ePc.row L), none]) 2) :=
  by_to (T := auto0 (t_cm true ML MC)) (h := hints [(12, 2, {p := true}), (12, 4, {p := true}), (13, 4, ht false), (13, 10, ht false)]) (ws := [.go, .go, .go, .stop]) (i0 := ⟨[], 0⟩) hE hm (auto0_ok (t_cm_ok true ML MC)) hL (by kernel_rfl) hob hK
theorem csVF (ML : List Pc → List EB) (MC : List Pc → Nat) (L : List Pc) (n c : Nat) (ts : List Int) (tn tc : Nat) (l2 : List EB) (c2 : Nat) (Q : CI → Prop)  {E : Env} {rv : Value} {rhs : List Nat} {rhv : List Blk} (hE : EnvOK E Try.prog Try.f5 2 2 rv rhs rhv) (hL : (cm2 [] 0 [] 0 l2 c2 Q).OK 2) (hob : all ([SameK (atLp (lp Try.f5 1)) (atLp (lp Try.f5 1)), Enter (cm2 [] 0 [] 0 l2 c2 Q) 0 none [Value.slice none 0 0, Value.int IntKind.i64 ((0 : Int)), Value.map (some 86), Value.map (some 114), Value.int IntKind.i64 ((0 : Int)), Value.pointer (some (Addr.mk 178 0 none))] [Blk.map [some IntKind.i64, some IntKind.i64, some IntKind.i64, some IntKind.i64, some IntKind.i64, some IntKind.i64, some IntKind.i64, some IntKind.i64, some IntKind.i64, some IntKind.i64] true (some IntKind.i64) [] 0, Blk.map [some IntKind.i64, some IntKind.i64, some IntKind.i64, some IntKind.i64, some IntKind.i64, some IntKind.i64, some IntKind.i64, some IntKind.i64, some IntKind.i64, some IntKind.i64] true (some IntKind.i64) (esB (ML (ePc.list [] 0 0))) (MC (ePc.list [] 0 0)), Blk.it 86 0 [] 0] [(20, 86), (21, 114), (22, 178)], Value.bool false = Value.bool false, Value.bool ((0 : Int) != Int.ofNat (esB (ML (ePc.list [] 0 0))).length) = Value.bool false, plainR [[]], ML = Ythbaccmhdffjdaa.Mg.mergeL, MC = mergeC, ePc.Row [] 0 0, 0 ≤ 65536, ZeroOK 0 (Value.slice (some (Addr.mk 94 0 none)) 0 0) (some (Blk.cells [] 27)), ZeroOK 0 (Value.slice (some (Addr.mk 94 0 none)) 0 0) (some (Blk.cells [] 27)), plainR [], Value.bool (decide (0 < (↑tn : Int))) = Value.bool false, plainR [ePc.row L], ePc.row L = ePc.row (ePc.list (ePc.row L) 0 n), 1 ≤ n, n ≤ c, c ≤ 9223372036854775807])) (hK : ∀ zz, (cm2 [] 0 [] 0 l2 c2 Q).inv 0 zz → ltO ((cm2 [] 0 [] 0 l2 c2 Q).mu 0 zz) none → Sat E (atLp (lp Try.f5 1)) ((cm2 [] 0 [] 0 l2 c2 Q).st 0 zz)) : Sat E [.code (bodyOf Try.f5)] (st0 Try.f5 [.slice (some ⟨0, 0, none⟩) n c, .slice (some ⟨1, 0, none⟩) tn tc] (rowsL [some (ePc.row L), some (eInt.row ts)]) 2) :=
  by_to (T := auto0 (t_cm true ML MC)) (h := hints [(5, 3, ht false), (12, 2, {p := true}), (12, 4, {p := true}), (13, 4, ht false), (13, 10, ht false)]) (ws := [.go, .go, .go, .stop]) (i0 := ⟨[], 0⟩) hE hm (auto0_ok (t_cm_ok true ML MC)) hL (by kernel_rfl) hob hK
theorem csVL (ML : List Pc → List EB) (MC : List Pc → Nat) (L : List Pc) (n c : Nat) (ts : List Int) (tn tc k : Nat) (ow : List Pc) (Q : Nat → CM → Prop)  {E : Env} {rv : Value} {rhs : List Nat} {rhv : List Blk} (hE : EnvOK E Try.prog Try.f5 2 2 rv rhs rhv) (hL : (cm1 ow k ts tn tc Q).OK 2) (hob : all ([SameK (atLp (lp Try.f5 0)) (atLp (lp Try.f5 0)), Enter (cm1 ow k ts tn tc Q) 0 none [Value.slice (some (Addr.mk 1 0 none)) tn tc, Value.slice (some (Addr.mk 10 0 none)) (min n 8) 1267650600228229401496703205376, Value.slice none 0 0, Value.int IntKind.i64 ((0 : Int)), Value.int IntKind.i64 ((0 : Int))] [Blk.ro (eInt.row ts), Blk.vec (ePc.row (List.take 8 (ePc.list (ePc.row L) 0 n))) 27 11] [(1, 1), (10, 10)], plainR [ePc.row L], ePc.row L = ePc.row (ePc.list (ePc.row L) 0 n), 1 ≤ n, n ≤ c, c ≤ 9223372036854775807])) (hK : ∀ zz, (cm1 ow k ts tn tc Q).inv 0 zz → ltO ((cm1 ow k ts tn tc Q).mu 0 zz) none → Sat E (atLp (lp Try.f5 0)) ((cm1 ow k ts tn tc Q).st 0 zz)) : Sat E [.code (bodyOf Try.f5)] (st0 Try.f5 [.slice (some ⟨0, 0, none⟩) n c, .slice (some ⟨1, 0, none⟩) tn tc] (rowsL [some (ePc.row L), some (eInt.row ts)]) 2) :=
  by_to (T := auto0 (t_cm true ML MC)) (h := hints []) (ws := [.stop]) (i0 := ⟨0, [], 0⟩) hE hm (auto0_ok (t_cm_ok true ML MC)) hL (by kernel_rfl) hob hK
theorem cmB0 (ML : List Pc → List EB) (MC : List Pc → Nat) (ow : List Pc) (k : Nat) (ts : List Int) (tn tc : Nat) (Q : Nat → CM → Prop) (i : Nat) (tot tot2 tv pv : Int) (j : Nat) (bo : Bx) (v : Int) (ps2 : List Pc) (J : Act → World → Prop) {E : Env} {rv : Value} {rhs : List Nat} {rhv : List Blk} (hE : EnvOK E Try.prog Try.f5 2 2 rv rhs rhv) (hL : (cm1 ow k ts tn tc Q).OK 2) (hob : all ([SameK (mkLp (lp Try.f5 0) J) (mkLp (lp Try.f5 0) J), Enter (cm1 ow k ts tn tc Q) 1 (some (20 - i)) [Value.slice (some (Addr.mk 1 0 none)) tn tc, Value.slice (some (Addr.mk 10 0 none)) k 1267650600228229401496703205376, Value.slice (some (Addr.mk 150 0 none)) 1 1267650600228229401496703205376, Value.int IntKind.i64 tot2, Value.int IntKind.i64 (Int.ofNat i.succ)] [Blk.ro (eInt.row ts), Blk.vec (ePc.row ow) 27 11, Blk.vec (ePc.row ps2) 27 11] [(1, 1), (10, 10), (13, 150)], Value.int IntKind.i64 (IntKind.i64.wrap (Int.ofNat i.succ)) = Value.int IntKind.i64 (Int.ofNat i.succ), Value.int IntKind.i64 (IntKind.i64.wrap (tot + pv)) = Value.int IntKind.i64 tot2, AppOK none 0 0 11 88 1 [Value.int IntKind.i64 bo.a0, Value.int IntKind.i64 bo.b0, Value.int IntKind.i64 bo.a1, Value.int IntKind.i64 bo.b1, Value.int IntKind.i64 bo.a2, Value.int IntKind.i64 bo.b2, Value.int IntKind.i64 bo.a3, Value.int IntKind.i64 bo.b3, Value.int IntKind.i64 bo.a4, Value.int IntKind.i64 bo.b4, Value.int IntKind.i64 pv] 0 (ePc.row ps2), Value.int IntKind.i64 (withinS v ((-1000 : Int)) ((1000 : Int))) = Value.int IntKind.i64 pv, I64 v, (-2305843009213693952 : Int) ≤ (-1000 : Int), (-1000 : Int) ≤ (1000 : Int), (1000 : Int) ≤ (2305843009213693952 : Int), readPart Try.prog 27 (ePc.row ow) (0 + ((j : Int)).toNat * 11) = some (Value.agg (Array.mk [Value.int IntKind.i64 bo.a0, Value.int IntKind.i64 bo.b0, Value.int IntKind.i64 bo.a1, Value.int IntKind.i64 bo.b1, Value.int IntKind.i64 bo.a2, Value.int IntKind.i64 bo.b2, Value.int IntKind.i64 bo.a3, Value.int IntKind.i64 bo.b3, Value.int IntKind.i64 bo.a4, Value.int IntKind.i64 bo.b4, Value.int IntKind.i64 v])), (0 : Int) ≤ (j : Int) ∧ (j : Int) < (k : Int), Value.int IntKind.i64 (withinS tv ((0 : Int)) ((k : Int) - (1 : Int))) = Value.int IntKind.i64 ((j : Int)), I64 tv, (-2305843009213693952 : Int) ≤ (0 : Int), (0 : Int) ≤ (k : Int) - (1 : Int), (k : Int) - (1 : Int) ≤ (2305843009213693952 : Int), Value.int IntKind.i64 (IntKind.i64.wrap ((k : Int) - (1 : Int))) = Value.int IntKind.i64 ((k : Int) - (1 : Int)), readPart Try.prog 3 (eInt.row ts) (0 + ((i : Int)).toNat * 1) = some (Value.int IntKind.i64 tv), (0 : Int) ≤ (i : Int) ∧ (i : Int) < (tn : Int), Value.bool (decide ((↑k : Int) > 0)) = Value.bool true, Value.bool (decide ((↑i : Int) < 20)) = Value.bool true, Value.bool (decide ((↑i : Int) < (↑tn : Int))) = Value.bool true])) (hK : ∀ zz, (cm1 ow k ts tn tc Q).inv 1 zz → ltO ((cm1 ow k ts tn tc Q).mu 1 zz) (some (20 - i)) → Sat E (mkLp (lp Try.f5 0) J) ((cm1 ow k ts tn tc Q).st 1 zz)) : Sat E (inLp (lp Try.f5 0) J) ((cm1 ow k ts tn tc Q).st 0 ⟨i, [], tot⟩) :=
  by_to (T := auto0 (t_cm true ML MC)) (h := hints [(5, 3, ht true), (5, 6, ht true), (5, 11, ht true), (7, 3, {p := true}), (7, 4, {o := some (.int .i64 tv)}), (7, 7, {v := some (.int .i64 ((k : Int) - 1))}), (7, 8, {v := some (.int .i64 (j : Int))}), (7, 9, {p := true}), (7, 10, {o := some (.agg ⟨bo.cs ++ [.int .i64 v]⟩)}), (8, 2, {v := some (.int .i64 pv)}), (9, 3, {c := some (ePc.row ps2)}), (10, 3, {v := some (.int .i64 tot2)}), (6, 1, {v := some (.int .i64 ((i + 1 : Nat) : Int))})]) (ws := []) (i0 := ⟨i + 1, ps2, tot2⟩) hE hm (auto0_ok (t_cm_ok true ML MC)) hL (by kernel_rfl) hob hK
theorem cmX0a (ML : List Pc → List EB) (MC : List Pc → Nat) (ow : List Pc) (k : Nat) (ts : List Int) (tn tc : Nat) (Q : Nat → CM → Prop) (i : Nat) (tot : Int) (l2 : List EB) (c2 : Nat) (Q2 : CI → Prop) (J : Act → World → Prop) {E : Env} {rv : Value} {rhs : List Nat} {rhv : List Blk} (hE : EnvOK E Try.prog Try.f5 2 2 rv rhs rhv) (hL : (cm2 [] tot [] 0 l2 c2 Q2).OK 2) (hob : all ([SameK (atLp (lp Try.f5 1)) (atLp (lp Try.f5 1)), Enter (cm2 [] tot [] 0 l2 c2 Q2) 0 none [Value.slice none 0 0, Value.int IntKind.i64 tot, Value.map (some 70), Value.map (some 98), Value.int IntKind.i64 ((0 : Int)), Value.pointer (some (Addr.mk 162 0 none))] [Blk.map [some IntKind.i64, some IntKind.i64, some IntKind.i64, some IntKind.i64, some IntKind.i64, some IntKind.i64, some IntKind.i64, some IntKind.i64, some IntKind.i64, some IntKind.i64] true (some IntKind.i64) [] 0, Blk.map [some IntKind.i64, some IntKind.i64, some IntKind.i64, some IntKind.i64, some IntKind.i64, some IntKind.i64, some IntKind.i64, some IntKind.i64, some IntKind.i64, some IntKind.i64] true (some IntKind.i64) (esB (ML (ePc.list [] 0 0))) (MC (ePc.list [] 0 0)), Blk.it 70 0 [] 0] [(20, 70), (21, 98), (22, 162)], Value.bool false = Value.bool false, Value.bool ((0 : Int) != Int.ofNat (esB (ML (ePc.list [] 0 0))).length) = Value.bool false, plainR [[]], ML = Ythbaccmhdffjdaa.Mg.mergeL, MC = mergeC, ePc.Row [] 0 0, 0 ≤ 65536, ZeroOK 0 (Value.slice (some (Addr.mk 78 0 none)) 0 0) (some (Blk.cells [] 27)), ZeroOK 0 (Value.slice (some (Addr.mk 78 0 none)) 0 0) (some (Blk.cells [] 27)), plainR [], Value.bool (decide ((↑i : Int) < (↑tn : Int))) = Value.bool false])) (hK : ∀ zz, (cm2 [] tot [] 0 l2 c2 Q2).inv 0 zz → ltO ((cm2 [] tot [] 0 l2 c2 Q2).mu 0 zz) none → Sat E (atLp (lp Try.f5 1)) ((cm2 [] tot [] 0 l2 c2 Q2).st 0 zz)) : Sat E (inLp (lp Try.f5 0) J) ((cm1 ow k ts tn tc Q).st 0 ⟨i, [], tot⟩) :=
  by_to (T := auto0 (t_cm true ML MC)) (h := hints [(5, 3, ht false), (12, 2, {p := true}), (12, 4, {p := true}), (13, 4, ht false), (13, 10, ht false)]) (ws := [.go, .go, .stop]) (i0 := ⟨[], 0⟩) hE hm (auto0_ok (t_cm_ok true ML MC)) hL (by kernel_rfl) hob hK
theorem cmY0 (ML : List Pc → List EB) (MC : List Pc → Nat) (tot : Int) (l l2 : List EB) (c c2 : Nat) (Q : CI → Prop) (seen : List Nat) (sum sum2 n g : Int) (bo : Bx) (s : Nat) (J : Act → World → Prop) {E : Env} {rv : Value} {rhs : List Nat} {rhv : List Blk} (hE : EnvOK E Try.prog Try.f5 2 2 rv rhs rhv) (hL : (cm2 [] tot l c l2 c2 Q).OK 2) (hob : all ([SameK (mkLp (lp Try.f5 1) J) (mkLp (lp Try.f5 1) J), Enter (cm2 [] tot l c l2 c2 Q) 0 (some (l.length - seen.length)) [Value.slice none 0 0, Value.int IntKind.i64 tot, Value.map (some 20), Value.map (some 21), Value.int IntKind.i64 sum2, Value.pointer (some (Addr.mk 22 0 none))] [Blk.map [some IntKind.i64, some IntKind.i64, some IntKind.i64, some IntKind.i64, some IntKind.i64, some IntKind.i64, some IntKind.i64, some IntKind.i64, some IntKind.i64, some IntKind.i64] true (some IntKind.i64) (esB l) c, Blk.map [some IntKind.i64, some IntKind.i64, some IntKind.i64, some IntKind.i64, some IntKind.i64, some IntKind.i64, some IntKind.i64, some IntKind.i64, some IntKind.i64, some IntKind.i64] true (some IntKind.i64) (esB l2) c2, Blk.it 20 c (seen ++ [(EB.mk bo n s).ent.snd.snd]) c] [(20, 20), (21, 21), (22, 22)], Value.bool (g != (2 : Int) * n) = Value.bool false, Value.int IntKind.i64 (IntKind.i64.wrap ((2 : Int) * n)) = Value.int IntKind.i64 ((2 : Int) * n), Value.int IntKind.i64 (mgetI (Value.agg (Array.mk [Value.int IntKind.i64 bo.a0, Value.int IntKind.i64 bo.b0, Value.int IntKind.i64 bo.a1, Value.int IntKind.i64 bo.b1, Value.int IntKind.i64 bo.a2, Value.int IntKind.i64 bo.b2, Value.int IntKind.i64 bo.a3, Value.int IntKind.i64 bo.b3, Value.int IntKind.i64 bo.a4, Value.int IntKind.i64 bo.b4])) (esB l2)) = Value.int IntKind.i64 g, Value.int IntKind.i64 (IntKind.i64.wrap (sum + n)) = Value.int IntKind.i64 sum2, EntryOK (esB l) (seen ++ [(EB.mk bo n s).ent.snd.snd]) c c (Value.tuple (Array.mk [Value.agg (Array.mk [Value.int IntKind.i64 bo.a0, Value.int IntKind.i64 bo.b0, Value.int IntKind.i64 bo.a1, Value.int IntKind.i64 bo.b1, Value.int IntKind.i64 bo.a2, Value.int IntKind.i64 bo.b2, Value.int IntKind.i64 bo.a3, Value.int IntKind.i64 bo.b3, Value.int IntKind.i64 bo.a4, Value.int IntKind.i64 bo.b4]), Value.int IntKind.i64 n]))])) (hK : ∀ zz, (cm2 [] tot l c l2 c2 Q).inv 0 zz → ltO ((cm2 [] tot l c l2 c2 Q).mu 0 zz) (some (l.length - seen.length)) → Sat E (mkLp (lp Try.f5 1) J) ((cm2 [] tot l c l2 c2 Q).st 0 zz)) : Sat E (afterN (inLp (lp Try.f5 1) J)) (stYes ((cm2 [] tot l c l2 c2 Q).st 0 ⟨seen, sum⟩) 81 82 22 20 c seen c (EB.ent ⟨bo, n, s⟩)) :=
  by_to (T := auto0 (t_cm true ML MC)) (h := hints [(18, 0, {o := some (.tuple ⟨[kB bo, .int .i64 n]⟩)}), (19, 2, {v := some (.int .i64 sum2)}), (20, 2, {v := some (.int .i64 g)}), (20, 4, {v := some (.int .i64 (2 * n))}), (20, 5, ht false)]) (ws := []) (i0 := ⟨seen ++ [s], sum2⟩) hE hm (auto0_ok (t_cm_ok true ML MC)) hL (by kernel_rfl) hob hK
theorem cmN0 (ML : List Pc → List EB) (MC : List Pc → Nat) (tot : Int) (l l2 : List EB) (c c2 : Nat) (Q : CI → Prop) (seen : List Nat) (sum : Int) (J : Act → World → Prop) {E : Env} (hE : EnvOK E Try.prog Try.f5 2 2 (.bool true) [] []) (hob : all ([Back (Value.bool true) (Value.bool true) [] [] [], Value.bool (sum == tot) = Value.bool true])) : Sat E (afterN (inLp (lp Try.f5 1) J)) (stNo ((cm2 [] tot l c l2 c2 Q).st 0 ⟨seen, sum⟩) 81 82) :=
  by_ret (T := auto0 (t_cm true ML MC)) (h := hints [(29, 2, ht true)]) (ws := [.go, .go]) (nx' := 2) hE hm (auto0_ok (t_cm_ok true ML MC)) (by omega) (by simp) (by simp) (by kernel_rfl) hob
theorem cmB1 (ML : List Pc → List EB) (MC : List Pc → Nat) (ow : List Pc) (k : Nat) (ts : List Int) (tn tc : Nat) (Q : Nat → CM → Prop) (i : Nat) (ps : List Pc) (tot tot2 tv pv : Int) (j : Nat) (bo : Bx) (v : Int) (ps2 : List Pc) (J : Act → World → Prop) {E : Env} {rv : Value} {rhs : List Nat} {rhv : List Blk} (hE : EnvOK E Try.prog Try.f5 2 2 rv rhs rhv) (hL : (cm1 ow k ts tn tc Q).OK 2) (hob : all ([SameK (mkLp (lp Try.f5 0) J) (mkLp (lp Try.f5 0) J), Enter (cm1 ow k ts tn tc Q) 1 (some (20 - i)) [Value.slice (some (Addr.mk 1 0 none)) tn tc, Value.slice (some (Addr.mk 10 0 none)) k 1267650600228229401496703205376, Value.slice (some (Addr.mk 150 0 none)) (ps.length + 1) 1267650600228229401496703205376, Value.int IntKind.i64 tot2, Value.int IntKind.i64 (Int.ofNat i.succ)] [Blk.ro (eInt.row ts), Blk.vec (ePc.row ow) 27 11, Blk.vec (ePc.row ps2) 27 11] [(1, 1), (10, 10), (13, 150)], Value.int IntKind.i64 (IntKind.i64.wrap (Int.ofNat i.succ)) = Value.int IntKind.i64 (Int.ofNat i.succ), Value.int IntKind.i64 (IntKind.i64.wrap (tot + pv)) = Value.int IntKind.i64 tot2, AppOK (some (Blk.vec (ePc.row ps) 27 11)) ps.length 1267650600228229401496703205376 11 88 1 [Value.int IntKind.i64 bo.a0, Value.int IntKind.i64 bo.b0, Value.int IntKind.i64 bo.a1, Value.int IntKind.i64 bo.b1, Value.int IntKind.i64 bo.a2, Value.int IntKind.i64 bo.b2, Value.int IntKind.i64 bo.a3, Value.int IntKind.i64 bo.b3, Value.int IntKind.i64 bo.a4, Value.int IntKind.i64 bo.b4, Value.int IntKind.i64 pv] 0 (ePc.row ps2), Value.int IntKind.i64 (withinS v ((-1000 : Int)) ((1000 : Int))) = Value.int IntKind.i64 pv, I64 v, (-2305843009213693952 : Int) ≤ (-1000 : Int), (-1000 : Int) ≤ (1000 : Int), (1000 : Int) ≤ (2305843009213693952 : Int), readPart Try.prog 27 (ePc.row ow) (0 + ((j : Int)).toNat * 11) = some (Value.agg (Array.mk [Value.int IntKind.i64 bo.a0, Value.int IntKind.i64 bo.b0, Value.int IntKind.i64 bo.a1, Value.int IntKind.i64 bo.b1, Value.int IntKind.i64 bo.a2, Value.int IntKind.i64 bo.b2, Value.int IntKind.i64 bo.a3, Value.int IntKind.i64 bo.b3, Value.int IntKind.i64 bo.a4, Value.int IntKind.i64 bo.b4, Value.int IntKind.i64 v])), (0 : Int) ≤ (j : Int) ∧ (j : Int) < (k : Int), Value.int IntKind.i64 (withinS tv ((0 : Int)) ((k : Int) - (1 : Int))) = Value.int IntKind.i64 ((j : Int)), I64 tv, (-2305843009213693952 : Int) ≤ (0 : Int), (0 : Int) ≤ (k : Int) - (1 : Int), (k : Int) - (1 : Int) ≤ (2305843009213693952 : Int), Value.int IntKind.i64 (IntKind.i64.wrap ((k : Int) - (1 : Int))) = Value.int IntKind.i64 ((k : Int) - (1 : Int)), readPart Try.prog 3 (eInt.row ts) (0 + ((i : Int)).toNat * 1) = some (Value.int IntKind.i64 tv), (0 : Int) ≤ (i : Int) ∧ (i : Int) < (tn : Int), Value.bool (decide ((↑k : Int) > 0)) = Value.bool true, Value.bool (decide ((↑i : Int) < 20)) = Value.bool true, Value.bool (decide ((↑i : Int) < (↑tn : Int))) = Value.bool true])) (hK : ∀ zz, (cm1 ow k ts tn tc Q).inv 1 zz → ltO ((cm1 ow k ts tn tc Q).mu 1 zz) (some (20 - i)) → Sat E (mkLp (lp Try.f5 0) J) ((cm1 ow k ts tn tc Q).st 1 zz)) : Sat E (inLp (lp Try.f5 0) J) ((cm1 ow k ts tn tc Q).st 1 ⟨i, ps, tot⟩) :=
  by_to (T := auto0 (t_cm true ML MC)) (h := hints [(5, 3, ht true), (5, 6, ht true), (5, 11, ht true), (7, 3, {p := true}), (7, 4, {o := some (.int .i64 tv)}), (7, 7, {v := some (.int .i64 ((k : Int) - 1))}), (7, 8, {v := some (.int .i64 (j : Int))}), (7, 9, {p := true}), (7, 10, {o := some (.agg ⟨bo.cs ++ [.int .i64 v]⟩)}), (8, 2, {v := some (.int .i64 pv)}), (9, 3, {c := some (ePc.row ps2)}), (10, 3, {v := some (.int .i64 tot2)}), (6, 1, {v := some (.int .i64 ((i + 1 : Nat) : Int))})]) (ws := []) (i0 := ⟨i + 1, ps2, tot2⟩) hE hm (auto0_ok (t_cm_ok true ML MC)) hL (by kernel_rfl) hob hK
theorem cmX1a (ML : List Pc → List EB) (MC : List Pc → Nat) (ow : List Pc) (k : Nat) (ts : List Int) (tn tc : Nat) (Q : Nat → CM → Prop) (i : Nat) (ps : List Pc) (tot : Int) (l l2 : List EB) (c c2 : Nat) (p1 p2 : List Pc) (Q2 : CI → Prop) (J : Act → World → Prop) {E : Env} {rv : Value} {rhs : List Nat} {rhv : List Blk} (hE : EnvOK E Try.prog Try.f5 2 2 rv rhs rhv) (hL : (cm2 ps tot l c l2 c2 Q2).OK 2) (hob : all ([SameK (atLp (lp Try.f5 1)) (atLp (lp Try.f5 1)), Enter (cm2 ps tot l c l2 c2 Q2) 1 none [Value.slice (some (Addr.mk 13 0 none)) ps.length 1267650600228229401496703205376, Value.int IntKind.i64 tot, Value.map (some 70), Value.map (some 98), Value.int IntKind.i64 ((0 : Int)), Value.pointer (some (Addr.mk 162 0 none))] [Blk.map [some IntKind.i64, some IntKind.i64, some IntKind.i64, some IntKind.i64, some IntKind.i64, some IntKind.i64, some IntKind.i64, some IntKind.i64, some IntKind.i64, some IntKind.i64] true (some IntKind.i64) (esB (ML (ePc.list (ePc.row ps) 0 ps.length))) (MC (ePc.list (ePc.row ps) 0 ps.length)), Blk.map [some IntKind.i64, some IntKind.i64, some IntKind.i64, some IntKind.i64, some IntKind.i64, some IntKind.i64, some IntKind.i64, some IntKind.i64, some IntKind.i64, some IntKind.i64] true (some IntKind.i64) (esB (ML (ePc.list (ePc.row p2) 0 (0 + ps.length + ps.length)))) (MC (ePc.list (ePc.row p2) 0 (0 + ps.length + ps.length))), Blk.it 70 (MC (ePc.list (ePc.row ps) 0 ps.length)) [] (MC (ePc.list (ePc.row ps) 0 ps.length)), Blk.vec (ePc.row ps) 27 11] [(13, 13), (20, 70), (21, 98), (22, 162)], Value.bool (decide ((↑(esB (ML (ePc.list (ePc.row ps) 0 ps.length))).length : Int) > (↑ps.length : Int))) = Value.bool false, Value.bool (Int.ofNat (esB (ML (ePc.list (ePc.row ps) 0 ps.length))).length != Int.ofNat (esB (ML (ePc.list (ePc.row p2) 0 (0 + ps.length + ps.length)))).length) = Value.bool false, plainR [ePc.row p2], ML = Ythbaccmhdffjdaa.Mg.mergeL, MC = mergeC, ePc.Row (ePc.row p2) 0 (0 + ps.length + ps.length), 0 + ps.length + ps.length ≤ 65536, AppOK (some (Blk.vec (ePc.row p1) 27 11)) (0 + ps.length) 1267650600228229401496703205376 11 88 ps.length (ePc.row ps) 0 (ePc.row p2), AppOK (some (Blk.cells [] 27)) 0 0 11 88 ps.length (ePc.row ps) 0 (ePc.row p1), plainR [ePc.row ps], ML = Ythbaccmhdffjdaa.Mg.mergeL, MC = mergeC, ePc.Row (ePc.row ps) 0 ps.length, ps.length ≤ 65536, Value.bool (decide ((↑i : Int) < (↑tn : Int))) = Value.bool false])) (hK : ∀ zz, (cm2 ps tot l c l2 c2 Q2).inv 1 zz → ltO ((cm2 ps tot l c l2 c2 Q2).mu 1 zz) none → Sat E (atLp (lp Try.f5 1)) ((cm2 ps tot l c l2 c2 Q2).st 1 zz)) : Sat E (inLp (lp Try.f5 0) J) ((cm1 ow k ts tn tc Q).st 1 ⟨i, ps, tot⟩) :=
  by_to (T := auto0 (t_cm true ML MC)) (h := hints [(5, 3, ht false), (12, 2, {c := some (ePc.row p1)}), (12, 4, {c := some (ePc.row p2)}), (13, 4, ht false), (13, 10, ht false)]) (ws := [.go, .go, .stop]) (i0 := ⟨[], 0⟩) hE hm (auto0_ok (t_cm_ok true ML MC)) hL (by kernel_rfl) hob hK
theorem cmX1b (ML : List Pc → List EB) (MC : List Pc → Nat) (ow : List Pc) (k : Nat) (ts : List Int) (tn tc : Nat) (Q : Nat → CM → Prop) (i : Nat) (ps : List Pc) (tot : Int) (l l2 : List EB) (c c2 : Nat) (p1 p2 : List Pc) (Q2 : CI → Prop) (J : Act → World → Prop) {E : Env} {rv : Value} {rhs : List Nat} {rhv : List Blk} (hE : EnvOK E Try.prog Try.f5 2 2 rv rhs rhv) (hL : (cm2 ps tot l c l2 c2 Q2).OK 2) (hob : all ([SameK (atLp (lp Try.f5 1)) (atLp (lp Try.f5 1)), Enter (cm2 ps tot l c l2 c2 Q2) 1 none [Value.slice (some (Addr.mk 13 0 none)) ps.length 1267650600228229401496703205376, Value.int IntKind.i64 tot, Value.map (some 70), Value.map (some 98), Value.int IntKind.i64 ((0 : Int)), Value.pointer (some (Addr.mk 162 0 none))] [Blk.map [some IntKind.i64, some IntKind.i64, some IntKind.i64, some IntKind.i64, some IntKind.i64, some IntKind.i64, some IntKind.i64, some IntKind.i64, some IntKind.i64, some IntKind.i64] true (some IntKind.i64) (esB (ML (ePc.list (ePc.row ps) 0 ps.length))) (MC (ePc.list (ePc.row ps) 0 ps.length)), Blk.map [some IntKind.i64, some IntKind.i64, some IntKind.i64, some IntKind.i64, some IntKind.i64, some IntKind.i64, some IntKind.i64, some IntKind.i64, some IntKind.i64, some IntKind.i64] true (some IntKind.i64) (esB (ML (ePc.list (ePc.row p2) 0 (0 + ps.length + ps.length)))) (MC (ePc.list (ePc.row p2) 0 (0 + ps.length + ps.length))), Blk.it 70 (MC (ePc.list (ePc.row ps) 0 ps.length)) [] (MC (ePc.list (ePc.row ps) 0 ps.length)), Blk.vec (ePc.row ps) 27 11] [(13, 13), (20, 70), (21, 98), (22, 162)], Value.bool (decide ((↑(esB (ML (ePc.list (ePc.row ps) 0 ps.length))).length : Int) > (↑ps.length : Int))) = Value.bool false, Value.bool (Int.ofNat (esB (ML (ePc.list (ePc.row ps) 0 ps.length))).length != Int.ofNat (esB (ML (ePc.list (ePc.row p2) 0 (0 + ps.length + ps.length)))).length) = Value.bool false, plainR [ePc.row p2], ML = Ythbaccmhdffjdaa.Mg.mergeL, MC = mergeC, ePc.Row (ePc.row p2) 0 (0 + ps.length + ps.length), 0 + ps.length + ps.length ≤ 65536, AppOK (some (Blk.vec (ePc.row p1) 27 11)) (0 + ps.length) 1267650600228229401496703205376 11 88 ps.length (ePc.row ps) 0 (ePc.row p2), AppOK (some (Blk.cells [] 27)) 0 0 11 88 ps.length (ePc.row ps) 0 (ePc.row p1), plainR [ePc.row ps], ML = Ythbaccmhdffjdaa.Mg.mergeL, MC = mergeC, ePc.Row (ePc.row ps) 0 ps.length, ps.length ≤ 65536, Value.bool (decide ((↑i : Int) < 20)) = Value.bool false, Value.bool (decide ((↑i : Int) < (↑tn : Int))) = Value.bool true])) (hK : ∀ zz, (cm2 ps tot l c l2 c2 Q2).inv 1 zz → ltO ((cm2 ps tot l c l2 c2 Q2).mu 1 zz) none → Sat E (atLp (lp Try.f5 1)) ((cm2 ps tot l c l2 c2 Q2).st 1 zz)) : Sat E (inLp (lp Try.f5 0) J) ((cm1 ow k ts tn tc Q).st 1 ⟨i, ps, tot⟩) :=
  by_to (T := auto0 (t_cm true ML MC)) (h := hints [(5, 3, ht true), (5, 6, ht false), (12, 2, {c := some (ePc.row p1)}), (12, 4, {c := some (ePc.row p2)}), (13, 4, ht false), (13, 10, ht false)]) (ws := [.go, .go, .stop]) (i0 := ⟨[], 0⟩) hE hm (auto0_ok (t_cm_ok true ML MC)) hL (by kernel_rfl) hob hK
theorem cmY1 (ML : List Pc → List EB) (MC : List Pc → Nat) (ps : List Pc) (tot : Int) (l l2 : List EB) (c c2 : Nat) (Q : CI → Prop) (seen : List Nat) (sum sum2 n g : Int) (bo : Bx) (s : Nat) (J : Act → World → Prop) {E : Env} {rv : Value} {rhs : List Nat} {rhv : List Blk} (hE : EnvOK E Try.prog Try.f5 2 2 rv rhs rhv) (hL : (cm2 ps tot l c l2 c2 Q).OK 2) (hob : all ([SameK (mkLp (lp Try.f5 1) J) (mkLp (lp Try.f5 1) J), Enter (cm2 ps tot l c l2 c2 Q) 1 (some (l.length - seen.length)) [Value.slice (some (Addr.mk 13 0 none)) ps.length 1267650600228229401496703205376, Value.int IntKind.i64 tot, Value.map (some 20), Value.map (some 21), Value.int IntKind.i64 sum2, Value.pointer (some (Addr.mk 22 0 none))] [Blk.map [some IntKind.i64, some IntKind.i64, some IntKind.i64, some IntKind.i64, some IntKind.i64, some IntKind.i64, some IntKind.i64, some IntKind.i64, some IntKind.i64, some IntKind.i64] true (some IntKind.i64) (esB l) c, Blk.map [some IntKind.i64, some IntKind.i64, some IntKind.i64, some IntKind.i64, some IntKind.i64, some IntKind.i64, some IntKind.i64, some IntKind.i64, some IntKind.i64, some IntKind.i64] true (some IntKind.i64) (esB l2) c2, Blk.it 20 c (seen ++ [(EB.mk bo n s).ent.snd.snd]) c, Blk.vec (ePc.row ps) 27 11] [(13, 13), (20, 20), (21, 21), (22, 22)], Value.bool (g != (2 : Int) * n) = Value.bool false, Value.int IntKind.i64 (IntKind.i64.wrap ((2 : Int) * n)) = Value.int IntKind.i64 ((2 : Int) * n), Value.int IntKind.i64 (mgetI (Value.agg (Array.mk [Value.int IntKind.i64 bo.a0, Value.int IntKind.i64 bo.b0, Value.int IntKind.i64 bo.a1, Value.int IntKind.i64 bo.b1, Value.int IntKind.i64 bo.a2, Value.int IntKind.i64 bo.b2, Value.int IntKind.i64 bo.a3, Value.int IntKind.i64 bo.b3, Value.int IntKind.i64 bo.a4, Value.int IntKind.i64 bo.b4])) (esB l2)) = Value.int IntKind.i64 g, Value.int IntKind.i64 (IntKind.i64.wrap (sum + n)) = Value.int IntKind.i64 sum2, EntryOK (esB l) (seen ++ [(EB.mk bo n s).ent.snd.snd]) c c (Value.tuple (Array.mk [Value.agg (Array.mk [Value.int IntKind.i64 bo.a0, Value.int IntKind.i64 bo.b0, Value.int IntKind.i64 bo.a1, Value.int IntKind.i64 bo.b1, Value.int IntKind.i64 bo.a2, Value.int IntKind.i64 bo.b2, Value.int IntKind.i64 bo.a3, Value.int IntKind.i64 bo.b3, Value.int IntKind.i64 bo.a4, Value.int IntKind.i64 bo.b4]), Value.int IntKind.i64 n]))])) (hK : ∀ zz, (cm2 ps tot l c l2 c2 Q).inv 1 zz → ltO ((cm2 ps tot l c l2 c2 Q).mu 1 zz) (some (l.length - seen.length)) → Sat E (mkLp (lp Try.f5 1) J) ((cm2 ps tot l c l2 c2 Q).st 1 zz)) : Sat E (afterN (inLp (lp Try.f5 1) J)) (stYes ((cm2 ps tot l c l2 c2 Q).st 1 ⟨seen, sum⟩) 81 82 22 20 c seen c (EB.ent ⟨bo, n, s⟩)) :=
  by_to (T := auto0 (t_cm true ML MC)) (h := hints [(18, 0, {o := some (.tuple ⟨[kB bo, .int .i64 n]⟩)}), (19, 2, {v := some (.int .i64 sum2)}), (20, 2, {v := some (.int .i64 g)}), (20, 4, {v := some (.int .i64 (2 * n))}), (20, 5, ht false)]) (ws := []) (i0 := ⟨seen ++ [s], sum2⟩) hE hm (auto0_ok (t_cm_ok true ML MC)) hL (by kernel_rfl) hob hK
theorem cmN1 (ML : List Pc → List EB) (MC : List Pc → Nat) (ps : List Pc) (tot : Int) (l l2 : List EB) (c c2 : Nat) (Q : CI → Prop) (seen : List Nat) (sum : Int) (Q3 : Nat → Prop) (J : Act → World → Prop) {E : Env} {rv : Value} {rhs : List Nat} {rhv : List Blk} (hE : EnvOK E Try.prog Try.f5 2 2 rv rhs rhv) (hL : (cm3 ps tot sum l c Q3).OK 2) (hob : all ([SameK (atLp (lp Try.f5 2)) (atLp (lp Try.f5 2)), Enter (cm3 ps tot sum l c Q3) 0 none [Value.int IntKind.i64 tot, Value.map (some 20), Value.int IntKind.i64 sum, Value.slice (some (Addr.mk 13 0 none)) ps.length 1267650600228229401496703205376, Value.int IntKind.i64 (Int.ofNat ps.length), Value.int IntKind.i64 ((0 : Int))] [Blk.map [some IntKind.i64, some IntKind.i64, some IntKind.i64, some IntKind.i64, some IntKind.i64, some IntKind.i64, some IntKind.i64, some IntKind.i64, some IntKind.i64, some IntKind.i64] true (some IntKind.i64) (esB l) c, Blk.vec (ePc.row ps) 27 11] [(20, 20), (13, 13)]])) (hK : ∀ zz, (cm3 ps tot sum l c Q3).inv 0 zz → ltO ((cm3 ps tot sum l c Q3).mu 0 zz) none → Sat E (atLp (lp Try.f5 2)) ((cm3 ps tot sum l c Q3).st 0 zz)) : Sat E (afterN (inLp (lp Try.f5 1) J)) (stNo ((cm2 ps tot l c l2 c2 Q).st 1 ⟨seen, sum⟩) 81 82) :=
  by_to (T := auto0 (t_cm true ML MC)) (h := hints []) (ws := [.go, .stop]) (i0 := 0) hE hm (auto0_ok (t_cm_ok true ML MC)) hL (by kernel_rfl) hob hK
theorem cm3B (ML : List Pc → List EB) (MC : List Pc → Nat) (ps : List Pc) (tot sum : Int) (l : List EB) (c : Nat) (Q : Nat → Prop) (i : Nat) (bo : Bx) (v g : Int) (J : Act → World → Prop) {E : Env} {rv : Value} {rhs : List Nat} {rhv : List Blk} (hE : EnvOK E Try.prog Try.f5 2 2 rv rhs rhv) (hL : (cm3 ps tot sum l c Q).OK 2) (hob : all ([SameK (mkLp (lp Try.f5 2) J) (mkLp (lp Try.f5 2) J), Enter (cm3 ps tot sum l c Q) 0 (some (ps.length - i)) [Value.int IntKind.i64 tot, Value.map (some 20), Value.int IntKind.i64 sum, Value.slice (some (Addr.mk 13 0 none)) ps.length 1267650600228229401496703205376, Value.int IntKind.i64 (Int.ofNat ps.length), Value.int IntKind.i64 (Int.ofNat i.succ)] [Blk.map [some IntKind.i64, some IntKind.i64, some IntKind.i64, some IntKind.i64, some IntKind.i64, some IntKind.i64, some IntKind.i64, some IntKind.i64, some IntKind.i64, some IntKind.i64] true (some IntKind.i64) (esB l) c, Blk.vec (ePc.row ps) 27 11] [(20, 20), (13, 13)], Value.int IntKind.i64 (IntKind.i64.wrap (Int.ofNat i.succ)) = Value.int IntKind.i64 (Int.ofNat i.succ), Value.tuple (Array.mk [Value.int IntKind.i64 (mgetI (Value.agg (Array.mk [Value.int IntKind.i64 bo.a0, Value.int IntKind.i64 bo.b0, Value.int IntKind.i64 bo.a1, Value.int IntKind.i64 bo.b1, Value.int IntKind.i64 bo.a2, Value.int IntKind.i64 bo.b2, Value.int IntKind.i64 bo.a3, Value.int IntKind.i64 bo.b3, Value.int IntKind.i64 bo.a4, Value.int IntKind.i64 bo.b4])) (esB l)), Value.bool (mhas (Value.agg (Array.mk [Value.int IntKind.i64 bo.a0, Value.int IntKind.i64 bo.b0, Value.int IntKind.i64 bo.a1, Value.int IntKind.i64 bo.b1, Value.int IntKind.i64 bo.a2, Value.int IntKind.i64 bo.b2, Value.int IntKind.i64 bo.a3, Value.int IntKind.i64 bo.b3, Value.int IntKind.i64 bo.a4, Value.int IntKind.i64 bo.b4])) (esB l))]) = Value.tuple (Array.mk [Value.int IntKind.i64 g, Value.bool true]), readPart Try.prog 27 (ePc.row ps) (0 + ((i : Int)).toNat * 11) = some (Value.agg (Array.mk [Value.int IntKind.i64 bo.a0, Value.int IntKind.i64 bo.b0, Value.int IntKind.i64 bo.a1, Value.int IntKind.i64 bo.b1, Value.int IntKind.i64 bo.a2, Value.int IntKind.i64 bo.b2, Value.int IntKind.i64 bo.a3, Value.int IntKind.i64 bo.b3, Value.int IntKind.i64 bo.a4, Value.int IntKind.i64 bo.b4, Value.int IntKind.i64 v])), (0 : Int) ≤ (i : Int) ∧ (i : Int) < Int.ofNat ps.length, decide ((↑i : Int) < (↑ps.length : Int)) = true])) (hK : ∀ zz, (cm3 ps tot sum l c Q).inv 0 zz → ltO ((cm3 ps tot sum l c Q).mu 0 zz) (some (ps.length - i)) → Sat E (mkLp (lp Try.f5 2) J) ((cm3 ps tot sum l c Q).st 0 zz)) : Sat E (inLp (lp Try.f5 2) J) ((cm3 ps tot sum l c Q).st 0 i) :=
  by_to (T := auto0 (t_cm true ML MC)) (h := hints [(24, 0, {p := true}), (24, 1, {o := some (.agg ⟨bo.cs ++ [.int .i64 v]⟩)}), (25, 3, {v := some (.tuple ⟨[.int .i64 g, .bool true]⟩)}), (28, 0, {v := some (.int .i64 ((i + 1 : Nat) : Int))})]) (ws := [.b true]) (i0 := (i + 1)) hE hm (auto0_ok (t_cm_ok true ML MC)) hL (by kernel_rfl) hob hK
theorem cm3E (ML : List Pc → List EB) (MC : List Pc → Nat) (ps : List Pc) (tot sum : Int) (l : List EB) (c : Nat) (Q : Nat → Prop) (i : Nat) (J : Act → World → Prop) {E : Env} (hE : EnvOK E Try.prog Try.f5 2 2 (.bool true) [] []) (hob : all ([Back (Value.bool true) (Value.bool true) [] [] [], Value.bool (sum == tot) = Value.bool true, decide ((↑i : Int) < (↑ps.length : Int)) = false])) : Sat E (inLp (lp Try.f5 2) J) ((cm3 ps tot sum l c Q).st 0 i) :=
  by_ret (T := auto0 (t_cm true ML MC)) (h := hints [(29, 2, ht true)]) (ws := [.b false]) (nx' := 2) hE hm (auto0_ok (t_cm_ok true ML MC)) (by omega) (by simp) (by simp) (by kernel_rfl) hob
end Go.Proofs.Ythbaccmhdffjdaa.Cm


set_option linter.unusedVariables false
set_option linter.unusedSimpArgs false
set_option maxRecDepth 100000
namespace Go.Proofs.Ythbaccmhdffjdaa.Mg
open Go Go.RowKit Go.Proofs.Ythbaccmhdffjdaa.Ev
def vsum : List Pc → Int
  | [] => 0
  | x :: l => x.val + vsum l
def wsum (b : Bx) : List Pc → Int
  | [] => 0
  | x :: l => (if b = x.box then x.val else 0) + wsum b l
def nsum : List EB → Int
  | [] => 0
  | e :: l => e.n + nsum l
def small (ps : List Pc) : Prop := ∀ x ∈ ps, -1000 ≤ x.val ∧ x.val ≤ 1000
theorem vsum_app : ∀ (l m : List Pc), vsum (l ++ m) = vsum l + vsum m
  | [], m => by simp [vsum]
  | x :: l, m => by simp only [List.cons_append, vsum, vsum_app l m]; omega
theorem wsum_app (b : Bx) : ∀ (l m : List Pc), wsum b (l ++ m) = wsum b l + wsum b m
  | [], m => by simp [wsum]
  | x :: l, m => by simp only [List.cons_append, wsum, wsum_app b l m]; omega
theorem wsum_le (b : Bx) : ∀ {l : List Pc}, small l → -1000 * (l.length : Int) ≤ wsum b l ∧ wsum b l ≤ 1000 * (l.length : Int)
  | [], _ => by simp [wsum]
  | x :: l, h => by
    have ih := wsum_le b (l := l) fun y hy => h y (List.mem_cons_of_mem _ hy)
    have hx := h x (List.mem_cons_self ..)
    simp only [wsum, List.length_cons]
    split <;> omega
theorem vsum_le : ∀ {l : List Pc}, small l → -1000 * (l.length : Int) ≤ vsum l ∧ vsum l ≤ 1000 * (l.length : Int)
  | [], _ => by simp [vsum]
  | x :: l, h => by
    have ih := vsum_le (l := l) fun y hy => h y (List.mem_cons_of_mem _ hy)
    have hx := h x (List.mem_cons_self ..)
    simp only [vsum, List.length_cons]
    omega
theorem mgGo_snoc (l : List Pc) (x : Pc) : mgGo (l ++ [x]) = mgS (mgGo l) x := by unfold mgGo; rw [List.foldl_append]; rfl
theorem small_app {l m : List Pc} (h : small (l ++ m)) : small l ∧ small m := ⟨fun x hx => h x (List.mem_append_left _ hx), fun x hx => h x (List.mem_append_right _ hx)⟩
theorem nsum_put (b : Bx) (v : Int) (c : Nat) : ∀ l : List EB, nsum (putB b (getK b l + v) c l) = nsum l + v
  | [] => by simp [putB, getK, nsum]
  | e :: l => by
    by_cases h : b = e.b
    · simp only [putB, getK, if_pos h, nsum]; omega
    · simp only [putB, getK, if_neg h, nsum]; rw [nsum_put b v c l]; omega
/-- What a merged row tells. -/
theorem merge_tells : ∀ (n : Nat) (l : List Pc), l.length = n → small l → n ≤ 1000000 →
    (∀ b, getK b (mgGo l).1 = wsum b l) ∧ (∀ b, hasK b (mgGo l).1 = l.any fun x => decide (b = x.box)) ∧ nsum (mgGo l).1 = vsum l ∧ (mgGo l).1.length ≤ l.length := by
  intro n
  induction n with
  | zero =>
    intro l hl _ _
    obtain rfl := List.eq_nil_of_length_eq_zero hl
    exact ⟨fun b => rfl, fun b => rfl, rfl, Nat.le_refl _⟩
  | succ n ih =>
    intro l hl hs hn
    obtain ⟨m, x, rfl⟩ : ∃ m x, l = m ++ [x] := ⟨l.dropLast, l.getLast (by intro h; rw [h] at hl; simp at hl), (List.dropLast_concat_getLast _).symm⟩
    have hm : m.length = n := by simpa using hl
    obtain ⟨s1, s2⟩ := small_app hs
    obtain ⟨h1, h2, h3, h4⟩ := ih m hm s1 (by omega)
    have hx := s2 x (by simp)
    have hb := wsum_le x.box s1
    have hw : IntKind.i64.wrap (getK x.box (mgGo m).1 + x.val) = getK x.box (mgGo m).1 + x.val := by
      rw [h1]
      exact wrap_id ⟨by omega, by omega⟩
    rw [mgGo_snoc]
    unfold mgS
    simp only [hw]
    refine ⟨fun b => ?_, fun b => ?_, ?_, ?_⟩
    · rw [getK_put, wsum_app, h1, h1]
      simp only [wsum]
      split
      · rename_i e; subst e; omega
      · omega
    · rw [hasK_put, h2]
      simp [List.any_append, Bool.or_comm]
    · rw [nsum_put, h3, vsum_app]
      simp [vsum]
    · rw [len_put]
      simp only [List.length_append, List.length_cons, List.length_nil]
      cases hasK x.box (mgGo m).1 <;> simp <;> omega
/-- Rows doubled have the same boxes. -/
theorem keys_same : ∀ (m l : List Pc), (∀ x ∈ m, hasK x.box (mgGo l).1 = true) → (mgGo (l ++ m)).1.map (·.b) = (mgGo l).1.map (·.b)
  | [], l, _ => by rw [List.append_nil]
  | x :: m, l, h => by
    have hx := h x (List.mem_cons_self ..)
    have e : l ++ x :: m = (l ++ [x]) ++ m := by simp
    have hk : (mgGo (l ++ [x])).1.map (·.b) = (mgGo l).1.map (·.b) := by
      rw [mgGo_snoc]
      unfold mgS
      rw [put_keys, hx]
      rfl
    rw [e, keys_same m (l ++ [x]) fun y hy => ?_, hk]
    rw [hasK_iff, hk, ← hasK_iff]
    exact h y (List.mem_cons_of_mem _ hy)
theorem twice_len (l : List Pc) (h : small l) (hn : l.length ≤ 1000) : (mergeL (l ++ l)).length = (mergeL l).length := by
  have := congrArg List.length (keys_same l l fun x hx => by
    rw [(merge_tells l.length l rfl h (by omega)).2.1 x.box]
    exact List.any_eq_true.2 ⟨x, hx, by simp⟩)
  rw [List.length_map, List.length_map] at this
  exact this
/-! ### What an iterator has handed out -/
def ssum (seen : List Nat) : List EB → Int
  | [] => 0
  | e :: l => (if e.s ∈ seen then e.n else 0) + ssum seen l
theorem ssum_nil : ∀ l : List EB, ssum [] l = 0
  | [] => rfl
  | e :: l => by simp [ssum, ssum_nil l]
theorem ssum_all {seen : List Nat} : ∀ {l : List EB}, (∀ e ∈ l, e.s ∈ seen) → ssum seen l = nsum l
  | [], _ => rfl
  | e :: l, h => by
    simp only [ssum, nsum, if_pos (h e (List.mem_cons_self ..))]
    rw [ssum_all fun x hx => h x (List.mem_cons_of_mem _ hx)]
theorem ssum_out {seen : List Nat} {s : Nat} : ∀ {l : List EB}, (∀ e ∈ l, e.s ≠ s) → ssum (seen ++ [s]) l = ssum seen l
  | [], _ => rfl
  | e :: l, h => by
    have := h e (List.mem_cons_self ..)
    simp only [ssum, List.mem_append, List.mem_singleton, this, or_false]
    rw [ssum_out fun x hx => h x (List.mem_cons_of_mem _ hx)]
theorem ssum_in {seen : List Nat} : ∀ {l : List EB}, l.Pairwise (fun a b => a.s < b.s) → ∀ e ∈ l, e.s ∉ seen → ssum (seen ++ [e.s]) l = ssum seen l + e.n
  | [], _, e, he, _ => by simp at he
  | x :: l, hp, e, he, hs => by
    obtain ⟨p1, p2⟩ := List.pairwise_cons.1 hp
    rcases List.mem_cons.1 he with rfl | he
    · simp only [ssum, List.mem_append, List.mem_singleton, or_true, if_true, if_neg hs]
      rw [ssum_out fun y hy => by have := p1 y hy; omega]
      omega
    · have hne : x.s ≠ e.s := by have := p1 e he; omega
      simp only [ssum, List.mem_append, List.mem_singleton, hne, or_false]
      rw [ssum_in p2 e he hs]
      omega
theorem ssum_le {seen : List Nat} {B : Int} (hB : 0 ≤ B) : ∀ {l : List EB}, (∀ e ∈ l, -B ≤ e.n ∧ e.n ≤ B) → -B * (l.length : Int) ≤ ssum seen l ∧ ssum seen l ≤ B * (l.length : Int)
  | [], _ => by simp [ssum]
  | e :: l, h => by
    have ih := ssum_le (seen := seen) hB (l := l) fun x hx => h x (List.mem_cons_of_mem _ hx)
    have he := h e (List.mem_cons_self ..)
    simp only [ssum, List.length_cons]
    rw [show B * ((l.length + 1 : Nat) : Int) = B * (l.length : Int) + B by rw [Int.natCast_add, Int.mul_add]; simp, show -B * ((l.length + 1 : Nat) : Int) = -B * (l.length : Int) - B by rw [Int.natCast_add, Int.mul_add]; simp; omega]
    split <;> omega
theorem nodup_len : ∀ {xs ys : List Nat}, xs.Nodup → (∀ x ∈ xs, x ∈ ys) → xs.length ≤ ys.length
  | [], _, _, _ => Nat.zero_le _
  | x :: xs, ys, hn, hs => by
    obtain ⟨h1, h2⟩ := List.nodup_cons.1 hn
    have hx := hs x (List.mem_cons_self ..)
    have := nodup_len (xs := xs) (ys := ys.erase x) h2 fun y hy => by
      have hne : y ≠ x := fun e => h1 (e ▸ hy)
      exact (List.mem_erase_of_ne hne).2 (hs y (List.mem_cons_of_mem _ hy))
    rw [List.length_erase_of_mem hx] at this
    have hpos : 1 ≤ ys.length := by cases ys with | nil => simp at hx | cons _ _ => simp
    simp only [List.length_cons]
    omega
theorem find_stamp {l : List EB} (hp : l.Pairwise fun a b => a.s < b.s) {e : EB} (he : e ∈ l) : (esB l).find? (fun x => x.2.2 == e.s) = some e.ent := by
  induction l with
  | nil => simp at he
  | cons x l ih =>
    obtain ⟨p1, p2⟩ := List.pairwise_cons.1 hp
    show List.find? _ (x.ent :: esB l) = _
    rw [List.find?_cons]
    rcases List.mem_cons.1 he with rfl | he
    · simp [EB.ent]
    · have : (x.ent.2.2 == e.s) = false := by
        rw [beq_eq_false_iff_ne]
        have := p1 e he
        show x.s ≠ e.s
        omega
      rw [this]
      exact ih p2 he
end Go.Proofs.Ythbaccmhdffjdaa.Mg


set_option linter.unusedVariables false
set_option linter.unusedSimpArgs false
set_option maxRecDepth 100000
namespace Go.Proofs.Ythbaccmhdffjdaa.OpenBx
open Go Go.RowKit Go.ChangeShapes Go.WideShapes Go.Proofs.Ythbaccmhdffjdaa.Ev
section
variable {H : Type} {enc : TypeId × Value → H} {P : Program} {W : World} {base : Nat} {spare : Nat → Bool} {held : Bool}
def fieldsOf (P : Program) (t : TypeId) : Array Field := match P.underlying t with
  | some (.struct fs) => fs
  | _ => #[]
theorem field_of {fs : Array Field} {i o : Nat} {c : Nat} {ty : TypeId} (h : (fs[i]?).map (fun f => (f.offset, f.type)) = some (o, ty)) :
    ∃ f, fs[i]? = some f ∧ f.offset = o ∧ f.type = ty := by
  cases hf : fs[i]? with
  | none => rw [hf] at h; simp at h
  | some f =>
    rw [hf] at h
    simp at h
    exact ⟨f, rfl, h.1, h.2⟩
theorem xs_get {α : Type} {xs : List α} {i : Nat} (h : i < xs.length) : ∃ y, xs[i]? = some y := ⟨xs[i], List.getElem?_eq_getElem h⟩
end
theorem wf64 {n : Int} (h : (Lit.int .i64 n).wf = true) : I64 n := by
  have := h
  simp [Lit.wf, IntKind.has, IntKind.min, IntKind.max, IntKind.signed, IntKind.bits] at this
  unfold I64
  omega
section
variable {H : Type} {enc : TypeId × Value → H} {W : World} {base : Nat} {spare : Nat → Bool} {held : Bool}
theorem elem_one {n : Nat} {cs : List Value} {z : DataW H × List MemPlace} (h : DataW.trod enc Try.prog W base spare held n 3 cs = some z) : ∃ m : Int, cs = [.int .i64 m] ∧ I64 m := by
  have hi : Try.prog.underlying 3 = some (.int .i64) := by kernel_rfl
  obtain ⟨m, e, _, w⟩ := DataW.trod_int hi h
  exact ⟨m, e, wf64 w⟩
theorem elem_span {n : Nat} {cs : List Value} {z : DataW H × List MemPlace} (h : DataW.trod enc Try.prog W base spare held n 23 cs = some z) : ∃ a b : Int, cs = [.int .i64 a, .int .i64 b] ∧ I64 a ∧ I64 b := by
  obtain ⟨xs, k, _, _, hl, hlen, hf⟩ := DataW.trod_struct (P := Try.prog) (fs := fieldsOf Try.prog 23) (by kernel_rfl) h
  have hl2 : cs.length = 2 := by rw [hl]; kernel_rfl
  have hx2 : xs.length = 2 := by rw [hlen]; kernel_rfl
  obtain ⟨f0, e0, o0, t0⟩ := field_of (c := 0) (fs := fieldsOf Try.prog 23) (i := 0) (o := 0) (ty := 3) (by kernel_rfl)
  obtain ⟨f1, e1, o1, t1⟩ := field_of (c := 0) (fs := fieldsOf Try.prog 23) (i := 1) (o := 1) (ty := 3) (by kernel_rfl)
  have g0 := hf 0 f0 e0
  have g1 := hf 1 f1 e1
  obtain ⟨y0, hy0⟩ := xs_get (xs := xs) (i := 0) (by omega)
  obtain ⟨y1, hy1⟩ := xs_get (xs := xs) (i := 1) (by omega)
  have c1 : Try.prog.cellsOf 3 = 1 := by kernel_rfl
  rw [o0, t0, c1, hy0] at g0
  rw [o1, t1, c1, hy1] at g1
  obtain ⟨a, q0, w0⟩ := elem_one g0
  obtain ⟨b, q1, w1⟩ := elem_one g1
  match cs, hl2 with
  | [v0, v1], _ =>
    simp at q0 q1
    subst q0
    subst q1
    exact ⟨a, b, rfl, w0, w1⟩
theorem take_eq {l : List Value} {a b c d e : List Value} (hl : l.length = 10) (h0 : (l.drop (0 * 2)).take 2 = a) (h1 : (l.drop (1 * 2)).take 2 = b) (h2 : (l.drop (2 * 2)).take 2 = c) (h3 : (l.drop (3 * 2)).take 2 = d) (h4 : (l.drop (4 * 2)).take 2 = e) : l = a ++ b ++ c ++ d ++ e := by
  subst h0 h1 h2 h3 h4
  match l, hl with
  | [_, _, _, _, _, _, _, _, _, _], _ => rfl
theorem elem_box (n : Nat) (cs : List Value) (z : DataW H × List MemPlace) (h : DataW.trod enc Try.prog W base spare held n 25 cs = some z) : ∃ x : Bx, cs = eBox.cells x ∧ (I64 x.a0 ∧ I64 x.b0 ∧ I64 x.a1 ∧ I64 x.b1 ∧ I64 x.a2 ∧ I64 x.b2 ∧ I64 x.a3 ∧ I64 x.b3 ∧ I64 x.a4 ∧ I64 x.b4) := by
  have hu : Try.prog.underlying 25 = some (.array 5 23) := by kernel_rfl
  obtain ⟨xs, k, _, _, hl, hlen, hf⟩ := DataW.trod_array hu h
  have hl10 : cs.length = 10 := by rw [hl]; kernel_rfl
  have c2 : Try.prog.cellsOf 23 = 2 := by kernel_rfl
  rw [c2] at hf
  have key : ∀ i, i < 5 → ∃ a b : Int, (cs.drop (i * 2)).take 2 = [.int .i64 a, .int .i64 b] ∧ I64 a ∧ I64 b := fun i hi => by
    obtain ⟨y, hy⟩ := xs_get (xs := xs) (i := i) (by omega)
    have := hf i hi
    rw [hy] at this
    exact elem_span this
  obtain ⟨a0, b0, q0, u0, v0⟩ := key 0 (by omega)
  obtain ⟨a1, b1, q1, u1, v1⟩ := key 1 (by omega)
  obtain ⟨a2, b2, q2, u2, v2⟩ := key 2 (by omega)
  obtain ⟨a3, b3, q3, u3, v3⟩ := key 3 (by omega)
  obtain ⟨a4, b4, q4, u4, v4⟩ := key 4 (by omega)
  exact ⟨⟨a0, b0, a1, b1, a2, b2, a3, b3, a4, b4⟩, take_eq hl10 q0 q1 q2 q3 q4, u0, v0, u1, v1, u2, v2, u3, v3, u4, v4⟩
def BxOK (x : Bx) : Prop := I64 x.a0 ∧ I64 x.b0 ∧ I64 x.a1 ∧ I64 x.b1 ∧ I64 x.a2 ∧ I64 x.b2 ∧ I64 x.a3 ∧ I64 x.b3 ∧ I64 x.a4 ∧ I64 x.b4
theorem open_boxes {r : Reach} {b0 : Nat} {v : Value} {d : DataW H} {ps : List MemPlace} (hv : Value.okWide Try.prog W r b0 65 v) (h : DataW.Trod enc Try.prog W base spare held 65 v d ps) : Opened W eBox BxOK v := by
  have hu : Try.prog.underlying 65 = some (.slice 25) := by kernel_rfl
  obtain ⟨fuel, hf⟩ := h
  simp only [Value.okWide, hu] at hv
  have hcs : v.cells.toList = [v] := by
    obtain ⟨a, l, c, rfl⟩ : ∃ a l c, v = .slice a l c := by
      simp only [Cell.okWide, hu, Cell.ok] at hv
      cases v <;> simp_all
    rfl
  rw [hcs] at hf
  exact open_row hu (by kernel_rfl) elem_box hv hf
theorem elem_pc (n : Nat) (cs : List Value) (z : DataW H × List MemPlace) (h : DataW.trod enc Try.prog W base spare held n 27 cs = some z) : ∃ x : Pc, cs = ePc.cells x ∧ (BxOK x.box ∧ I64 x.val) := by
  obtain ⟨xs, k, _, _, hl, hlen, hf⟩ := DataW.trod_struct (P := Try.prog) (fs := fieldsOf Try.prog 27) (by kernel_rfl) h
  have hl2 : cs.length = 11 := by rw [hl]; kernel_rfl
  have hx2 : xs.length = 2 := by rw [hlen]; kernel_rfl
  obtain ⟨f0, e0, o0, t0⟩ := field_of (c := 0) (fs := fieldsOf Try.prog 27) (i := 0) (o := 0) (ty := 25) (by kernel_rfl)
  obtain ⟨f1, e1, o1, t1⟩ := field_of (c := 0) (fs := fieldsOf Try.prog 27) (i := 1) (o := 10) (ty := 3) (by kernel_rfl)
  have g0 := hf 0 f0 e0
  have g1 := hf 1 f1 e1
  obtain ⟨y0, hy0⟩ := xs_get (xs := xs) (i := 0) (by omega)
  obtain ⟨y1, hy1⟩ := xs_get (xs := xs) (i := 1) (by omega)
  have c1 : Try.prog.cellsOf 3 = 1 := by kernel_rfl
  have c10 : Try.prog.cellsOf 25 = 10 := by kernel_rfl
  rw [o0, t0, c10, hy0] at g0
  rw [o1, t1, c1, hy1] at g1
  obtain ⟨x, q0, w0⟩ := elem_box _ _ _ g0
  obtain ⟨b, q1, w1⟩ := elem_one g1
  refine ⟨⟨x, b⟩, ?_, w0, w1⟩
  show cs = eBox.cells x ++ [.int .i64 b]
  rw [← q0, ← q1, List.drop_zero, List.take_of_length_le (l := cs.drop 10) (by rw [List.length_drop]; omega), List.take_append_drop]
theorem open_pieces {r : Reach} {b0 : Nat} {v : Value} {d : DataW H} {ps : List MemPlace} (hv : Value.okWide Try.prog W r b0 28 v) (h : DataW.Trod enc Try.prog W base spare held 28 v d ps) : Opened W ePc (fun x => BxOK x.box ∧ I64 x.val) v := by
  have hu : Try.prog.underlying 28 = some (.slice 27) := by kernel_rfl
  obtain ⟨fuel, hf⟩ := h
  simp only [Value.okWide, hu] at hv
  have hcs : v.cells.toList = [v] := by
    obtain ⟨a, l, c, rfl⟩ : ∃ a l c, v = .slice a l c := by
      simp only [Cell.okWide, hu, Cell.ok] at hv
      cases v <;> simp_all
    rfl
  rw [hcs] at hf
  exact open_row hu (by kernel_rfl) elem_pc hv hf
end
end Go.Proofs.Ythbaccmhdffjdaa.OpenBx


set_option linter.unusedVariables false
set_option linter.unusedSimpArgs false
set_option maxRecDepth 100000
namespace Go.Proofs.Ythbaccmhdffjdaa.WkCliqueMerge
open Go Go.RowKit Go.Proofs.Ythbaccmhdffjdaa.Ev Go.Proofs.Ythbaccmhdffjdaa.Mg Go.Proofs.Ythbaccmhdffjdaa.BoxF Go.Proofs.Ythbaccmhdffjdaa.Within Go.Proofs.Ythbaccmhdffjdaa.Cm Go.Proofs.Ythbaccmhdffjdaa.OpenBx

theorem rd_int {r : List Int} {i : Nat} {x : Int} (h : r[i]? = some x) : readPart Try.prog 3 (eInt.row r) (0 + (Int.ofNat i).toNat * 1) = some (.int .i64 x) := by
  have := (Elt.canon0 (e := eInt) r).1.read1 (P := Try.prog) (ty := 3) (by kernel_rfl) rfl (i := i) (x := x) (by rw [(Elt.canon0 r).2]; exact h) rfl rfl
  rw [show 0 + (Int.ofNat i).toNat * 1 = 0 + i by show 0 + i * 1 = 0 + i; omega]
  exact this
/-- What is known of the maps. -/
structure Good (ps : List Pc) (tot : Int) (l : List EB) (c : Nat) (l2 : List EB) : Prop where
  ok : OKB l c
  sm : small ps
  len : ps.length ≤ 20
  tot : tot = vsum ps
  get : ∀ b, getK b l = wsum b ps
  has : ∀ b, hasK b l = ps.any fun x => decide (b = x.box)
  sum : nsum l = vsum ps
  ll : l.length ≤ ps.length
  two : ∀ b, getK b l2 = wsum b ps + wsum b ps
theorem good_of {ps : List Pc} (hs : small ps) (hn : ps.length ≤ 20) : Good ps (vsum ps) (Mg.mergeL ps) (mergeC ps) (Mg.mergeL (ps ++ ps)) := by
  obtain ⟨h1, h2, h3, h4⟩ := merge_tells ps.length ps rfl hs (by omega)
  have hs2 : small (ps ++ ps) := fun x hx => by rcases List.mem_append.1 hx with h | h <;> exact hs x h
  obtain ⟨g1, _⟩ := merge_tells (ps ++ ps).length (ps ++ ps) rfl hs2 (by rw [List.length_append]; omega)
  exact ⟨mg_ok ps, hs, hn, rfl, h1, h2, h3, h4, fun b => by rw [← wsum_app]; exact g1 b⟩
theorem last (ML : List Pc → List EB) (MC : List Pc → Nat) {E : Env} (hE : EnvOK E Try.prog Try.f5 2 2 (.bool true) [] []) {ps : List Pc} {tot sum : Int} {l : List EB} {c : Nat} {l2 : List EB} (G : Good ps tot l c l2) (hsum : sum = tot) : ∀ zz, zz ≤ ps.length → Sat E (atLp (lp Try.f5 2)) ((cm3 ps tot sum l c (fun i => i ≤ ps.length)).st 0 zz) := by
  intro zz hz
  have okL := cm3_ok ps tot sum l c (fun i => i ≤ ps.length)
  have rnm : ∀ (f : Nat → Nat) (es : List Ent) (c : Nat), Blk.rnB f (.map L10 true (some .i64) es c) = .map L10 true (some .i64) es c := fun f es c => rfl
  have rnv : ∀ (f : Nat → Nat) (l : List Pc), Blk.rnB f (.vec (ePc.row l) 27 11) = .vec (ePc.row l) 27 11 := fun f l => Blk.plain.rnB (b := .vec (ePc.row l) 27 11) (Elt.row_pl _) f
  refine by_loop (cm3 ps tot sum l c (fun i => i ≤ ps.length)) (lp Try.f5 2) ?_ 0 zz hz
  rintro b i hinv J hJ
  have hinv : i ≤ ps.length := hinv
  show Sat E (inLp (lp Try.f5 2) J) ((cm3 ps tot sum l c (fun i => i ≤ ps.length)).st 0 i)
  have hl := G.len
  by_cases hin : i < ps.length
  · have hlt : decide ((i : Int) < (ps.length : Int)) = true := decide_eq_true (by omega)
    obtain ⟨y, hy⟩ : ∃ y, ps[i]? = some y := ⟨_, List.getElem?_eq_getElem hin⟩
    have hhas : hasK y.box l = true := by rw [G.has]; exact List.any_eq_true.2 ⟨y, List.mem_of_getElem? hy, by simp⟩
    exact cm3B ML MC ps tot sum l c _ i y.box y.val (getK y.box l) J hE okL ⟨rfl, ⟨i + 1, hin, (by show ps.length - (i + 1) < ps.length - i; omega), rfl, by simp only [cm3, List.map_cons, List.map_nil, rnv, rnm]⟩, i64_succ (by omega), (by
      show Value.tuple ⟨[.int .i64 (mgetI (kB y.box) (esB l)), .bool (mhas (kB y.box) (esB l))]⟩ = _
      rw [mget_esB, mhas_esB, hhas]), read_row (e := ePc) (by kernel_rfl) (by kernel_rfl) hy, ⟨Int.natCast_nonneg _, Int.ofNat_lt.2 hin⟩, hlt, trivial⟩ fun zz h1 h2 => hJ 0 zz h1 h2
  · have hlt : decide ((i : Int) < (ps.length : Int)) = false := decide_eq_false (by omega)
    exact cm3E ML MC ps tot sum l c _ i J hE ⟨⟨rfl, rfl⟩, (by rw [hsum]; exact congrArg Value.bool (beq_self_eq_true _)), hlt, trivial⟩
/-- Along the map. -/
def RQ (l : List EB) : CI → Prop := fun s => s.seen.Nodup ∧ (∀ x ∈ s.seen, x ∈ l.map (·.s)) ∧ s.sum = ssum s.seen l

theorem body0 (ML : List Pc → List EB) (MC : List Pc → Nat) {E : Env} (hE : EnvOK E Try.prog Try.f5 2 2 (.bool true) [] []) {tot : Int} {l : List EB} {c : Nat} {l2 : List EB} {c2 : Nat} (G : Good [] tot l c l2) (seen : List Nat) (sum : Int) (hinv : RQ l ⟨seen, sum⟩) (J : Act → World → Prop) (hJ : ∀ zz, RQ l zz → l.length - zz.seen.length < l.length - seen.length → Sat E (mkLp (lp Try.f5 1) J) (((cm2 [] tot l c l2 c2 (RQ l))).st 0 zz)) : Sat E (inLp (lp Try.f5 1) J) (((cm2 [] tot l c l2 c2 (RQ l))).st 0 ⟨seen, sum⟩) := by
  have okL := cm2_ok [] tot l c l2 c2 (RQ l)
  have rnm : ∀ (f : Nat → Nat) (es : List Ent) (c : Nat), Blk.rnB f (.map L10 true (some .i64) es c) = .map L10 true (some .i64) es c := fun f es c => rfl
  have rnv : ∀ (f : Nat → Nat) (l : List Pc), Blk.rnB f (.vec (ePc.row l) 27 11) = .vec (ePc.row l) 27 11 := fun f l => Blk.plain.rnB (b := .vec (ePc.row l) 27 11) (Elt.row_pl _) f
  have rni : ∀ (f : Nat → Nat) (k s : Nat) (x : List Nat) (c : Nat), Blk.rnB f (.it k s x c) = .it (f k) s x c := fun f k s x c => rfl
  have hinv : seen.Nodup ∧ (∀ x ∈ seen, x ∈ l.map (·.s)) ∧ sum = ssum seen l := hinv
  obtain ⟨q1, q2, q3⟩ := hinv
  have hEn : 82 < E.n := by rw [hE.n]; decide
  refine sat_nextB (tx := 80) (t0 := 81) (t1 := 82) (j := 22) (k := 20) (since := c) (c := c) (clock := c) (seen := seen) (lay := L10) (agg := true) (ek := some .i64) (es := esB l) (by kernel_rfl) (by omega) hEn (by kernel_rfl) (by kernel_rfl) (by kernel_rfl) (fun e he => ?_) (Nat.le_refl _) (fun hall => ?_) (fun e he hne => ?_)
  · obtain ⟨x, hx, rfl⟩ := List.mem_map.1 he
    exact G.ok.clock x hx
  · have hst : sum = tot := by
      rw [q3, G.tot, ← G.sum]
      exact ssum_all fun x hx => hall x.ent (List.mem_map.2 ⟨x, hx, rfl⟩)
    exact cmN0 ML MC tot l l2 c c2 (RQ l) seen sum J hE ⟨⟨rfl, rfl⟩, (by rw [hst]; exact congrArg Value.bool (beq_self_eq_true _)), trivial⟩
  · obtain ⟨x, hx, rfl⟩ := List.mem_map.1 he
    have hne : x.s ∉ seen := hne
    obtain ⟨bo, n, s⟩ := x
    have hg := (getK_mem G.ok hx).1
    have hn : n = wsum bo [] := by rw [← G.get]; exact hg.symm
    have hbn : ∀ y ∈ l, -20000 ≤ y.n ∧ y.n ≤ 20000 := fun y hy => by
      have h1 := (getK_mem G.ok hy).1
      rw [G.get] at h1
      have := wsum_le y.b G.sm
      have := G.len
      omega
    have hxn := hbn _ hx
    have hxn : -20000 ≤ n ∧ n ≤ 20000 := hxn
    have hss := ssum_in G.ok.borns _ hx hne
    have hss : ssum (seen ++ [s]) l = ssum seen l + n := hss
    have hle := ssum_le (seen := seen ++ [s]) (B := 20000) (by decide) hbn
    have hll := G.ll
    have hlen := G.len
    have hnd : (seen ++ [s]).Nodup := by
      rw [List.nodup_append]
      exact ⟨q1, by simp, fun a ha b hb => by simp at hb; subst hb; intro e; subst e; exact hne ha⟩
    have hsub : ∀ y ∈ seen ++ [s], y ∈ l.map (·.s) := fun y hy => by
      rcases List.mem_append.1 hy with h | h
      · exact q2 y h
      · simp at h; subst h; exact List.mem_map.2 ⟨_, hx, rfl⟩
    have hcnt := nodup_len hnd hsub
    rw [List.length_append, List.length_map] at hcnt
    have hcnt : seen.length + 1 ≤ l.length := hcnt
    have htw : getK bo l2 = 2 * n := by rw [G.two, ← hn]; omega
    have hfd : EntryOK (esB l) (seen ++ [s]) c c (.tuple ⟨[kB bo, .int .i64 n]⟩) := ⟨rfl, EB.ent ⟨bo, n, s⟩, by simp [EB.ent], find_stamp G.ok.borns hx, rfl⟩
    exact cmY0 ML MC tot l l2 c c2 (RQ l) seen sum (ssum (seen ++ [s]) l) n (2 * n) bo s J hE okL ⟨rfl, ⟨⟨seen ++ [s], ssum (seen ++ [s]) l⟩, ⟨hnd, hsub, rfl⟩, (by show l.length - (seen ++ [s]).length < l.length - seen.length; rw [List.length_append]; simp only [List.length_cons, List.length_nil]; omega), rfl, by simp only [cm2, List.map_cons, List.map_nil, rnv, rnm, rni]; rfl⟩, (by simp), i64_id rfl (by omega) (by omega), (congrArg (Value.int .i64) ((mget_esB _ _).trans htw)), i64_id (by rw [hss, ← q3]) (by omega) (by omega), hfd, trivial⟩ hJ
theorem along0 (ML : List Pc → List EB) (MC : List Pc → Nat) {E : Env} (hE : EnvOK E Try.prog Try.f5 2 2 (.bool true) [] []) {tot : Int} {l : List EB} {c : Nat} {l2 : List EB} {c2 : Nat} (G : Good [] tot l c l2) : ∀ zz, RQ l zz → Sat E (atLp (lp Try.f5 1)) (((cm2 [] tot l c l2 c2 (RQ l))).st 0 zz) := by
  intro zz hz
  let L : LoopF CI := { ts := fun _ => ((cm2 [] tot l c l2 c2 (RQ l))).ts 0, hs := fun _ => ((cm2 [] tot l c l2 c2 (RQ l))).hs 0, tv := fun _ => ((cm2 [] tot l c l2 c2 (RQ l))).tv 0, hv := fun _ => ((cm2 [] tot l c l2 c2 (RQ l))).hv 0, inv := fun _ => RQ l, mu := fun _ s => l.length - s.seen.length, nx := 30 }
  exact by_loop L (lp Try.f5 1) (fun b i hinv J hJ => body0 ML MC hE G i.seen i.sum hinv J fun zz h1 h2 => hJ 0 zz h1 h2) 0 zz hz

theorem body1 (ML : List Pc → List EB) (MC : List Pc → Nat) {E : Env} (hE : EnvOK E Try.prog Try.f5 2 2 (.bool true) [] []) {ps : List Pc} {tot : Int} {l : List EB} {c : Nat} {l2 : List EB} {c2 : Nat} (G : Good ps tot l c l2) (seen : List Nat) (sum : Int) (hinv : RQ l ⟨seen, sum⟩) (J : Act → World → Prop) (hJ : ∀ zz, RQ l zz → l.length - zz.seen.length < l.length - seen.length → Sat E (mkLp (lp Try.f5 1) J) (((cm2 ps tot l c l2 c2 (RQ l))).st 1 zz)) : Sat E (inLp (lp Try.f5 1) J) (((cm2 ps tot l c l2 c2 (RQ l))).st 1 ⟨seen, sum⟩) := by
  have okL := cm2_ok ps tot l c l2 c2 (RQ l)
  have rnm : ∀ (f : Nat → Nat) (es : List Ent) (c : Nat), Blk.rnB f (.map L10 true (some .i64) es c) = .map L10 true (some .i64) es c := fun f es c => rfl
  have rnv : ∀ (f : Nat → Nat) (l : List Pc), Blk.rnB f (.vec (ePc.row l) 27 11) = .vec (ePc.row l) 27 11 := fun f l => Blk.plain.rnB (b := .vec (ePc.row l) 27 11) (Elt.row_pl _) f
  have rni : ∀ (f : Nat → Nat) (k s : Nat) (x : List Nat) (c : Nat), Blk.rnB f (.it k s x c) = .it (f k) s x c := fun f k s x c => rfl
  have hinv : seen.Nodup ∧ (∀ x ∈ seen, x ∈ l.map (·.s)) ∧ sum = ssum seen l := hinv
  obtain ⟨q1, q2, q3⟩ := hinv
  have hEn : 82 < E.n := by rw [hE.n]; decide
  refine sat_nextB (tx := 80) (t0 := 81) (t1 := 82) (j := 22) (k := 20) (since := c) (c := c) (clock := c) (seen := seen) (lay := L10) (agg := true) (ek := some .i64) (es := esB l) (by kernel_rfl) (by omega) hEn (by kernel_rfl) (by kernel_rfl) (by kernel_rfl) (fun e he => ?_) (Nat.le_refl _) (fun hall => ?_) (fun e he hne => ?_)
  · obtain ⟨x, hx, rfl⟩ := List.mem_map.1 he
    exact G.ok.clock x hx
  · have hst : sum = tot := by
      rw [q3, G.tot, ← G.sum]
      exact ssum_all fun x hx => hall x.ent (List.mem_map.2 ⟨x, hx, rfl⟩)
    exact cmN1 ML MC ps tot l l2 c c2 (RQ l) seen sum (fun i => i ≤ ps.length) J hE (cm3_ok ps tot sum l c _) ⟨rfl, ⟨0, Nat.zero_le _, trivial, rfl, by simp only [cm3, List.map_cons, List.map_nil, rnv, rnm]⟩, trivial⟩ fun zz hz _ => last ML MC hE G hst zz hz
  · obtain ⟨x, hx, rfl⟩ := List.mem_map.1 he
    have hne : x.s ∉ seen := hne
    obtain ⟨bo, n, s⟩ := x
    have hg := (getK_mem G.ok hx).1
    have hn : n = wsum bo ps := by rw [← G.get]; exact hg.symm
    have hbn : ∀ y ∈ l, -20000 ≤ y.n ∧ y.n ≤ 20000 := fun y hy => by
      have h1 := (getK_mem G.ok hy).1
      rw [G.get] at h1
      have := wsum_le y.b G.sm
      have := G.len
      omega
    have hxn := hbn _ hx
    have hxn : -20000 ≤ n ∧ n ≤ 20000 := hxn
    have hss := ssum_in G.ok.borns _ hx hne
    have hss : ssum (seen ++ [s]) l = ssum seen l + n := hss
    have hle := ssum_le (seen := seen ++ [s]) (B := 20000) (by decide) hbn
    have hll := G.ll
    have hlen := G.len
    have hnd : (seen ++ [s]).Nodup := by
      rw [List.nodup_append]
      exact ⟨q1, by simp, fun a ha b hb => by simp at hb; subst hb; intro e; subst e; exact hne ha⟩
    have hsub : ∀ y ∈ seen ++ [s], y ∈ l.map (·.s) := fun y hy => by
      rcases List.mem_append.1 hy with h | h
      · exact q2 y h
      · simp at h; subst h; exact List.mem_map.2 ⟨_, hx, rfl⟩
    have hcnt := nodup_len hnd hsub
    rw [List.length_append, List.length_map] at hcnt
    have hcnt : seen.length + 1 ≤ l.length := hcnt
    have htw : getK bo l2 = 2 * n := by rw [G.two, ← hn]; omega
    have hfd : EntryOK (esB l) (seen ++ [s]) c c (.tuple ⟨[kB bo, .int .i64 n]⟩) := ⟨rfl, EB.ent ⟨bo, n, s⟩, by simp [EB.ent], find_stamp G.ok.borns hx, rfl⟩
    exact cmY1 ML MC ps tot l l2 c c2 (RQ l) seen sum (ssum (seen ++ [s]) l) n (2 * n) bo s J hE okL ⟨rfl, ⟨⟨seen ++ [s], ssum (seen ++ [s]) l⟩, ⟨hnd, hsub, rfl⟩, (by show l.length - (seen ++ [s]).length < l.length - seen.length; rw [List.length_append]; simp only [List.length_cons, List.length_nil]; omega), rfl, by simp only [cm2, List.map_cons, List.map_nil, rnv, rnm, rni]; rfl⟩, (by simp), i64_id rfl (by omega) (by omega), (congrArg (Value.int .i64) ((mget_esB _ _).trans htw)), i64_id (by rw [hss, ← q3]) (by omega) (by omega), hfd, trivial⟩ hJ
theorem along1 (ML : List Pc → List EB) (MC : List Pc → Nat) {E : Env} (hE : EnvOK E Try.prog Try.f5 2 2 (.bool true) [] []) {ps : List Pc} {tot : Int} {l : List EB} {c : Nat} {l2 : List EB} {c2 : Nat} (G : Good ps tot l c l2) : ∀ zz, RQ l zz → Sat E (atLp (lp Try.f5 1)) (((cm2 ps tot l c l2 c2 (RQ l))).st 1 zz) := by
  intro zz hz
  let L : LoopF CI := { ts := fun _ => ((cm2 ps tot l c l2 c2 (RQ l))).ts 1, hs := fun _ => ((cm2 ps tot l c l2 c2 (RQ l))).hs 1, tv := fun _ => ((cm2 ps tot l c l2 c2 (RQ l))).tv 1, hv := fun _ => ((cm2 ps tot l c l2 c2 (RQ l))).hv 1, inv := fun _ => RQ l, mu := fun _ s => l.length - s.seen.length, nx := 30 }
  exact by_loop L (lp Try.f5 1) (fun b i hinv J hJ => body1 ML MC hE G i.seen i.sum hinv J fun zz h1 h2 => hJ 0 zz h1 h2) 0 zz hz

theorem none_ok {ML : List Pc → List EB} (hM : ML = Mg.mergeL) : Good [] 0 [] 0 (ML (ePc.list [] 0 0)) := by
  rw [hM]
  exact good_of (ps := []) (fun x hx => by simp at hx) (by decide)
theorem main0 (ML : List Pc → List EB) (MC : List Pc → Nat) {E : Env} (hE : EnvOK E Try.prog Try.f5 2 2 (.bool true) [] []) (hM : ML = Mg.mergeL) (hC : MC = mergeC) {L : List Pc} {n : Nat} (hn : n = L.length) (h1 : 1 ≤ n) (hg : ∀ x ∈ L, BxOK x.box ∧ I64 x.val) {ts : List Int} {tn tc : Nat} (ht : tn = ts.length) (hgt : ∀ x ∈ ts, I64 x) :
    ∀ b zz, ((zz.i ≤ 20 ∧ zz.i ≤ tn ∧ zz.ps.length = zz.i ∧ small zz.ps ∧ zz.tot = vsum zz.ps ∧ ((b = 0 ∧ zz.ps = []) ∨ (b = 1 ∧ zz.ps ≠ []))) : Prop) → Sat E (atLp (lp Try.f5 0)) ((cm1 (L.take 8) (min n 8) ts tn tc (fun b zz => zz.i ≤ 20 ∧ zz.i ≤ tn ∧ zz.ps.length = zz.i ∧ small zz.ps ∧ zz.tot = vsum zz.ps ∧ ((b = 0 ∧ zz.ps = []) ∨ (b = 1 ∧ zz.ps ≠ [])))).st b zz) := by
  intro b0 zz0 hz0
  generalize hQ : (fun (b : Nat) (zz : CM) => zz.i ≤ 20 ∧ zz.i ≤ tn ∧ zz.ps.length = zz.i ∧ small zz.ps ∧ zz.tot = vsum zz.ps ∧ ((b = 0 ∧ zz.ps = []) ∨ (b = 1 ∧ zz.ps ≠ []))) = Q
  have hQi : ∀ b zz, Q b zz ↔ (zz.i ≤ 20 ∧ zz.i ≤ tn ∧ zz.ps.length = zz.i ∧ small zz.ps ∧ zz.tot = vsum zz.ps ∧ ((b = 0 ∧ zz.ps = []) ∨ (b = 1 ∧ zz.ps ≠ []))) := fun b zz => by rw [← hQ]
  have okL := cm1_ok (L.take 8) (min n 8) ts tn tc Q
  have rnm : ∀ (f : Nat → Nat) (es : List Ent) (c : Nat), Blk.rnB f (.map L10 true (some .i64) es c) = .map L10 true (some .i64) es c := fun f es c => rfl
  have rnv : ∀ (f : Nat → Nat) (l : List Pc), Blk.rnB f (.vec (ePc.row l) 27 11) = .vec (ePc.row l) 27 11 := fun f l => Blk.plain.rnB (b := .vec (ePc.row l) 27 11) (Elt.row_pl _) f
  have rno : ∀ (f : Nat → Nat) (l : List Int), Blk.rnB f (.ro (eInt.row l)) = .ro (eInt.row l) := fun f l => Blk.plain.rnB (b := .ro (eInt.row l)) (Elt.row_pl _) f
  have rni : ∀ (f : Nat → Nat) (k s : Nat) (x : List Nat) (c : Nat), Blk.rnB f (.it k s x c) = .it (f k) s x c := fun f k s x c => rfl
  have hkl : (L.take 8).length = min n 8 := by rw [List.length_take]; omega
  have pln : plainR [] := fun x hx => by simp at hx
  have pl9 : plainR [[]] := plain1 fun c hc => by simp at hc
  have rowE : ePc.Row [] 0 0 := ⟨Nat.le_refl _, fun i hi => absurd hi (Nat.not_lt_zero _)⟩
  have zok : ∀ k : Nat, ZeroOK 0 (.slice (some ⟨k, 0, none⟩) 0 0) (some (.cells [] 27)) := fun k => ⟨rfl, Nat.le_refl _, by decide⟩
  refine by_loop (cm1 (L.take 8) (min n 8) ts tn tc Q) (lp Try.f5 0) ?_ b0 zz0 ((hQi _ _).2 hz0)
  rintro z ⟨i, ps, tot⟩ hinv J hJ
  obtain ⟨k1, k2, k3, k4, k5, k6⟩ := (hQi _ _).1 hinv
  simp only at k1 k2 k3 k4 k5 k6
  have hJ' : ∀ zz, Q 1 zz → 20 - zz.i < 20 - i → Sat E (mkLp (lp Try.f5 0) J) ((cm1 (L.take 8) (min n 8) ts tn tc Q).st 1 zz) := fun zz h1 h2 => hJ 1 zz h1 h2
  by_cases hin : i < tn
  · have b1 : Value.bool (decide ((i : Int) < (tn : Int))) = .bool true := congrArg _ (decide_eq_true (by omega))
    by_cases h20 : i < 20
    · have b2 : Value.bool (decide ((i : Int) < 20)) = .bool true := congrArg _ (decide_eq_true (by omega))
      have b3 : Value.bool (decide (((min n 8 : Nat) : Int) > 0)) = .bool true := congrArg _ (decide_eq_true (by omega))
      obtain ⟨tv, htv⟩ : ∃ tv, ts[i]? = some tv := ⟨_, List.getElem?_eq_getElem (by omega)⟩
      have hjr := within_range tv (show (0 : Int) ≤ ((min n 8 : Nat) : Int) - 1 by omega)
      obtain ⟨j, hj⟩ := Int.eq_ofNat_of_zero_le hjr.1
      have hjk : j < min n 8 := by omega
      obtain ⟨y, hy⟩ : ∃ y, (L.take 8)[j]? = some y := ⟨_, List.getElem?_eq_getElem (by omega)⟩
      have hyL := hg y (List.mem_of_mem_take (List.mem_of_getElem? hy))
      have hpv := within_range y.val (show (-1000 : Int) ≤ 1000 by decide)
      generalize hpe : withinS y.val (-1000) 1000 = pv at hpv
      have htot := vsum_le k4
      have hsm : small (ps ++ [(⟨y.box, pv⟩ : Pc)]) := fun x hx => by
        rcases List.mem_append.1 hx with h | h
        · exact k4 x h
        · simp at h; subst h; exact hpv
      have hvs : vsum (ps ++ [(⟨y.box, pv⟩ : Pc)]) = tot + pv := by rw [vsum_app, k5]; simp [vsum]
      have hmn : ((min n 8 : Nat) : Int) - 1 = ((min n 8 : Nat) : Int) - 1 := rfl
      have hrd : readPart Try.prog 3 (eInt.row ts) (0 + (Int.ofNat i).toNat * 1) = some (.int .i64 tv) := rd_int htv
      have hpc := read_row (e := ePc) (P := Try.prog) (ty := 27) (by kernel_rfl) (by kernel_rfl) hy
      have hQn : Q 1 ⟨i + 1, ps ++ [(⟨y.box, pv⟩ : Pc)], vsum (ps ++ [(⟨y.box, pv⟩ : Pc)])⟩ := (hQi _ _).2 ⟨h20, hin, by simp [k3], hsm, rfl, Or.inr ⟨rfl, by simp⟩⟩
      rcases k6 with ⟨rfl, ko⟩ | ⟨rfl, ko⟩
      · subst ko
        exact cmB0 ML MC (L.take 8) (min n 8) ts tn tc Q i tot (vsum ([] ++ [(⟨y.box, pv⟩ : Pc)])) tv pv j y.box y.val ([] ++ [(⟨y.box, pv⟩ : Pc)]) J hE okL ⟨rfl, ⟨⟨i + 1, [] ++ [(⟨y.box, pv⟩ : Pc)], vsum ([] ++ [(⟨y.box, pv⟩ : Pc)])⟩, hQn, (by show 20 - (i + 1) < 20 - i; omega), rfl, by simp only [cm1, List.map_cons, List.map_nil, rnv, rno]⟩, i64_succ (by omega), i64_id hvs.symm (by omega) (by omega), appOK_nil (e := ePc) (new := [(⟨y.box, pv⟩ : Pc)]) rfl rfl rfl rfl (by decide) (by decide) (by decide), (congrArg (Value.int .i64) hpe), hyL.2, by decide, by decide, by decide, hpc, ⟨Int.natCast_nonneg _, Int.ofNat_lt.2 hjk⟩, (congrArg (Value.int .i64) hj), hgt tv (List.mem_of_getElem? htv), by decide, (by omega), (by omega), i64_id rfl (by omega) (by omega), hrd, ⟨Int.natCast_nonneg _, Int.ofNat_lt.2 hin⟩, b3, b2, b1, trivial⟩ hJ'
      · exact cmB1 ML MC (L.take 8) (min n 8) ts tn tc Q i ps tot (vsum (ps ++ [(⟨y.box, pv⟩ : Pc)])) tv pv j y.box y.val (ps ++ [(⟨y.box, pv⟩ : Pc)]) J hE okL ⟨rfl, ⟨⟨i + 1, ps ++ [(⟨y.box, pv⟩ : Pc)], vsum (ps ++ [(⟨y.box, pv⟩ : Pc)])⟩, hQn, (by show 20 - (i + 1) < 20 - i; omega), (by simp [cm1, psV]; first | rfl | exact ⟨rfl, rfl, rfl, rfl⟩ | exact ⟨rfl, rfl, rfl, rfl, rfl⟩ | exact ⟨rfl, rfl, rfl⟩), by simp only [cm1, List.map_cons, List.map_nil, rnv, rno]⟩, i64_succ (by omega), i64_id hvs.symm (by omega) (by omega), appOK (e := ePc) (L := ps) (new := [(⟨y.box, pv⟩ : Pc)]) rfl rfl rfl rfl (Nat.le_refl _) (by simp) (by decide) (by omega) (by omega), (congrArg (Value.int .i64) hpe), hyL.2, by decide, by decide, by decide, hpc, ⟨Int.natCast_nonneg _, Int.ofNat_lt.2 hjk⟩, (congrArg (Value.int .i64) hj), hgt tv (List.mem_of_getElem? htv), by decide, (by omega), (by omega), i64_id rfl (by omega) (by omega), hrd, ⟨Int.natCast_nonneg _, Int.ofNat_lt.2 hin⟩, b3, b2, b1, trivial⟩ hJ'
    · have b2 : Value.bool (decide ((i : Int) < 20)) = .bool false := congrArg _ (decide_eq_false (by omega))
      rcases k6 with ⟨rfl, ko⟩ | ⟨rfl, ko⟩
      · rw [ko] at k3; simp at k3; omega
      · have hp1 : 1 ≤ ps.length := by cases h : ps with | nil => exact absurd h ko | cons _ _ => simp
        have e1 : ePc.list (ePc.row ps) 0 ps.length = ps := (Elt.canon0 ps).2
        have e2 : ePc.list (ePc.row (ps ++ ps)) 0 (0 + ps.length + ps.length) = ps ++ ps := by rw [listM (by simp), List.take_of_length_le (by simp)]
        have G : Good ps tot (ML (ePc.list (ePc.row ps) 0 ps.length)) (MC (ePc.list (ePc.row ps) 0 ps.length)) (ML (ePc.list (ePc.row (ps ++ ps)) 0 (0 + ps.length + ps.length))) := by
          rw [e1, e2, hM, hC, k5]
          exact good_of k4 (by omega)
        have hll := G.ll
        have htl : (Mg.mergeL (ps ++ ps)).length = (Mg.mergeL ps).length := twice_len ps k4 (by omega)
        exact cmX1b ML MC (L.take 8) (min n 8) ts tn tc Q i ps tot (ML (ePc.list (ePc.row ps) 0 ps.length)) (ML (ePc.list (ePc.row (ps ++ ps)) 0 (0 + ps.length + ps.length))) (MC (ePc.list (ePc.row ps) 0 ps.length)) (MC (ePc.list (ePc.row (ps ++ ps)) 0 (0 + ps.length + ps.length))) ps (ps ++ ps) (RQ (ML (ePc.list (ePc.row ps) 0 ps.length))) J hE (cm2_ok _ _ _ _ _ _ _) ⟨rfl, ⟨⟨[], 0⟩, ⟨List.nodup_nil, fun x hx => by simp at hx, (ssum_nil _).symm⟩, trivial, rfl, by simp only [cm2, List.map_cons, List.map_nil, rnm, rni, rnv]; rfl⟩, (by
          refine congrArg Value.bool (decide_eq_false ?_)
          unfold esB
          rw [List.length_map]
          omega), (by
          refine congrArg Value.bool (by
            rw [bne_eq_false_iff_eq]
            unfold esB
            rw [List.length_map, List.length_map, e1, e2, hM, htl])), plain1 (Elt.row_pl _), hM, hC, rowN (by simp), (by omega), appG (e := ePc) (L := ps) (M := ps) (k := 0) (Or.inl ⟨rfl, rfl⟩) rfl (by rw [Nat.zero_mul]) (by omega) (by omega) (by rw [List.take_of_length_le (by omega), List.drop_zero, List.take_length]) (by omega) (by omega) (by omega), appG (e := ePc) (L := []) (M := ps) (k := 0) (Or.inr ⟨rfl, rfl, rfl⟩) rfl (by rw [Nat.zero_mul]) (by omega) (Nat.zero_le _) (by simp) (by omega) (by omega) (by omega), plain1 (Elt.row_pl _), hM, hC, rowN rfl, (by omega), b2, b1, trivial⟩ fun zz hz _ => along1 ML MC hE G zz hz
  · have b1 : Value.bool (decide ((i : Int) < (tn : Int))) = .bool false := congrArg _ (decide_eq_false (by omega))
    rcases k6 with ⟨rfl, ko⟩ | ⟨rfl, ko⟩
    · subst ko
      have htz : tot = 0 := k5
      subst htz
      exact cmX0a ML MC (L.take 8) (min n 8) ts tn tc Q i 0 (ML (ePc.list [] 0 0)) (MC (ePc.list [] 0 0)) (RQ []) J hE (cm2_ok _ _ _ _ _ _ _) ⟨rfl, ⟨⟨[], 0⟩, ⟨List.nodup_nil, fun x hx => by simp at hx, rfl⟩, trivial, rfl, by simp only [cm2, List.map_cons, List.map_nil, rnm, rni]; rfl⟩, rfl, (by rw [hM]; rfl), pl9, hM, hC, rowE, by decide, zok _, zok _, pln, b1, trivial⟩ fun zz hz _ => along0 ML MC hE (none_ok hM) zz hz
    · have hp1 : 1 ≤ ps.length := by cases h : ps with | nil => exact absurd h ko | cons _ _ => simp
      have e1 : ePc.list (ePc.row ps) 0 ps.length = ps := (Elt.canon0 ps).2
      have e2 : ePc.list (ePc.row (ps ++ ps)) 0 (0 + ps.length + ps.length) = ps ++ ps := by rw [listM (by simp), List.take_of_length_le (by simp)]
      have G : Good ps tot (ML (ePc.list (ePc.row ps) 0 ps.length)) (MC (ePc.list (ePc.row ps) 0 ps.length)) (ML (ePc.list (ePc.row (ps ++ ps)) 0 (0 + ps.length + ps.length))) := by
        rw [e1, e2, hM, hC, k5]
        exact good_of k4 (by omega)
      have hll := G.ll
      have htl : (Mg.mergeL (ps ++ ps)).length = (Mg.mergeL ps).length := twice_len ps k4 (by omega)
      exact cmX1a ML MC (L.take 8) (min n 8) ts tn tc Q i ps tot (ML (ePc.list (ePc.row ps) 0 ps.length)) (ML (ePc.list (ePc.row (ps ++ ps)) 0 (0 + ps.length + ps.length))) (MC (ePc.list (ePc.row ps) 0 ps.length)) (MC (ePc.list (ePc.row (ps ++ ps)) 0 (0 + ps.length + ps.length))) ps (ps ++ ps) (RQ (ML (ePc.list (ePc.row ps) 0 ps.length))) J hE (cm2_ok _ _ _ _ _ _ _) ⟨rfl, ⟨⟨[], 0⟩, ⟨List.nodup_nil, fun x hx => by simp at hx, (ssum_nil _).symm⟩, trivial, rfl, by simp only [cm2, List.map_cons, List.map_nil, rnm, rni, rnv]; rfl⟩, (by
        refine congrArg Value.bool (decide_eq_false ?_)
        unfold esB
        rw [List.length_map]
        omega), (by
        refine congrArg Value.bool (by
          rw [bne_eq_false_iff_eq]
          unfold esB
          rw [List.length_map, List.length_map, e1, e2, hM, htl])), plain1 (Elt.row_pl _), hM, hC, rowN (by simp), (by omega), appG (e := ePc) (L := ps) (M := ps) (k := 0) (Or.inl ⟨rfl, rfl⟩) rfl (by rw [Nat.zero_mul]) (by omega) (by omega) (by rw [List.take_of_length_le (by omega), List.drop_zero, List.take_length]) (by omega) (by omega) (by omega), appG (e := ePc) (L := []) (M := ps) (k := 0) (Or.inr ⟨rfl, rfl, rfl⟩) rfl (by rw [Nat.zero_mul]) (by omega) (Nat.zero_le _) (by simp) (by omega) (by omega) (by omega), plain1 (Elt.row_pl _), hM, hC, rowN rfl, (by omega), b1, trivial⟩ fun zz hz _ => along1 ML MC hE G zz hz

theorem spec {u0 u1 : Value} {x0 x1 : Option (List Value)} (c0 : CanAt ePc (fun x => BxOK x.box ∧ I64 x.val) 0 u0 x0) (c1 : CanAt eInt I64 1 u1 x1) :
    CallSpec Try.prog 5 [u0, u1] (rowsL [x0, x1]) 2 (.bool true) (assocN [] []) := by
  refine spec_of_sat Try.func5 rfl fun E hE => ?_
  obtain ⟨ML, hM⟩ : ∃ ML : List Pc → List EB, ML = Mg.mergeL := ⟨_, rfl⟩
  obtain ⟨MC, hC⟩ : ∃ MC : List Pc → Nat, MC = mergeC := ⟨_, rfl⟩
  have rnm : ∀ (f : Nat → Nat) (es : List Ent) (c : Nat), Blk.rnB f (.map L10 true (some .i64) es c) = .map L10 true (some .i64) es c := fun f es c => rfl
  have rno : ∀ (f : Nat → Nat) (l : List Int), Blk.rnB f (.ro (eInt.row l)) = .ro (eInt.row l) := fun f l => Blk.plain.rnB (b := .ro (eInt.row l)) (Elt.row_pl _) f
  have rnv : ∀ (f : Nat → Nat) (l : List Pc), Blk.rnB f (.vec (ePc.row l) 27 11) = .vec (ePc.row l) 27 11 := fun f l => Blk.plain.rnB (b := .vec (ePc.row l) 27 11) (Elt.row_pl _) f
  have rni : ∀ (f : Nat → Nat) (k s : Nat) (x : List Nat) (c : Nat), Blk.rnB f (.it k s x c) = .it (f k) s x c := fun f k s x c => rfl
  have pln : plainR [] := fun x hx => by simp at hx
  have pl9 : plainR [[]] := plain1 fun c hc => by simp at hc
  have rowE : ePc.Row [] 0 0 := ⟨Nat.le_refl _, fun i hi => absurd hi (Nat.not_lt_zero _)⟩
  have zok : ∀ k : Nat, ZeroOK 0 (.slice (some ⟨k, 0, none⟩) 0 0) (some (.cells [] 27)) := fun k => ⟨rfl, Nat.le_refl _, by decide⟩
  have bF : ∀ n : Nat, n = 0 → Value.bool (decide ((0 : Int) < (n : Int))) = .bool false := fun n h => congrArg _ (decide_eq_false (by omega))
  have bT : ∀ n : Nat, n ≠ 0 → Value.bool (decide ((0 : Int) < (n : Int))) = .bool true := fun n h => congrArg _ (decide_eq_true (by omega))
  rcases c0 with ⟨rfl, rfl⟩ | ⟨L, c, rfl, rfl, hlc, hcm, hg⟩
  · rcases c1 with ⟨rfl, rfl⟩ | ⟨ts, tc, rfl, rfl, htc, htm, hgt⟩
    · exact csNN ML MC (ML (ePc.list [] 0 0)) (MC (ePc.list [] 0 0)) (RQ []) hE (cm2_ok _ _ _ _ _ _ _) ⟨rfl, ⟨⟨[], 0⟩, ⟨List.nodup_nil, fun x hx => by simp at hx, rfl⟩, trivial, rfl, by simp only [cm2, List.map_cons, List.map_nil, rnm, rni]; rfl⟩, rfl, (by rw [hM]; rfl), pl9, hM, hC, rowE, by decide, zok _, zok _, pln, pln, trivial⟩ fun zz hz _ => along0 ML MC hE (none_ok hM) zz hz
    · by_cases h0 : ts.length = 0
      · exact csNF ML MC ts ts.length tc (ML (ePc.list [] 0 0)) (MC (ePc.list [] 0 0)) (RQ []) hE (cm2_ok _ _ _ _ _ _ _) ⟨rfl, ⟨⟨[], 0⟩, ⟨List.nodup_nil, fun x hx => by simp at hx, rfl⟩, trivial, rfl, by simp only [cm2, List.map_cons, List.map_nil, rnm, rni]; rfl⟩, rfl, (by rw [hM]; rfl), pl9, hM, hC, rowE, by decide, zok _, zok _, pln, bF _ h0, pln, trivial⟩ fun zz hz _ => along0 ML MC hE (none_ok hM) zz hz
      · exact csNT ML MC ts ts.length tc (ML (ePc.list [] 0 0)) (MC (ePc.list [] 0 0)) (RQ []) hE (cm2_ok _ _ _ _ _ _ _) ⟨rfl, ⟨⟨[], 0⟩, ⟨List.nodup_nil, fun x hx => by simp at hx, rfl⟩, trivial, rfl, by simp only [cm2, List.map_cons, List.map_nil, rnm, rni]; rfl⟩, rfl, (by rw [hM]; rfl), pl9, hM, hC, rowE, by decide, zok _, zok _, pln, bT _ h0, pln, trivial⟩ fun zz hz _ => along0 ML MC hE (none_ok hM) zz hz
  · have plL : plainR [ePc.row L] := plain1 (Elt.row_pl _)
    have eL : ePc.list (ePc.row L) 0 L.length = L := (Elt.canon0 L).2
    by_cases hL : L.length = 0
    · rcases c1 with ⟨rfl, rfl⟩ | ⟨ts, tc, rfl, rfl, htc, htm, hgt⟩
      · exact cs0N ML MC L L.length c (ML (ePc.list [] 0 0)) (MC (ePc.list [] 0 0)) (RQ []) hE (cm2_ok _ _ _ _ _ _ _) ⟨rfl, ⟨⟨[], 0⟩, ⟨List.nodup_nil, fun x hx => by simp at hx, rfl⟩, trivial, rfl, by simp only [cm2, List.map_cons, List.map_nil, rnm, rni]; rfl⟩, rfl, (by rw [hM]; rfl), pl9, hM, hC, rowE, by decide, zok _, zok _, pln, plL, hL, hlc, hcm, trivial⟩ fun zz hz _ => along0 ML MC hE (none_ok hM) zz hz
      · by_cases h0 : ts.length = 0
        · exact cs0F ML MC L L.length c ts ts.length tc (ML (ePc.list [] 0 0)) (MC (ePc.list [] 0 0)) (RQ []) hE (cm2_ok _ _ _ _ _ _ _) ⟨rfl, ⟨⟨[], 0⟩, ⟨List.nodup_nil, fun x hx => by simp at hx, rfl⟩, trivial, rfl, by simp only [cm2, List.map_cons, List.map_nil, rnm, rni]; rfl⟩, rfl, (by rw [hM]; rfl), pl9, hM, hC, rowE, by decide, zok _, zok _, pln, bF _ h0, plL, hL, hlc, hcm, trivial⟩ fun zz hz _ => along0 ML MC hE (none_ok hM) zz hz
        · exact cs0T ML MC L L.length c ts ts.length tc (ML (ePc.list [] 0 0)) (MC (ePc.list [] 0 0)) (RQ []) hE (cm2_ok _ _ _ _ _ _ _) ⟨rfl, ⟨⟨[], 0⟩, ⟨List.nodup_nil, fun x hx => by simp at hx, rfl⟩, trivial, rfl, by simp only [cm2, List.map_cons, List.map_nil, rnm, rni]; rfl⟩, rfl, (by rw [hM]; rfl), pl9, hM, hC, rowE, by decide, zok _, zok _, pln, bT _ h0, plL, hL, hlc, hcm, trivial⟩ fun zz hz _ => along0 ML MC hE (none_ok hM) zz hz
    · rcases c1 with ⟨rfl, rfl⟩ | ⟨ts, tc, rfl, rfl, htc, htm, hgt⟩
      · exact csVN ML MC L L.length c (ML (ePc.list [] 0 0)) (MC (ePc.list [] 0 0)) (RQ []) hE (cm2_ok _ _ _ _ _ _ _) ⟨rfl, ⟨⟨[], 0⟩, ⟨List.nodup_nil, fun x hx => by simp at hx, rfl⟩, trivial, rfl, by simp only [cm2, List.map_cons, List.map_nil, rnm, rni]; rfl⟩, rfl, (by rw [hM]; rfl), pl9, hM, hC, rowE, by decide, zok _, zok _, pln, plL, (by rw [eL]), (by omega), hlc, hcm, trivial⟩ fun zz hz _ => along0 ML MC hE (none_ok hM) zz hz
      · refine csVL ML MC L L.length c ts ts.length tc (min L.length 8) (L.take 8) (fun b zz => zz.i ≤ 20 ∧ zz.i ≤ ts.length ∧ zz.ps.length = zz.i ∧ small zz.ps ∧ zz.tot = vsum zz.ps ∧ ((b = 0 ∧ zz.ps = []) ∨ (b = 1 ∧ zz.ps ≠ []))) hE (cm1_ok _ _ _ _ _ _) ⟨rfl, ⟨⟨0, [], 0⟩, ⟨Nat.zero_le _, Nat.zero_le _, rfl, (fun x hx => by simp at hx), rfl, Or.inl ⟨rfl, rfl⟩⟩, trivial, rfl, by simp only [cm1, List.map_cons, List.map_nil, rno, rnv, eL]⟩, plL, (by rw [eL]), (by omega), hlc, hcm, trivial⟩ fun zz hz _ => ?_
        exact main0 ML MC hE hM hC rfl (by omega) hg rfl hgt 0 zz hz

theorem walk (W : World) (v0 : Value) (o0 : Opened W ePc (fun x => BxOK x.box ∧ I64 x.val) v0) (v1 : Value) (o1 : Opened W eInt I64 v1) :
    Calls Try.prog 5 #[v0, v1] W fun e w' => e = .returned (.bool true) ∧ Below W.heap.size W w' := by
  obtain ⟨u0, x0, ad0, c0, e0, n0, g0⟩ := o0.can 0
  obtain ⟨u1, x1, ad1, c1, e1, n1, g1⟩ := o1.can 1
  have hspec := spec c0 c1
  have := calls_rows hspec rfl (Nat.le_refl 2)
    (fun u hu j hj => by
      simp at hu
      rcases hu with rfl | rfl
      · have := c0.nms j hj; omega
      · have := c1.nms j hj; omega)
    (W := W) (l := [ad0, ad1]) (fun j r ad hr ha => by
      match j with
      | 0 => simp at hr ha; subst hr; subst ha; exact g0
      | 1 => simp at hr ha; subst hr; subst ha; exact g1
      | j + 2 => simp at hr) (Nat.le_refl 2)
  have hmap : ([u0, u1].map (ren (Nm.at [ad0, ad1]))).toArray = #[v0, v1] := by
    have g0 := e0 [ad0, ad1] rfl
    have g1 := e1 [ad0, ad1] rfl
    simp only [List.map_cons, List.map_nil]
    simp only [c0.ren, c1.ren, g0, g1]
  rw [hmap] at this
  exact this
end Go.Proofs.Ythbaccmhdffjdaa.WkCliqueMerge


set_option linter.unusedVariables false
set_option linter.unusedSimpArgs false
set_option maxRecDepth 100000
namespace Go.Proofs.Ythbaccmhdffjdaa.Ev
open Go Go.RowKit Go.ChangeShapes Go.WideShapes
theorem elem_i64 {H : Type} {enc : TypeId × Value → H} {W : World} {base : Nat} {spare : Nat → Bool} {held : Bool} (n : Nat) (cs : List Value) (z : DataW H × List MemPlace) (h : DataW.trod enc Try.prog W base spare held n 3 cs = some z) : ∃ x : Int, cs = eInt.cells x ∧ I64 x := by
  obtain ⟨x, h1, h2⟩ := elem_int (P := Try.prog) (k := .i64) (by kernel_rfl) n cs z h
  exact ⟨x, h1, wf64 h2⟩
theorem open_ints64 {H : Type} {enc : TypeId × Value → H} {W : World} {base : Nat} {spare : Nat → Bool} {held : Bool} {r : Reach} {b0 : Nat} {v : Value} {d : DataW H} {ps : List MemPlace} (hv : Value.okWide Try.prog W r b0 43 v) (h : DataW.Trod enc Try.prog W base spare held 43 v d ps) : Opened W eInt I64 v := by
  have hu : Try.prog.underlying 43 = some (.slice 3) := by kernel_rfl
  obtain ⟨fuel, hf⟩ := h
  simp only [Value.okWide, hu] at hv
  have hcs : v.cells.toList = [v] := by
    obtain ⟨a, l, c, rfl⟩ : ∃ a l c, v = .slice a l c := by
      simp only [Cell.okWide, hu, Cell.ok] at hv
      cases v <;> simp_all
    rfl
  rw [hcs] at hf
  exact open_row hu (by kernel_rfl) elem_i64 hv hf
end Go.Proofs.Ythbaccmhdffjdaa.Ev


namespace Go.Proofs.Ythbaccmhdffjdaa.cliqueMergeRow
open Go.ChangeShapes Go.WideShapes Go.ChangeAt Go.RowKit
open Go.ChangeMaps (open_string shut_string)
set_option linter.unusedVariables false
theorem own : ownKnob Try.prog.godebug = none := by kernel_rfl
theorem laidOut : laidOutB Try.prog = true := by kernel_rfl
set_option maxHeartbeats 4000000 in
set_option maxRecDepth 100000 in
theorem lifted (os : Os) (started : os.Started) (H : Type) (enc : TypeId × Value → H) :
    ReturnsInHanded {} Try.checked os 5 .any (Rows.cliqueMergeSpec.pre6 enc Try.prog Try.f5 Rows.cliqueMergeRow.domain false) (Rows.cliqueMergeSpec.post enc Try.prog Try.f5 false true false false) := by
  refine returnsInHanded_of_change_sized (C := Try.checked) own started (by kernel_rfl) Try.func5
    (ChangeSpec.witness6 (enc := enc) (C := Try.checked) false ⟨#[], #[.slice none 0 0, .slice none 0 0], []⟩ 8 (by kernel_rfl) (by kernel_rfl) (by kernel_rfl) (by kernel_rfl)) ?_
  intro W base args ds gs before hval0 hW hcnd hsz0 _
  have hsz : (DataW.weightsEach Try.prog (Try.f5.params.toList ++ Rows.cliqueMergeSpec.plain.varTypes Try.prog) (ds ++ gs)).all (· ≤ reachBytes) = true := hsz0
  have hval : ∀ (j : Nat) t v, Try.f5.params[j]? = some t → args[j]? = some v → Value.okWide Try.prog W .any base t v := hval0
  have hW' := hW
  obtain ⟨p, q, hA0, hV, rfl, hfz, hnd⟩ := hW
  have hA : DataW.TrodAll enc Try.prog W 0 (fun _ => true) true Try.f5.params.toList args.toList ds p := hA0
  rw [Try.params5] at hA hval hsz
  obtain ⟨v0, vs0, d0, ds0, p0, q0, hargs, rfl, rfl, h0, r0⟩ := trodAll_cons hA
  obtain ⟨v1, vs1, d1, ds1, p1, q1, rfl, rfl, rfl, h1, r1⟩ := trodAll_cons r0
  obtain ⟨rfl, rfl, rfl⟩ := trodAll_nil r1
  obtain rfl : args = #[v0, v1] := by cases args; simp_all
  obtain ⟨rfl, rfl⟩ := trodVars_none hV
  have k0 := h0
  have lt0 : ∀ x ∈ p0, x.block < W.heap.size := by obtain ⟨m, hm⟩ := k0; exact DataW.trod_lt m _ _ _ hm
  have w0 := OpenBx.open_pieces (hval 0 28 v0 rfl rfl) h0
  have k1 := h1
  have lt1 : ∀ x ∈ p1, x.block < W.heap.size := by obtain ⟨m, hm⟩ := k1; exact DataW.trod_lt m _ _ _ hm
  have w1 := Ev.open_ints64 (hval 1 43 v1 rfl rfl) h1
  clear hA0 hval0 hsz0 hsz
  refine (WkCliqueMerge.walk W v0 w0 v1 w1).mono fun e W' ⟨he, bel⟩ => ?_
  subst he
  exact ⟨_, rfl, _, _, _, [], _, [], hW', trodAll_mk1 (shut_bool Try.underlying4 _), (trodAll_cons_mk (Below.trod laidOut (by kernel_rfl) (of_decide_eq_true (by kernel_rfl)) k0 bel lt0) (trodAll_cons_mk (Below.trod laidOut (by kernel_rfl) (of_decide_eq_true (by kernel_rfl)) k1 bel lt1) trodAll_mk0)), rfl, bel.frame _, fun h => by cases h⟩
theorem over : Rows.cliqueMergeRow.holds Try.pinned (OpenSpec.ofChange Rows.cliqueMergeSpec) :=
  OpenClaim.holds_of_wide 5 Try.f5 rfl rfl rfl rfl rfl rfl rfl ⟨rfl, rfl, rfl, rfl, rfl⟩ rfl rfl rfl rfl rfl (by kernel_rfl) Try.func5 (by kernel_rfl)
    (of_decide_eq_true (by kernel_rfl)) (by unfold Func.isWrapper; first | (rw [if_pos (by decide +kernel)]; kernel_rfl) | (rw [if_neg (by decide +kernel)]; exact ⟨rfl, rfl⟩))
    (fun os started H enc _ => lifted os started H enc)
end Go.Proofs.Ythbaccmhdffjdaa.cliqueMergeRow
namespace Go.Proofs.Ythbaccmhdffjdaa
theorem cliqueMerge_holds : Rows.CliqueMergeSaid := cliqueMergeRow.over
#print axioms cliqueMerge_holds
end Go.Proofs.Ythbaccmhdffjdaa
