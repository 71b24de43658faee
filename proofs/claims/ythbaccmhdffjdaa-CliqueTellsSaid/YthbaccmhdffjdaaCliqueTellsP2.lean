/-
  Frames of Roomy and Intact over pieces. No condition.
-/
import Derived.Laws.IdiomRangeMap
import Derived.Test.YthbaccmhdffjdaaProg
import Derived.Test.YthbaccmhdffjdaaRows
import Derived.WalkKit
import Derived.ProofKit
import Derived.OpenShut
import Derived.Deep.Slices
import Derived.RowKit
import Derived.RowKit3
import Derived.Laws.BitsAllLaws
import Derived.Laws.BitsLemmas
import Derived.Laws.Bits64
import Derived.Below
import Derived.WalkLawsBesides
import Derived.KernelRfl
import Derived.Lib.Hide
import Derived.Test.YthbaccmhdffjdaaCliqueTellsP1
set_option linter.unusedVariables false
set_option linter.unusedSimpArgs false
namespace Go.Proofs.Ythbaccmhdffjdaa.Ev
open Go Go.RowKit
/-- Code unfolded up to its first region. -/
def peel : Nat → List Ctl → List Ctl
  | 0, k => k
  | n + 1, .code (.seq x y) :: k => peel n (.code x :: .code y :: k)
  | n + 1, .code (.block id c) :: k => peel n (.code c :: .inBlock id :: k)
  | n + 1, .code .skip :: k => peel n k
  | _ + 1, k => k
theorem sat_peel {E : Env} {S : St} : ∀ (n : Nat) (k : List Ctl), Sat E (peel n k) S → Sat E k S
  | 0, k, h => h
  | n + 1, k, h => by
    unfold peel at h
    split at h
    · simp at *
    · rename_i n' x y k' e1
      obtain rfl : n' = n := by omega
      have := sat_peel n' _ h
      exact fun g a w hc => wp_seq (this g a w hc)
    · rename_i n' id c k' e1
      obtain rfl : n' = n := by omega
      have := sat_peel n' _ h
      exact fun g a w hc => wp_block (this g a w hc)
    · rename_i n' k' e1
      obtain rfl : n' = n := by omega
      have := sat_peel n' _ h
      exact fun g a w hc => wp_skip (this g a w hc)
    · exact h
/-- What 'next' does: nothing is left, or one entry that is left comes out. -/
theorem run_next {P : Program} (w : World) (ty : TypeId) (r bm since c0 : Nat) (seen : Array Nat) (es : Array MapEntry) (clock : Nat) (hr : w.heap[r]? = some (.mapIter (some bm) since seen c0)) (hb : w.heap[bm]? = some (.map es clock)) (hold : ∀ x ∈ es.toList, x.born < since) (hsc : since ≤ c0) :
    ((leftOf es seen).size = 0 ∧ (Instr.next (.pointer (some ⟨r, 0, none⟩)) false ty).run P w = .ok (.tuple #[.bool false]) w) ∨
    ∃ e ∈ (leftOf es seen).toList, ∃ d : Nat, (Instr.next (.pointer (some ⟨r, 0, none⟩)) false ty).run P w = .ok (.tuple #[.bool true, e.key, e.val]) { w with heap := w.heap.setIfInBounds r (.mapIter (some bm) since (seen.push e.born) clock), drawn := d } := by
  simp only [Instr.next, getObj, Sem.run_bind, Sem.run, hr, hb, Result.andThen, next_test_false seen es since c0 hold hsc, Bool.false_eq_true, if_false]
  unfold leftOf
  have hmem : ∀ x ∈ (Array.filter (fun e => !seen.contains e.born) es).toList, x.born < since := fun x hx => hold x (by simp at hx ⊢; exact hx.1)
  generalize Array.filter (fun e => !seen.contains e.born) es = L at hmem ⊢
  have e1 : L.filter (fun x => decide (x.born < since)) = L := Array.filter_eq_self.2 (fun x hx => by simpa using hmem x (by simpa using hx))
  have e2 : L.filter (fun x => decide (x.born ≥ since)) = #[] := by
    rw [Array.filter_eq_empty_iff]
    intro x hx
    have := hmem x (by simpa using hx)
    simp
    omega
  simp only [e1, e2, Array.append_empty]
  by_cases h0 : L.size = 0
  · left
    have : L = #[] := Array.eq_empty_of_size_eq_zero h0
    subst this
    refine ⟨rfl, ?_⟩
    simp [choose, Sem.run, Question.forced]
  · right
    have hne : L.isEmpty = false := by simp [Array.isEmpty, h0]
    simp only [hne, Bool.false_eq_true, if_false, Array.empty_append, Array.size_map]
    have hch : ∃ (j d : Nat), j < L.size ∧ (choose (Question.mapNext L.size)).run P w = .ok j { w with drawn := d } := by
      by_cases hf : L.size ≤ 1
      · exact ⟨0, w.drawn, by omega, by simp [choose, Sem.run, Question.forced, hf]⟩
      · exact ⟨_, w.drew.drawn, Nat.mod_lt _ (by omega), by
          simp only [choose, Sem.run, Question.forced, decide_eq_true_eq, hf, if_false, Question.cut]
          rfl⟩
    obtain ⟨j, d, hj, hrun⟩ := hch
    refine ⟨L[j], by simp, d, ?_⟩
    have hset : ∀ o', (setObj r o').run P { w with drawn := d } = .ok () { w with heap := w.heap.setIfInBounds r o', drawn := d } := fun o' => by
      simp only [setObj, Sem.run]
      rw [show ({ w with drawn := d } : World).heap[r]? = some (.mapIter (some bm) since seen c0) from hr]
    simp only [hrun, Array.getElem?_map, Array.getElem?_eq_getElem hj, Option.map_some, Sem.run_bind, hset, Result.andThen]
    rfl
def stNo (S : St) (t0 t1 : Nat) : St := ⟨upd (upd S.T t0 (some (.tuple ⟨[.bool false]⟩))) t1 (some (.bool false)), S.H, S.nx, S.c, S.ob⟩
def stYes (S : St) (t0 t1 j k since : Nat) (seen : List Nat) (clock : Nat) (e : Ent) : St := ⟨upd (upd S.T t0 (some (.tuple ⟨[.bool true, e.1, e.2.1]⟩))) t1 (some (.bool true)), upd S.H j (some (.it k since (seen ++ [e.2.2]) clock)), S.nx, S.c, S.ob⟩
theorem hc_drawn {M : Nat → Prop} {w0 w : World} {g : Nm} {B : Nat → Prop} {H : Heap} (h : HC M w0 g B H w) (d : Nat) : HC M w0 g B H { w with drawn := d } :=
  ⟨⟨h.below.os, h.below.tape, h.below.output, h.below.size, h.below.block⟩, h.dom, h.scope, h.holds, h.own, h.inj⟩
theorem set_it {M : Nat → Prop} {w0 w : World} {g : Nm} {B : Nat → Prop} {H : Heap} (hH : HC M w0 g B H w) {j k since c c' : Nat} {seen seen' : List Nat} (hb : H j = some (.it k since seen c)) :
    HC M w0 g B (upd H j (some (.it k since seen' c'))) { w with heap := w.heap.setIfInBounds (g.blk j) (.mapIter (some (g.blk k)) since seen'.toArray c') } := by
  have hlt := hH.lt hb
  have h0 := hH.holds j _ hb
  refine hH.set hb rfl rfl rfl rfl rfl (by simp) (fun i hi => ?_) (show B k from hH.scope j (.it k since seen c) hb) ?_
  · simp [Array.getElem?_setIfInBounds_ne (Ne.symm hi)]
  · refine ⟨h0.1, ?_⟩
    simp [hlt]
theorem put_rc {An : Nm × (Nat → Prop)} {M : Nat → Prop} {w0 w w' : World} {n : Nat} {g : Nm} {B : Nat → Prop} {T : Tm} {H H' : Heap} {a : Act} (h : RC An M w0 n g B T H a w) (hc : HC M w0 g B H' w') {t : Nat} (ht : t < n) {v : Value} (hg : gnd v = true) : RC An M w0 n g B (upd T t (some v)) H' (a.put (some t) v) w' := by
  refine ⟨hc, by simp [Act.put, h.size], h.defers, fun i u hu => ?_, h.anch, h.sub⟩
  by_cases e : i = t
  · subst e
    rw [upd_self] at hu
    simp at hu; subst hu
    exact ⟨by rw [ren_gnd g hg]; simp [Act.put, h.size, ht], InB.gnd hg⟩
  · rw [upd_ne _ _ e] at hu
    obtain ⟨h1, h2⟩ := h.tm i u hu
    exact ⟨by simp [Act.put, Array.getElem?_setIfInBounds_ne (Ne.symm e), h1], h2⟩
theorem sat_next {E : Env} {id : Nat} {o0 o1 : Oper} {K : List Ctl} {S : St} {x : Operand} {t0 t1 j k since c clock : Nat} {seen : List Nat} {lay : List (Option IntKind)} {agg : Bool} {ek : Option IntKind} {es : List Ent}
    (h0 : o0.op = .next x false) (g0 : o0.guard = none) (d0 : o0.dst = some t0) (h1 : o1.op = .extract (.tmp t0) 0) (g1 : o1.guard = none) (d1 : o1.dst = some t1) (n0 : t0 < E.n) (n1 : t1 < E.n)
    (hx : ev S.T x = some (.pointer (some ⟨j, 0, none⟩))) (hj : S.H j = some (.it k since seen c)) (hk : S.H k = some (.map lay agg ek es clock)) (hold : ∀ e ∈ es, e.2.2 < since) (hsc : since ≤ c)
    (hend : (∀ e ∈ es, e.2.2 ∈ seen) → Sat E K (stNo S t0 t1)) (hnext : ∀ e ∈ es, e.2.2 ∉ seen → Sat E K (stYes S t0 t1 j k since seen clock e)) :
    Sat E (.code (.region id #[o0, o1] false) :: K) S := by
  intro g a w ⟨B, hB, hrc⟩
  refine wp_region ?_
  show wpOps _ _ _ [0, 1] a w
  rw [wpOps_cons]
  have hjw : g.base j = 0 ∧ w.heap[g.blk j]? = some (.mapIter (some (g.blk k)) since seen.toArray c) := hrc.hc.holds j _ hj
  have hkw : w.heap[g.blk k]? = some (.map (objMap es) clock) := hrc.hc.holds k _ hk
  have hxv := (hrc.stands x _ hx).1
  have hxe : a.eval x = .pointer (some ⟨g.blk j, 0, none⟩) := by rw [hxv]; simp [ren_ptr, renA_none, hjw.1]
  -- one operation
  have step : ∀ (i : Nat) (o : Oper) (KK : Act → World → Prop) (a : Act) (w : World), (#[o0, o1] : Array Oper)[i]? = some o → o.guard = none → o.wp E.P a w KK (wpK E.P E.R K) → wpOp E.P #[o0, o1] (wpK E.P E.R K) i KK a w := fun i o KK a w ho hg hw => by
    unfold wpOp
    simp only [ho]
    rw [if_pos (by simp [Region.wanted, hg])]
    exact .inl hw
  have ext : ∀ (S1 : St) (b : Bool) (vs : List Value) (a1 : Act) (w1 : World), RC E.An E.M E.w0 E.n g B S1.T S1.H a1 w1 → S1.T t0 = some (.tuple ⟨.bool b :: vs⟩) → gnd (.tuple ⟨.bool b :: vs⟩) = true → (∀ k, B k → k < S1.nx) → Sat E K ⟨upd S1.T t1 (some (.bool b)), S1.H, S1.nx, S1.c, S1.ob⟩ → wpOps E.P #[o0, o1] (wpK E.P E.R K) [1] a1 w1 := fun S1 b vs a1 w1 hr ht hg hB1 hs => by
    rw [wpOps_cons]
    refine step 1 o1 _ a1 w1 rfl g1 ?_
    obtain ⟨h2, _⟩ := hr.tm t0 _ ht
    rw [ren_gnd g hg] at h2
    have he : a1.eval (.tmp t0) = .tuple ⟨.bool b :: vs⟩ := by
      obtain ⟨hlt, he⟩ := Array.getElem?_eq_some_iff.1 h2
      simp [Act.eval, Array.getD, hlt, he]
    unfold Oper.wp
    have hex : (execOp a1.eval o1).run E.P w1 = .ok (.value (.bool b)) w1 := by
      unfold execOp
      rw [h1]
      simp only [he, Instr.extract]
      rfl
    rw [hex, Oper.upon_value, d1]
    exact hs g _ _ ⟨B, hB1, put_rc hr hr.hc n1 rfl⟩
  refine step 0 o0 _ a w rfl g0 ?_
  unfold Oper.wp
  rcases run_next (P := E.P) w o0.type (g.blk j) (g.blk k) since c seen.toArray (objMap es) clock hjw.2 hkw (fun y hy => by
    have : y ∈ es.map conv := by simpa [objMap] using hy
    obtain ⟨e, he, rfl⟩ := List.mem_map.1 this
    exact hold e he) hsc with ⟨hz, hrun⟩ | ⟨y, hy, d, hrun⟩
  · have hex : (execOp a.eval o0).run E.P w = .ok (.value (.tuple #[.bool false])) w := by
      unfold execOp
      rw [h0]
      simp only [hxe, Sem.run_bind, hrun, Result.andThen]
      rfl
    rw [hex, Oper.upon_value, d0]
    have hall : ∀ e ∈ es, e.2.2 ∈ seen := fun e he => by
      have hsz : leftOf (objMap es) seen.toArray = #[] := Array.eq_empty_of_size_eq_zero hz
      unfold leftOf at hsz
      rw [Array.filter_eq_empty_iff] at hsz
      have := hsz (conv e) (by simp only [objMap, List.mem_toArray, List.mem_map]; exact ⟨e, he, rfl⟩)
      simpa [conv] using this
    exact ext ⟨upd S.T t0 (some (.tuple ⟨[.bool false]⟩)), S.H, S.nx, S.c, S.ob⟩ false [] _ w (put_rc hrc hrc.hc n0 rfl) (upd_self _ _ _) rfl hB (hend hall)
  · have hm := mem_left hy
    have hyl : y ∈ es.map conv := by simpa [objMap] using hm.1
    obtain ⟨e, he, rfl⟩ := List.mem_map.1 hyl
    have hns : e.2.2 ∉ seen := by
      have := hm.2
      simpa [conv] using this
    obtain ⟨q1, q2⟩ := entry_gnd (hrc.hc.scope k _ hk) he
    have hg : gnd (.tuple ⟨[.bool true, e.1, e.2.1]⟩) = true := allB_iff.2 fun u hu => by
      simp at hu
      rcases hu with rfl | rfl | rfl
      · rfl
      · exact q1
      · exact q2
    have hex : (execOp a.eval o0).run E.P w = .ok (.value (.tuple ⟨[.bool true, e.1, e.2.1]⟩)) { w with heap := w.heap.setIfInBounds (g.blk j) (.mapIter (some (g.blk k)) since (seen ++ [e.2.2]).toArray clock), drawn := d } := by
      unfold execOp
      rw [h0]
      simp only [hxe, Sem.run_bind, hrun, Result.andThen]
      simp only [List.push_toArray]
      rfl
    rw [hex, Oper.upon_value, d0]
    have hc' : HC E.M E.w0 g B (upd S.H j (some (.it k since (seen ++ [e.2.2]) clock))) { w with heap := w.heap.setIfInBounds (g.blk j) (.mapIter (some (g.blk k)) since (seen ++ [e.2.2]).toArray clock), drawn := d } := hc_drawn (set_it hrc.hc hj) d
    exact ext ⟨upd S.T t0 (some (.tuple ⟨[.bool true, e.1, e.2.1]⟩)), upd S.H j (some (.it k since (seen ++ [e.2.2]) clock)), S.nx, S.c, S.ob⟩ true [e.1, e.2.1] _ _ (put_rc hrc hc' n0 hg) (upd_self _ _ _) hg hB (hnext e he hns)
/-- Is the next thing a region of 'next' and 'extract' alone? -/
def nextOK (k : List Ctl) (tx t0 t1 : Nat) : Bool :=
  match k with
  | .code (.region _ ⟨[o0, o1]⟩ false) :: _ => match o0.op, o0.guard, o0.dst, o1.op, o1.guard, o1.dst with
    | .next (.tmp x) false, none, some a, .extract (.tmp a') 0, none, some b => Nat.beq x tx && (Nat.beq a t0 && (Nat.beq a' t0 && Nat.beq b t1))
    | _, _, _, _, _, _ => false
  | _ => false
/-- What follows it. -/
def afterN (k : List Ctl) : List Ctl := (peel 20 k).tail
theorem sat_nextB {E : Env} {k0 : List Ctl} {S : St} {tx t0 t1 j k since c clock : Nat} {seen : List Nat} {lay : List (Option IntKind)} {agg : Bool} {ek : Option IntKind} {es : List Ent}
    (hb : nextOK (peel 20 k0) tx t0 t1 = true) (n0 : t0 < E.n) (n1 : t1 < E.n)
    (hx : S.T tx = some (.pointer (some ⟨j, 0, none⟩))) (hj : S.H j = some (.it k since seen c)) (hk : S.H k = some (.map lay agg ek es clock)) (hold : ∀ e ∈ es, e.2.2 < since) (hsc : since ≤ c)
    (hend : (∀ e ∈ es, e.2.2 ∈ seen) → Sat E (afterN k0) (stNo S t0 t1)) (hnext : ∀ e ∈ es, e.2.2 ∉ seen → Sat E (afterN k0) (stYes S t0 t1 j k since seen clock e)) : Sat E k0 S := by
  refine sat_peel 20 k0 ?_
  unfold afterN at hend hnext
  generalize peel 20 k0 = kk at hb hend hnext ⊢
  unfold nextOK at hb
  split at hb
  · rename_i id o0 o1 K
    split at hb
    · rename_i x a a' b e1 e2 e3 e4 e5 e6
      simp only [Bool.and_eq_true] at hb
      obtain ⟨q1, q2, q3, q4⟩ := hb
      obtain rfl := Nat.eq_of_beq_eq_true q1
      obtain rfl := Nat.eq_of_beq_eq_true q2
      obtain rfl := Nat.eq_of_beq_eq_true q3
      obtain rfl := Nat.eq_of_beq_eq_true q4
      exact sat_next e1 e2 e3 e4 e5 e6 n0 n1 hx hj hk hold hsc hend hnext
    · simp at hb
  · simp at hb
end Go.Proofs.Ythbaccmhdffjdaa.Ev


set_option linter.unusedVariables false
set_option linter.unusedSimpArgs false
namespace Go.Proofs.Ythbaccmhdffjdaa.Ev
open Go Go.RowKit
def can0 : Value → Nat → Option (Value × List Nat)
  | .slice (some ⟨k, off, none⟩) n c, i => some (.slice (some ⟨i, off, none⟩) n c, [k])
  | .map (some k), i => some (.map (some i), [k])
  | v, _ => bif leafG v then some (v, []) else none
def canL (f : Value → Nat → Option (Value × List Nat)) : List Value → Nat → Option (List Value × List Nat)
  | [], _ => some ([], [])
  | v :: l, i => match f v i with
    | some (u, ks) => match canL f l (i + ks.length) with
      | some (us, ks') => some (u :: us, ks ++ ks')
      | none => none
    | none => none
def can1 : Value → Nat → Option (Value × List Nat)
  | .agg ⟨cs⟩, i => match canL can0 cs i with
    | some (us, ks) => some (.agg ⟨us⟩, ks)
    | none => none
  | v, i => can0 v i
def At (f : Nat → Nat) (i : Nat) (ks : List Nat) : Prop := ∀ j k, ks[j]? = some k → f (i + j) = k
theorem At.app {f : Nat → Nat} {i : Nat} {ks ks' : List Nat} (h : At f i (ks ++ ks')) : At f i ks ∧ At f (i + ks.length) ks' := by
  refine ⟨fun j k hj => ?_, fun j k hj => ?_⟩
  · have hlt := (List.getElem?_eq_some_iff.1 hj).1
    exact h j k (by rw [List.getElem?_append_left hlt]; exact hj)
  · have := h (ks.length + j) k (by rw [List.getElem?_append_right (by omega)]; simpa using hj)
    rw [← this]; congr 1; omega
def CanOK (r : (Nat → Nat) → Value → Value) (nn : Value → List Nat) (can : Value → Nat → Option (Value × List Nat)) : Prop :=
  ∀ v i u ks, can v i = some (u, ks) → (∀ f, At f i ks → r f u = v) ∧ ∀ m ∈ nn u, i ≤ m ∧ m < i + ks.length
theorem can0_ok : CanOK rn0 nm0 can0 := by
  intro v i u ks h
  unfold can0 at h
  split at h
  · rename_i k off n c
    simp at h; obtain ⟨rfl, rfl⟩ := h
    refine ⟨fun f hf => ?_, fun m hm => ?_⟩
    · have := hf 0 k rfl
      simp only [rn0, rnA]
      rw [show f i = k by simpa using this]
    · simp [nm0] at hm; subst hm; simp
  · rename_i k
    simp at h; obtain ⟨rfl, rfl⟩ := h
    refine ⟨fun f hf => ?_, fun m hm => ?_⟩
    · have := hf 0 k rfl
      simp only [rn0]
      rw [show f i = k by simpa using this]
    · simp [nm0] at hm; subst hm; simp
  · rename_i hne
    cases hl : leafG v <;> rw [hl] at h <;> simp at h
    obtain ⟨rfl, rfl⟩ := h
    exact ⟨fun f _ => rn0_leafG f hl, fun m hm => by rw [nm0_leafG hl] at hm; simp at hm⟩
theorem canL_ok {r : (Nat → Nat) → Value → Value} {nn : Value → List Nat} {can : Value → Nat → Option (Value × List Nat)} (hc : CanOK r nn can) : ∀ {l : List Value} {i : Nat} {us : List Value} {ks : List Nat}, canL can l i = some (us, ks) →
    (∀ f, At f i ks → us.map (r f) = l) ∧ ∀ u ∈ us, ∀ m ∈ nn u, i ≤ m ∧ m < i + ks.length
  | [], i, us, ks, h => by simp [canL] at h; obtain ⟨rfl, rfl⟩ := h; simp
  | v :: l, i, us, ks, h => by
    simp only [canL] at h
    split at h
    · rename_i u ks1 hu
      split at h
      · rename_i us' ks2 hus
        simp at h; obtain ⟨rfl, rfl⟩ := h
        obtain ⟨h1, h2⟩ := hc v i u ks1 hu
        obtain ⟨h3, h4⟩ := canL_ok hc hus
        refine ⟨fun f hf => ?_, fun x hx m hm => ?_⟩
        · rw [List.map_cons, h1 f hf.app.1, h3 f hf.app.2]
        · rw [List.length_append]
          rcases List.mem_cons.1 hx with rfl | hx
          · have := h2 m hm; omega
          · have := h4 x hx m hm; omega
      · simp at h
    · simp at h
theorem mem_nmL' {f : Value → List Nat} {k : Nat} : ∀ {l : List Value}, k ∈ nmL f l → ∃ v ∈ l, k ∈ f v
  | [], h => by simp [nmL] at h
  | v :: l, h => by
    simp only [nmL, List.mem_append] at h
    rcases h with h | h
    · exact ⟨v, by simp, h⟩
    · obtain ⟨u, hu, hk⟩ := mem_nmL' h; exact ⟨u, by simp [hu], hk⟩
theorem can0_nt {v u : Value} {i : Nat} {ks : List Nat} (h : can0 v i = some (u, ks)) : leaf u = true := by
  unfold can0 at h
  split at h
  · simp at h; obtain ⟨rfl, rfl⟩ := h; rfl
  · simp at h; obtain ⟨rfl, rfl⟩ := h; rfl
  · rename_i hne
    cases hl : leafG v <;> rw [hl] at h <;> simp at h
    obtain ⟨rfl, rfl⟩ := h
    exact leaf_of_leafG hl
theorem can1_ok : CanOK rn nms can1 := by
  intro v i u ks h
  unfold can1 at h
  split at h
  · rename_i cs
    split at h
    · rename_i us ks' hus
      simp at h; obtain ⟨rfl, rfl⟩ := h
      obtain ⟨h1, h2⟩ := canL_ok can0_ok hus
      refine ⟨fun f hf => ?_, fun m hm => ?_⟩
      · simp only [rn, rn1, mapL_eq]
        rw [h1 f hf]
      · obtain ⟨x, hx, hm⟩ := mem_nmL' (f := nm0) hm
        exact h2 x hx m hm
    · simp at h
  · have hl := can0_nt h
    obtain ⟨h1, h2⟩ := can0_ok v i u ks h
    refine ⟨fun f hf => ?_, fun m hm => ?_⟩
    · rw [← h1 f hf]
      cases u <;> first | rfl | simp [leaf] at hl
    · refine h2 m ?_
      cases u <;> first | exact hm | simp [leaf] at hl
def num : List Nat → Nat → List (Nat × Nat)
  | [], _ => []
  | k :: ks, i => (i, k) :: num ks (i + 1)
theorem num_fst : ∀ (ks : List Nat) (i : Nat), (num ks i).map (·.1) = List.range' i ks.length
  | [], _ => rfl
  | k :: ks, i => by simp [num, num_fst ks (i + 1), List.range'_succ]
theorem num_mem : ∀ {ks : List Nat} {i j k : Nat}, (j, k) ∈ num ks i ↔ ∃ m, ks[m]? = some k ∧ j = i + m
  | [], i, j, k => by simp [num]
  | a :: ks, i, j, k => by
    simp only [num, List.mem_cons, Prod.mk.injEq, num_mem (ks := ks)]
    constructor
    · rintro (⟨rfl, rfl⟩ | ⟨m, h1, rfl⟩)
      · exact ⟨0, by simp, rfl⟩
      · exact ⟨m + 1, by simpa using h1, by omega⟩
    · rintro ⟨m, h1, rfl⟩
      cases m with
      | zero => simp at h1; exact Or.inl ⟨rfl, h1.symm⟩
      | succ m => exact Or.inr ⟨m, by simpa using h1, by omega⟩
theorem look_num {ks : List Nat} {more : List (Nat × Nat)} : At (look (num ks 0 ++ more)) 0 ks := by
  have key : ∀ (ks : List Nat) (i : Nat), At (look (num ks i ++ more)) i ks := by
    intro ks
    induction ks with
    | nil => intro i j k h; simp at h
    | cons a ks ih =>
      intro i j k h
      cases j with
      | zero => simp at h; subst h; simp [num, look]
      | succ j =>
        have := ih (i + 1) j k (by simpa using h)
        simp only [num, List.cons_append, look]
        have hne : Nat.beq (i + (j + 1)) i = false := by
          cases e : Nat.beq (i + (j + 1)) i with
          | false => rfl
          | true => have := Nat.eq_of_beq_eq_true e; omega
        rw [hne]
        simp only [cond_false]
        rw [← this]
        congr 1; omega
  exact key ks 0
def rowsOf (H : Heap) : List Nat → Option (List (List Value))
  | [] => some []
  | k :: ks => match H k with
    | some b => match b.row with
      | some cs => match rowsOf H ks with
        | some css => some (cs :: css)
        | none => none
      | none => none
    | none => none
theorem rowsOf_spec {H : Heap} : ∀ {ks : List Nat} {css : List (List Value)}, rowsOf H ks = some css → ks.length = css.length ∧ ∀ (m : Nat) (k : Nat), ks[m]? = some k → ∃ b cs, H k = some b ∧ b.row = some cs ∧ css[m]? = some cs
  | [], css, h => by simp [rowsOf] at h; subst h; simp
  | k :: ks, css, h => by
    simp only [rowsOf] at h
    split at h
    · rename_i b hb
      split at h
      · rename_i cs hcs
        split at h
        · rename_i css' hc
          simp at h; subst h
          obtain ⟨h1, h2⟩ := rowsOf_spec hc
          refine ⟨by simp [h1], fun m k' hk => ?_⟩
          cases m with
          | zero => simp at hk; subst hk; exact ⟨b, cs, hb, hcs, by simp⟩
          | succ m => simpa using h2 m k' (by simpa using hk)
        · simp at h
      · simp at h
    · simp at h
theorem rowsOf_congr {H H' : Heap} : ∀ {ks : List Nat}, (∀ k ∈ ks, H' k = H k) → rowsOf H' ks = rowsOf H ks
  | [], _ => rfl
  | k :: ks, h => by simp only [rowsOf]; rw [h k (by simp), rowsOf_congr fun j hj => h j (by simp [hj])]
def plainR (css : List (List Value)) : Prop := ∀ cs ∈ css, ∀ c ∈ cs, leafG c = true
def roRows (css : List (List Value)) : Heap := fun j => match css[j]? with
  | some cs => some (.ro cs)
  | none => none
/-- Names of the new blocks: 100 on. -/
def newNs : List Blk → Nat → List Nat
  | [], _ => []
  | _ :: l, i => i :: newNs l (i + 1)
theorem newNs_mem : ∀ {l : List Blk} {i j : Nat}, j ∈ newNs l i ↔ i ≤ j ∧ j < i + l.length
  | [], i, j => by simp [newNs]
  | b :: l, i, j => by simp [newNs, newNs_mem (l := l)]; omega
theorem newNs_nodup : ∀ (l : List Blk) (i : Nat), (newNs l i).Nodup
  | [], _ => List.nodup_nil
  | b :: l, i => List.nodup_cons.2 ⟨fun h => by have := newNs_mem.1 h; omega, newNs_nodup l (i + 1)⟩
theorem newNs_len : ∀ (l : List Blk) (i : Nat), (newNs l i).length = l.length
  | [], _ => rfl
  | b :: l, i => by simp [newNs, newNs_len l]
theorem assoc_new : ∀ {l : List Blk} {i j : Nat}, i ≤ j → j < i + l.length → ∃ x ∈ l, assocN (newNs l i) l j = some x
  | [], i, j, h1, h2 => by simp at h2; omega
  | b :: l, i, j, h1, h2 => by
    simp only [newNs, assocN]
    cases e : Nat.beq j i
    · have hne : j ≠ i := fun h => by subst h; simp at e
      obtain ⟨x, hx, hy⟩ := assoc_new (l := l) (i := i + 1) (j := j) (by omega) (by simp at h2; omega)
      exact ⟨x, by simp [hx], hy⟩
    · exact ⟨b, by simp, rfl⟩
abbrev RoF := List Value → List (List Value) → Option (Value × List Blk × List Prop)
noncomputable def roSum (F : RoF) : List Value → Heap → Nat → Option Res := fun args H nm =>
  match canL can1 args 0 with
  | some (ar, ks) => match rowsOf H ks with
    | some css => match F ar css with
      | some (v, blks, ob) => some ⟨rn (look (num ks 0 ++ toP (newNs blks 100) nm)) v, usOf (toP (newNs blks 100) nm) (assocN (newNs blks 100) blks), ks, plainR css :: ob⟩
      | none => none
    | none => none
  | none => none
theorem roSum_ok {P : Program} {f : FuncId} (he : Enters P f) {F : RoF}
    (h : ∀ ar css v blks ob, F ar css = some (v, blks, ob) → (∀ p ∈ ob, p) → plainR css → css.length ≤ 100 →
      blks.length ≤ 4 ∧ (∀ x ∈ blks, x.plain ∧ x.wr = true) ∧ (∀ j ∈ nms v, j < css.length ∨ (100 ≤ j ∧ j < 100 + blks.length)) ∧ CallSpec P f ar (roRows css) css.length v (assocN (newNs blks 100) blks))
    (hlen : ∀ ar css r, F ar css = some r → css.length ≤ 100) : SumOK P f (roSum F) := by
  refine ⟨he, ?_, ?_⟩
  · intro args H nm r hr hob M w0 g B w hH hargs hn
    unfold roSum at hr
    split at hr
    · rename_i ar ks hc
      split at hr
      · rename_i css hcss
        split at hr
        · rename_i v blks ob hF
          simp only [Option.some.injEq] at hr
          subst hr
          have hpl : plainR css := hob _ (List.mem_cons_self ..)
          have hl100 := hlen ar css _ hF
          obtain ⟨h1, h2, h3, h4⟩ := h ar css v blks ob hF (fun p hp => hob p (List.mem_cons_of_mem _ hp)) hpl hl100
          obtain ⟨c1, c2⟩ := canL_ok can1_ok hc
          obtain ⟨r1, r2⟩ := rowsOf_spec hcss
          have hnd : ((num ks 0 ++ toP (newNs blks 100) nm).map (·.1)).Nodup := by
            rw [List.map_append, num_fst, toP_fst]
            refine List.nodup_append.2 ⟨List.nodup_range', newNs_nodup _ _, fun a ha b hb => ?_⟩
            have e1 := List.mem_range'.1 ha
            have e2 := newNs_mem.1 hb
            obtain ⟨m, hm1, hm2⟩ := e1
            omega
          have hall : ∀ j, (j < css.length ∨ (100 ≤ j ∧ j < 100 + blks.length)) → ∃ k, (j, k) ∈ num ks 0 ++ toP (newNs blks 100) nm := by
            rintro j (hj | hj)
            · have hj' : j < ks.length := by omega
              exact ⟨ks[j], List.mem_append_left _ (num_mem.2 ⟨j, List.getElem?_eq_getElem hj', by omega⟩)⟩
            · have h' : j ∈ (toP (newNs blks 100) nm).map (·.1) := by rw [toP_fst]; exact newNs_mem.2 hj
              obtain ⟨⟨m, k'⟩, hm', he⟩ := List.mem_map.1 h'
              simp only at he; subst he
              exact ⟨k', List.mem_append_right _ hm'⟩
          have := ro_calls (old := num ks 0) (new := toP (newNs blks 100) nm) (nm := nm) h4 hnd (toP_snd _ nm)
            (fun j k hjk => by
              obtain ⟨m, hm1, rfl⟩ := num_mem.1 hjk
              obtain ⟨b, cs, hb, hr, hcs⟩ := r2 m k hm1
              have hlt := (List.getElem?_eq_some_iff.1 hcs).1
              refine ⟨by omega, b, hb, fun b0 hb0 => ⟨cs, hr, ?_, hpl cs (List.mem_of_getElem? hcs)⟩⟩
              unfold roRows at hb0
              rw [Nat.zero_add, hcs] at hb0
              simp at hb0
              exact hb0.symm)
            (fun j b hb => by
              unfold roRows at hb
              split at hb
              · rename_i cs hcs
                have hlt := (List.getElem?_eq_some_iff.1 hcs).1
                have hj' : j < ks.length := by omega
                exact ⟨ks[j], num_mem.2 ⟨j, List.getElem?_eq_getElem hj', by omega⟩⟩
              · simp at hb)
            (fun m k hmk => by
              obtain ⟨e1, e2, e3⟩ := toP_mem hmk
              rw [newNs_len] at e3
              have e4 := newNs_mem.1 e1
              obtain ⟨x, hx, hy⟩ := assoc_new e4.1 e4.2
              refine ⟨⟨e2, by omega⟩, x, hy, (h2 x hx).2, (h2 x hx).1.noIt, fun cs hcs c hcc j hj => ?_⟩
              have hp := (h2 x hx).1
              have : leafG c = true := by
                cases x <;> simp only [Blk.row, Option.some.injEq, reduceCtorEq] at hcs <;> subst hcs <;> exact hp c hcc
              rw [nm0_leafG this] at hj; simp at hj)
            (fun j hj => hall j (h3 j hj))
            (fun u hu j hj => by
              have := c2 u hu j hj
              have hj' : j < ks.length := by omega
              exact ⟨ks[j], num_mem.2 ⟨j, List.getElem?_eq_getElem hj', by omega⟩⟩)
            hH hn
          have hl0 : At (look (num ks 0)) 0 ks := by have := look_num (ks := ks) (more := []); rwa [List.append_nil] at this
          rw [c1 _ hl0] at this
          have hus : ∀ f, usR f (toP (newNs blks 100) nm) (assocN (newNs blks 100) blks) = usOf (toP (newNs blks 100) nm) (assocN (newNs blks 100) blks) := by
            intro f
            unfold usR usOf
            refine List.map_congr_left fun p hp => ?_
            congr 1
            simp only
            cases ha : assocN (newNs blks 100) blks p.1 with
            | none => rfl
            | some x =>
              obtain ⟨i, _, hi⟩ := assocN_mem ha
              have := (h2 x (List.mem_of_getElem? hi)).1
              simp only [this.rnB]
          rw [hus] at this
          exact this
        · simp at hr
      · simp at hr
    · simp at hr
  · intro args H nm r hr H' hH'
    unfold roSum at hr ⊢
    split at hr
    · rename_i ar ks hc
      split at hr
      · rename_i css hcss
        split at hr
        · rename_i v blks ob hF
          simp only [Option.some.injEq] at hr
          have : rowsOf H' ks = rowsOf H ks := rowsOf_congr fun k hk => hH' k (by rw [← hr]; exact hk)
          rw [this, hcss]
          simp only [hF]
          rw [hr]
        · simp at hr
      · simp at hr
    · simp at hr
end Go.Proofs.Ythbaccmhdffjdaa.Ev

set_option linter.unusedVariables false
set_option linter.unusedSimpArgs false
set_option maxRecDepth 100000
namespace Go.Proofs.Ythbaccmhdffjdaa.Ev
open Go Go.RowKit
theorem hm : Try.prog.follows .mixedOrders = true := by kernel_rfl
theorem hN : namesB Try.prog = true := by kernel_rfl
abbrev noHint : Nat → Nat → Nat → Hint := fun _ _ _ => {}
noncomputable abbrev auto0 (given : Sums) : Sums := auto Try.prog given (fun _ => []) (fun _ => noHint) 8
theorem auto0_ok {given : Sums} (h : SumsOK Try.prog given) : SumsOK Try.prog (auto0 given) := auto_ok hm hN h _ _ 8
noncomputable abbrev auto1 (given : Sums) : Sums := autoH Try.prog given (fun _ => []) (fun _ => noHint) 8
theorem auto1_ok {given : Sums} (h : SumsOK Try.prog given) : SumsOK Try.prog (auto1 given) := autoH_ok hm hN h _ _ 8
noncomputable abbrev autoM (given : Sums) : Sums := autoR Try.prog given (fun _ => []) (fun _ => noHint) 8
theorem autoM_ok {given : Sums} (h : SumsOK Try.prog given) : SumsOK Try.prog (autoM given) := autoR_ok hm hN h _ _ 8
theorem en {f : FuncId} {fn : Func} {c : Code} (hf : Try.prog.funcs[f]? = some fn) (hb : fn.body = some c) : Enters Try.prog f := enters_of hN hf hb
noncomputable abbrev t_none : Sums := fun _ => none
theorem t_none_ok : SumsOK Try.prog t_none := sums_none
abbrev i64 (n : Int) : Value := .int .i64 n
abbrev sp (a b : Int) : Value := .agg ⟨[.int .i64 a, .int .i64 b]⟩
abbrev I64 (n : Int) : Prop := -9223372036854775808 ≤ n ∧ n ≤ 9223372036854775807
abbrev bb (x y : Bool) : Prop := Value.bool x = Value.bool y
theorem bb_of {x y : Bool} (h : x = y) : bb x y := by rw [h]
abbrev ht (b : Bool) : Hint := { v := some (.bool b) }
theorem cond_ite (b : Bool) {α : Type} (x y : α) : (bif b then x else y) = if b = true then x else y := by cases b <;> rfl
theorem bool_eq {a b : Bool} (h : a = b) : Value.bool a = Value.bool b := by rw [h]
theorem int_eq {k : IntKind} {a b : Int} (h : a = b) : Value.int k a = Value.int k b := by rw [h]
theorem wrap_id {n : Int} (h : I64 n) : IntKind.i64.wrap n = n := by rw [IntKind.wrap_i64]; omega
end Go.Proofs.Ythbaccmhdffjdaa.Ev


set_option linter.unusedVariables false
set_option linter.unusedSimpArgs false
namespace Go.Proofs.Ythbaccmhdffjdaa.Ev
open Go Go.RowKit
/-- The mark of a room. -/
abbrev mk : Nat := Ev.mark
def ro1 (cs : List Value) : Heap := upd (fun _ => none) 0 (some (.ro cs))
/-- The numbers that stand in a row from a place on. -/
def intsOf (cs : List Value) (off n : Nat) : List Int := ((cs.drop off).take n).map intV
def IntRow (k : IntKind) (cs : List Value) (off n : Nat) : Prop := off + n ≤ cs.length ∧ ∀ j, j < n → cs[off + j]? = some (.int k ((intsOf cs off n).getD j 0))
theorem intsOf_len {cs : List Value} {off n : Nat} (h : off + n ≤ cs.length) : (intsOf cs off n).length = n := by simp [intsOf]; omega
theorem intRow_of (k : IntKind) (zs : List Int) : IntRow k (zs.map (Value.int k)) 0 zs.length ∧ intsOf (zs.map (Value.int k)) 0 zs.length = zs := by
  have h : intsOf (zs.map (Value.int k)) 0 zs.length = zs := by
    simp only [intsOf, List.drop_zero]
    rw [List.take_of_length_le (by simp), List.map_map]
    conv => rhs; rw [← List.map_id zs]
    exact List.map_congr_left fun x _ => rfl
  refine ⟨⟨by simp, fun j hj => ?_⟩, h⟩
  rw [h]
  simp [List.getD, List.getElem?_eq_getElem hj]
/-- What is read of a row of one-cell values. -/
theorem readPart_one {P : Program} {ty : TypeId} (ha : aggT P ty = some false) {cs : List Value} {off : Nat} {v : Value} (h : cs[off]? = some v) (hl : leaf v = true) : readPart P ty cs off = some v := by
  have hlt : off < cs.length := (List.getElem?_eq_some_iff.1 h).1
  have he : cs[off] = v := (List.getElem?_eq_some_iff.1 h).2
  have : sub cs off 1 = some [v] := by
    rw [sub_of (by omega)]
    simp [List.drop_eq_getElem_cons hlt, he]
  simp [readPart, ha, this, hl]
theorem i64_id {z w : Int} (h : z = w) (h1 : -9223372036854775808 ≤ w) (h2 : w ≤ 9223372036854775807) : Value.int .i64 (IntKind.i64.wrap z) = Value.int .i64 w := by
  subst h; rw [wrap_id ⟨h1, h2⟩]
theorem i64_succ {i : Nat} (h : i < 9223372036854775807) : Value.int .i64 (IntKind.i64.wrap (Int.ofNat i.succ)) = Value.int .i64 (Int.ofNat i.succ) := by
  refine i64_id rfl ?_ ?_
  · exact Int.le_trans (by decide) (Int.natCast_nonneg (i + 1))
  · show ((i + 1 : Nat) : Int) ≤ _
    omega
end Go.Proofs.Ythbaccmhdffjdaa.Ev


set_option linter.unusedVariables false
set_option linter.unusedSimpArgs false
namespace Go.Proofs.Ythbaccmhdffjdaa.Ev
open Go Go.RowKit
structure Elt (α : Type) where
  cells : α → List Value
  s : Nat
  of : List Value → α
  len : ∀ x, (cells x).length = s
  ofc : ∀ x, of (cells x) = x
  pl : ∀ x, ∀ c ∈ cells x, leafG c = true
namespace Elt
variable {α : Type} (e : Elt α)
def row (l : List α) : List Value := l.flatMap e.cells
def list (cs : List Value) (off n : Nat) : List α := (List.range n).map fun i => e.of ((cs.drop (off + i * e.s)).take e.s)
def Row (cs : List Value) (off n : Nat) : Prop := off + n * e.s ≤ cs.length ∧ ∀ i, i < n → (cs.drop (off + i * e.s)).take e.s = e.cells (e.of ((cs.drop (off + i * e.s)).take e.s))
variable {e}
theorem row_nil : e.row [] = [] := rfl
theorem row_cons (x : α) (l : List α) : e.row (x :: l) = e.cells x ++ e.row l := by simp [row]
theorem row_app (l m : List α) : e.row (l ++ m) = e.row l ++ e.row m := by simp [row]
theorem row_one (x : α) : e.row [x] = e.cells x := by simp [row]
theorem row_len (l : List α) : (e.row l).length = l.length * e.s := by
  induction l with
  | nil => simp [row]
  | cons x l ih => rw [row_cons, List.length_append, ih, e.len]; simp [Nat.succ_mul]; omega
theorem row_pl (l : List α) : ∀ c ∈ e.row l, leafG c = true := by
  intro c hc
  obtain ⟨x, _, hx⟩ := List.mem_flatMap.1 hc
  exact e.pl x c hx
theorem row_drop (l : List α) (i : Nat) : (e.row l).drop (i * e.s) = e.row (l.drop i) := by
  induction l generalizing i with
  | nil => simp [row]
  | cons x l ih =>
    cases i with
    | zero => simp
    | succ i =>
      rw [row_cons, Nat.succ_mul, Nat.add_comm, ← List.drop_drop, List.drop_left' (e.len x), ih]
      simp
theorem row_take (l : List α) (i : Nat) : (e.row l).take (i * e.s) = e.row (l.take i) := by
  induction l generalizing i with
  | nil => simp [row]
  | cons x l ih =>
    cases i with
    | zero => simp [row]
    | succ i =>
      rw [row_cons, Nat.succ_mul, List.take_append, e.len, List.take_of_length_le (by rw [e.len]; omega), show i * e.s + e.s - e.s = i * e.s by omega, ih]
      rw [List.take_succ_cons, row_cons]
theorem row_at (l : List α) (tail : List Value) {i : Nat} {x : α} (h : l[i]? = some x) : ((e.row l ++ tail).drop (i * e.s)).take e.s = e.cells x := by
  have hlt := (List.getElem?_eq_some_iff.1 h).1
  have he := (List.getElem?_eq_some_iff.1 h).2
  have h1 : (i + 1) * e.s ≤ l.length * e.s := Nat.mul_le_mul_right _ hlt
  rw [Nat.succ_mul] at h1
  rw [List.drop_append_of_le_length (by rw [row_len]; omega), row_drop, List.drop_eq_getElem_cons hlt, he, row_cons, List.append_assoc, List.take_left' (e.len x)]
theorem row_sub (l : List α) (tail : List Value) {i : Nat} {x : α} (h : l[i]? = some x) : sub (e.row l ++ tail) (i * e.s) e.s = some (e.cells x) := by
  have hlt := (List.getElem?_eq_some_iff.1 h).1
  have h1 : (i + 1) * e.s ≤ l.length * e.s := Nat.mul_le_mul_right _ hlt
  rw [Nat.succ_mul] at h1
  rw [sub_of (by rw [List.length_append, row_len]; omega), row_at l tail h]
/-- A row that is laid as a list tells: it reads as that list. -/
theorem canon (l : List α) (tail : List Value) : e.Row (e.row l ++ tail) 0 l.length ∧ e.list (e.row l ++ tail) 0 l.length = l := by
  refine ⟨⟨by rw [List.length_append, row_len]; omega, fun i hi => ?_⟩, ?_⟩
  · rw [Nat.zero_add, row_at l tail (List.getElem?_eq_getElem hi), e.ofc]
  · apply List.ext_getElem
    · simp [list]
    · intro i h1 h2
      simp only [list, List.getElem_map, List.getElem_range, Nat.zero_add]
      rw [row_at l tail (List.getElem?_eq_getElem h2), e.ofc]
theorem canon0 (l : List α) : e.Row (e.row l) 0 l.length ∧ e.list (e.row l) 0 l.length = l := by have := canon (e := e) l []; simpa using this
theorem list_len (cs : List Value) (off n : Nat) : (e.list cs off n).length = n := by simp [list]
theorem Row.get {cs : List Value} {off n : Nat} (h : e.Row cs off n) {i : Nat} {x : α} (hx : (e.list cs off n)[i]? = some x) : sub cs (off + i * e.s) e.s = some (e.cells x) := by
  have hlt := (List.getElem?_eq_some_iff.1 hx).1
  have he := (List.getElem?_eq_some_iff.1 hx).2
  rw [list_len] at hlt
  have h1 : (i + 1) * e.s ≤ n * e.s := Nat.mul_le_mul_right _ hlt
  rw [Nat.succ_mul] at h1
  have h0 := h.1
  rw [sub_of (by omega), h.2 i hlt]
  simp [list] at he
  rw [he]
/-- What is read of a row of structs. -/
theorem Row.read {P : Program} {ty : TypeId} (ha : aggT P ty = some true) (hs : sizeOfT P ty = some e.s) {cs : List Value} {off n : Nat} (h : e.Row cs off n) {i : Nat} {x : α} (hx : (e.list cs off n)[i]? = some x) : readPart P ty cs (off + i * e.s) = some (.agg ⟨e.cells x⟩) := by
  simp only [readPart, ha, hs, h.get hx]
theorem Row.read1 {P : Program} {ty : TypeId} (ha : aggT P ty = some false) (hs : e.s = 1) {cs : List Value} {off n : Nat} (h : e.Row cs off n) {i : Nat} {x : α} (hx : (e.list cs off n)[i]? = some x) {v : Value} (hv : e.cells x = [v]) (hl : leaf v = true) : readPart P ty cs (off + i) = some v := by
  have := h.get hx
  rw [hs, Nat.mul_one, hv] at this
  simp [readPart, ha, this, hl]
theorem Row.take {cs : List Value} {off n m : Nat} (h : e.Row cs off n) (hm : m ≤ n) : e.Row cs off m ∧ e.list cs off m = (e.list cs off n).take m := by
  have h1 : m * e.s ≤ n * e.s := Nat.mul_le_mul_right _ hm
  refine ⟨⟨by have := h.1; omega, fun i hi => h.2 i (by omega)⟩, ?_⟩
  simp only [list, ← List.map_take, List.take_range, Nat.min_eq_left hm]
end Elt
/-! ### What the evaluator owes of rows -/
section
variable {α : Type} {e : Elt α}
theorem appOK {L new : List α} {ty : TypeId} {own : Option Blk} {n m size bytes : Nat} {src res : List Value} (hown : own = some (.vec (e.row L) ty size)) (hs : size = e.s) (hm : m = new.length) (hsrc : src = e.row new) (hn : n ≤ L.length) (hres : res = e.row (L.take n ++ new))
    (h1 : 1 ≤ m) (hb : n + m ≤ 16777216) (hby : (n + m) * bytes ≤ 140737488355328) : AppOK own n mk size bytes m src 0 res := by
  subst hown
  subst hs
  subst hm
  subst hsrc
  subst hres
  refine ⟨e.row (L.take n), e.row new, ?_, ?_, h1, hb, hby, Elt.row_app _ _, rfl, ?_, (Elt.row_take L n).symm⟩
  · rw [sub_of (by rw [Elt.row_len]; omega), List.drop_zero, List.take_of_length_le (by rw [Elt.row_len]; omega)]
  · exact allB_iff.2 fun c hc => leaf_of_leafG (Elt.row_pl _ c hc)
  · rw [Elt.row_len]; exact Nat.mul_le_mul_right _ hn
theorem appOK_nil {new : List α} {m size bytes : Nat} {src res : List Value} (hs : size = e.s) (hm : m = new.length) (hsrc : src = e.row new) (hres : res = e.row new)
    (h1 : 1 ≤ m) (hb : m ≤ 16777216) (hby : m * bytes ≤ 140737488355328) : AppOK none 0 0 size bytes m src 0 res := by
  subst hs
  subst hm
  subst hsrc
  subst hres
  refine ⟨[], e.row new, ?_, ?_, h1, by omega, by rw [Nat.zero_add]; exact hby, rfl, rfl, rfl, rfl⟩
  · rw [sub_of (by rw [Elt.row_len]; omega), List.drop_zero, List.take_of_length_le (by rw [Elt.row_len]; omega)]
  · exact allB_iff.2 fun c hc => leaf_of_leafG (Elt.row_pl _ c hc)
theorem slOK_pre {size k n h : Nat} {i : Int} {cs : List Value} {ty : TypeId} (hi : i = (h : Int)) (hh : h ≤ n) (hs : 1 ≤ size) (hc : n * size ≤ cs.length) :
    SlOK size k 0 n mk none (some i) (some (.vec cs ty size)) (.slice (some ⟨k, 0, none⟩) h mk) :=
  ⟨0, h, rfl, hi, Nat.zero_le _, hh, Or.inl ⟨Nat.le_refl _, ⟨cs, ty, rfl, hs, by rw [Nat.sub_self, Nat.zero_add]; exact hc⟩, Or.inl rfl, by simp⟩⟩
theorem read_row {P : Program} {ty : TypeId} (ha : aggT P ty = some true) (hs : sizeOfT P ty = some e.s) {L : List α} {i : Nat} {x : α} (h : L[i]? = some x) : readPart P ty (e.row L) (0 + (Int.ofNat i).toNat * e.s) = some (.agg ⟨e.cells x⟩) := by
  have := (Elt.canon0 (e := e) L).1.read (P := P) (ty := ty) ha hs (i := i) (x := x) (by rw [(Elt.canon0 L).2]; exact h)
  exact this
theorem i64_pred {n : Nat} (h : n < 9223372036854775807) : Value.int .i64 (IntKind.i64.wrap (Int.ofNat n.succ - 1)) = Value.int .i64 (Int.ofNat n) := by
  have e : Int.ofNat n.succ - 1 = (n : Int) := by show ((n + 1 : Nat) : Int) - 1 = n; omega
  rw [e]
  exact i64_id (w := (n : Int)) rfl (by omega) (by omega)
theorem nat_in {n : Nat} : (0 : Int) ≤ Int.ofNat n ∧ Int.ofNat n < Int.ofNat n.succ := ⟨Int.natCast_nonneg n, Int.ofNat_lt.2 (Nat.lt_succ_self n)⟩
end
abbrev i64s (l : List Int) : List Value := l.map (Value.int .i64)
/-- Numbers. -/
def eInt : Elt Int := ⟨fun z => [.int .i64 z], 1, fun cs => match cs with | [.int _ z] => z | _ => 0, fun _ => rfl, fun _ => rfl, fun x c hc => by simp at hc; subst hc; rfl⟩
def eWord : Elt Int := ⟨fun z => [.int .u64 z], 1, fun cs => match cs with | [.int _ z] => z | _ => 0, fun _ => rfl, fun _ => rfl, fun x c hc => by simp at hc; subst hc; rfl⟩
/-- A box: five spans. -/
structure Bx where
  a0 : Int
  b0 : Int
  a1 : Int
  b1 : Int
  a2 : Int
  b2 : Int
  a3 : Int
  b3 : Int
  a4 : Int
  b4 : Int
deriving DecidableEq
def Bx.cs (x : Bx) : List Value := [.int .i64 x.a0, .int .i64 x.b0, .int .i64 x.a1, .int .i64 x.b1, .int .i64 x.a2, .int .i64 x.b2, .int .i64 x.a3, .int .i64 x.b3, .int .i64 x.a4, .int .i64 x.b4]
def eBox : Elt Bx := ⟨Bx.cs, 10, fun cs => match cs with | [.int _ a0, .int _ b0, .int _ a1, .int _ b1, .int _ a2, .int _ b2, .int _ a3, .int _ b3, .int _ a4, .int _ b4] => ⟨a0, b0, a1, b1, a2, b2, a3, b3, a4, b4⟩ | _ => ⟨0, 0, 0, 0, 0, 0, 0, 0, 0, 0⟩, fun _ => rfl, fun _ => rfl, fun x c hc => by
  simp [Bx.cs] at hc
  rcases hc with rfl | rfl | rfl | rfl | rfl | rfl | rfl | rfl | rfl | rfl <;> rfl⟩
/-- A step of a proof. -/
structure Stp where
  sum : Bool
  place : Int
  at_ : Int
deriving DecidableEq
def eStp : Elt Stp := ⟨fun x => [.bool x.sum, .int .i64 x.place, .int .i64 x.at_], 3, fun cs => match cs with | [.bool s, .int _ p, .int _ a] => ⟨s, p, a⟩ | _ => ⟨false, 0, 0⟩, fun _ => rfl, fun _ => rfl, fun x c hc => by
  simp at hc
  rcases hc with rfl | rfl | rfl <;> rfl⟩
/-- A piece: a box, a value. -/
structure Pc where
  box : Bx
  val : Int
deriving DecidableEq
def ePc : Elt Pc := ⟨fun x => x.box.cs ++ [.int .i64 x.val], 11, fun cs => match cs with | [.int _ a0, .int _ b0, .int _ a1, .int _ b1, .int _ a2, .int _ b2, .int _ a3, .int _ b3, .int _ a4, .int _ b4, .int _ v] => ⟨⟨a0, b0, a1, b1, a2, b2, a3, b3, a4, b4⟩, v⟩ | _ => ⟨⟨0, 0, 0, 0, 0, 0, 0, 0, 0, 0⟩, 0⟩, fun _ => rfl, fun _ => rfl, fun x c hc => by
  simp [Bx.cs] at hc
  rcases hc with rfl | rfl | rfl | rfl | rfl | rfl | rfl | rfl | rfl | rfl | rfl <;> rfl⟩
/-- cells of numbers and bools that are the same. -/
theorem cellsEq_app {a b c d : List Value} (h : a.length = b.length) : cellsEq (a ++ c) (b ++ d) = (cellsEq a b && cellsEq c d) := by
  have key : ∀ (x y : Value) (xs ys : List Value), xs.length = ys.length → cellsEq (x :: xs) (y :: ys) = (leafEq x y && cellsEq xs ys) := by
    intro x y xs ys hl
    cases xs with
    | nil =>
      cases ys with
      | nil => simp [cellsEq]
      | cons _ _ => simp at hl
    | cons u us =>
      cases ys with
      | nil => simp at hl
      | cons _ _ => simp [cellsEq]
  have key2 : ∀ (x y : Value) (xs ys : List Value), cellsEq (x :: xs) (y :: ys) = (leafEq x y && cellsEq xs ys) := by
    intro x y xs ys
    by_cases hl : xs.length = ys.length
    · exact key x y xs ys hl
    · cases xs with
      | nil =>
        cases ys with
        | nil => simp at hl
        | cons _ _ => simp [cellsEq]
      | cons u us =>
        cases ys with
        | nil => simp [cellsEq]
        | cons _ _ => simp [cellsEq]
  induction a generalizing b with
  | nil =>
    cases b with
    | nil => simp [cellsEq]
    | cons _ _ => simp at h
  | cons x a ih =>
    cases b with
    | nil => simp at h
    | cons y b =>
      simp only [List.cons_append, key2, ih (b := b) (by simpa using h), Bool.and_assoc]
end Go.Proofs.Ythbaccmhdffjdaa.Ev


set_option linter.unusedVariables false
set_option linter.unusedSimpArgs false
namespace Go.Proofs.Ythbaccmhdffjdaa.Ev
open Go Go.RowKit
abbrev L10 : List (Option IntKind) := [some .i64, some .i64, some .i64, some .i64, some .i64, some .i64, some .i64, some .i64, some .i64, some .i64]
abbrev kB (b : Bx) : Value := .agg ⟨b.cs⟩
structure EB where
  b : Bx
  n : Int
  s : Nat
def EB.ent (e : EB) : Ent := (kB e.b, .int .i64 e.n, e.s)
def esB (l : List EB) : List Ent := l.map EB.ent
def putB (b : Bx) (n : Int) (c : Nat) : List EB → List EB
  | [] => [⟨b, n, c⟩]
  | e :: l => if b = e.b then ⟨e.b, n, e.s⟩ :: l else e :: putB b n c l
def getK (b : Bx) : List EB → Int
  | [] => 0
  | e :: l => if b = e.b then e.n else getK b l
def hasK (b : Bx) : List EB → Bool
  | [] => false
  | e :: l => if b = e.b then true else hasK b l
theorem keyEq_kB (a b : Bx) : keyEq (kB a) (kB b) = decide (a = b) := by
  obtain ⟨a0, b0, a1, b1, a2, b2, a3, b3, a4, b4⟩ := a
  obtain ⟨c0, d0, c1, d1, c2, d2, c3, d3, c4, d4⟩ := b
  rw [Bool.eq_iff_iff]
  simp [keyEq, cellsEq, leafEq, Bx.cs, and_assoc]
theorem mput_esB (b : Bx) (n : Int) (c : Nat) : ∀ l : List EB, mput (kB b) (.int .i64 n) c (esB l) = esB (putB b n c l)
  | [] => rfl
  | e :: l => by
    show (bif keyEq (kB b) (kB e.b) then _ else _) = _
    rw [keyEq_kB]
    by_cases h : b = e.b
    · rw [decide_eq_true h]; simp only [putB, if_pos h]; rfl
    · rw [decide_eq_false h]; simp only [putB, if_neg h, cond_false]
      show _ :: mput (kB b) (.int .i64 n) c (esB l) = _
      rw [mput_esB b n c l]; rfl
theorem mget_esB (b : Bx) : ∀ l : List EB, mgetI (kB b) (esB l) = getK b l
  | [] => rfl
  | e :: l => by
    show (bif keyEq (kB b) (kB e.b) then _ else mgetI (kB b) (esB l)) = _
    rw [keyEq_kB, mget_esB b l]
    by_cases h : b = e.b
    · rw [decide_eq_true h]; simp only [getK, if_pos h]; rfl
    · rw [decide_eq_false h]; simp only [getK, if_neg h, cond_false]
theorem mhas_esB (b : Bx) : ∀ l : List EB, mhas (kB b) (esB l) = hasK b l
  | [] => rfl
  | e :: l => by
    show (bif keyEq (kB b) (kB e.b) then true else mhas (kB b) (esB l)) = _
    rw [keyEq_kB, mhas_esB b l]
    by_cases h : b = e.b
    · rw [decide_eq_true h]; simp only [hasK, if_pos h]; rfl
    · rw [decide_eq_false h]; simp only [hasK, if_neg h, cond_false]
/-- Keys apart, stamps rising, all below the clock. -/
structure OKB (l : List EB) (c : Nat) : Prop where
  keys : (l.map (·.b)).Nodup
  borns : l.Pairwise fun a b => a.s < b.s
  clock : ∀ e ∈ l, e.s < c
theorem okB_nil : OKB [] 0 := ⟨List.nodup_nil, List.Pairwise.nil, fun e h => by simp at h⟩
theorem hasK_iff {b : Bx} : ∀ {l : List EB}, hasK b l = true ↔ b ∈ l.map (·.b)
  | [] => by simp [hasK]
  | e :: l => by
    simp only [hasK, List.map_cons, List.mem_cons]
    by_cases h : b = e.b
    · simp [h]
    · simp only [if_neg h, hasK_iff (l := l)]; simp [h]
theorem put_keys (b : Bx) (n : Int) (c : Nat) : ∀ l : List EB, (putB b n c l).map (·.b) = bif hasK b l then l.map (·.b) else l.map (·.b) ++ [b]
  | [] => rfl
  | e :: l => by
    simp only [putB, hasK]
    by_cases h : b = e.b
    · simp [h]
    · simp only [if_neg h, List.map_cons, put_keys b n c l]
      cases hasK b l <;> rfl
theorem put_stamps (b : Bx) (n : Int) (c : Nat) : ∀ l : List EB, (putB b n c l).map (·.s) = bif hasK b l then l.map (·.s) else l.map (·.s) ++ [c]
  | [] => rfl
  | e :: l => by
    simp only [putB, hasK]
    by_cases h : b = e.b
    · simp [h]
    · simp only [if_neg h, List.map_cons, put_stamps b n c l]
      cases hasK b l <;> rfl
theorem okB_put {l : List EB} {c : Nat} (h : OKB l c) (b : Bx) (n : Int) : OKB (putB b n c l) (bif hasK b l then c else c + 1) := by
  have hk := put_keys b n c l
  have hs := put_stamps b n c l
  have hb : (l.map (·.s)).Pairwise (· < ·) := by rw [List.pairwise_map]; exact h.borns
  have hc : ∀ x ∈ l.map (·.s), x < c := fun x hx => by obtain ⟨e, he, rfl⟩ := List.mem_map.1 hx; exact h.clock e he
  refine ⟨?_, ?_, fun e he => ?_⟩
  · rw [hk]
    cases hh : hasK b l
    · rw [cond_false, List.nodup_append]
      refine ⟨h.keys, by simp, fun x hx y hy => ?_⟩
      simp at hy
      subst hy
      intro e
      subst e
      have := hasK_iff.2 hx
      rw [hh] at this
      exact absurd this (by simp)
    · exact h.keys
  · have : ((putB b n c l).map (·.s)).Pairwise (· < ·) := by
      rw [hs]
      cases hasK b l
      · rw [cond_false, List.pairwise_append]
        exact ⟨hb, by simp, fun x hx y hy => by simp at hy; subst hy; exact hc x hx⟩
      · exact hb
    rw [List.pairwise_map] at this
    exact this
  · have he' : e.s ∈ (putB b n c l).map (·.s) := List.mem_map.2 ⟨e, he, rfl⟩
    rw [hs] at he'
    cases hh : hasK b l <;> rw [hh] at he'
    · rw [cond_false, List.mem_append] at he'
      rcases he' with he' | he'
      · have := hc _ he'; simp only [cond_false]; omega
      · simp at he'; simp only [cond_false]; omega
    · exact hc _ he'
theorem okB_map {l : List EB} {c : Nat} (h : OKB l c) : MapOK L10 true (some .i64) (esB l) c := by
  refine ⟨fun e he => ?_, fun e he => ?_, ?_, fun e he => ?_⟩
  · obtain ⟨x, _, rfl⟩ := List.mem_map.1 he; rfl
  · obtain ⟨x, _, rfl⟩ := List.mem_map.1 he; rfl
  · rw [esB, List.pairwise_map]; exact h.borns
  · obtain ⟨x, hx, rfl⟩ := List.mem_map.1 he; exact h.clock x hx
theorem getK_put (a b : Bx) (n : Int) (c : Nat) : ∀ l : List EB, getK a (putB b n c l) = if a = b then n else getK a l
  | [] => by simp only [putB, getK]
  | e :: l => by
    by_cases h : b = e.b
    · subst h
      simp only [putB, if_true, getK]
      by_cases h2 : a = e.b <;> simp [h2]
    · simp only [putB, if_neg h, getK, getK_put a b n c l]
      by_cases h2 : a = e.b
      · have : a ≠ b := fun e' => h (e' ▸ h2)
        rw [if_pos h2, if_neg this, if_pos h2]
      · rw [if_neg h2, if_neg h2]
theorem hasK_put (a b : Bx) (n : Int) (c : Nat) (l : List EB) : hasK a (putB b n c l) = (decide (a = b) || hasK a l) := by
  rw [Bool.eq_iff_iff, hasK_iff, put_keys]
  cases h : hasK b l
  · rw [cond_false, List.mem_append, Bool.or_eq_true, decide_eq_true_eq, hasK_iff]
    simp only [List.mem_cons, List.not_mem_nil, or_false]
    exact Or.comm
  · rw [cond_true, Bool.or_eq_true, decide_eq_true_eq, hasK_iff]
    constructor
    · exact Or.inr
    · rintro (rfl | h2)
      · exact hasK_iff.1 h
      · exact h2
theorem len_put (b : Bx) (n : Int) (c : Nat) (l : List EB) : (putB b n c l).length = bif hasK b l then l.length else l.length + 1 := by
  have := congrArg List.length (put_keys b n c l)
  rw [List.length_map] at this
  rw [this]
  cases hasK b l <;> simp
theorem getK_mem {l : List EB} {c : Nat} (h : OKB l c) {e : EB} (he : e ∈ l) : getK e.b l = e.n ∧ hasK e.b l = true := by
  refine ⟨?_, hasK_iff.2 (List.mem_map.2 ⟨e, he, rfl⟩)⟩
  have hk := h.keys
  clear h
  induction l with
  | nil => simp at he
  | cons x l ih =>
    obtain ⟨h1, h2⟩ := List.nodup_cons.1 hk
    rcases List.mem_cons.1 he with rfl | he
    · simp [getK]
    · have hne : e.b ≠ x.b := fun e' => h1 (List.mem_map.2 ⟨e, he, e'⟩)
      simp only [getK, if_neg hne]
      exact ih he h2
theorem getK_no {b : Bx} : ∀ {l : List EB}, hasK b l = false → getK b l = 0
  | [], _ => rfl
  | e :: l, h => by
    simp only [hasK] at h
    split at h
    · simp at h
    · rename_i hne
      simp only [getK, if_neg hne]
      exact getK_no h
end Go.Proofs.Ythbaccmhdffjdaa.Ev


set_option linter.unusedVariables false
set_option linter.unusedSimpArgs false
namespace Go.Proofs.Ythbaccmhdffjdaa.Ev
open Go Go.RowKit Go.Deep
/-- A slice whose elements are such. -/
def Opened {α : Type} (W : World) (e : Elt α) (good : α → Prop) (v : Value) : Prop :=
  v = .slice none 0 0 ∨ ∃ (b off cap : Nat) (l : List α), v = .slice (some ⟨b, off, none⟩) l.length cap ∧ l.length ≤ cap ∧ cap ≤ maxLen ∧ (∀ x ∈ l, good x) ∧ ∃ c ty fz, W.heap[b]? = some (.cells c ty fz) ∧ ∀ i u, (e.row l)[i]? = some u → c[off + i]? = some u
theorem row_get {α : Type} (e : Elt α) : ∀ (l : List α) (i : Nat) (u : Value), (e.row l)[i]? = some u → ∃ (j r : Nat) (x : α), l[j]? = some x ∧ (e.cells x)[r]? = some u ∧ i = j * e.s + r ∧ r < e.s
  | [], i, u, h => by simp [Elt.row] at h
  | x :: l, i, u, h => by
    rw [Elt.row_cons] at h
    by_cases hi : i < e.s
    · rw [List.getElem?_append_left (by rw [e.len]; exact hi)] at h
      exact ⟨0, i, x, rfl, h, by omega, hi⟩
    · rw [List.getElem?_append_right (by rw [e.len]; omega), e.len] at h
      obtain ⟨j, r, y, h1, h2, h3, h4⟩ := row_get e l _ u h
      exact ⟨j + 1, r, y, by simpa using h1, h2, by rw [Nat.succ_mul]; omega, h4⟩
theorem choose_list {α : Type} (p : Nat → α → Prop) : ∀ n, (∀ i, i < n → ∃ x, p i x) → ∃ l : List α, l.length = n ∧ ∀ i x, l[i]? = some x → p i x
  | 0, _ => ⟨[], rfl, by simp⟩
  | n + 1, h => by
    obtain ⟨l, h1, h2⟩ := choose_list p n (fun i hi => h i (by omega))
    obtain ⟨x, hx⟩ := h n (by omega)
    refine ⟨l ++ [x], by simp [h1], fun i y hy => ?_⟩
    by_cases hi : i < l.length
    · rw [List.getElem?_append_left hi] at hy; exact h2 i y hy
    · rw [List.getElem?_append_right (by omega)] at hy
      have : i - l.length = 0 := by
        rcases Nat.eq_zero_or_pos (i - l.length) with h0 | h0
        · exact h0
        · rw [List.getElem?_eq_none (by simp; omega)] at hy; simp at hy
      rw [this] at hy
      simp at hy
      subst hy
      have : i = n := by omega
      subst this
      exact hx
section
variable {H : Type} {enc : TypeId × Value → H} {P : Program} {W : World} {base : Nat} {spare : Nat → Bool} {held : Bool} {r : Reach} {b0 : Nat}
theorem open_row {α : Type} {e : Elt α} {good : α → Prop} {t et : TypeId} {fuel : Nat} {v : Value} {y : DataW H × List MemPlace} (ht : P.underlying t = some (.slice et)) (hc : P.cellsOf et = e.s)
    (elem : ∀ n cs z, DataW.trod enc P W base spare held n et cs = some z → ∃ x, cs = e.cells x ∧ good x) (hv : Cell.okWide P W r b0 t v) (h : DataW.trod enc P W base spare held fuel t [v] = some y) : Opened W e good v := by
  rcases open_slice ht h with ⟨h0, _⟩ | ⟨a, len, cap, m, n, D, Pl, hcs, _, hl, hm, hmm, _, hx⟩
  · left; simpa using h0
  right
  have hcs : v = .slice (some a) len cap := by simpa using hcs
  subst hcs
  have hok : W.has P r b0 a et cap := by
    simp only [Cell.okWide, ht, Cell.ok] at hv
    exact hv.2.2
  obtain ⟨_, hsp, row, cells, hsh, _⟩ := hok
  obtain ⟨blk, off, spot⟩ := a
  simp only at hsp hsh
  subst hsp
  have hlm : len ≤ m := by rw [hmm]; split <;> omega
  obtain ⟨c, ty, fz, hblk⟩ : ∃ c ty fz, W.heap[blk]? = some (.cells c ty fz) := by
    unfold World.shape? at hsh
    split at hsh
    · rename_i c ty fz hb; exact ⟨c, ty, fz, hb⟩
    · simp at hsh
  obtain ⟨l, hl1, hl2⟩ := choose_list (fun i x => good x ∧ ∀ j u, (e.cells x)[j]? = some u → c[off + (i * e.s + j)]? = some u) len (fun i hi => by
    obtain ⟨cs', h1, h2⟩ := hx i (by omega)
    obtain ⟨x, rfl, hg⟩ := elem _ _ _ h2
    obtain ⟨_, hlen, hcell⟩ := World.cells?_some h1
    refine ⟨x, hg, fun j u hj => ?_⟩
    have hjl : j < P.cellsOf et := by
      have := (List.getElem?_eq_some_iff.1 hj).1
      omega
    have := hcell j hjl
    rw [add_add, hj, plain_add, hc] at this
    simpa [World.cell?, hblk] using this)
  refine ⟨blk, off, cap, l, by rw [hl1], by rw [hl1]; exact hl, hm, fun x hx' => ?_, c, ty, fz, hblk, fun i u hu => ?_⟩
  · obtain ⟨j, hj⟩ := List.getElem?_of_mem hx'
    exact (hl2 j x hj).1
  · obtain ⟨j, q, x, h1, h2, h3, _⟩ := row_get e l i u hu
    rw [h3]
    exact (hl2 j x h1).2 q u h2
theorem elem_int {k : IntKind} {t : TypeId} (ht : P.underlying t = some (.int k)) (n : Nat) (cs : List Value) (z : DataW H × List MemPlace) (h : DataW.trod enc P W base spare held n t cs = some z) : ∃ x : Int, cs = [.int k x] ∧ (Lit.int k x).wf = true := by
  obtain ⟨m, h1, _, h2⟩ := DataW.trod_int ht h
  exact ⟨m, h1, h2⟩
theorem wf64 {n : Int} (h : (Lit.int .i64 n).wf = true) : I64 n := by
  simp [Lit.wf, IntKind.has, IntKind.min, IntKind.max, IntKind.signed, IntKind.bits] at h
  exact ⟨by omega, by omega⟩
end
/-- Names stand for these addresses. -/
def Nm.at (l : List (Nat × Nat)) : Nm := ⟨fun k => match l[k]? with | some p => p.1 | none => 0, fun k => match l[k]? with | some p => p.2 | none => 0, fun _ => 0⟩
/-- What a call does that only reads, where its arguments lie there. -/
theorem calls_ro {P : Program} {f : FuncId} {args : List Value} {H0 : Heap} {nx : Nat} {v : Value} (hs : CallSpec P f args H0 nx v (assocN [] [])) (hv : gnd v = true) (hro : ∀ j b, H0 j = some b → j < nx ∧ ∃ cs, b = .ro cs ∧ ∀ c ∈ cs, leafG c = true)
    (hnm : ∀ u ∈ args, ∀ j ∈ nms u, j < nx) {W : World} {l : List (Nat × Nat)} (hat : ∀ j cs, H0 j = some (.ro cs) → (Blk.ro cs).Holds (Nm.at l) j W.heap[(Nm.at l).blk j]?) :
    Calls P f (args.map (ren (Nm.at l))).toArray W fun e w' => e = .returned v ∧ Below W.heap.size W w' := by
  have hwr : ∀ j b, H0 j = some b → b.wr = false := fun j b hb => by obtain ⟨_, cs, rfl, _⟩ := hro j b hb; rfl
  have hH : HC (fun _ => False) W (Nm.at l) (· < nx) H0 W := by
    refine ⟨BelowBut.refl _ _, fun j b hb => (hro j b hb).1, fun j b hb => ?_, fun j b hb => ?_, fun j b hb hw => by rw [hwr j b hb] at hw; simp at hw, fun i j b c hb hc hw he => by rw [hwr i b hb] at hw; simp at hw⟩
    · obtain ⟨_, cs, rfl, hp⟩ := hro j b hb
      exact fun c hc => In0.leafG (hp c hc)
    · obtain ⟨_, cs, rfl, _⟩ := hro j b hb
      exact hat j cs hb
  refine (ro_own hs hwr (fun _ h => h) hH (fun u hu => inB_lt (hnm u hu))).mono ?_
  rintro e w' ⟨g', B', _, hc, rfl⟩
  exact ⟨by rw [ren_gnd g' hv], hc.below.below⟩
end Go.Proofs.Ythbaccmhdffjdaa.Ev


set_option linter.unusedVariables false
set_option linter.unusedSimpArgs false
namespace Go.Proofs.Ythbaccmhdffjdaa.Ev
open Go Go.RowKit
/-- Under that name: nil, or a row. -/
def CanAt {α : Type} (e : Elt α) (good : α → Prop) (k : Nat) (u : Value) (r : Option (List Value)) : Prop :=
  (u = .slice none 0 0 ∧ r = none) ∨ ∃ (l : List α) (cap : Nat), u = .slice (some ⟨k, 0, none⟩) l.length cap ∧ r = some (e.row l) ∧ l.length ≤ cap ∧ cap ≤ maxLen ∧ ∀ x ∈ l, good x
section
variable {α : Type} {e : Elt α} {good : α → Prop} {k : Nat} {u : Value} {r : Option (List Value)}
theorem CanAt.nm0 (h : CanAt e good k u r) : ∀ j ∈ nm0 u, j = k := by
  rcases h with ⟨rfl, _⟩ | ⟨l, cap, rfl, _⟩
  · simp [Ev.nm0]
  · simp [Ev.nm0]
theorem CanAt.nms (h : CanAt e good k u r) : ∀ j ∈ nms u, j = k := by
  rcases h with ⟨rfl, _⟩ | ⟨l, cap, rfl, _⟩
  · simp [Ev.nms, nm1, Ev.nm0]
  · simp [Ev.nms, nm1, Ev.nm0]
theorem CanAt.ren (h : CanAt e good k u r) (g : Nm) : ren g u = ren0 g u := by
  rcases h with ⟨rfl, _⟩ | ⟨l, cap, rfl, _⟩ <;> rfl
theorem small_cap {c : Nat} (h : c ≤ maxLen) : Nat.ble mark c = false := by
  cases hb : Nat.ble mark c with
  | false => rfl
  | true =>
    have := Nat.le_of_ble_eq_true hb
    unfold mark maxLen at *
    omega
theorem Opened.can {W : World} {v : Value} (h : Opened W e good v) (k : Nat) : ∃ (u : Value) (r : Option (List Value)) (ad : Nat × Nat), CanAt e good k u r ∧ (∀ l : List (Nat × Nat), l[k]? = some ad → ren0 (Nm.at l) u = v) ∧ (∀ j ∈ Ev.nms u, j = k) ∧
    ∀ cs, r = some cs → (∀ c ∈ cs, leafG c = true) ∧ ∀ l : List (Nat × Nat), l[k]? = some ad → (Blk.ro cs).Holds (Nm.at l) k W.heap[(Nm.at l).blk k]? := by
  rcases h with rfl | ⟨b, off, cap, l, rfl, hl, hm, hg, c, ty, fz, hb, hc⟩
  · exact ⟨.slice none 0 0, none, (0, 0), Or.inl ⟨rfl, rfl⟩, fun _ _ => rfl, by simp [Ev.nms, nm1, Ev.nm0], fun _ h => by simp at h⟩
  · have hca : CanAt e good k (.slice (some ⟨k, 0, none⟩) l.length cap) (some (e.row l)) := Or.inr ⟨l, cap, rfl, rfl, hl, hm, hg⟩
    refine ⟨_, _, (b, off), hca, fun m hk => ?_, hca.nms, fun cs hcs => ?_⟩
    · simp only [ren0, renA, Nm.at, hk, capOf, small_cap hm, cond_false, Nat.add_zero]
    · simp at hcs; subst hcs
      refine ⟨Elt.row_pl _, fun m hk => ?_⟩
      have e1 : (Nm.at m).blk k = b := by simp [Nm.at, hk]
      have e2 : (Nm.at m).base k = off := by simp [Nm.at, hk]
      rw [e1]
      refine ⟨c, ty, fz, hb, fun i v hv => ?_⟩
      rw [e2, hc i v hv, ren0_leafG _ (Elt.row_pl _ v (List.mem_of_getElem? hv))]
end
theorem slOK_ro {size k off n c h : Nat} {b : Option Blk} (hh : h ≤ n) (hn : n ≤ c) (hc : c ≤ maxLen) : SlOK size k off n c none (some (h : Int)) b (.slice (some ⟨k, off, none⟩) h c) := by
  have hm : c < mark := by unfold mark maxLen at *; omega
  refine ⟨0, h, rfl, rfl, Nat.zero_le _, hh, Or.inr ⟨hm, hn, ?_⟩⟩
  by_cases h0 : c = 0
  · exact Or.inl ⟨h0, by simp⟩
  · exact Or.inr ⟨h0, by simp⟩
theorem eInt_row (l : List Int) : eInt.row l = l.map (Value.int .i64) := by
  induction l with
  | nil => rfl
  | cons x l ih => rw [Elt.row_cons, ih]; rfl
theorem int_row {l : List Int} (h : ∀ x ∈ l, I64 x) : IntRow .i64 (eInt.row l) 0 l.length ∧ ∀ z ∈ intsOf (eInt.row l) 0 l.length, I64 z := by
  obtain ⟨h1, h2⟩ := intRow_of .i64 l
  rw [eInt_row]
  exact ⟨h1, by rw [h2]; exact h⟩
theorem ints_of (l : List Int) : intsOf (eInt.row l) 0 l.length = l := by
  rw [eInt_row]; exact (intRow_of .i64 l).2
end Go.Proofs.Ythbaccmhdffjdaa.Ev


set_option linter.unusedVariables false
set_option linter.unusedSimpArgs false
namespace Go.Proofs.Ythbaccmhdffjdaa.Ev
open Go Go.RowKit
theorem lset_of : ∀ {cs : List Value} {o : Nat} {vs : List Value}, o + vs.length ≤ cs.length → lset cs o vs = some (cs.take o ++ vs ++ cs.drop (o + vs.length))
  | cs, 0, [], _ => by cases cs <;> simp [lset]
  | [], 0, v :: vs, h => by simp at h
  | [], o + 1, vs, h => by simp at h
  | c :: cs, 0, v :: vs, h => by
    have := lset_of (cs := cs) (o := 0) (vs := vs) (by simp at h ⊢; omega)
    simp only [lset, this]
    simp
  | c :: cs, o + 1, vs, h => by
    have := lset_of (cs := cs) (o := o) (vs := vs) (by simp at h; omega)
    simp only [lset, this]
    rw [show o + 1 + vs.length = (o + vs.length) + 1 by omega]
    simp
theorem lset_mid {a b c vs r : List Value} {f : Nat} (h : lset b f vs = some r) : lset (a ++ (b ++ c)) (a.length + f) vs = some (a ++ (r ++ c)) := by
  obtain ⟨h1, h2⟩ := lset_spec h
  rw [lset_of (by simp; omega), h1]
  congr 1
  rw [List.take_length_add_append, List.take_append_of_le_length (by omega), show a.length + f + vs.length = a.length + (f + vs.length) by omega, List.drop_length_add_append, List.drop_append_of_le_length (by omega)]
  simp
/-- A store into one struct of a row. -/
theorem lset_row {α : Type} {e : Elt α} {l : List α} {k f : Nat} {x y : α} {vs : List Value} (hk : l[k]? = some y) (h : lset (e.cells y) f vs = some (e.cells x)) : lset (e.row l) (k * e.s + f) vs = some (e.row (l.set k x)) := by
  have hlt := (List.getElem?_eq_some_iff.1 hk).1
  have he := (List.getElem?_eq_some_iff.1 hk).2
  have e1 : l = l.take k ++ y :: l.drop (k + 1) := by
    conv => lhs; rw [← List.take_append_drop k l]
    rw [List.drop_eq_getElem_cons hlt, he]
  have e2 : l.set k x = l.take k ++ x :: l.drop (k + 1) := by
    rw [List.set_eq_take_append_cons_drop, if_pos hlt]
  have e3 : e.row l = e.row (l.take k) ++ (e.cells y ++ e.row (l.drop (k + 1))) := by
    conv => lhs; rw [e1]
    rw [Elt.row_app, Elt.row_cons]
  rw [e2, e3, Elt.row_app, Elt.row_cons]
  have hl : (e.row (l.take k)).length = k * e.s := by rw [Elt.row_len, List.length_take, Nat.min_eq_left (by omega)]
  rw [← hl]
  exact lset_mid h
section
variable {α : Type} {e : Elt α}
theorem appG {L M : List α} {ty : TypeId} {own : Option Blk} {n m c size bytes o : Nat} {res : List Value} (hown : (own = some (.vec (e.row L) ty size) ∧ c = mk) ∨ (own = some (.cells [] ty) ∧ n = 0 ∧ c = 0)) (hs : size = e.s) {k : Nat} (ho : o = k * e.s) (hk : k + m ≤ M.length) (hn : n ≤ L.length) (hres : res = e.row (L.take n ++ (M.drop k).take m))
    (h1 : 1 ≤ m) (hb : n + m ≤ 16777216) (hby : (n + m) * bytes ≤ 140737488355328) : AppOK own n c size bytes m (e.row M) o res := by
  subst hs
  subst hres
  subst ho
  have hkm : k * e.s + m * e.s ≤ M.length * e.s := by rw [← Nat.add_mul]; exact Nat.mul_le_mul_right _ hk
  refine ⟨e.row (L.take n), e.row ((M.drop k).take m), ?_, ?_, h1, hb, hby, Elt.row_app _ _, ?_⟩
  · rw [sub_of (by rw [Elt.row_len]; exact hkm), Elt.row_drop, Elt.row_take]
  · exact allB_iff.2 fun c hc => leaf_of_leafG (Elt.row_pl _ c hc)
  · rcases hown with ⟨rfl, rfl⟩ | ⟨rfl, rfl, rfl⟩
    · refine ⟨rfl, ?_, (Elt.row_take L n).symm⟩
      rw [Elt.row_len]; exact Nat.mul_le_mul_right _ hn
    · refine ⟨by simp, by omega, by omega, ?_⟩
      simp [Elt.row]
theorem rowN {L : List α} {n : Nat} (h : n = L.length) : e.Row (e.row L) 0 n := by subst h; exact (Elt.canon0 L).1
theorem rowM {L : List α} {n : Nat} (h : n ≤ L.length) : e.Row (e.row L) 0 n := ((Elt.canon0 L).1.take h).1
theorem listM {L : List α} {n : Nat} (h : n ≤ L.length) : e.list (e.row L) 0 n = L.take n := by rw [((Elt.canon0 L).1.take h).2, (Elt.canon0 L).2]
theorem plain1 {cs : List Value} (h : ∀ x ∈ cs, leafG x = true) : plainR [cs] := by
  intro x hx
  simp at hx
  subst hx
  exact h
end
section
variable {α : Type} {e : Elt α}
theorem appC {L M : List α} {ty : TypeId} {own : Option Blk} {n m c size bytes : Nat} {res : List Value} (hown : own = some (.cells (e.row L) ty)) (hs : size = e.s) (hn : n ≤ c) (hc16 : c ≤ 16777216) (hc : c = L.length) (hres : res = e.row (L.take n ++ M))
    (h1 : 1 ≤ m) (hb : n + m ≤ 16777216) (hby : (n + m) * bytes ≤ 140737488355328) (hm : m = M.length := by rfl) : AppOK own n c size bytes m (e.row M) 0 res := by
  subst hs
  subst hres
  subst hown
  subst hc
  subst hm
  refine ⟨e.row (L.take n), e.row M, ?_, ?_, h1, hb, hby, Elt.row_app _ _, ?_⟩
  · rw [sub_of (by rw [Elt.row_len]; omega), List.drop_zero, List.take_of_length_le (by rw [Elt.row_len]; omega)]
  · exact allB_iff.2 fun c hc => leaf_of_leafG (Elt.row_pl _ c hc)
  · exact ⟨Elt.row_len L, hn, hc16, (Elt.row_take L n).symm⟩
theorem plain2 {cs ds : List Value} (h : ∀ x ∈ cs, leafG x = true) (g : ∀ x ∈ ds, leafG x = true) : plainR [cs, ds] := by
  intro x hx
  simp at hx
  rcases hx with rfl | rfl
  · exact h
  · exact g
end
theorem lsetE {α : Type} {e : Elt α} {l : List α} {k f o : Nat} {x y : α} {vs : List Value} (hk : l[k]? = some y) (h : lset (e.cells y) f vs = some (e.cells x)) (ho : o = k * e.s + f) : lset (e.row l) o vs = some (e.row (l.set k x)) := by
  subst ho; exact lset_row hk h
/-- The rest of a row. -/
theorem slK {i : Int} {α : Type} {e : Elt α} {n h m c : Nat} {L : List α} {ty : TypeId} {nm o size : Nat} (hi : i = (h : Int)) (hh : h + 1 ≤ n) (hm : m = n - h) (hc : c = mk + h) (ho : o = 0 + h * size) (hs : size = e.s) (h1 : 1 ≤ size) (hl : n ≤ L.length := by omega) : SlOK size nm 0 n mk (some i) none (some (.vec (e.row L) ty size)) (.slice (some ⟨nm, o, none⟩) m c) := by
  subst hm
  subst hc
  subst ho
  subst hs
  refine ⟨h, n, hi, rfl, by omega, Nat.le_refl _, Or.inl ⟨Nat.le_refl _, ⟨_, ty, rfl, h1, ?_⟩, Or.inr hh, rfl⟩⟩
  rw [Elt.row_len, Nat.sub_self, Nat.zero_add]
  exact Nat.mul_le_mul_right _ hl
section
variable {α : Type} {e : Elt α}
theorem Elt.Row.eq_row {cs : List Value} {off n : Nat} (h : e.Row cs off n) : (cs.drop off).take (n * e.s) = e.row (e.list cs off n) := by
  induction n with
  | zero => simp [Elt.row, Elt.list]
  | succ n ih =>
    have h1 : e.Row cs off n := (h.take (Nat.le_succ n)).1
    have hn := h.2 n (Nat.lt_succ_self n)
    rw [Nat.succ_mul, List.take_add, ih h1, List.drop_drop, hn]
    simp only [Elt.list, List.range_succ, List.map_append, List.map_cons, List.map_nil, Elt.row_app, Elt.row_one]
theorem repl_row {x : α} {zs : List Value} (h : e.cells x = zs) : ∀ n : Nat, repl zs n = e.row (List.replicate n x)
  | 0 => rfl
  | n + 1 => by simp only [repl, repl_row h n, List.replicate_succ, Elt.row_cons, h]
/-- A copy of a whole list into new memory. -/
theorem copyOK {cs : List Value} {o n m : Nat} {zs : List α} {size : Nat} {res : List Value} (hr : e.Row cs o n) (hs : size = e.s) (hm : n ≤ m) (hz : zs.length = m) (hpl : ∀ c ∈ cs, leafG c = true) (hres : res = e.row (e.list cs o n ++ zs.drop n)) : CopyOK n m size 0 cs o (e.row zs) res := by
  subst hs
  subst hres
  have hmin : Nat.min n m = n := Nat.min_eq_left hm
  have hle : n * e.s ≤ zs.length * e.s := Nat.mul_le_mul_right _ (by omega)
  refine ⟨e.row (e.list cs o n), ?_, allB_iff.2 fun c hc => leaf_of_leafG (Elt.row_pl _ c hc), ?_⟩
  · rw [hmin, sub_of hr.1, hr.eq_row]
  · rw [lset_of (by rw [Elt.row_len, Elt.list_len, Elt.row_len]; omega)]
    rw [Elt.row_len, Elt.list_len, Nat.zero_add, Elt.row_drop, List.take_zero, List.nil_append, Elt.row_app]
end
end Go.Proofs.Ythbaccmhdffjdaa.Ev


set_option linter.unusedVariables false
set_option linter.unusedSimpArgs false
namespace Go.Proofs.Ythbaccmhdffjdaa.Ev
open Go Go.RowKit
def rowsL (rs : List (Option (List Value))) : Heap := fun k => match rs[k]? with
  | some (some x) => some (.ro x)
  | _ => none
/-- What a slice that comes in tells, under its name. -/
def CanQ (W : World) (k : Nat) (r : Option (List Value)) (ad : Nat × Nat) : Prop :=
  ∀ cs, r = some cs → (∀ c ∈ cs, leafG c = true) ∧ ∀ l : List (Nat × Nat), l[k]? = some ad → (Blk.ro cs).Holds (Nm.at l) k W.heap[(Nm.at l).blk k]?
/-- What a call does that only reads rows. -/
theorem calls_rows {P : Program} {f : FuncId} {args : List Value} {rs : List (Option (List Value))} {nx : Nat} {v : Value} (hs : CallSpec P f args (rowsL rs) nx v (assocN [] [])) (hv : gnd v = true) (hlen : rs.length ≤ nx)
    (hnm : ∀ u ∈ args, ∀ j ∈ nms u, j < nx) {W : World} {l : List (Nat × Nat)} (hq : ∀ j r ad, rs[j]? = some r → l[j]? = some ad → CanQ W j r ad) (hl : rs.length ≤ l.length) :
    Calls P f (args.map (ren (Nm.at l))).toArray W fun e w' => e = .returned v ∧ Below W.heap.size W w' := by
  have key : ∀ j b, rowsL rs j = some b → j < rs.length ∧ ∃ cs, b = .ro cs ∧ rs[j]? = some (some cs) := by
    intro j b h
    unfold rowsL at h
    split at h
    · rename_i x hx
      simp at h
      exact ⟨(List.getElem?_eq_some_iff.1 hx).1, x, h.symm, hx⟩
    · simp at h
  refine calls_ro hs hv (fun j b hb => ?_) hnm (fun j cs hj => ?_)
  · obtain ⟨h1, cs, h2, h3⟩ := key j b hb
    exact ⟨by omega, cs, h2, (hq j _ (l[j]'(by omega)) h3 (List.getElem?_eq_getElem (by omega)) cs rfl).1⟩
  · obtain ⟨h1, cs', h2, h3⟩ := key j _ hj
    injection h2 with h2
    subst h2
    exact (hq j _ (l[j]'(by omega)) h3 (List.getElem?_eq_getElem (by omega)) _ rfl).2 l (List.getElem?_eq_getElem (by omega))
theorem canQ_none (W : World) (k : Nat) (ad : Nat × Nat) : CanQ W k none ad := fun _ h => by simp at h
end Go.Proofs.Ythbaccmhdffjdaa.Ev


set_option linter.unusedVariables false
set_option linter.unusedSimpArgs false
set_option maxRecDepth 100000
namespace Go.Proofs.Ythbaccmhdffjdaa.Mg
open Go Go.RowKit Go.Proofs.Ythbaccmhdffjdaa.Ev

structure MG where
  i : Nat
  l : List EB
  c : Nat
def fMg (cs : List Value) (o n c0 : Nat) (Q : MG → Prop) : LoopF MG where
  ts _ := [3, 7, 8, 9]
  hs _ := [0, 10]
  tv _ := fun ⟨i, l, c⟩ => [.map (some 10), .slice (some ⟨0, o, none⟩) n c0, .int .i64 (n : Int), .int .i64 (i : Int)]
  hv _ := fun ⟨i, l, c⟩ => [.ro cs, .map L10 true (some .i64) (esB l) c]
  inv _ := Q
  mu _ := fun ⟨i, l, c⟩ => n - i
  nx := 12
theorem fMg_ok (cs : List Value) (o n c0 : Nat) (Q : MG → Prop) (hpl : ∀ x ∈ cs, leafG x = true) : (fMg cs o n c0 Q).OK 1 := by
  refine ⟨(by decide : 1 ≤ 12), fun z i h k hk => ?_, fun z i h v hv k hk => ?_, fun z i h x hx => ?_⟩
  · show k < 12
    simp [fMg] at hk; omega
  · show k < 12
    simp [fMg] at hv
    rcases hv with rfl | rfl | rfl | rfl <;> simp [nms, nm1, nm0] at hk <;> omega
  · simp [fMg] at hx
    rcases hx with rfl | rfl
    · exact Blk.plain.namesLt (b := .ro cs) hpl _
    · trivial
/-- One piece more. -/
def mgS (s : List EB × Nat) (x : Pc) : List EB × Nat := (putB x.box (IntKind.i64.wrap (getK x.box s.1 + x.val)) s.2 s.1, bif hasK x.box s.1 then s.2 else s.2 + 1)
def mgGo (l : List Pc) : List EB × Nat := l.foldl mgS ([], 0)
def mergeL (l : List Pc) : List EB := (mgGo l).1
def mergeC (l : List Pc) : Nat := (mgGo l).2
theorem mg_ok (l : List Pc) : OKB (mgGo l).1 (mgGo l).2 := by
  unfold mgGo
  have : ∀ (l : List Pc) (s : List EB × Nat), OKB s.1 s.2 → OKB (l.foldl mgS s).1 (l.foldl mgS s).2 := fun l => by
    induction l with
    | nil => exact fun s h => h
    | cons x l ih => exact fun s h => ih _ (okB_put h _ _)
  exact this l _ okB_nil
end Go.Proofs.Ythbaccmhdffjdaa.Mg


set_option linter.unusedVariables false
set_option linter.unusedSimpArgs false
set_option maxRecDepth 100000
namespace Go.Proofs.Ythbaccmhdffjdaa.Mg
open Go Go.RowKit Go.Proofs.Ythbaccmhdffjdaa.Ev Go.Proofs.Ythbaccmhdffjdaa.Mg

theorem mgNil (u : Unit)  {E : Env} (hE : EnvOK E Try.prog Try.f16 1 0 (.map (some 100)) [100] [.map L10 true (some .i64) (esB []) 0]) (hob : all ([Back (Value.map (some 4)) (Value.map (some 100)) [Blk.map [some IntKind.i64, some IntKind.i64, some IntKind.i64, some IntKind.i64, some IntKind.i64, some IntKind.i64, some IntKind.i64, some IntKind.i64, some IntKind.i64, some IntKind.i64] true (some IntKind.i64) [] 0] [Blk.map [some IntKind.i64, some IntKind.i64, some IntKind.i64, some IntKind.i64, some IntKind.i64, some IntKind.i64, some IntKind.i64, some IntKind.i64, some IntKind.i64, some IntKind.i64] true (some IntKind.i64) [] 0] [(100, 4)]])) : Sat E [.code (bodyOf Try.f16)] (st0 Try.f16 [.slice none 0 0] (roRows []) 0) :=
  by_ret (T := auto0 t_none) (h := hints []) (ws := []) (nx' := 101) hE hm (auto0_ok t_none_ok) (by omega) (by simp) (by intro x hx; simp at hx; subst hx; trivial) (by kernel_rfl) hob
theorem mgIn (cs : List Value) (o n c0 : Nat) (Q : MG → Prop)  {E : Env} {rv : Value} {rhs : List Nat} {rhv : List Blk} (hE : EnvOK E Try.prog Try.f16 1 1 rv rhs rhv) (hL : (fMg cs o n c0 Q).OK 1) (hob : all ([SameK (atLp (lp Try.f16 0)) (atLp (lp Try.f16 0)), Enter (fMg cs o n c0 Q) 0 none [Value.map (some 5), Value.slice (some (Addr.mk 0 o none)) n c0, Value.int IntKind.i64 ((n : Int)), Value.int IntKind.i64 ((0 : Int))] [Blk.ro cs, Blk.map [some IntKind.i64, some IntKind.i64, some IntKind.i64, some IntKind.i64, some IntKind.i64, some IntKind.i64, some IntKind.i64, some IntKind.i64, some IntKind.i64, some IntKind.i64] true (some IntKind.i64) [] 0] [(10, 5), (0, 0)]])) (hK : ∀ zz, (fMg cs o n c0 Q).inv 0 zz → ltO ((fMg cs o n c0 Q).mu 0 zz) none → Sat E (atLp (lp Try.f16 0)) ((fMg cs o n c0 Q).st 0 zz)) : Sat E [.code (bodyOf Try.f16)] (st0 Try.f16 [.slice (some ⟨0, o, none⟩) n c0] (roRows [cs]) 1) :=
  by_to (T := auto0 t_none) (h := hints []) (ws := [.stop]) (i0 := ⟨0, [], 0⟩) hE hm (auto0_ok t_none_ok) hL (by kernel_rfl) hob hK
theorem mgB (cs : List Value) (o n c0 : Nat) (Q : MG → Prop) (i : Nat) (l l2 : List EB) (c : Nat) (bo : Bx) (v g nn : Int) (J : Act → World → Prop) {E : Env} {rv : Value} {rhs : List Nat} {rhv : List Blk} (hE : EnvOK E Try.prog Try.f16 1 1 rv rhs rhv) (hL : (fMg cs o n c0 Q).OK 1) (hob : all ([SameK (mkLp (lp Try.f16 0) J) (mkLp (lp Try.f16 0) J), Enter (fMg cs o n c0 Q) 0 (some (n - i)) [Value.map (some 10), Value.slice (some (Addr.mk 0 o none)) n c0, Value.int IntKind.i64 ((n : Int)), Value.int IntKind.i64 (Int.ofNat i.succ)] [Blk.ro cs, Blk.map [some IntKind.i64, some IntKind.i64, some IntKind.i64, some IntKind.i64, some IntKind.i64, some IntKind.i64, some IntKind.i64, some IntKind.i64, some IntKind.i64, some IntKind.i64] true (some IntKind.i64) (esB l2) (bif mhas (Value.agg (Array.mk [Value.int IntKind.i64 bo.a0, Value.int IntKind.i64 bo.b0, Value.int IntKind.i64 bo.a1, Value.int IntKind.i64 bo.b1, Value.int IntKind.i64 bo.a2, Value.int IntKind.i64 bo.b2, Value.int IntKind.i64 bo.a3, Value.int IntKind.i64 bo.b3, Value.int IntKind.i64 bo.a4, Value.int IntKind.i64 bo.b4])) (esB l) then c else c + 1)] [(10, 10), (0, 0)], Value.int IntKind.i64 (IntKind.i64.wrap (Int.ofNat i.succ)) = Value.int IntKind.i64 (Int.ofNat i.succ), some (Value.int IntKind.i64 (mgetI (Value.agg (Array.mk [Value.int IntKind.i64 bo.a0, Value.int IntKind.i64 bo.b0, Value.int IntKind.i64 bo.a1, Value.int IntKind.i64 bo.b1, Value.int IntKind.i64 bo.a2, Value.int IntKind.i64 bo.b2, Value.int IntKind.i64 bo.a3, Value.int IntKind.i64 bo.b3, Value.int IntKind.i64 bo.a4, Value.int IntKind.i64 bo.b4])) (mens (Value.agg (Array.mk [Value.int IntKind.i64 bo.a0, Value.int IntKind.i64 bo.b0, Value.int IntKind.i64 bo.a1, Value.int IntKind.i64 bo.b1, Value.int IntKind.i64 bo.a2, Value.int IntKind.i64 bo.b2, Value.int IntKind.i64 bo.a3, Value.int IntKind.i64 bo.b3, Value.int IntKind.i64 bo.a4, Value.int IntKind.i64 bo.b4])) (zeroOf (some IntKind.i64)) c (esB l)))) = some (Value.int IntKind.i64 (mgetI (Value.agg (Array.mk [Value.int IntKind.i64 bo.a0, Value.int IntKind.i64 bo.b0, Value.int IntKind.i64 bo.a1, Value.int IntKind.i64 bo.b1, Value.int IntKind.i64 bo.a2, Value.int IntKind.i64 bo.b2, Value.int IntKind.i64 bo.a3, Value.int IntKind.i64 bo.b3, Value.int IntKind.i64 bo.a4, Value.int IntKind.i64 bo.b4])) (esB l))), mborn (Int.ofNat (mstamp (Value.agg (Array.mk [Value.int IntKind.i64 bo.a0, Value.int IntKind.i64 bo.b0, Value.int IntKind.i64 bo.a1, Value.int IntKind.i64 bo.b1, Value.int IntKind.i64 bo.a2, Value.int IntKind.i64 bo.b2, Value.int IntKind.i64 bo.a3, Value.int IntKind.i64 bo.b3, Value.int IntKind.i64 bo.a4, Value.int IntKind.i64 bo.b4])) c (esB l))) (mens (Value.agg (Array.mk [Value.int IntKind.i64 bo.a0, Value.int IntKind.i64 bo.b0, Value.int IntKind.i64 bo.a1, Value.int IntKind.i64 bo.b1, Value.int IntKind.i64 bo.a2, Value.int IntKind.i64 bo.b2, Value.int IntKind.i64 bo.a3, Value.int IntKind.i64 bo.b3, Value.int IntKind.i64 bo.a4, Value.int IntKind.i64 bo.b4])) (zeroOf (some IntKind.i64)) c (esB l)) = true, mset (Int.ofNat (mstamp (Value.agg (Array.mk [Value.int IntKind.i64 bo.a0, Value.int IntKind.i64 bo.b0, Value.int IntKind.i64 bo.a1, Value.int IntKind.i64 bo.b1, Value.int IntKind.i64 bo.a2, Value.int IntKind.i64 bo.b2, Value.int IntKind.i64 bo.a3, Value.int IntKind.i64 bo.b3, Value.int IntKind.i64 bo.a4, Value.int IntKind.i64 bo.b4])) c (esB l))) (Value.int IntKind.i64 nn) (mens (Value.agg (Array.mk [Value.int IntKind.i64 bo.a0, Value.int IntKind.i64 bo.b0, Value.int IntKind.i64 bo.a1, Value.int IntKind.i64 bo.b1, Value.int IntKind.i64 bo.a2, Value.int IntKind.i64 bo.b2, Value.int IntKind.i64 bo.a3, Value.int IntKind.i64 bo.b3, Value.int IntKind.i64 bo.a4, Value.int IntKind.i64 bo.b4])) (zeroOf (some IntKind.i64)) c (esB l)) = esB l2, Value.int IntKind.i64 (IntKind.i64.wrap (g + v)) = Value.int IntKind.i64 nn, Value.int IntKind.i64 (mgetI (Value.agg (Array.mk [Value.int IntKind.i64 bo.a0, Value.int IntKind.i64 bo.b0, Value.int IntKind.i64 bo.a1, Value.int IntKind.i64 bo.b1, Value.int IntKind.i64 bo.a2, Value.int IntKind.i64 bo.b2, Value.int IntKind.i64 bo.a3, Value.int IntKind.i64 bo.b3, Value.int IntKind.i64 bo.a4, Value.int IntKind.i64 bo.b4])) (esB l)) = Value.int IntKind.i64 g, readPart Try.prog 27 cs (o + ((i : Int)).toNat * 11) = some (Value.agg (Array.mk [Value.int IntKind.i64 bo.a0, Value.int IntKind.i64 bo.b0, Value.int IntKind.i64 bo.a1, Value.int IntKind.i64 bo.b1, Value.int IntKind.i64 bo.a2, Value.int IntKind.i64 bo.b2, Value.int IntKind.i64 bo.a3, Value.int IntKind.i64 bo.b3, Value.int IntKind.i64 bo.a4, Value.int IntKind.i64 bo.b4, Value.int IntKind.i64 v])), (0 : Int) ≤ (i : Int) ∧ (i : Int) < (n : Int), decide ((↑i : Int) < (↑n : Int)) = true])) (hK : ∀ zz, (fMg cs o n c0 Q).inv 0 zz → ltO ((fMg cs o n c0 Q).mu 0 zz) (some (n - i)) → Sat E (mkLp (lp Try.f16 0) J) ((fMg cs o n c0 Q).st 0 zz)) : Sat E (inLp (lp Try.f16 0) J) ((fMg cs o n c0 Q).st 0 ⟨i, l, c⟩) :=
  by_to (T := auto0 t_none) (h := hints [(4, 0, {p := true}), (4, 1, {o := some (.agg ⟨bo.cs ++ [.int .i64 v]⟩)}), (5, 3, {v := some (.int .i64 g)}), (5, 6, {v := some (.int .i64 nn)}), (5, 9, {e := some (esB l2)}), (6, 0, {v := some (.int .i64 ((i + 1 : Nat) : Int))})]) (ws := [.b true]) (i0 := ⟨i + 1, l2, c⟩) hE hm (auto0_ok t_none_ok) hL (by kernel_rfl) hob hK
theorem mgE (cs : List Value) (o n c0 : Nat) (Q : MG → Prop) (i : Nat) (l : List EB) (c : Nat) (J : Act → World → Prop) {E : Env} (hE : EnvOK E Try.prog Try.f16 1 1 (.map (some 100)) [100] [.map L10 true (some .i64) (esB l) c]) (hob : all ([Back (Value.map (some 10)) (Value.map (some 100)) [Blk.map [some IntKind.i64, some IntKind.i64, some IntKind.i64, some IntKind.i64, some IntKind.i64, some IntKind.i64, some IntKind.i64, some IntKind.i64, some IntKind.i64, some IntKind.i64] true (some IntKind.i64) (esB l) c] [Blk.map [some IntKind.i64, some IntKind.i64, some IntKind.i64, some IntKind.i64, some IntKind.i64, some IntKind.i64, some IntKind.i64, some IntKind.i64, some IntKind.i64, some IntKind.i64] true (some IntKind.i64) (esB l) c] [(100, 10)], decide ((↑i : Int) < (↑n : Int)) = false])) : Sat E (inLp (lp Try.f16 0) J) ((fMg cs o n c0 Q).st 0 ⟨i, l, c⟩) :=
  by_ret (T := auto0 t_none) (h := hints []) (ws := [.b false]) (nx' := 101) hE hm (auto0_ok t_none_ok) (by omega) (by simp) (by intro x hx; simp at hx; subst hx; trivial) (by kernel_rfl) hob
end Go.Proofs.Ythbaccmhdffjdaa.Mg


set_option linter.unusedVariables false
set_option linter.unusedSimpArgs false
set_option maxRecDepth 100000
namespace Go.Proofs.Ythbaccmhdffjdaa.Mg
open Go Go.RowKit Go.Proofs.Ythbaccmhdffjdaa.Ev Go.Proofs.Ythbaccmhdffjdaa.Mg

theorem merge_spec (cs : List Value) (o n c0 : Nat) (hr : ePc.Row cs o n) (hpl : ∀ x ∈ cs, leafG x = true) (hn : n ≤ 65536) :
    CallSpec Try.prog 16 [.slice (some ⟨0, o, none⟩) n c0] (roRows [cs]) 1 (.map (some 100)) (assocN [100] [.map L10 true (some .i64) (esB (mergeL (ePc.list cs o n))) (mergeC (ePc.list cs o n))]) := by
  refine spec_of_sat Try.func16 rfl fun E hE => ?_
  have hlen : (ePc.list cs o n).length = n := Elt.list_len _ _ _
  have hget : ∀ i y, (ePc.list cs o n)[i]? = some y → readPart Try.prog 27 cs (o + (Int.ofNat i).toNat * 11) = some (.agg ⟨y.box.cs ++ [.int .i64 y.val]⟩) := fun i y hy => hr.read (P := Try.prog) (ty := 27) (by kernel_rfl) (by kernel_rfl) (i := i) (x := y) hy
  generalize hps : ePc.list cs o n = ps at hE hlen hget
  let Q : MG → Prop := fun s => s.i ≤ n ∧ (s.l, s.c) = mgGo (ps.take s.i)
  have okL := fMg_ok cs o n c0 Q hpl
  have rnr : ∀ f : Nat → Nat, Blk.rnB f (.ro cs) = .ro cs := fun f => Blk.plain.rnB (b := .ro cs) hpl f
  have rnm : ∀ (f : Nat → Nat) (es : List Ent) (c : Nat), Blk.rnB f (.map L10 true (some .i64) es c) = .map L10 true (some .i64) es c := fun f es c => rfl
  refine mgIn cs o n c0 Q hE okL ⟨rfl, ⟨⟨0, [], 0⟩, ⟨Nat.zero_le _, rfl⟩, trivial, rfl, by simp only [fMg, List.map_cons, List.map_nil, rnr, rnm]; rfl⟩, trivial⟩ fun zz hz _ => by_loop (fMg cs o n c0 Q) (lp Try.f16 0) ?_ 0 zz hz
  rintro b ⟨i, l, c⟩ hinv J hJ
  have hinv : i ≤ n ∧ (l, c) = mgGo (ps.take i) := hinv
  obtain ⟨k1, k2⟩ := hinv
  show Sat E (inLp (lp Try.f16 0) J) ((fMg cs o n c0 Q).st 0 ⟨i, l, c⟩)
  have hJ' : ∀ zz, (fMg cs o n c0 Q).inv 0 zz → ltO ((fMg cs o n c0 Q).mu 0 zz) (some (n - i)) → Sat E (mkLp (lp Try.f16 0) J) ((fMg cs o n c0 Q).st 0 zz) := fun zz h1 h2 => hJ 0 zz h1 h2
  have ok : OKB l c := by have := mg_ok (ps.take i); rw [← k2] at this; exact this
  by_cases hin : i < n
  · have hlt : decide ((i : Int) < (n : Int)) = true := decide_eq_true (by omega)
    obtain ⟨y, hy⟩ : ∃ y, ps[i]? = some y := ⟨_, List.getElem?_eq_getElem (by omega)⟩
    have htk : ps.take (i + 1) = ps.take i ++ [y] := by rw [List.take_add_one, hy]; rfl
    have hnx : mgGo (ps.take (i + 1)) = mgS (l, c) y := by rw [htk]; unfold mgGo; rw [List.foldl_append]; unfold mgGo at k2; rw [← k2]; rfl
    have hm := okB_map ok
    have hkf : keyFits L10 true (kB y.box) = true := rfl
    exact mgB cs o n c0 Q i l (mgS (l, c) y).1 c y.box y.val (getK y.box l) (IntKind.i64.wrap (getK y.box l + y.val)) J hE okL ⟨rfl, ⟨⟨i + 1, (mgS (l, c) y).1, (mgS (l, c) y).2⟩, ⟨hin, hnx.symm⟩, (by show n - (i + 1) < n - i; omega), rfl, (by
      simp only [fMg, List.map_cons, List.map_nil, rnr, rnm]
      show [Blk.ro cs, Blk.map L10 true (some .i64) (esB (mgS (l, c) y).1) (bif mhas (kB y.box) (esB l) then c else c + 1)] = _
      rw [mhas_esB]
      rfl)⟩, i64_succ (by omega), (congrArg (fun z => some (Value.int .i64 z)) (mgetI_ens (esB l))), mborn_ens hkf (esB l), ((mset_ens (esB l) hm.borns hm.clock).trans (mput_esB _ _ _ _)), rfl, (congrArg (Value.int .i64) (mget_esB _ _)), hget i y hy, ⟨Int.natCast_nonneg _, Int.ofNat_lt.2 hin⟩, hlt, trivial⟩ hJ'
  · have hlt : decide ((i : Int) < (n : Int)) = false := decide_eq_false (by omega)
    rw [List.take_of_length_le (by omega)] at k2
    have e1 : mergeL ps = l := by unfold mergeL; rw [← k2]
    have e2 : mergeC ps = c := by unfold mergeC; rw [← k2]
    rw [e1, e2] at hE
    exact mgE cs o n c0 Q i l c J hE ⟨⟨rfl, rfl⟩, hlt, trivial⟩
def merge_F (ML : List Pc → List EB) (MC : List Pc → Nat) : RoF := fun xs css => match xs, css with
  | [.slice (some ⟨0, o, none⟩) n c0], [cs] => some (.map (some 100), [.map L10 true (some .i64) (esB (ML (ePc.list cs o n))) (MC (ePc.list cs o n))], [ML = mergeL, MC = mergeC, ePc.Row cs o n, n ≤ 65536])
  | [.slice none 0 0], [] => some (.map (some 100), [.map L10 true (some .i64) (esB []) 0], [])
  | _, _ => none
theorem merge_sum (ML : List Pc → List EB) (MC : List Pc → Nat) : SumOK Try.prog 16 (roSum (merge_F ML MC)) := by
  refine roSum_ok (en Try.func16 rfl) ?_ (fun xs css r h => ?_)
  · intro xs css v blks ob h hob hpl hl
    unfold merge_F at h
    split at h
    · rename_i o n c0 cs
      simp only [Option.some.injEq, Prod.mk.injEq] at h
      obtain ⟨rfl, rfl, rfl⟩ := h
      obtain rfl : ML = mergeL := hob _ (List.mem_cons_self ..)
      obtain rfl : MC = mergeC := hob _ (List.mem_cons_of_mem _ (List.mem_cons_self ..))
      refine ⟨by simp, fun x hx => by simp at hx; subst hx; exact ⟨trivial, rfl⟩, fun j hj => by simp [nms, nm1, nm0] at hj; subst hj; simp, ?_⟩
      exact merge_spec cs o n c0 (hob _ (List.mem_cons_of_mem _ (List.mem_cons_of_mem _ (List.mem_cons_self ..)))) (hpl cs (by simp)) (hob _ (by simp))
    · simp only [Option.some.injEq, Prod.mk.injEq] at h
      obtain ⟨rfl, rfl, rfl⟩ := h
      refine ⟨by simp, fun x hx => by simp at hx; subst hx; exact ⟨trivial, rfl⟩, fun j hj => by simp [nms, nm1, nm0] at hj; subst hj; simp, ?_⟩
      exact spec_of_sat Try.func16 rfl fun E hE => mgNil () hE ⟨⟨rfl, rfl⟩, trivial⟩
    · simp at h
  · unfold merge_F at h
    split at h <;> simp at h <;> simp
end Go.Proofs.Ythbaccmhdffjdaa.Mg


set_option linter.unusedVariables false
set_option linter.unusedSimpArgs false
set_option maxRecDepth 100000
namespace Go.Proofs.Ythbaccmhdffjdaa.PickE
open Go Go.RowKit Go.Proofs.Ythbaccmhdffjdaa.Ev
theorem pick0 (cs : List Value) (off n c : Nat) (i : Int)  {E : Env} (hE : EnvOK E Try.prog Try.f44 2 1 (.int .i64 0) [] []) (hob : all ([Back (Value.int IntKind.i64 ((0 : Int))) (Value.int IntKind.i64 ((0 : Int))) [] [] [], ((n : Int) == (0 : Int)) = true])) : Sat E [.code (bodyOf Try.f44)] (st0 Try.f44 [.slice (some ⟨0, off, none⟩) n c, .int .i64 i] (roRows [cs]) 1) :=
  by_ret (T := auto0 t_none) (h := hints []) (ws := [.b true]) (nx' := 1) hE hm (auto0_ok t_none_ok) (by omega) (by simp) (by simp) (by kernel_rfl) hob
theorem pick1 (cs : List Value) (off n c : Nat) (i z : Int)  {E : Env} (hE : EnvOK E Try.prog Try.f44 2 1 (.int .i64 z) [] []) (hob : all ([Back (Value.int IntKind.i64 z) (Value.int IntKind.i64 z) [] [] [], readPart Try.prog 3 cs (off + (i.tmod ((n : Int))).toNat * 1) = some (Value.int IntKind.i64 z), (0 : Int) ≤ i.tmod ((n : Int)) ∧ i.tmod ((n : Int)) < (n : Int), (n : Int) ≠ (0 : Int), ((n : Int) == (0 : Int)) = false])) : Sat E [.code (bodyOf Try.f44)] (st0 Try.f44 [.slice (some ⟨0, off, none⟩) n c, .int .i64 i] (roRows [cs]) 1) :=
  by_ret (T := auto0 t_none) (h := hints [(3, 4, { p := true }), (3, 5, { p := true }), (3, 6, { o := some (.int .i64 z) })]) (ws := [.b false]) (nx' := 1) hE hm (auto0_ok t_none_ok) (by omega) (by simp) (by simp) (by kernel_rfl) hob
theorem pickN (i : Int)  {E : Env} (hE : EnvOK E Try.prog Try.f44 2 0 (.int .i64 0) [] []) (hob : all ([Back (Value.int IntKind.i64 ((0 : Int))) (Value.int IntKind.i64 ((0 : Int))) [] [] []])) : Sat E [.code (bodyOf Try.f44)] (st0 Try.f44 [.slice none 0 0, .int .i64 i] (roRows []) 0) :=
  by_ret (T := auto0 t_none) (h := hints []) (ws := []) (nx' := 0) hE hm (auto0_ok t_none_ok) (by omega) (by simp) (by simp) (by kernel_rfl) hob
def pickI (zs : List Int) (i : Int) : Int := zs.getD (Int.tmod i zs.length).toNat 0
def pick_F : RoF := fun xs css =>
  match xs, css with
  | [.slice none 0 0, .int .i64 i], [] => some (.int .i64 (pickI [] i), [], [])
  | [.slice (some ⟨0, off, none⟩) n c, .int .i64 i], [cs] => some (.int .i64 (pickI (intsOf cs off n) i), [], [IntRow .i64 cs off n, 0 ≤ i])
  | _, _ => none
theorem pick_sum : SumOK Try.prog 44 (roSum pick_F) := by
  refine roSum_ok (en Try.func44 rfl) ?_ (fun xs css r h => ?_)
  · intro xs css v blks ob h hob hpl hl
    unfold pick_F at h
    split at h
    · rename_i i
      simp only [Option.some.injEq, Prod.mk.injEq] at h
      obtain ⟨rfl, rfl, rfl⟩ := h
      refine ⟨by simp, by simp, fun j hj => by simp [nms, nm1, nm0] at hj, ?_⟩
      refine spec_of_sat Try.func44 rfl fun E hE => ?_
      exact pickN i hE ⟨⟨rfl, rfl⟩, trivial⟩
    · rename_i off n c i cs
      simp only [Option.some.injEq, Prod.mk.injEq] at h
      obtain ⟨rfl, rfl, rfl⟩ := h
      refine ⟨by simp, by simp, fun j hj => by simp [nms, nm1, nm0] at hj, ?_⟩
      obtain ⟨h1, h2⟩ := hob _ (List.mem_cons_self ..)
      have h0 : 0 ≤ i := hob _ (by simp)
      refine spec_of_sat Try.func44 rfl fun E hE => ?_
      have hlen := intsOf_len h1
      by_cases hn : n = 0
      · subst hn
        have e : pickI (intsOf cs off 0) i = 0 := by simp [pickI, intsOf]
        rw [e] at hE
        exact pick0 cs off 0 c i hE ⟨⟨rfl, rfl⟩, rfl, trivial⟩
      · have hm0 : 0 ≤ i.tmod (n : Int) := Int.tmod_nonneg _ h0
        have hm1 : i.tmod (n : Int) < (n : Int) := by have := Int.tmod_lt_of_pos i (b := (n : Int)) (by omega); omega
        refine pick1 cs off n c i _ hE ⟨⟨rfl, rfl⟩, ?_, ⟨hm0, hm1⟩, by omega, ?_, trivial⟩
        · refine readPart_one (by kernel_rfl) ?_ rfl
          rw [Nat.mul_one, h2 _ (by omega)]
          simp only [pickI, hlen]
        · have : ((n : Int) == 0) = false := by rw [beq_eq_false_iff_ne]; omega
          exact this
    · simp at h
  · unfold pick_F at h
    split at h <;> simp at h <;> simp
noncomputable def t_pick : Sums := upd t_none 44 (some (roSum pick_F))
theorem t_pick_ok : SumsOK Try.prog t_pick := sums_cons t_none_ok pick_sum
end Go.Proofs.Ythbaccmhdffjdaa.PickE


set_option linter.unusedVariables false
set_option linter.unusedSimpArgs false
namespace Go.Proofs.Ythbaccmhdffjdaa.BitLib
open Go Go.RowKit

theorem wrap64_id {n : Int} (h0 : -9223372036854775808 ≤ n) (h1 : n ≤ 9223372036854775807) : wrap64 n = n := by unfold wrap64; omega
theorem wrap64_eq (n : Int) : wrap64 n = IntKind.i64.wrap n := by rw [IntKind.wrap_i64]; unfold wrap64; rfl
theorem wf_i64 {n : Int} (h : (Lit.int .i64 n).wf = true) : -9223372036854775808 ≤ n ∧ n ≤ 9223372036854775807 := by
  simpa [Lit.wf, IntKind.min, IntKind.max, IntKind.signed, IntKind.bits] using h
theorem wf_u64 {n : Int} (h : (Lit.int .u64 n).wf = true) : 0 ≤ n ∧ n ≤ 18446744073709551615 := by
  simpa [Lit.wf, IntKind.min, IntKind.max, IntKind.signed, IntKind.bits] using h
theorem wrapu_id {n : Int} (h0 : 0 ≤ n) (h1 : n ≤ 18446744073709551615) : IntKind.u64.wrap n = n := by rw [IntKind.wrap_u64]; omega
theorem wrap64_range (n : Int) : -9223372036854775808 ≤ wrap64 n ∧ wrap64 n ≤ 9223372036854775807 := by unfold wrap64; omega

/-! ### 64 bits with a sign -/
theorem toInt_of (x : Int) (h0 : -9223372036854775808 ≤ x) (h1 : x ≤ 9223372036854775807) : (BitVec.ofInt 64 x).toInt = x := by
  rw [BitVec.toInt_ofInt, Int.bmod_eq_of_le] <;> omega
theorem i64_toNat (b : BitVec 64) : IntKind.i64.wrap (b.toNat : Int) = b.toInt := by
  have := b.isLt
  rw [IntKind.wrap_i64, BitVec.toInt_eq_toNat_cond]
  split <;> omega
theorem toNat_of (x : Int) : ((BitVec.ofInt 64 x).toNat : Int) = x % 18446744073709551616 := by
  rw [BitVec.toNat_ofInt]
  exact Int.toNat_of_nonneg (Int.emod_nonneg _ (by decide))
theorem neg_iff (x : Int) (h0 : -9223372036854775808 ≤ x) (h1 : x ≤ 9223372036854775807) : (BitVec.ofInt 64 x).msb = decide (x < 0) := by
  rw [BitVec.msb_eq_toInt, toInt_of x h0 h1]
theorem bits_and_i (x y : Int) : Go.bits .and .i64 x y = (BitVec.ofInt 64 x &&& BitVec.ofInt 64 y).toInt := i64_toNat _
theorem bits_or_i (x y : Int) : Go.bits .or .i64 x y = (BitVec.ofInt 64 x ||| BitVec.ofInt 64 y).toInt := i64_toNat _
theorem bits_xor_i (x y : Int) : Go.bits .xor .i64 x y = (BitVec.ofInt 64 x ^^^ BitVec.ofInt 64 y).toInt := i64_toNat _
theorem toInt_range (b : BitVec 64) : -9223372036854775808 ≤ b.toInt ∧ b.toInt ≤ 9223372036854775807 := by
  have := b.isLt
  rw [BitVec.toInt_eq_toNat_cond]
  split <;> omega
theorem and_neg {x y : Int} (hx0 : -9223372036854775808 ≤ x) (hx1 : x ≤ 9223372036854775807) (hy0 : -9223372036854775808 ≤ y) (hy1 : y ≤ 9223372036854775807) :
    Go.bits .and .i64 x y < 0 ↔ (x < 0 ∧ y < 0) := by
  rw [bits_and_i]
  have h := BitVec.msb_eq_toInt (x := BitVec.ofInt 64 x &&& BitVec.ofInt 64 y)
  rw [BitVec.msb_and, neg_iff x hx0 hx1, neg_iff y hy0 hy1] at h
  have h2 : decide ((BitVec.ofInt 64 x &&& BitVec.ofInt 64 y).toInt < 0) = true ↔ (decide (x < 0) && decide (y < 0)) = true := by rw [h]
  simpa using h2
theorem xor_neg {x y : Int} (hx0 : -9223372036854775808 ≤ x) (hx1 : x ≤ 9223372036854775807) (hy0 : -9223372036854775808 ≤ y) (hy1 : y ≤ 9223372036854775807) :
    Go.bits .xor .i64 x y < 0 ↔ ¬ (x < 0 ↔ y < 0) := by
  rw [bits_xor_i]
  have h := BitVec.msb_eq_toInt (x := BitVec.ofInt 64 x ^^^ BitVec.ofInt 64 y)
  rw [BitVec.msb_xor, neg_iff x hx0 hx1, neg_iff y hy0 hy1] at h
  have h2 : decide ((BitVec.ofInt 64 x ^^^ BitVec.ofInt 64 y).toInt < 0) = true ↔ (decide (x < 0) ^^ decide (y < 0)) = true := by rw [h]
  by_cases a : x < 0 <;> by_cases b : y < 0 <;> simpa [a, b] using h2
theorem xor_range (x y : Int) : -9223372036854775808 ≤ Go.bits .xor .i64 x y ∧ Go.bits .xor .i64 x y ≤ 9223372036854775807 := by
  rw [bits_xor_i]; exact toInt_range _
theorem pow_le {a b : Nat} (h : a ≤ b) : (2 : Int) ^ a ≤ 2 ^ b := by
  have := Nat.pow_le_pow_right (show 0 < 2 by decide) h
  exact_mod_cast this
/-- The lowest bits of a number with a sign. -/
theorem i64_low (x : Int) (w : Nat) (hw : w ≤ 63) : Go.bits .and .i64 x (2 ^ w - 1) = x % 2 ^ w := by
  have hp : (0 : Int) < 2 ^ w := Int.pow_pos (by decide)
  have hle : (2 : Int) ^ w ≤ 2 ^ 63 := pow_le hw
  have hd : (2 : Int) ^ w ∣ 18446744073709551616 := by
    have : (2 : Int) ^ 64 = 2 ^ w * 2 ^ (64 - w) := by rw [← Int.pow_add]; congr 1; omega
    exact ⟨2 ^ (64 - w), by rw [← this]; rfl⟩
  have h63 : (2 : Int) ^ 63 = 9223372036854775808 := rfl
  unfold Go.bits
  simp only
  have e1 : (BitVec.ofInt IntKind.i64.bits (2 ^ w - 1 : Int)).toNat = 2 ^ w - 1 := by
    have h := toNat_of (2 ^ w - 1)
    have e : (2 ^ w - 1 : Int) % 18446744073709551616 = 2 ^ w - 1 := Int.emod_eq_of_lt (by omega) (by omega)
    rw [e] at h
    have h' : ((BitVec.ofInt IntKind.i64.bits (2 ^ w - 1 : Int)).toNat : Int) = (2 : Int) ^ w - 1 := h
    have hn : (1 : Nat) ≤ 2 ^ w := Nat.one_le_two_pow
    have hc : ((2 ^ w - 1 : Nat) : Int) = (2 : Int) ^ w - 1 := by rw [Int.natCast_sub hn]; simp
    exact Int.ofNat.inj (h'.trans hc.symm)
  rw [BitVec.toNat_and, e1, Nat.and_two_pow_sub_one_eq_mod]
  have h2 : (((BitVec.ofInt IntKind.i64.bits x).toNat % 2 ^ w : Nat) : Int) = x % 2 ^ w := by
    rw [Int.natCast_emod]
    have := toNat_of x
    have h' : ((BitVec.ofInt IntKind.i64.bits x).toNat : Int) = x % 18446744073709551616 := this
    rw [h']
    simp only [Int.natCast_pow, Int.cast_ofNat_Int]
    exact Int.emod_emod_of_dvd _ hd
  rw [h2]
  have a0 := Int.emod_nonneg x (show (2 : Int) ^ w ≠ 0 by omega)
  have a1 := Int.emod_lt_of_pos x hp
  rw [IntKind.wrap_i64]
  omega
theorem i64_low32 (x : Int) : Go.bits .and .i64 x 4294967295 = x % 4294967296 := i64_low x 32 (by decide)
theorem i64_low1 (x : Int) : Go.bits .and .i64 x 1 = x % 2 := i64_low x 1 (by decide)
/-- An upper half and a lower one, put together. -/
theorem or_halves (h l : Int) (h0 : -2147483648 ≤ h) (h1 : h < 2147483648) (l0 : 0 ≤ l) (l1 : l < 4294967296) :
    Go.bits .or .i64 (h * 4294967296) l = h * 4294967296 + l := by
  unfold Go.bits
  simp only
  rw [BitVec.toNat_or]
  have eh : ((BitVec.ofInt IntKind.i64.bits (h * 4294967296)).toNat : Int) = (h * 4294967296) % 18446744073709551616 := toNat_of _
  have el : ((BitVec.ofInt IntKind.i64.bits l).toNat : Int) = l % 18446744073709551616 := toNat_of _
  generalize (BitVec.ofInt IntKind.i64.bits (h * 4294967296)).toNat = a at *
  generalize (BitVec.ofInt IntKind.i64.bits l).toNat = b at *
  have hb : b < 2 ^ 32 := by have : (2 : Nat) ^ 32 = 4294967296 := rfl; omega
  have ha : a % 2 ^ 32 = 0 := by have : (2 : Nat) ^ 32 = 4294967296 := rfl; rw [this]; omega
  rw [nat_join 32 a b ha hb, IntKind.wrap_i64]
  push_cast
  omega
end Go.Proofs.Ythbaccmhdffjdaa.BitLib


set_option linter.unusedVariables false
set_option linter.unusedSimpArgs false
namespace Go.Proofs.Ythbaccmhdffjdaa
open Go Go.RowKit
theorem below_alloc {w W : World} (h : Below w.heap.size w W) (o : Obj) : Below w.heap.size w (W.alloc o) := h.alloc h.size o
theorem below_drew {B : Nat} {w W : World} (h : Below B w W) : Below B w W.drew := ⟨h.os, h.tape, h.output, h.size, h.block⟩
/-- What was there before a call that only adds is there behind it: cells and marks. -/
theorem bcell {W w1 : World} (hb : Below W.heap.size W w1) : (∀ b o, b < W.heap.size → w1.cell? ⟨b, o, none⟩ = W.cell? ⟨b, o, none⟩) ∧ (∀ b o, b < W.heap.size → w1.frozen? ⟨b, o, none⟩ = W.frozen? ⟨b, o, none⟩) :=
  ⟨fun b o h => hb.cell (p := ⟨b, o, none⟩) h, fun b o h => hb.frozen (p := ⟨b, o, none⟩) h⟩
theorem below_call {w X w1 : World} (k : Below X.heap.size X w1) (h : Below w.heap.size w X) : Below w.heap.size w w1 := h.trans (k.mono h.size)
theorem add_plain (g j : Nat) : (⟨g, 0, none⟩ : Addr).add j = ⟨g, j, none⟩ := by unfold Addr.add; split <;> simp_all
/-- A slice reads as a list of numbers of a kind. -/
def ReadsInt (w : World) (k : IntKind) (A : Option Addr) (n : Nat) (xs : List Int) : Prop :=
  xs.length = n ∧ n ≤ 9223372036854775807 ∧ (0 < n → ∃ ad, A = some ad ∧ ∀ j, j < n → w.cell? (ad.add j) = some (.int k (xs.getD j 0)))
theorem reads_alloc (w : World) (xs : List Int) (T : TypeId) (hn : xs.length ≤ 9223372036854775807) : ReadsInt (w.alloc (.cells (xs.map (Value.int .i64)).toArray T)) .i64 (some ⟨w.heap.size, 0, none⟩) xs.length xs := by
  refine ⟨rfl, hn, fun _ => ⟨_, rfl, fun j hj => ?_⟩⟩
  rw [add_plain]
  simp [List.getD, List.getElem?_eq_getElem hj]
/-- The slice reads as these numbers, up to its length. -/
structure ReadsInts (w : World) (A : Option Addr) (n c : Nat) (zs : List Int) : Prop where
  reads : ReadsInt w .i64 A n zs
  cap : n ≤ c
theorem ReadsInts.nil {w : World} : ReadsInts w none 0 0 [] := ⟨⟨rfl, by decide, fun h => absurd h (by decide)⟩, Nat.le_refl _⟩
theorem ReadsInts.of {w : World} {x : Addr} {n c : Nat} {zs : List Int} (hl : n ≤ c) (hm : c ≤ maxLen) (hz : zs.length = c) (hcell : ∀ i, i < zs.length → w.cell? (x.add i) = some (.int .i64 (zs.getD i 0))) :
    ReadsInts w (some x) n c (zs.take n) := by
  refine ⟨⟨by simp; omega, by unfold maxLen at hm; omega, fun _ => ⟨x, rfl, fun j hj => ?_⟩⟩, hl⟩
  rw [hcell j (by omega)]
  simp [List.getD, List.getElem?_take, hj]
end Go.Proofs.Ythbaccmhdffjdaa


set_option linter.unusedVariables false
set_option linter.unusedSimpArgs false
namespace Go.Proofs.Ythbaccmhdffjdaa.Within
open Go Go.RowKit Go.Proofs.Ythbaccmhdffjdaa.BitLib

theorem emod_of_tmod {n m : Int} (hm : 0 < m) : (n.tmod m < 0 → n % m = n.tmod m + m) ∧ (0 ≤ n.tmod m → n % m = n.tmod m) ∧ -m < n.tmod m ∧ n.tmod m < m := by
  have h := Int.tmod_eq_emod (a := n) (b := m)
  have h0 := Int.emod_nonneg n (show m ≠ 0 by omega)
  have h1 := Int.emod_lt_of_pos n hm
  have ha : ((m.natAbs : Nat) : Int) = m := by omega
  by_cases hc : 0 ≤ n ∨ m ∣ n
  · rw [if_pos hc] at h; omega
  · rw [if_neg hc] at h; omega
def withinS (n lo hi : Int) : Int := lo + n % (hi - lo + 1)
theorem within_range (n : Int) {lo hi : Int} (h : lo ≤ hi) : lo ≤ withinS n lo hi ∧ withinS n lo hi ≤ hi := by
  have h0 := Int.emod_nonneg n (show hi - lo + 1 ≠ 0 by omega)
  have h1 := Int.emod_lt_of_pos n (show 0 < hi - lo + 1 by omega)
  unfold withinS; omega
set_option maxHeartbeats 1000000 in
theorem within_calls (n lo hi : Int) (n0 : -9223372036854775808 ≤ n) (n1 : n ≤ 9223372036854775807) (h0 : -2305843009213693952 ≤ lo) (h1 : lo ≤ hi) (h2 : hi ≤ 2305843009213693952) (w : World) :
    Calls Try.prog 19 #[.int .i64 n, .int .i64 lo, .int .i64 hi] w fun e w' => e = .returned (.int .i64 (withinS n lo hi)) ∧ w = w' := by
  obtain ⟨t1, t2, t3, t4⟩ := emod_of_tmod (n := n) (m := hi - lo + 1) (by omega)
  have hne : ¬ hi - lo + 1 = 0 := by omega
  by_cases ht : n.tmod (hi - lo + 1) < 0
  · have HR : Hid (withinS n lo hi = lo + (n.tmod (hi - lo + 1) + hi - lo + 1)) := Lib.hid (by unfold withinS; rw [t1 ht]; omega)
    clear t1 t2
    go_enter Try.func19, Try.ntmps19
    go_wp2
    go_ret
    exact ⟨by rw [HR.out]; rfl, rfl⟩
  · have HR : Hid (withinS n lo hi = lo + n.tmod (hi - lo + 1)) := Lib.hid (by unfold withinS; rw [t2 (by omega)])
    clear t1 t2
    go_enter Try.func19, Try.ntmps19
    go_wp2
    go_ret
    exact ⟨by rw [HR.out]; rfl, rfl⟩
end Go.Proofs.Ythbaccmhdffjdaa.Within


set_option linter.unusedVariables false
set_option linter.unusedSimpArgs false
set_option maxRecDepth 100000
namespace Go.Proofs.Ythbaccmhdffjdaa.BoxF
open Go Go.RowKit Go.Proofs.Ythbaccmhdffjdaa.Ev Go.Proofs.Ythbaccmhdffjdaa.Within Go.Proofs.Ythbaccmhdffjdaa.PickE
def ofLo (lo hi : Int) : Int := bif decide (lo > hi) then 1 else lo
def ofHi (lo hi : Int) : Int := bif decide (lo > hi) then 0 else hi
def of_F : List Value → Option (Value × List Prop)
  | [.int .i64 lo, .int .i64 hi] => some (sp (ofLo lo hi) (ofHi lo hi), [])
  | _ => none
theorem of_sum : SumOK Try.prog 61 (sumOf of_F) := by
  refine sumOf_ok (en Try.func61 rfl) fun args v ob h hob => ?_
  unfold of_F at h
  split at h
  · obtain ⟨rfl, rfl⟩ := Prod.mk.inj (Option.some.inj h)
    exact calls_run0 hm (auto0_ok t_pick_ok) noHint [.fork] (by kernel_rfl)
  · exact absurd h (by simp)
noncomputable def t_of : Sums := upd t_pick 61 (some (sumOf of_F))
theorem t_of_ok : SumsOK Try.prog t_of := sums_cons t_pick_ok of_sum
def has_F : List Value → Option (Value × List Prop)
  | [.agg ⟨[.int .i64 a, .int .i64 b]⟩, .int .i64 n] => some (.bool (decide (a ≤ n) && decide (n ≤ b)), [])
  | _ => none
theorem has_sum : SumOK Try.prog 52 (sumOf has_F) := by
  refine sumOf_ok (en Try.func52 rfl) fun args v ob h hob => ?_
  unfold has_F at h
  split at h
  · rename_i a b n
    obtain ⟨rfl, rfl⟩ := Prod.mk.inj (Option.some.inj h)
    clear h
    cases h : decide (a ≤ n)
    · exact calls_runO hm (auto0_ok t_of_ok) (hints [(1, 3, ht false)]) [] [bb (decide (a ≤ n)) false] (by kernel_rfl) ⟨bb_of h, trivial⟩
    · exact calls_runO hm (auto0_ok t_of_ok) (hints [(1, 3, ht true)]) [] [bb (decide (a ≤ n)) true] (by kernel_rfl) ⟨bb_of h, trivial⟩
  · exact absurd h (by simp)
noncomputable def t_has : Sums := upd t_of 52 (some (sumOf has_F))
theorem t_has_ok : SumsOK Try.prog t_has := sums_cons t_of_ok has_sum
def empty_F : List Value → Option (Value × List Prop)
  | [.agg ⟨[.int .i64 a, .int .i64 b]⟩] => some (.bool (decide (a > b)), [])
  | _ => none
theorem empty_sum : SumOK Try.prog 51 (sumOf empty_F) := by
  refine sumOf_ok (en Try.func51 rfl) fun args v ob h hob => ?_
  unfold empty_F at h
  split at h
  · rename_i a b
    obtain ⟨rfl, rfl⟩ := Prod.mk.inj (Option.some.inj h)
    clear h
    exact calls_run0 hm (auto0_ok t_has_ok) noHint [] (by kernel_rfl)
  · exact absurd h (by simp)
noncomputable def t_empty : Sums := upd t_has 51 (some (sumOf empty_F))
theorem t_empty_ok : SumsOK Try.prog t_empty := sums_cons t_has_ok empty_sum
def within_F : List Value → Option (Value × List Prop)
  | [.agg ⟨[.int .i64 a, .int .i64 b]⟩, .agg ⟨[.int .i64 c, .int .i64 d]⟩] => some (.bool (decide (a > b) || (decide (c ≤ a) && decide (b ≤ d))), [])
  | _ => none
theorem within_sum : SumOK Try.prog 49 (sumOf within_F) := by
  refine sumOf_ok (en Try.func49 rfl) fun args v ob h hob => ?_
  unfold within_F at h
  split at h
  · rename_i a b c d
    obtain ⟨rfl, rfl⟩ := Prod.mk.inj (Option.some.inj h)
    clear h
    cases h : decide (a > b)
    · cases h2 : decide (c ≤ a)
      · exact calls_runO hm (auto0_ok t_empty_ok) (hints [(1, 1, ht false), (1, 7, ht false)]) [] [bb (decide (c ≤ a)) false, bb (decide (a > b)) false] (by kernel_rfl) ⟨bb_of h2, bb_of h, trivial⟩
      · exact calls_runO hm (auto0_ok t_empty_ok) (hints [(1, 1, ht false), (1, 7, ht true)]) [] [bb (decide (c ≤ a)) true, bb (decide (a > b)) false] (by kernel_rfl) ⟨bb_of h2, bb_of h, trivial⟩
    · exact calls_runO hm (auto0_ok t_empty_ok) (hints [(1, 1, ht true)]) [] [bb (decide (a > b)) true] (by kernel_rfl) ⟨bb_of h, trivial⟩
  · exact absurd h (by simp)
noncomputable def t_within : Sums := upd t_empty 49 (some (sumOf within_F))
theorem t_within_ok : SumsOK Try.prog t_within := sums_cons t_empty_ok within_sum
def cutLo (a b n : Int) : Int := ofLo a (minI b n)
def cutHi (a b n : Int) : Int := ofHi a (minI b n)
def cutLo' (a b n : Int) : Int := bif decide (n ≥ b) then 1 else ofLo (maxI a (n + 1)) b
def cutHi' (a b n : Int) : Int := bif decide (n ≥ b) then 0 else ofHi (maxI a (n + 1)) b
def cut_F : List Value → Option (Value × List Prop)
  | [.agg ⟨[.int .i64 a, .int .i64 b]⟩, .int .i64 n] => some (.tuple ⟨[sp (cutLo a b n) (cutHi a b n), sp (cutLo' a b n) (cutHi' a b n)]⟩, [I64 n, b ≤ 9223372036854775807])
  | _ => none
theorem cut_sum : SumOK Try.prog 48 (sumOf cut_F) := by
  refine sumOf_ok (en Try.func48 rfl) fun args v ob h hob => ?_
  unfold cut_F at h
  split at h
  · rename_i a b n
    obtain ⟨rfl, rfl⟩ := Prod.mk.inj (Option.some.inj h)
    clear h
    cases h : decide (n ≥ b)
    · have hn := hob (I64 n) (by simp)
      have hb := hob (b ≤ 9223372036854775807) (by simp)
      have e1 : cutLo' a b n = ofLo (maxI a (n + 1)) b := by unfold cutLo'; rw [h]; rfl
      have e2 : cutHi' a b n = ofHi (maxI a (n + 1)) b := by unfold cutHi'; rw [h]; rfl
      rw [e1, e2]
      exact calls_runO hm (auto0_ok t_within_ok) (hints [(2, 3, ht false), (4, 4, { v := some (.int .i64 (n + 1)) })]) [] [Value.int .i64 (IntKind.i64.wrap (n + 1)) = .int .i64 (n + 1), bb (decide (n ≥ b)) false] (by kernel_rfl)
        ⟨int_eq (wrap_id ⟨by omega, by have := of_decide_eq_false h; omega⟩), bb_of h, trivial⟩
    · have e1 : cutLo' a b n = 1 := by unfold cutLo'; rw [h]; rfl
      have e2 : cutHi' a b n = 0 := by unfold cutHi'; rw [h]; rfl
      rw [e1, e2]
      exact calls_runO hm (auto0_ok t_within_ok) (hints [(2, 3, ht true)]) [] [bb (decide (n ≥ b)) true] (by kernel_rfl) ⟨bb_of h, trivial⟩
  · exact absurd h (by simp)
noncomputable def t_cut : Sums := upd t_within 48 (some (sumOf cut_F))
theorem t_cut_ok : SumsOK Try.prog t_cut := sums_cons t_within_ok cut_sum
theorem minI_eq (x y : Int) : minI x y = min x y := by unfold minI; split <;> omega
theorem maxI_eq (x y : Int) : maxI x y = max x y := by unfold maxI; split <;> omega
theorem cut_cases (a b n : Int) : (cutLo a b n = 1 ∧ cutHi a b n = 0 ∧ cutLo' a b n = 1 ∧ cutHi' a b n = 0 ∧ b < a) ∨ (cutLo a b n = 1 ∧ cutHi a b n = 0 ∧ cutLo' a b n = a ∧ cutHi' a b n = b ∧ a ≤ b ∧ n < a) ∨
    (cutLo a b n = a ∧ cutHi a b n = n ∧ cutLo' a b n = n + 1 ∧ cutHi' a b n = b ∧ a ≤ b ∧ a ≤ n ∧ n < b) ∨ (cutLo a b n = a ∧ cutHi a b n = b ∧ cutLo' a b n = 1 ∧ cutHi' a b n = 0 ∧ a ≤ b ∧ b ≤ n) := by
  by_cases h1 : b < a
  · refine Or.inl ⟨?_, ?_, ?_, ?_, h1⟩ <;> first | omega | (simp only [cutLo, cutHi, cutLo', cutHi', ofLo, ofHi, minI_eq, maxI_eq, cond_eq_ite, decide_eq_true_eq] <;> (repeat' split) <;> omega)
  by_cases h2 : n < a
  · refine Or.inr (Or.inl ⟨?_, ?_, ?_, ?_, ?_, h2⟩) <;> first | omega | (simp only [cutLo, cutHi, cutLo', cutHi', ofLo, ofHi, minI_eq, maxI_eq, cond_eq_ite, decide_eq_true_eq] <;> (repeat' split) <;> omega)
  by_cases h3 : n < b
  · refine Or.inr (Or.inr (Or.inl ⟨?_, ?_, ?_, ?_, ?_, ?_, h3⟩)) <;> first | omega | (simp only [cutLo, cutHi, cutLo', cutHi', ofLo, ofHi, minI_eq, maxI_eq, cond_eq_ite, decide_eq_true_eq] <;> (repeat' split) <;> omega)
  · refine Or.inr (Or.inr (Or.inr ⟨?_, ?_, ?_, ?_, ?_, ?_⟩)) <;> first | omega | (simp only [cutLo, cutHi, cutLo', cutHi', ofLo, ofHi, minI_eq, maxI_eq, cond_eq_ite, decide_eq_true_eq] <;> (repeat' split) <;> omega)
def bring_F : List Value → Option (Value × List Prop)
  | [.int .i64 n, .int .i64 lo, .int .i64 hi] => some (.int .i64 (withinS n lo hi), [I64 n, -2305843009213693952 ≤ lo, lo ≤ hi, hi ≤ 2305843009213693952])
  | _ => none
theorem bring_sum : SumOK Try.prog 19 (sumOf bring_F) := by
  refine sumOf_ok (en Try.func19 rfl) fun args v ob h hob => ?_
  unfold bring_F at h
  split at h
  · rename_i n lo hi
    obtain ⟨rfl, rfl⟩ := Prod.mk.inj (Option.some.inj h)
    clear h
    have h1 := hob (I64 n) (by simp)
    have h2 := hob (-2305843009213693952 ≤ lo) (by simp)
    have h3 := hob (lo ≤ hi) (by simp)
    have h4 := hob (hi ≤ 2305843009213693952) (by simp)
    exact ⟨rfl, rfl, fun w => (within_calls n lo hi h1.1 h1.2 h2 h3 h4 w).mono fun e w' ⟨he, hw⟩ => ⟨he, hw ▸ Below.refl _ _⟩⟩
  · exact absurd h (by simp)
noncomputable def t_bring : Sums := upd t_cut 19 (some (sumOf bring_F))
theorem t_bring_ok : SumsOK Try.prog t_bring := sums_cons t_cut_ok bring_sum
abbrev bx (a0 a1 a2 a3 a4 a5 a6 a7 a8 a9 : Int) : Value := .agg ⟨[i64 a0, i64 a1, i64 a2, i64 a3, i64 a4, i64 a5, i64 a6, i64 a7, i64 a8, i64 a9]⟩
abbrev pt (p0 p1 p2 p3 : Int) : Value := .agg ⟨[i64 p0, i64 p1, i64 p2, i64 p3]⟩
def e2 (a b : Int) : Bool := decide (a > b)
def h3 (a b n : Int) : Bool := decide (a ≤ n) && decide (n ≤ b)
def w4 (a b c d : Int) : Bool := decide (a > b) || (decide (c ≤ a) && decide (b ≤ d))
def emptyB (a0 a1 a2 a3 a4 a5 a6 a7 a8 a9 : Int) : Bool := bif e2 a0 a1 then true else bif e2 a2 a3 then true else bif e2 a4 a5 then true else bif e2 a6 a7 then true else bif e2 a8 a9 then true else false
def hasB (a0 a1 a2 a3 a4 a5 a6 a7 a8 a9 p0 p1 p2 p3 n : Int) : Bool := bif !h3 a0 a1 p0 then false else bif !h3 a2 a3 p1 then false else bif !h3 a4 a5 p2 then false else bif !h3 a6 a7 p3 then false else h3 a8 a9 n
def withinB (a0 a1 a2 a3 a4 a5 a6 a7 a8 a9 b0 b1 b2 b3 b4 b5 b6 b7 b8 b9 : Int) : Bool := bif emptyB a0 a1 a2 a3 a4 a5 a6 a7 a8 a9 then true else bif !w4 a0 a1 b0 b1 then false else bif !w4 a2 a3 b2 b3 then false else bif !w4 a4 a5 b4 b5 then false else bif !w4 a6 a7 b6 b7 then false else bif !w4 a8 a9 b8 b9 then false else true
def cL (i p a b n : Int) : Int := bif p == i then cutLo a b n else a
def cH (i p a b n : Int) : Int := bif p == i then cutHi a b n else b
def dL (i p a b n : Int) : Int := bif p == i then cutLo' a b n else a
def dH (i p a b n : Int) : Int := bif p == i then cutHi' a b n else b
def bempty_F : List Value → Option (Value × List Prop)
  | [.agg ⟨[.int .i64 a0, .int .i64 a1, .int .i64 a2, .int .i64 a3, .int .i64 a4, .int .i64 a5, .int .i64 a6, .int .i64 a7, .int .i64 a8, .int .i64 a9]⟩] => some (.bool (emptyB a0 a1 a2 a3 a4 a5 a6 a7 a8 a9), [])
  | _ => none
theorem bempty_sum : SumOK Try.prog 33 (sumOf bempty_F) := by
  refine sumOf_ok (en Try.func33 rfl) fun args v ob h hob => ?_
  unfold bempty_F at h
  split at h
  · obtain ⟨rfl, rfl⟩ := Prod.mk.inj (Option.some.inj h)
    exact calls_run0 hm (auto0_ok t_bring_ok) noHint [.go,.go,.fork,.go,.fork,.go,.fork,.go,.fork,.go,.fork] (by kernel_rfl)
  · exact absurd h (by simp)
noncomputable def t_bempty : Sums := upd t_bring 33 (some (sumOf bempty_F))
theorem t_bempty_ok : SumsOK Try.prog t_bempty := sums_cons t_bring_ok bempty_sum
def bhas_F : List Value → Option (Value × List Prop)
  | [.agg ⟨[.int .i64 a0, .int .i64 a1, .int .i64 a2, .int .i64 a3, .int .i64 a4, .int .i64 a5, .int .i64 a6, .int .i64 a7, .int .i64 a8, .int .i64 a9]⟩, .agg ⟨[.int .i64 p0, .int .i64 p1, .int .i64 p2, .int .i64 p3]⟩, .int .i64 n] => some (.bool (hasB a0 a1 a2 a3 a4 a5 a6 a7 a8 a9 p0 p1 p2 p3 n), [])
  | _ => none
theorem bhas_sum : SumOK Try.prog 34 (sumOf bhas_F) := by
  refine sumOf_ok (en Try.func34 rfl) fun args v ob h hob => ?_
  unfold bhas_F at h
  split at h
  · obtain ⟨rfl, rfl⟩ := Prod.mk.inj (Option.some.inj h)
    exact calls_run0 hm (auto0_ok t_bempty_ok) noHint [.go,.go,.fork,.go,.fork,.go,.fork,.go,.fork] (by kernel_rfl)
  · exact absurd h (by simp)
noncomputable def t_bhas : Sums := upd t_bempty 34 (some (sumOf bhas_F))
theorem t_bhas_ok : SumsOK Try.prog t_bhas := sums_cons t_bempty_ok bhas_sum
def bwithin_F : List Value → Option (Value × List Prop)
  | [.agg ⟨[.int .i64 a0, .int .i64 a1, .int .i64 a2, .int .i64 a3, .int .i64 a4, .int .i64 a5, .int .i64 a6, .int .i64 a7, .int .i64 a8, .int .i64 a9]⟩, .agg ⟨[.int .i64 b0, .int .i64 b1, .int .i64 b2, .int .i64 b3, .int .i64 b4, .int .i64 b5, .int .i64 b6, .int .i64 b7, .int .i64 b8, .int .i64 b9]⟩] => some (.bool (withinB a0 a1 a2 a3 a4 a5 a6 a7 a8 a9 b0 b1 b2 b3 b4 b5 b6 b7 b8 b9), [])
  | _ => none
theorem bwithin_sum : SumOK Try.prog 30 (sumOf bwithin_F) := by
  refine sumOf_ok (en Try.func30 rfl) fun args v ob h hob => ?_
  unfold bwithin_F at h
  split at h
  · obtain ⟨rfl, rfl⟩ := Prod.mk.inj (Option.some.inj h)
    exact calls_run0 hm (auto0_ok t_bhas_ok) noHint [.fork,.go,.go,.fork,.go,.fork,.go,.fork,.go,.fork,.go,.fork] (by kernel_rfl)
  · exact absurd h (by simp)
noncomputable def t_bwithin : Sums := upd t_bhas 30 (some (sumOf bwithin_F))
theorem t_bwithin_ok : SumsOK Try.prog t_bwithin := sums_cons t_bhas_ok bwithin_sum
theorem cut_no {i p : Int} (h : p ≠ i) (a b n : Int) : cL i p a b n = a ∧ cH i p a b n = b ∧ dL i p a b n = a ∧ dH i p a b n = b := by
  have : (p == i) = false := by simpa using h
  simp [cL, cH, dL, dH, this]
abbrev cutPair (a0 a1 a2 a3 a4 a5 a6 a7 a8 a9 p n : Int) : Value := .tuple ⟨[bx (cL 0 p a0 a1 n) (cH 0 p a0 a1 n) (cL 1 p a2 a3 n) (cH 1 p a2 a3 n) (cL 2 p a4 a5 n) (cH 2 p a4 a5 n) (cL 3 p a6 a7 n) (cH 3 p a6 a7 n) (cL 4 p a8 a9 n) (cH 4 p a8 a9 n),
  bx (dL 0 p a0 a1 n) (dH 0 p a0 a1 n) (dL 1 p a2 a3 n) (dH 1 p a2 a3 n) (dL 2 p a4 a5 n) (dH 2 p a4 a5 n) (dL 3 p a6 a7 n) (dH 3 p a6 a7 n) (dL 4 p a8 a9 n) (dH 4 p a8 a9 n)]⟩
abbrev mx : Int := 9223372036854775807
def bcut_F : List Value → Option (Value × List Prop)
  | [.agg ⟨[.int .i64 a0, .int .i64 a1, .int .i64 a2, .int .i64 a3, .int .i64 a4, .int .i64 a5, .int .i64 a6, .int .i64 a7, .int .i64 a8, .int .i64 a9]⟩, .int .i64 p, .int .i64 n] => some (cutPair a0 a1 a2 a3 a4 a5 a6 a7 a8 a9 p n, [I64 n, a1 ≤ mx, a3 ≤ mx, a5 ≤ mx, a7 ≤ mx, a9 ≤ mx])
  | _ => none
theorem bcut_sum : SumOK Try.prog 29 (sumOf bcut_F) := by
  refine sumOf_ok (en Try.func29 rfl) fun args v ob h hob => ?_
  unfold bcut_F at h
  split at h
  · rename_i a0 a1 a2 a3 a4 a5 a6 a7 a8 a9 p n
    obtain ⟨rfl, rfl⟩ := Prod.mk.inj (Option.some.inj h)
    clear h
    have hn := hob (I64 n) (by simp)
    have k1 := hob (a1 ≤ mx) (by simp)
    have k3 := hob (a3 ≤ mx) (by simp)
    have k5 := hob (a5 ≤ mx) (by simp)
    have k7 := hob (a7 ≤ mx) (by simp)
    have k9 := hob (a9 ≤ mx) (by simp)
    by_cases c0 : p = 0
    · subst c0; exact calls_runO hm (auto0_ok t_bwithin_ok) noHint [] [I64 n, a1 ≤ mx] (by kernel_rfl) ⟨hn, k1, trivial⟩
    by_cases c1 : p = 1
    · subst c1; exact calls_runO hm (auto0_ok t_bwithin_ok) noHint [] [I64 n, a3 ≤ mx] (by kernel_rfl) ⟨hn, k3, trivial⟩
    by_cases c2 : p = 2
    · subst c2; exact calls_runO hm (auto0_ok t_bwithin_ok) noHint [] [I64 n, a5 ≤ mx] (by kernel_rfl) ⟨hn, k5, trivial⟩
    by_cases c3 : p = 3
    · subst c3; exact calls_runO hm (auto0_ok t_bwithin_ok) noHint [] [I64 n, a7 ≤ mx] (by kernel_rfl) ⟨hn, k7, trivial⟩
    by_cases c4 : p = 4
    · subst c4; exact calls_runO hm (auto0_ok t_bwithin_ok) noHint [] [I64 n, a9 ≤ mx] (by kernel_rfl) ⟨hn, k9, trivial⟩
    obtain ⟨q1, q2, q3, q4⟩ := cut_no c0 a0 a1 n
    obtain ⟨q5, q6, q7, q8⟩ := cut_no c1 a2 a3 n
    obtain ⟨r1, r2, r3, r4⟩ := cut_no c2 a4 a5 n
    obtain ⟨r5, r6, r7, r8⟩ := cut_no c3 a6 a7 n
    obtain ⟨s1, s2, s3, s4⟩ := cut_no c4 a8 a9 n
    simp only [cutPair, q1, q2, q3, q4, q5, q6, q7, q8, r1, r2, r3, r4, r5, r6, r7, r8, s1, s2, s3, s4]
    cases h : decide (p ≥ 0)
    · exact calls_runO hm (auto0_ok t_bwithin_ok) (hints [(2, 1, ht false)]) [] [bb (decide (p ≥ 0)) false] (by kernel_rfl) ⟨bb_of h, trivial⟩
    · have h' := of_decide_eq_true h
      exact calls_runO hm (auto0_ok t_bwithin_ok) (hints [(2, 1, ht true), (2, 4, ht false)]) [] [bb (decide (p < 5)) false, bb (decide (p ≥ 0)) true] (by kernel_rfl) ⟨bb_of (decide_eq_false (by omega)), bb_of h, trivial⟩
  · exact absurd h (by simp)
noncomputable def t_bcut : Sums := upd t_bwithin 29 (some (sumOf bcut_F))
theorem t_bcut_ok : SumsOK Try.prog t_bcut := sums_cons t_bwithin_ok bcut_sum
def _root_.Go.Proofs.Ythbaccmhdffjdaa.Ev.Bx.lo (x : Bx) (k : Int) : Int := if k = 0 then x.a0 else if k = 1 then x.a1 else if k = 2 then x.a2 else if k = 3 then x.a3 else x.a4
def _root_.Go.Proofs.Ythbaccmhdffjdaa.Ev.Bx.hi (x : Bx) (k : Int) : Int := if k = 0 then x.b0 else if k = 1 then x.b1 else if k = 2 then x.b2 else if k = 3 then x.b3 else x.b4
/-- The lower part of a cut. -/
def _root_.Go.Proofs.Ythbaccmhdffjdaa.Ev.Bx.low (x : Bx) (p n : Int) : Bx := ⟨cL 0 p x.a0 x.b0 n, cH 0 p x.a0 x.b0 n, cL 1 p x.a1 x.b1 n, cH 1 p x.a1 x.b1 n, cL 2 p x.a2 x.b2 n, cH 2 p x.a2 x.b2 n, cL 3 p x.a3 x.b3 n, cH 3 p x.a3 x.b3 n, cL 4 p x.a4 x.b4 n, cH 4 p x.a4 x.b4 n⟩
def _root_.Go.Proofs.Ythbaccmhdffjdaa.Ev.Bx.high (x : Bx) (p n : Int) : Bx := ⟨dL 0 p x.a0 x.b0 n, dH 0 p x.a0 x.b0 n, dL 1 p x.a1 x.b1 n, dH 1 p x.a1 x.b1 n, dL 2 p x.a2 x.b2 n, dH 2 p x.a2 x.b2 n, dL 3 p x.a3 x.b3 n, dH 3 p x.a3 x.b3 n, dL 4 p x.a4 x.b4 n, dH 4 p x.a4 x.b4 n⟩
def _root_.Go.Proofs.Ythbaccmhdffjdaa.Ev.Bx.I64s (x : Bx) : Prop := I64 x.a0 ∧ I64 x.b0 ∧ I64 x.a1 ∧ I64 x.b1 ∧ I64 x.a2 ∧ I64 x.b2 ∧ I64 x.a3 ∧ I64 x.b3 ∧ I64 x.a4 ∧ I64 x.b4
theorem lo_read0 (x : Bx) : readPart Try.prog 3 x.cs (0 + (0 : Int).toNat * 2 + 0) = some (.int .i64 x.a0) := by kernel_rfl
theorem hi_read0 (x : Bx) : readPart Try.prog 3 x.cs (0 + (0 : Int).toNat * 2 + 1) = some (.int .i64 x.b0) := by kernel_rfl
theorem lo_read1 (x : Bx) : readPart Try.prog 3 x.cs (0 + (1 : Int).toNat * 2 + 0) = some (.int .i64 x.a1) := by kernel_rfl
theorem hi_read1 (x : Bx) : readPart Try.prog 3 x.cs (0 + (1 : Int).toNat * 2 + 1) = some (.int .i64 x.b1) := by kernel_rfl
theorem lo_read2 (x : Bx) : readPart Try.prog 3 x.cs (0 + (2 : Int).toNat * 2 + 0) = some (.int .i64 x.a2) := by kernel_rfl
theorem hi_read2 (x : Bx) : readPart Try.prog 3 x.cs (0 + (2 : Int).toNat * 2 + 1) = some (.int .i64 x.b2) := by kernel_rfl
theorem lo_read3 (x : Bx) : readPart Try.prog 3 x.cs (0 + (3 : Int).toNat * 2 + 0) = some (.int .i64 x.a3) := by kernel_rfl
theorem hi_read3 (x : Bx) : readPart Try.prog 3 x.cs (0 + (3 : Int).toNat * 2 + 1) = some (.int .i64 x.b3) := by kernel_rfl
theorem lo_read4 (x : Bx) : readPart Try.prog 3 x.cs (0 + (4 : Int).toNat * 2 + 0) = some (.int .i64 x.a4) := by kernel_rfl
theorem hi_read4 (x : Bx) : readPart Try.prog 3 x.cs (0 + (4 : Int).toNat * 2 + 1) = some (.int .i64 x.b4) := by kernel_rfl
theorem lo_read (x : Bx) {p : Int} (h0 : 0 ≤ p) (h5 : p < 5) : readPart Try.prog 3 x.cs (0 + p.toNat * 2 + 0) = some (.int .i64 (x.lo p)) := by
  have : p = 0 ∨ p = 1 ∨ p = 2 ∨ p = 3 ∨ p = 4 := by omega
  rcases this with h | h | h | h | h <;> rw [h]
  · rw [lo_read0]; simp [Bx.lo]
  · rw [lo_read1]; simp [Bx.lo]
  · rw [lo_read2]; simp [Bx.lo]
  · rw [lo_read3]; simp [Bx.lo]
  · rw [lo_read4]; simp [Bx.lo]
theorem hi_read (x : Bx) {p : Int} (h0 : 0 ≤ p) (h5 : p < 5) : readPart Try.prog 3 x.cs (0 + p.toNat * 2 + 1) = some (.int .i64 (x.hi p)) := by
  have : p = 0 ∨ p = 1 ∨ p = 2 ∨ p = 3 ∨ p = 4 := by omega
  rcases this with h | h | h | h | h <;> rw [h]
  · rw [hi_read0]; simp [Bx.hi]
  · rw [hi_read1]; simp [Bx.hi]
  · rw [hi_read2]; simp [Bx.hi]
  · rw [hi_read3]; simp [Bx.hi]
  · rw [hi_read4]; simp [Bx.hi]
/-- One end told anew. -/
def _root_.Go.Proofs.Ythbaccmhdffjdaa.Ev.Bx.setHi (x : Bx) (k v : Int) : Bx := ⟨x.a0, if k = 0 then v else x.b0, x.a1, if k = 1 then v else x.b1, x.a2, if k = 2 then v else x.b2, x.a3, if k = 3 then v else x.b3, x.a4, if k = 4 then v else x.b4⟩
def _root_.Go.Proofs.Ythbaccmhdffjdaa.Ev.Bx.setLo (x : Bx) (k v : Int) : Bx := ⟨if k = 0 then v else x.a0, x.b0, if k = 1 then v else x.a1, x.b1, if k = 2 then v else x.a2, x.b2, if k = 3 then v else x.a3, x.b3, if k = 4 then v else x.a4, x.b4⟩
/-- A cut that leaves no part empty. -/
theorem cut_in (x : Bx) {p a : Int} (h0 : 0 ≤ p) (h5 : p < 5) (hl : x.lo p ≤ a) (hh : a < x.hi p) : x.low p a = x.setHi p a ∧ x.high p a = x.setLo p (a + 1) := by
  have cc : ∀ u v : Int, u ≤ a → a < v → cutLo u v a = u ∧ cutHi u v a = a ∧ cutLo' u v a = a + 1 ∧ cutHi' u v a = v := fun u v h1 h2 => by
    have := cut_cases u v a
    omega
  have : p = 0 ∨ p = 1 ∨ p = 2 ∨ p = 3 ∨ p = 4 := by omega
  obtain ⟨a0, b0, a1, b1, a2, b2, a3, b3, a4, b4⟩ := x
  rcases this with rfl | rfl | rfl | rfl | rfl <;> simp [Bx.lo, Bx.hi] at hl hh <;> obtain ⟨h1, h2, h3, h4⟩ := cc _ _ hl hh <;> simp [Bx.low, Bx.high, Bx.setHi, Bx.setLo, cL, cH, dL, dH, h1, h2, h3, h4]
theorem i64s_set (x : Bx) {p a : Int} (hx : x.I64s) (h0 : 0 ≤ p) (h5 : p < 5) (hl : x.lo p ≤ a) (hh : a < x.hi p) : (x.setHi p a).I64s ∧ (x.setLo p (a + 1)).I64s ∧ I64 a := by
  have : p = 0 ∨ p = 1 ∨ p = 2 ∨ p = 3 ∨ p = 4 := by omega
  obtain ⟨a0, b0, a1, b1, a2, b2, a3, b3, a4, b4⟩ := x
  obtain ⟨⟨c1, c2⟩, ⟨c3, c4⟩, ⟨c5, c6⟩, ⟨c7, c8⟩, ⟨c9, c10⟩, ⟨c11, c12⟩, ⟨c13, c14⟩, ⟨c15, c16⟩, ⟨c17, c18⟩, ⟨c19, c20⟩⟩ := hx
  simp only at *
  rcases this with rfl | rfl | rfl | rfl | rfl <;> simp [Bx.lo, Bx.hi] at hl hh <;> simp [Bx.setHi, Bx.setLo, Bx.I64s] <;> omega
end Go.Proofs.Ythbaccmhdffjdaa.BoxF


set_option linter.unusedVariables false
set_option linter.unusedSimpArgs false
set_option maxRecDepth 100000
namespace Go.Proofs.Ythbaccmhdffjdaa.WkCliqueRuns
open Go Go.RowKit Go.Proofs.Ythbaccmhdffjdaa.Ev
abbrev z (n : Int) : Value := .int .i64 n
def obs : List Prop := [some (Value.agg ⟨[z 4, z 5, z 0, z 0, z 0, z 0, z 0, z 0, z 0, z 0]⟩) = some (Value.agg ⟨[z 4, z 5, z 0, z 0, z 0, z 0, z 0, z 0, z 0, z 0]⟩), some (z 22) = some (z 22), some (z 21) = some (z 21), some (z 11) = some (z 11), some (z 0) = some (z 0), some (z 0) = some (z 0), some (z 0) = some (z 0)]
theorem walk (w : World) : Calls Try.prog 3 #[] w fun e w' => e = .returned (.bool true) ∧ Below w.heap.size w w' :=
  (calls_runO hm (autoM_ok t_none_ok) (hints [(6, 33, { k := some true }), (6, 38, { k := some true })]) [] obs (by kernel_rfl) ⟨rfl, rfl, rfl, rfl, rfl, rfl, rfl, trivial⟩).2.2 w
end Go.Proofs.Ythbaccmhdffjdaa.WkCliqueRuns


set_option linter.unusedVariables false
set_option linter.unusedSimpArgs false
set_option maxRecDepth 100000
namespace Go.Proofs.Ythbaccmhdffjdaa.Cm
open Go Go.RowKit Go.Proofs.Ythbaccmhdffjdaa.Ev Go.Proofs.Ythbaccmhdffjdaa.Mg Go.Proofs.Ythbaccmhdffjdaa.BoxF Go.Proofs.Ythbaccmhdffjdaa.Within

theorem fwNil (u : Unit)  {E : Env} (hE : EnvOK E Try.prog Try.f17 1 0 (.slice (some ⟨100, 0, none⟩) 0 0) [100] [.cells [] 27]) (hob : all ([Back (Value.slice (some (Addr.mk 4 0 none)) 0 0) (Value.slice (some (Addr.mk 100 0 none)) 0 0) [Blk.cells [] 27] [Blk.cells [] 27] [(100, 4)], ZeroOK 0 (Value.slice (some (Addr.mk 4 0 none)) 0 0) (some (Blk.cells [] 27))])) : Sat E [.code (bodyOf Try.f17)] (st0 Try.f17 [.slice none 0 0] (roRows []) 0) :=
  by_ret (T := auto0 t_none) (h := hints [(1, 6, {p := true})]) (ws := []) (nx' := 101) hE hm (auto0_ok t_none_ok) (by omega) (by simp) (by intro x hx; simp at hx; subst hx; exact Blk.plain.namesLt (b := .cells _ _) (fun c hc => by simp at hc) _) (by kernel_rfl) hob
theorem fw0 (cs : List Value) (o n c : Nat)  {E : Env} (hE : EnvOK E Try.prog Try.f17 1 1 (.slice (some ⟨100, 0, none⟩) 0 0) [100] [.cells [] 27]) (hob : all ([Back (Value.slice (some (Addr.mk 5 0 none)) 0 0) (Value.slice (some (Addr.mk 100 0 none)) 0 0) [Blk.cells [] 27] [Blk.cells [] 27] [(100, 5)], ZeroOK 0 (Value.slice (some (Addr.mk 5 0 none)) 0 0) (some (Blk.cells [] 27)), SlOK 11 0 o n c none (some ((0 : Int))) (some (Blk.ro cs)) (Value.slice (some (Addr.mk 0 o none)) 0 c), Value.int IntKind.i64 (minI ((n : Int)) ((8 : Int))) = Value.int IntKind.i64 ((0 : Int))])) : Sat E [.code (bodyOf Try.f17)] (st0 Try.f17 [.slice (some ⟨0, o, none⟩) n c] (roRows [cs]) 1) :=
  by_ret (T := auto0 t_none) (h := hints [(1, 4, {v := some (.int .i64 0)}), (1, 5, {o := some (.slice (some ⟨0, o, none⟩) 0 c)}), (1, 6, {p := true})]) (ws := []) (nx' := 101) hE hm (auto0_ok t_none_ok) (by omega) (by simp) (by intro x hx; simp at hx; subst hx; exact Blk.plain.namesLt (b := .cells _ _) (fun c hc => by simp at hc) _) (by kernel_rfl) hob
theorem fwN (cs : List Value) (o n c m : Nat) (L : List Pc)  {E : Env} (hE : EnvOK E Try.prog Try.f17 1 1 (.slice (some ⟨100, 0, none⟩) m mk) [100] [.vec (ePc.row L) 27 11]) (hob : all ([Back (Value.slice (some (Addr.mk 29 0 none)) (0 + m) 1267650600228229401496703205376) (Value.slice (some (Addr.mk 100 0 none)) m 1267650600228229401496703205376) [Blk.vec (ePc.row L) 27 11] [Blk.vec (ePc.row L) 27 11] [(100, 29)], AppOK (some (Blk.cells [] 27)) 0 0 11 88 m cs o (ePc.row L), SlOK 11 0 o n c none (some ((m : Int))) (some (Blk.ro cs)) (Value.slice (some (Addr.mk 0 o none)) m c), Value.int IntKind.i64 (minI ((n : Int)) ((8 : Int))) = Value.int IntKind.i64 ((m : Int))])) : Sat E [.code (bodyOf Try.f17)] (st0 Try.f17 [.slice (some ⟨0, o, none⟩) n c] (roRows [cs]) 1) :=
  by_ret (T := auto0 t_none) (h := hints [(1, 4, {v := some (.int .i64 (m : Int))}), (1, 5, {o := some (.slice (some ⟨0, o, none⟩) m c)}), (1, 6, {c := some (ePc.row L)})]) (ws := []) (nx' := 101) hE hm (auto0_ok t_none_ok) (by omega) (by simp) (by intro x hx; simp at hx; subst hx; exact Blk.plain.namesLt (b := .vec _ _ _) (Elt.row_pl _) _) (by kernel_rfl) hob
end Go.Proofs.Ythbaccmhdffjdaa.Cm


set_option linter.unusedVariables false
set_option linter.unusedSimpArgs false
set_option maxRecDepth 100000
namespace Go.Proofs.Ythbaccmhdffjdaa.Cm
open Go Go.RowKit Go.Proofs.Ythbaccmhdffjdaa.Ev Go.Proofs.Ythbaccmhdffjdaa.Mg Go.Proofs.Ythbaccmhdffjdaa.BoxF Go.Proofs.Ythbaccmhdffjdaa.Within Go.Proofs.Ythbaccmhdffjdaa.Cm

def few_F (K : Bool) : RoF := fun xs css => match xs, css with
  | [.slice (some ⟨0, 0, none⟩) n c], [cs] => match K with
    | true => some (.slice (some ⟨100, 0, none⟩) (min n 8) mk, [.vec (ePc.row ((ePc.list cs 0 n).take 8)) 27 11], [cs = ePc.row (ePc.list cs 0 n), 1 ≤ n, n ≤ c, c ≤ maxLen])
    | false => some (.slice (some ⟨100, 0, none⟩) 0 0, [.cells [] 27], [n = 0, n ≤ c, c ≤ maxLen])
  | [.slice none 0 0], [] => some (.slice (some ⟨100, 0, none⟩) 0 0, [.cells [] 27], [])
  | _, _ => none
theorem few_sum (K : Bool) : SumOK Try.prog 17 (roSum (few_F K)) := by
  have zok : ∀ k : Nat, ZeroOK 0 (.slice (some ⟨k, 0, none⟩) 0 0) (some (.cells [] 27)) := fun k => ⟨rfl, Nat.le_refl _, by decide⟩
  refine roSum_ok (en Try.func17 rfl) ?_ (fun xs css r h => ?_)
  · intro xs css v blks ob h hob hpl hl
    unfold few_F at h
    split at h
    · rename_i n c cs
      cases K
      · simp only [Option.some.injEq, Prod.mk.injEq] at h
        obtain ⟨rfl, rfl, rfl⟩ := h
        obtain rfl : n = 0 := hob _ (List.mem_cons_self ..)
        refine ⟨by simp, fun x hx => by simp at hx; subst hx; exact ⟨fun c hc => by simp at hc, rfl⟩, fun j hj => by simp [nms, nm1, nm0] at hj; subst hj; simp, ?_⟩
        exact spec_of_sat Try.func17 rfl fun E hE => fw0 cs 0 0 c hE ⟨⟨rfl, rfl⟩, zok _, slOK_ro (h := 0) (Nat.le_refl _) (hob _ (by simp)) (hob _ (by simp)), rfl, trivial⟩
      · simp only [Option.some.injEq, Prod.mk.injEq] at h
        obtain ⟨rfl, rfl, rfl⟩ := h
        have h1 := hob (cs = ePc.row (ePc.list cs 0 n)) (by simp)
        have h2 := hob (1 ≤ n) (by simp)
        have h3 := hob (n ≤ c) (by simp)
        have h4 := hob (c ≤ maxLen) (by simp)
        have hlen : (ePc.list cs 0 n).length = n := Elt.list_len _ _ _
        generalize ePc.list cs 0 n = L at h1 hlen hl
        subst h1
        refine ⟨by simp, fun x hx => by simp at hx; subst hx; exact ⟨Elt.row_pl _, rfl⟩, fun j hj => by simp [nms, nm1, nm0] at hj; subst hj; simp, ?_⟩
        have hmin : Value.int .i64 (minI (n : Int) 8) = .int .i64 ((min n 8 : Nat) : Int) := congrArg _ (by unfold minI; split <;> omega)
        have htk : L.take 8 = L.take (min n 8) := by
          by_cases h : n ≤ 8
          · rw [Nat.min_eq_left h, List.take_of_length_le (by omega), List.take_of_length_le (by omega)]
          · rw [Nat.min_eq_right (by omega)]
        refine spec_of_sat Try.func17 rfl fun E hE => ?_
        have rnv : ∀ (f : Nat → Nat) (l : List Pc), Blk.rnB f (.vec (ePc.row l) 27 11) = .vec (ePc.row l) 27 11 := fun f l => Blk.plain.rnB (b := .vec (ePc.row l) 27 11) (Elt.row_pl _) f
        exact fwN (ePc.row L) 0 n c (min n 8) (L.take 8) hE ⟨⟨by rw [Nat.zero_add]; rfl, by simp only [List.map_cons, List.map_nil, rnv]⟩, appG (e := ePc) (L := []) (M := L) (k := 0) (Or.inr ⟨rfl, rfl, rfl⟩) rfl (by rw [Nat.zero_mul]) (by omega) (Nat.zero_le _) (by rw [htk]; simp) (by omega) (by omega) (by omega), slOK_ro (by omega) h3 h4, hmin, trivial⟩
    · simp only [Option.some.injEq, Prod.mk.injEq] at h
      obtain ⟨rfl, rfl, rfl⟩ := h
      refine ⟨by simp, fun x hx => by simp at hx; subst hx; exact ⟨fun c hc => by simp at hc, rfl⟩, fun j hj => by simp [nms, nm1, nm0] at hj; subst hj; simp, ?_⟩
      exact spec_of_sat Try.func17 rfl fun E hE => fwNil () hE ⟨⟨rfl, rfl⟩, zok _, trivial⟩
    · simp at h
  · unfold few_F at h
    split at h
    · cases K <;> simp at h <;> simp
    all_goals (simp at h <;> simp)
def cruns_F : List Value → Option (Value × List Prop)
  | [] => some (.bool true, [])
  | _ => none
theorem cruns_sum : SumOK Try.prog 3 (sumOf cruns_F) := by
  refine sumOf_ok (en Try.func3 rfl) fun args v ob h hob => ?_
  unfold cruns_F at h
  split at h
  · obtain ⟨rfl, rfl⟩ := Prod.mk.inj (Option.some.inj h)
    exact ⟨rfl, rfl, WkCliqueRuns.walk⟩
  · exact absurd h (by simp)
noncomputable def t_cruns : Sums := upd t_bring 3 (some (sumOf cruns_F))
theorem t_cruns_ok : SumsOK Try.prog t_cruns := sums_cons t_bring_ok cruns_sum
noncomputable def t_few (K : Bool) : Sums := upd t_cruns 17 (some (roSum (few_F K)))
theorem t_few_ok (K : Bool) : SumsOK Try.prog (t_few K) := sums_cons t_cruns_ok (few_sum K)
noncomputable def t_cm (K : Bool) (ML : List Pc → List EB) (MC : List Pc → Nat) : Sums := upd (t_few K) 16 (some (roSum (merge_F ML MC)))
theorem t_cm_ok (K : Bool) (ML : List Pc → List EB) (MC : List Pc → Nat) : SumsOK Try.prog (t_cm K ML MC) := sums_cons (t_few_ok K) (merge_sum ML MC)
/-- The pieces that are drawn. -/
structure CM where
  i : Nat
  ps : List Pc
  tot : Int
def psV (z : Nat) (ps : List Pc) : Value := match z with | 0 => .slice none 0 0 | _ => .slice (some ⟨13, 0, none⟩) ps.length mk
def cm1 (ow : List Pc) (k : Nat) (ts : List Int) (tn tc : Nat) (Q : Nat → CM → Prop) : LoopF CM where
  ts _ := [1, 5, 6, 7, 8]
  hs z := match z with | 0 => [1, 10] | _ => [1, 10, 13]
  tv z := fun ⟨i, ps, tot⟩ => [.slice (some ⟨1, 0, none⟩) tn tc, .slice (some ⟨10, 0, none⟩) k mk, psV z ps, .int .i64 tot, .int .i64 (i : Int)]
  hv z := fun ⟨i, ps, tot⟩ => match z with | 0 => [.ro (eInt.row ts), .vec (ePc.row ow) 27 11] | _ => [.ro (eInt.row ts), .vec (ePc.row ow) 27 11, .vec (ePc.row ps) 27 11]
  inv := Q
  mu _ := fun ⟨i, ps, tot⟩ => 20 - i
  nx := 14
theorem cm1_ok (ow : List Pc) (k : Nat) (ts : List Int) (tn tc : Nat) (Q : Nat → CM → Prop) : (cm1 ow k ts tn tc Q).OK 2 := by
  refine ⟨(by decide : 2 ≤ 14), fun z i h k hk => ?_, fun z i h v hv k hk => ?_, fun z i h x hx => ?_⟩
  · show k < 14
    match z with
    | 0 => simp [cm1] at hk; omega
    | z + 1 => simp [cm1] at hk; omega
  · show k < 14
    match z with
    | 0 =>
      simp [cm1, psV] at hv
      repeat' (refine Or.elim hv (fun hv => ?_) (fun hv => ?_))
      all_goals (subst hv; simp [nms, nm1, nm0] at hk; try omega)
    | z + 1 =>
      simp [cm1, psV] at hv
      repeat' (refine Or.elim hv (fun hv => ?_) (fun hv => ?_))
      all_goals (subst hv; simp [nms, nm1, nm0] at hk; try omega)
  · match z with
    | 0 =>
      simp [cm1] at hx
      rcases hx with rfl | rfl
      · exact Blk.plain.namesLt (b := .ro _) (Elt.row_pl _) _
      · exact Blk.plain.namesLt (b := .vec _ _ _) (Elt.row_pl _) _
    | z + 1 =>
      simp [cm1] at hx
      rcases hx with rfl | rfl | rfl
      · exact Blk.plain.namesLt (b := .ro _) (Elt.row_pl _) _
      · exact Blk.plain.namesLt (b := .vec _ _ _) (Elt.row_pl _) _
      · exact Blk.plain.namesLt (b := .vec _ _ _) (Elt.row_pl _) _
/-- The loop over the map. -/
structure CI where
  seen : List Nat
  sum : Int
def cm2 (ps : List Pc) (tot : Int) (l : List EB) (c : Nat) (l2 : List EB) (c2 : Nat) (Q : CI → Prop) : LoopF CI where
  ts _ := [6, 7, 10, 11, 12, 80]
  hs z := match z with | 0 => [20, 21, 22] | _ => [20, 21, 22, 13]
  tv z := fun ⟨seen, sum⟩ => [psV z ps, .int .i64 tot, .map (some 20), .map (some 21), .int .i64 sum, .pointer (some ⟨22, 0, none⟩)]
  hv z := fun ⟨seen, sum⟩ => match z with | 0 => [.map L10 true (some .i64) (esB l) c, .map L10 true (some .i64) (esB l2) c2, .it 20 c seen c] | _ => [.map L10 true (some .i64) (esB l) c, .map L10 true (some .i64) (esB l2) c2, .it 20 c seen c, .vec (ePc.row ps) 27 11]
  inv _ := Q
  mu _ := fun ⟨seen, sum⟩ => l.length - seen.length
  nx := 30
theorem cm2_ok (ps : List Pc) (tot : Int) (l : List EB) (c : Nat) (l2 : List EB) (c2 : Nat) (Q : CI → Prop) : (cm2 ps tot l c l2 c2 Q).OK 2 := by
  refine ⟨(by decide : 2 ≤ 30), fun z i h k hk => ?_, fun z i h v hv k hk => ?_, fun z i h x hx => ?_⟩
  · show k < 30
    match z with
    | 0 => simp [cm2] at hk; omega
    | z + 1 => simp [cm2] at hk; omega
  · show k < 30
    match z with
    | 0 =>
      simp [cm2, psV] at hv
      repeat' (refine Or.elim hv (fun hv => ?_) (fun hv => ?_))
      all_goals (subst hv; simp [nms, nm1, nm0] at hk; try omega)
    | z + 1 =>
      simp [cm2, psV] at hv
      repeat' (refine Or.elim hv (fun hv => ?_) (fun hv => ?_))
      all_goals (subst hv; simp [nms, nm1, nm0] at hk; try omega)
  · match z with
    | 0 =>
      simp [cm2] at hx
      rcases hx with rfl | rfl | rfl
      · trivial
      · trivial
      · show 20 < 30; omega
    | z + 1 =>
      simp [cm2] at hx
      rcases hx with rfl | rfl | rfl | rfl
      · trivial
      · trivial
      · show 20 < 30; omega
      · exact Blk.plain.namesLt (b := .vec _ _ _) (Elt.row_pl _) _
/-- The loop over the pieces. -/
def cm3 (ps : List Pc) (tot sum : Int) (l : List EB) (c : Nat) (Q : Nat → Prop) : LoopF Nat where
  ts _ := [7, 10, 12, 95, 96, 97]
  hs _ := [20, 13]
  tv _ i := [.int .i64 tot, .map (some 20), .int .i64 sum, .slice (some ⟨13, 0, none⟩) ps.length mk, .int .i64 (ps.length : Int), .int .i64 (i : Int)]
  hv _ _ := [.map L10 true (some .i64) (esB l) c, .vec (ePc.row ps) 27 11]
  inv _ := Q
  mu _ i := ps.length - i
  nx := 30
theorem cm3_ok (ps : List Pc) (tot sum : Int) (l : List EB) (c : Nat) (Q : Nat → Prop) : (cm3 ps tot sum l c Q).OK 2 := by
  refine ⟨(by decide : 2 ≤ 30), fun z i h k hk => ?_, fun z i h v hv k hk => ?_, fun z i h x hx => ?_⟩
  · show k < 30
    simp [cm3] at hk; omega
  · show k < 30
    simp [cm3] at hv
    repeat' (refine Or.elim hv (fun hv => ?_) (fun hv => ?_))
    all_goals (subst hv; simp [nms, nm1, nm0] at hk; try omega)
  · simp [cm3] at hx
    rcases hx with rfl | rfl
    · trivial
    · exact Blk.plain.namesLt (b := .vec _ _ _) (Elt.row_pl _) _
end Go.Proofs.Ythbaccmhdffjdaa.Cm


set_option linter.unusedVariables false
set_option linter.unusedSimpArgs false
set_option maxRecDepth 100000
namespace Go.Proofs.Ythbaccmhdffjdaa.Mm
open Go Go.RowKit Go.Proofs.Ythbaccmhdffjdaa.Ev Go.Proofs.Ythbaccmhdffjdaa.Within Go.Proofs.Ythbaccmhdffjdaa.BoxF
def mLo (a b c d : Int) : Int := ofLo (maxI a c) (minI b d)
def mHi (a b c d : Int) : Int := ofHi (maxI a c) (minI b d)
def rempty_F : List Value → Option (Value × List Prop)
  | [.agg ⟨[.int .i64 a0, .int .i64 a1, .int .i64 a2, .int .i64 a3, .int .i64 a4, .int .i64 a5, .int .i64 a6, .int .i64 a7, .int .i64 a8, .int .i64 a9]⟩] => some (.bool (emptyB a0 a1 a2 a3 a4 a5 a6 a7 a8 a9), [])
  | _ => none
theorem rempty_sum : SumOK Try.prog 25 (sumOf rempty_F) := by
  refine sumOf_ok (en Try.func25 rfl) fun args v ob h hob => ?_
  unfold rempty_F at h
  split at h
  · obtain ⟨rfl, rfl⟩ := Prod.mk.inj (Option.some.inj h)
    exact calls_run0 hm (auto0_ok t_bcut_ok) noHint [.go,.go,.fork,.go,.fork,.go,.fork,.go,.fork,.go,.fork] (by kernel_rfl)
  · exact absurd h (by simp)
noncomputable def t_rempty : Sums := upd t_bcut 25 (some (sumOf rempty_F))
theorem t_rempty_ok : SumsOK Try.prog t_rempty := sums_cons t_bcut_ok rempty_sum
def rmeet_F : List Value → Option (Value × List Prop)
  | [.agg ⟨[.int .i64 a, .int .i64 b]⟩, .agg ⟨[.int .i64 c, .int .i64 d]⟩] => some (.agg ⟨[.int .i64 (mLo a b c d), .int .i64 (mHi a b c d)]⟩, [])
  | _ => none
theorem rmeet_sum : SumOK Try.prog 47 (sumOf rmeet_F) := by
  refine sumOf_ok (en Try.func47 rfl) fun args v ob h hob => ?_
  unfold rmeet_F at h
  split at h
  · obtain ⟨rfl, rfl⟩ := Prod.mk.inj (Option.some.inj h)
    exact calls_run0 hm (auto0_ok t_rempty_ok) noHint [.fork] (by kernel_rfl)
  · exact absurd h (by simp)
noncomputable def t_rmeet : Sums := upd t_rempty 47 (some (sumOf rmeet_F))
theorem t_rmeet_ok : SumsOK Try.prog t_rmeet := sums_cons t_rempty_ok rmeet_sum
def smeet_F : List Value → Option (Value × List Prop)
  | [.agg ⟨[.int .i64 a, .int .i64 b]⟩, .agg ⟨[.int .i64 c, .int .i64 d]⟩] => some (.agg ⟨[.int .i64 (mLo a b c d), .int .i64 (mHi a b c d)]⟩, [])
  | _ => none
theorem smeet_sum : SumOK Try.prog 54 (sumOf smeet_F) := by
  refine sumOf_ok (en Try.func54 rfl) fun args v ob h hob => ?_
  unfold smeet_F at h
  split at h
  · obtain ⟨rfl, rfl⟩ := Prod.mk.inj (Option.some.inj h)
    exact calls_run0 hm (auto0_ok t_rmeet_ok) noHint [] (by kernel_rfl)
  · exact absurd h (by simp)
noncomputable def t_smeet : Sums := upd t_rmeet 54 (some (sumOf smeet_F))
theorem t_smeet_ok : SumsOK Try.prog t_smeet := sums_cons t_rmeet_ok smeet_sum
def bmeet_F : List Value → Option (Value × List Prop)
  | [.agg ⟨[.int .i64 a0, .int .i64 a1, .int .i64 a2, .int .i64 a3, .int .i64 a4, .int .i64 a5, .int .i64 a6, .int .i64 a7, .int .i64 a8, .int .i64 a9]⟩, .agg ⟨[.int .i64 b0, .int .i64 b1, .int .i64 b2, .int .i64 b3, .int .i64 b4, .int .i64 b5, .int .i64 b6, .int .i64 b7, .int .i64 b8, .int .i64 b9]⟩] => some (.agg ⟨[.int .i64 (mLo a0 a1 b0 b1), .int .i64 (mHi a0 a1 b0 b1), .int .i64 (mLo a2 a3 b2 b3), .int .i64 (mHi a2 a3 b2 b3), .int .i64 (mLo a4 a5 b4 b5), .int .i64 (mHi a4 a5 b4 b5), .int .i64 (mLo a6 a7 b6 b7), .int .i64 (mHi a6 a7 b6 b7), .int .i64 (mLo a8 a9 b8 b9), .int .i64 (mHi a8 a9 b8 b9)]⟩, [])
  | _ => none
theorem bmeet_sum : SumOK Try.prog 39 (sumOf bmeet_F) := by
  refine sumOf_ok (en Try.func39 rfl) fun args v ob h hob => ?_
  unfold bmeet_F at h
  split at h
  · obtain ⟨rfl, rfl⟩ := Prod.mk.inj (Option.some.inj h)
    exact calls_run0 hm (auto0_ok t_smeet_ok) noHint [] (by kernel_rfl)
  · exact absurd h (by simp)
noncomputable def t_bmeet : Sums := upd t_smeet 39 (some (sumOf bmeet_F))
theorem t_bmeet_ok : SumsOK Try.prog t_bmeet := sums_cons t_smeet_ok bmeet_sum
def rmeetbox_F : List Value → Option (Value × List Prop)
  | [.agg ⟨[.int .i64 a0, .int .i64 a1, .int .i64 a2, .int .i64 a3, .int .i64 a4, .int .i64 a5, .int .i64 a6, .int .i64 a7, .int .i64 a8, .int .i64 a9]⟩, .agg ⟨[.int .i64 b0, .int .i64 b1, .int .i64 b2, .int .i64 b3, .int .i64 b4, .int .i64 b5, .int .i64 b6, .int .i64 b7, .int .i64 b8, .int .i64 b9]⟩] => some (.agg ⟨[.int .i64 (mLo a0 a1 b0 b1), .int .i64 (mHi a0 a1 b0 b1), .int .i64 (mLo a2 a3 b2 b3), .int .i64 (mHi a2 a3 b2 b3), .int .i64 (mLo a4 a5 b4 b5), .int .i64 (mHi a4 a5 b4 b5), .int .i64 (mLo a6 a7 b6 b7), .int .i64 (mHi a6 a7 b6 b7), .int .i64 (mLo a8 a9 b8 b9), .int .i64 (mHi a8 a9 b8 b9)]⟩, [])
  | _ => none
theorem rmeetbox_sum : SumOK Try.prog 40 (sumOf rmeetbox_F) := by
  refine sumOf_ok (en Try.func40 rfl) fun args v ob h hob => ?_
  unfold rmeetbox_F at h
  split at h
  · obtain ⟨rfl, rfl⟩ := Prod.mk.inj (Option.some.inj h)
    exact calls_run0 hm (auto0_ok t_bmeet_ok) noHint [] (by kernel_rfl)
  · exact absurd h (by simp)
noncomputable def t_rmeetbox : Sums := upd t_bmeet 40 (some (sumOf rmeetbox_F))
theorem t_rmeetbox_ok : SumsOK Try.prog t_rmeetbox := sums_cons t_bmeet_ok rmeetbox_sum
end Go.Proofs.Ythbaccmhdffjdaa.Mm


set_option linter.unusedVariables false
set_option linter.unusedSimpArgs false
namespace Go.Proofs.Ythbaccmhdffjdaa.Mt
open Go Go.RowKit Go.Proofs.Ythbaccmhdffjdaa.Ev Go.Proofs.Ythbaccmhdffjdaa.Within Go.Proofs.Ythbaccmhdffjdaa.BoxF Go.Proofs.Ythbaccmhdffjdaa.Mm
def mBx (x y : Bx) : Bx := ⟨mLo x.a0 x.b0 y.a0 y.b0, mHi x.a0 x.b0 y.a0 y.b0, mLo x.a1 x.b1 y.a1 y.b1, mHi x.a1 x.b1 y.a1 y.b1, mLo x.a2 x.b2 y.a2 y.b2, mHi x.a2 x.b2 y.a2 y.b2, mLo x.a3 x.b3 y.a3 y.b3, mHi x.a3 x.b3 y.a3 y.b3, mLo x.a4 x.b4 y.a4 y.b4, mHi x.a4 x.b4 y.a4 y.b4⟩
def bxE (x : Bx) : Bool := emptyB x.a0 x.b0 x.a1 x.b1 x.a2 x.b2 x.a3 x.b3 x.a4 x.b4
def mPc (x y : Pc) : Pc := ⟨mBx x.box y.box, IntKind.i64.wrap (x.val + y.val)⟩
/-- The inner loop. -/
def mtI (most : Int) (x : Pc) : List Pc → List Pc → Option (List Pc)
  | out, [] => some out
  | out, y :: ys => if bxE (mBx x.box y.box) = true then mtI most x out ys else if (out.length : Int) ≥ most then none else mtI most x (out ++ [mPc x y]) ys
/-- The outer loop. -/
def mtO (most : Int) (b : List Pc) : List Pc → List Pc → Option (List Pc)
  | out, [] => some out
  | out, x :: xs => (mtI most x out b).bind fun o => mtO most b o xs
def meetL (a b : List Pc) (most : Int) : Option (List Pc) := mtO most b [] a
theorem mtI_len {most : Int} {x : Pc} : ∀ {ys out o : List Pc}, mtI most x out ys = some o → (o.length : Int) ≤ max (out.length : Int) most := by
  intro ys
  induction ys with
  | nil => intro out o h; simp only [mtI, Option.some.injEq] at h; subst h; omega
  | cons y ys ih =>
    intro out o h
    simp only [mtI] at h
    split at h
    · exact ih h
    · split at h
      · exact absurd h (by simp)
      · have := ih h
        simp at this
        omega
theorem mtO_len {most : Int} {b : List Pc} : ∀ {xs out o : List Pc}, mtO most b out xs = some o → (o.length : Int) ≤ max (out.length : Int) most := by
  intro xs
  induction xs with
  | nil => intro out o h; simp only [mtO, Option.some.injEq] at h; subst h; omega
  | cons x xs ih =>
    intro out o h
    simp only [mtO] at h
    cases e : mtI most x out b with
    | none => rw [e] at h; exact absurd h (by simp)
    | some o1 =>
      rw [e] at h
      have h1 := mtI_len e
      have h2 := ih h
      omega
end Go.Proofs.Ythbaccmhdffjdaa.Mt


set_option linter.unusedVariables false
set_option linter.unusedSimpArgs false
set_option maxRecDepth 100000
namespace Go.Proofs.Ythbaccmhdffjdaa.Mt
open Go Go.RowKit Go.Proofs.Ythbaccmhdffjdaa.Ev Go.Proofs.Ythbaccmhdffjdaa.Within Go.Proofs.Ythbaccmhdffjdaa.BoxF Go.Proofs.Ythbaccmhdffjdaa.Mm
structure MO where
  i : Nat
  out : List Pc
structure MI where
  j : Nat
  out : List Pc
def muV (z : Nat) (out : List Pc) : Value := match z with | 0 => .slice none 0 0 | _ => .slice (some ⟨13, 0, none⟩) out.length mk
def moL (cs ds : List Value) (o n c p m d : Nat) (k : Int) (Q : Nat → MO → Prop) : LoopF MO where
  ts _ := [1, 2, 8, 14, 15, 16]
  hs z := match z with | 0 => [0, 1] | _ => [0, 1, 13]
  tv z := fun ⟨i, out⟩ => [.slice (some ⟨1, p, none⟩) m d, .int .i64 k, muV z out, .slice (some ⟨0, o, none⟩) n c, .int .i64 (n : Int), .int .i64 (i : Int)]
  hv z := fun ⟨i, out⟩ => match z with | 0 => [.ro cs, .ro ds] | _ => [.ro cs, .ro ds, .vec (ePc.row out) 27 11]
  inv := Q
  mu _ := fun ⟨i, out⟩ => n - i
  nx := 14
def miL (cs ds : List Value) (o n c p m d : Nat) (k : Int) (i : Nat) (bo : Bx) (v : Int) (Q : Nat → MI → Prop) : LoopF MI where
  ts _ := [1, 2, 8, 10, 14, 15, 16, 20, 21, 22]
  hs z := match z with | 0 => [0, 1, 10] | _ => [0, 1, 10, 13]
  tv z := fun ⟨j, out⟩ => [.slice (some ⟨1, p, none⟩) m d, .int .i64 k, muV z out, .pointer (some ⟨10, 0, none⟩), .slice (some ⟨0, o, none⟩) n c, .int .i64 (n : Int), .int .i64 (i : Int), .slice (some ⟨1, p, none⟩) m d, .int .i64 (m : Int), .int .i64 (j : Int)]
  hv z := fun ⟨j, out⟩ => match z with | 0 => [.ro cs, .ro ds, .cells (bo.cs ++ [.int .i64 v]) 27] | _ => [.ro cs, .ro ds, .cells (bo.cs ++ [.int .i64 v]) 27, .vec (ePc.row out) 27 11]
  inv := Q
  mu _ := fun ⟨j, out⟩ => m - j
  nx := 14
theorem moL_ok (cs ds : List Value) (o n c p m d : Nat) (k : Int) (Q : Nat → MO → Prop) (h1 : ∀ x ∈ cs, leafG x = true) (h2 : ∀ x ∈ ds, leafG x = true) : (moL cs ds o n c p m d k Q).OK 2 := by
  refine ⟨(by decide : 2 ≤ 14), fun z i h k hk => ?_, fun z i h v hv k hk => ?_, fun z i h x hx => ?_⟩
  · show k < 14
    match z with
    | 0 => simp [moL] at hk; omega
    | z + 1 => simp [moL] at hk; omega
  · show k < 14
    match z with
    | 0 =>
      simp [moL, muV] at hv
      repeat' (refine Or.elim hv (fun hv => ?_) (fun hv => ?_))
      all_goals (subst hv; simp [nms, nm1, nm0] at hk; try omega)
    | z + 1 =>
      simp [moL, muV] at hv
      repeat' (refine Or.elim hv (fun hv => ?_) (fun hv => ?_))
      all_goals (subst hv; simp [nms, nm1, nm0] at hk; try omega)
  · match z with
    | 0 =>
      simp [moL] at hx
      rcases hx with rfl | rfl
      · exact Blk.plain.namesLt (b := .ro _) h1 _
      · exact Blk.plain.namesLt (b := .ro _) h2 _
    | z + 1 =>
      simp [moL] at hx
      rcases hx with rfl | rfl | rfl
      · exact Blk.plain.namesLt (b := .ro _) h1 _
      · exact Blk.plain.namesLt (b := .ro _) h2 _
      · exact Blk.plain.namesLt (b := .vec _ _ _) (Elt.row_pl _) _
theorem miL_ok (cs ds : List Value) (o n c p m d : Nat) (k : Int) (i : Nat) (bo : Bx) (v : Int) (Q : Nat → MI → Prop) (h1 : ∀ x ∈ cs, leafG x = true) (h2 : ∀ x ∈ ds, leafG x = true) : (miL cs ds o n c p m d k i bo v Q).OK 2 := by
  have hb : ∀ x ∈ bo.cs ++ [Value.int .i64 v], leafG x = true := ePc.pl ⟨bo, v⟩
  refine ⟨(by decide : 2 ≤ 14), fun z i h k hk => ?_, fun z i h v hv k hk => ?_, fun z i h x hx => ?_⟩
  · show k < 14
    match z with
    | 0 => simp [miL] at hk; omega
    | z + 1 => simp [miL] at hk; omega
  · show k < 14
    match z with
    | 0 =>
      simp [miL, muV] at hv
      repeat' (refine Or.elim hv (fun hv => ?_) (fun hv => ?_))
      all_goals (subst hv; simp [nms, nm1, nm0] at hk; try omega)
    | z + 1 =>
      simp [miL, muV] at hv
      repeat' (refine Or.elim hv (fun hv => ?_) (fun hv => ?_))
      all_goals (subst hv; simp [nms, nm1, nm0] at hk; try omega)
  · match z with
    | 0 =>
      simp [miL] at hx
      rcases hx with rfl | rfl | rfl
      · exact Blk.plain.namesLt (b := .ro _) h1 _
      · exact Blk.plain.namesLt (b := .ro _) h2 _
      · exact Blk.plain.namesLt (b := .cells _ _) hb _
    | z + 1 =>
      simp [miL] at hx
      rcases hx with rfl | rfl | rfl | rfl
      · exact Blk.plain.namesLt (b := .ro _) h1 _
      · exact Blk.plain.namesLt (b := .ro _) h2 _
      · exact Blk.plain.namesLt (b := .cells _ _) hb _
      · exact Blk.plain.namesLt (b := .vec _ _ _) (Elt.row_pl _) _
end Go.Proofs.Ythbaccmhdffjdaa.Mt


set_option linter.unusedVariables false
set_option linter.unusedSimpArgs false
set_option maxRecDepth 100000
namespace Go.Proofs.Ythbaccmhdffjdaa.Mt
open Go Go.RowKit Go.Proofs.Ythbaccmhdffjdaa.Ev Go.Proofs.Ythbaccmhdffjdaa.Within Go.Proofs.Ythbaccmhdffjdaa.BoxF Go.Proofs.Ythbaccmhdffjdaa.Mm Go.Proofs.Ythbaccmhdffjdaa.Mt
theorem cIn (cs ds : List Value) (o n c p m d : Nat) (k : Int) (Q : Nat → MO → Prop)  {E : Env} {rv : Value} {rhs : List Nat} {rhv : List Blk} (hE : EnvOK E Try.prog Try.f13 3 2 rv rhs rhv) (hL : (moL cs ds o n c p m d k Q).OK 2) (hob : all ([SameK (atLp (lp Try.f13 0)) (atLp (lp Try.f13 0)), Enter (moL cs ds o n c p m d k Q) 0 none [Value.slice (some (Addr.mk 1 p none)) m d, Value.int IntKind.i64 k, Value.slice none 0 0, Value.slice (some (Addr.mk 0 o none)) n c, Value.int IntKind.i64 ((n : Int)), Value.int IntKind.i64 ((0 : Int))] [Blk.ro cs, Blk.ro ds] [(1, 1), (0, 0)]])) (hK : ∀ zz, (moL cs ds o n c p m d k Q).inv 0 zz → ltO ((moL cs ds o n c p m d k Q).mu 0 zz) none → Sat E (atLp (lp Try.f13 0)) ((moL cs ds o n c p m d k Q).st 0 zz)) : Sat E [.code (bodyOf Try.f13)] (st0 Try.f13 [.slice (some ⟨0, o, none⟩) n c, .slice (some ⟨1, p, none⟩) m d, .int .i64 k] (roRows [cs, ds]) 2) :=
  by_to (T := auto0 t_rmeetbox) (h := hints []) (ws := [.stop]) (i0 := ⟨0, []⟩) hE hm (auto0_ok t_rmeetbox_ok) hL (by kernel_rfl) hob hK
theorem cE0 (cs ds : List Value) (o n c p m d : Nat) (k : Int) (Q : Nat → MO → Prop) (i : Nat) (out : List Pc) (J : Act → World → Prop) {E : Env} (hE : EnvOK E Try.prog Try.f13 3 2 (.tuple ⟨[.slice none 0 0, .bool true]⟩) [] []) (hob : all ([Back (Value.tuple (Array.mk [Value.slice none 0 0, Value.bool true])) (Value.tuple (Array.mk [Value.slice none 0 0, Value.bool true])) [] [] [], decide ((↑i : Int) < (↑n : Int)) = false])) : Sat E (inLp (lp Try.f13 0) J) ((moL cs ds o n c p m d k Q).st 0 ⟨i, out⟩) :=
  by_ret (T := auto0 t_rmeetbox) (h := hints []) (ws := [.b false]) (nx' := 2) hE hm (auto0_ok t_rmeetbox_ok) (by omega) (by simp) (by simp) (by kernel_rfl) hob
theorem cE1 (cs ds : List Value) (o n c p m d : Nat) (k : Int) (Q : Nat → MO → Prop) (i : Nat) (out : List Pc) (J : Act → World → Prop) {E : Env} (hE : EnvOK E Try.prog Try.f13 3 2 (.tuple ⟨[.slice (some ⟨100, 0, none⟩) out.length mk, .bool true]⟩) [100] [.vec (ePc.row out) 27 11]) (hob : all ([Back (Value.tuple (Array.mk [Value.slice (some (Addr.mk 13 0 none)) out.length 1267650600228229401496703205376, Value.bool true])) (Value.tuple (Array.mk [Value.slice (some (Addr.mk 100 0 none)) out.length 1267650600228229401496703205376, Value.bool true])) [Blk.vec (ePc.row out) 27 11] [Blk.vec (ePc.row out) 27 11] [(100, 13)], decide ((↑i : Int) < (↑n : Int)) = false])) : Sat E (inLp (lp Try.f13 0) J) ((moL cs ds o n c p m d k Q).st 1 ⟨i, out⟩) :=
  by_ret (T := auto0 t_rmeetbox) (h := hints []) (ws := [.b false]) (nx' := 101) hE hm (auto0_ok t_rmeetbox_ok) (by omega) (by simp) (by intro x hx; simp at hx; subst hx; exact Blk.plain.namesLt (b := .vec _ _ _) (Elt.row_pl _) _) (by kernel_rfl) hob
theorem cB0 (cs ds : List Value) (o n c p m d : Nat) (k : Int) (Q : Nat → MO → Prop) (Q2 : Nat → MI → Prop) (i : Nat) (out : List Pc) (bo : Bx) (v : Int) (J : Act → World → Prop) {E : Env} {rv : Value} {rhs : List Nat} {rhv : List Blk} (hE : EnvOK E Try.prog Try.f13 3 2 rv rhs rhv) (hL : (miL cs ds o n c p m d k i bo v Q2).OK 2) (hob : all ([SameK (atLp (lpIn (lp Try.f13 0) J 0)) (atLp (lpIn (lp Try.f13 0) J 0)), Enter (miL cs ds o n c p m d k i bo v Q2) 0 none [Value.slice (some (Addr.mk 1 p none)) m d, Value.int IntKind.i64 k, Value.slice none 0 0, Value.pointer (some (Addr.mk 26 0 none)), Value.slice (some (Addr.mk 0 o none)) n c, Value.int IntKind.i64 ((n : Int)), Value.int IntKind.i64 ((i : Int)), Value.slice (some (Addr.mk 1 p none)) m d, Value.int IntKind.i64 ((m : Int)), Value.int IntKind.i64 ((0 : Int))] [Blk.ro cs, Blk.ro ds, Blk.cells [Value.int IntKind.i64 bo.a0, Value.int IntKind.i64 bo.b0, Value.int IntKind.i64 bo.a1, Value.int IntKind.i64 bo.b1, Value.int IntKind.i64 bo.a2, Value.int IntKind.i64 bo.b2, Value.int IntKind.i64 bo.a3, Value.int IntKind.i64 bo.b3, Value.int IntKind.i64 bo.a4, Value.int IntKind.i64 bo.b4, Value.int IntKind.i64 v] 27] [(1, 1), (10, 26), (0, 0), (1, 1)], readPart Try.prog 27 cs (o + ((i : Int)).toNat * 11) = some (Value.agg (Array.mk [Value.int IntKind.i64 bo.a0, Value.int IntKind.i64 bo.b0, Value.int IntKind.i64 bo.a1, Value.int IntKind.i64 bo.b1, Value.int IntKind.i64 bo.a2, Value.int IntKind.i64 bo.b2, Value.int IntKind.i64 bo.a3, Value.int IntKind.i64 bo.b3, Value.int IntKind.i64 bo.a4, Value.int IntKind.i64 bo.b4, Value.int IntKind.i64 v])), (0 : Int) ≤ (i : Int) ∧ (i : Int) < (n : Int), decide ((↑i : Int) < (↑n : Int)) = true])) (hK : ∀ zz, (miL cs ds o n c p m d k i bo v Q2).inv 0 zz → ltO ((miL cs ds o n c p m d k i bo v Q2).mu 0 zz) none → Sat E (atLp (lpIn (lp Try.f13 0) J 0)) ((miL cs ds o n c p m d k i bo v Q2).st 0 zz)) : Sat E (inLp (lp Try.f13 0) J) ((moL cs ds o n c p m d k Q).st 0 ⟨i, out⟩) :=
  by_to (T := auto0 t_rmeetbox) (h := hints [(4, 0, {p := true}), (4, 1, {o := some (.agg ⟨bo.cs ++ [.int .i64 v]⟩)})]) (ws := [.b true, .stop]) (i0 := ⟨0, out⟩) hE hm (auto0_ok t_rmeetbox_ok) hL (by kernel_rfl) hob hK
theorem cB1 (cs ds : List Value) (o n c p m d : Nat) (k : Int) (Q : Nat → MO → Prop) (Q2 : Nat → MI → Prop) (i : Nat) (out : List Pc) (bo : Bx) (v : Int) (J : Act → World → Prop) {E : Env} {rv : Value} {rhs : List Nat} {rhv : List Blk} (hE : EnvOK E Try.prog Try.f13 3 2 rv rhs rhv) (hL : (miL cs ds o n c p m d k i bo v Q2).OK 2) (hob : all ([SameK (atLp (lpIn (lp Try.f13 0) J 0)) (atLp (lpIn (lp Try.f13 0) J 0)), Enter (miL cs ds o n c p m d k i bo v Q2) 1 none [Value.slice (some (Addr.mk 1 p none)) m d, Value.int IntKind.i64 k, Value.slice (some (Addr.mk 13 0 none)) out.length 1267650600228229401496703205376, Value.pointer (some (Addr.mk 26 0 none)), Value.slice (some (Addr.mk 0 o none)) n c, Value.int IntKind.i64 ((n : Int)), Value.int IntKind.i64 ((i : Int)), Value.slice (some (Addr.mk 1 p none)) m d, Value.int IntKind.i64 ((m : Int)), Value.int IntKind.i64 ((0 : Int))] [Blk.ro cs, Blk.ro ds, Blk.cells [Value.int IntKind.i64 bo.a0, Value.int IntKind.i64 bo.b0, Value.int IntKind.i64 bo.a1, Value.int IntKind.i64 bo.b1, Value.int IntKind.i64 bo.a2, Value.int IntKind.i64 bo.b2, Value.int IntKind.i64 bo.a3, Value.int IntKind.i64 bo.b3, Value.int IntKind.i64 bo.a4, Value.int IntKind.i64 bo.b4, Value.int IntKind.i64 v] 27, Blk.vec (ePc.row out) 27 11] [(1, 1), (13, 13), (10, 26), (0, 0), (1, 1)], readPart Try.prog 27 cs (o + ((i : Int)).toNat * 11) = some (Value.agg (Array.mk [Value.int IntKind.i64 bo.a0, Value.int IntKind.i64 bo.b0, Value.int IntKind.i64 bo.a1, Value.int IntKind.i64 bo.b1, Value.int IntKind.i64 bo.a2, Value.int IntKind.i64 bo.b2, Value.int IntKind.i64 bo.a3, Value.int IntKind.i64 bo.b3, Value.int IntKind.i64 bo.a4, Value.int IntKind.i64 bo.b4, Value.int IntKind.i64 v])), (0 : Int) ≤ (i : Int) ∧ (i : Int) < (n : Int), decide ((↑i : Int) < (↑n : Int)) = true])) (hK : ∀ zz, (miL cs ds o n c p m d k i bo v Q2).inv 1 zz → ltO ((miL cs ds o n c p m d k i bo v Q2).mu 1 zz) none → Sat E (atLp (lpIn (lp Try.f13 0) J 0)) ((miL cs ds o n c p m d k i bo v Q2).st 1 zz)) : Sat E (inLp (lp Try.f13 0) J) ((moL cs ds o n c p m d k Q).st 1 ⟨i, out⟩) :=
  by_to (T := auto0 t_rmeetbox) (h := hints [(4, 0, {p := true}), (4, 1, {o := some (.agg ⟨bo.cs ++ [.int .i64 v]⟩)})]) (ws := [.b true, .stop]) (i0 := ⟨0, out⟩) hE hm (auto0_ok t_rmeetbox_ok) hL (by kernel_rfl) hob hK
theorem cK0 (cs ds : List Value) (o n c p m d : Nat) (k : Int) (Q : Nat → MI → Prop) (i j : Nat) (out : List Pc) (bo b2 : Bx) (v v2 : Int) (J0 : Act → World → Prop) (J : Act → World → Prop) {E : Env} {rv : Value} {rhs : List Nat} {rhv : List Blk} (hE : EnvOK E Try.prog Try.f13 3 2 rv rhs rhv) (hL : (miL cs ds o n c p m d k i bo v Q).OK 2) (hob : all ([SameK (mkLp (lpIn (lp Try.f13 0) J0 0) J) (mkLp (lpIn (lp Try.f13 0) J0 0) J), Enter (miL cs ds o n c p m d k i bo v Q) 0 (some (m - j)) [Value.slice (some (Addr.mk 1 p none)) m d, Value.int IntKind.i64 k, Value.slice none 0 0, Value.pointer (some (Addr.mk 10 0 none)), Value.slice (some (Addr.mk 0 o none)) n c, Value.int IntKind.i64 ((n : Int)), Value.int IntKind.i64 ((i : Int)), Value.slice (some (Addr.mk 1 p none)) m d, Value.int IntKind.i64 ((m : Int)), Value.int IntKind.i64 (Int.ofNat j.succ)] [Blk.ro cs, Blk.ro ds, Blk.cells [Value.int IntKind.i64 bo.a0, Value.int IntKind.i64 bo.b0, Value.int IntKind.i64 bo.a1, Value.int IntKind.i64 bo.b1, Value.int IntKind.i64 bo.a2, Value.int IntKind.i64 bo.b2, Value.int IntKind.i64 bo.a3, Value.int IntKind.i64 bo.b3, Value.int IntKind.i64 bo.a4, Value.int IntKind.i64 bo.b4, Value.int IntKind.i64 v] 27] [(1, 1), (10, 10), (0, 0), (1, 1)], Value.int IntKind.i64 (IntKind.i64.wrap (Int.ofNat j.succ)) = Value.int IntKind.i64 (Int.ofNat j.succ), emptyB (mLo bo.a0 bo.b0 b2.a0 b2.b0) (mHi bo.a0 bo.b0 b2.a0 b2.b0) (mLo bo.a1 bo.b1 b2.a1 b2.b1) (mHi bo.a1 bo.b1 b2.a1 b2.b1) (mLo bo.a2 bo.b2 b2.a2 b2.b2) (mHi bo.a2 bo.b2 b2.a2 b2.b2) (mLo bo.a3 bo.b3 b2.a3 b2.b3) (mHi bo.a3 bo.b3 b2.a3 b2.b3) (mLo bo.a4 bo.b4 b2.a4 b2.b4) (mHi bo.a4 bo.b4 b2.a4 b2.b4) = true, readPart Try.prog 27 ds (p + ((j : Int)).toNat * 11) = some (Value.agg (Array.mk [Value.int IntKind.i64 b2.a0, Value.int IntKind.i64 b2.b0, Value.int IntKind.i64 b2.a1, Value.int IntKind.i64 b2.b1, Value.int IntKind.i64 b2.a2, Value.int IntKind.i64 b2.b2, Value.int IntKind.i64 b2.a3, Value.int IntKind.i64 b2.b3, Value.int IntKind.i64 b2.a4, Value.int IntKind.i64 b2.b4, Value.int IntKind.i64 v2])), (0 : Int) ≤ (j : Int) ∧ (j : Int) < (m : Int), decide ((↑j : Int) < (↑m : Int)) = true])) (hK : ∀ zz, (miL cs ds o n c p m d k i bo v Q).inv 0 zz → ltO ((miL cs ds o n c p m d k i bo v Q).mu 0 zz) (some (m - j)) → Sat E (mkLp (lpIn (lp Try.f13 0) J0 0) J) ((miL cs ds o n c p m d k i bo v Q).st 0 zz)) : Sat E (inLp (lpIn (lp Try.f13 0) J0 0) J) ((miL cs ds o n c p m d k i bo v Q).st 0 ⟨j, out⟩) :=
  by_to (T := auto0 t_rmeetbox) (h := hints [(7, 0, {p := true}), (7, 1, {o := some (.agg ⟨b2.cs ++ [.int .i64 v2]⟩)}), (13, 0, {v := some (.int .i64 ((j + 1 : Nat) : Int))})]) (ws := [.b true, .b true]) (i0 := ⟨j + 1, out⟩) hE hm (auto0_ok t_rmeetbox_ok) hL (by kernel_rfl) hob hK
theorem cK1 (cs ds : List Value) (o n c p m d : Nat) (k : Int) (Q : Nat → MI → Prop) (i j : Nat) (out : List Pc) (bo b2 : Bx) (v v2 : Int) (J0 : Act → World → Prop) (J : Act → World → Prop) {E : Env} {rv : Value} {rhs : List Nat} {rhv : List Blk} (hE : EnvOK E Try.prog Try.f13 3 2 rv rhs rhv) (hL : (miL cs ds o n c p m d k i bo v Q).OK 2) (hob : all ([SameK (mkLp (lpIn (lp Try.f13 0) J0 0) J) (mkLp (lpIn (lp Try.f13 0) J0 0) J), Enter (miL cs ds o n c p m d k i bo v Q) 1 (some (m - j)) [Value.slice (some (Addr.mk 1 p none)) m d, Value.int IntKind.i64 k, Value.slice (some (Addr.mk 13 0 none)) out.length 1267650600228229401496703205376, Value.pointer (some (Addr.mk 10 0 none)), Value.slice (some (Addr.mk 0 o none)) n c, Value.int IntKind.i64 ((n : Int)), Value.int IntKind.i64 ((i : Int)), Value.slice (some (Addr.mk 1 p none)) m d, Value.int IntKind.i64 ((m : Int)), Value.int IntKind.i64 (Int.ofNat j.succ)] [Blk.ro cs, Blk.ro ds, Blk.cells [Value.int IntKind.i64 bo.a0, Value.int IntKind.i64 bo.b0, Value.int IntKind.i64 bo.a1, Value.int IntKind.i64 bo.b1, Value.int IntKind.i64 bo.a2, Value.int IntKind.i64 bo.b2, Value.int IntKind.i64 bo.a3, Value.int IntKind.i64 bo.b3, Value.int IntKind.i64 bo.a4, Value.int IntKind.i64 bo.b4, Value.int IntKind.i64 v] 27, Blk.vec (ePc.row out) 27 11] [(1, 1), (13, 13), (10, 10), (0, 0), (1, 1)], Value.int IntKind.i64 (IntKind.i64.wrap (Int.ofNat j.succ)) = Value.int IntKind.i64 (Int.ofNat j.succ), emptyB (mLo bo.a0 bo.b0 b2.a0 b2.b0) (mHi bo.a0 bo.b0 b2.a0 b2.b0) (mLo bo.a1 bo.b1 b2.a1 b2.b1) (mHi bo.a1 bo.b1 b2.a1 b2.b1) (mLo bo.a2 bo.b2 b2.a2 b2.b2) (mHi bo.a2 bo.b2 b2.a2 b2.b2) (mLo bo.a3 bo.b3 b2.a3 b2.b3) (mHi bo.a3 bo.b3 b2.a3 b2.b3) (mLo bo.a4 bo.b4 b2.a4 b2.b4) (mHi bo.a4 bo.b4 b2.a4 b2.b4) = true, readPart Try.prog 27 ds (p + ((j : Int)).toNat * 11) = some (Value.agg (Array.mk [Value.int IntKind.i64 b2.a0, Value.int IntKind.i64 b2.b0, Value.int IntKind.i64 b2.a1, Value.int IntKind.i64 b2.b1, Value.int IntKind.i64 b2.a2, Value.int IntKind.i64 b2.b2, Value.int IntKind.i64 b2.a3, Value.int IntKind.i64 b2.b3, Value.int IntKind.i64 b2.a4, Value.int IntKind.i64 b2.b4, Value.int IntKind.i64 v2])), (0 : Int) ≤ (j : Int) ∧ (j : Int) < (m : Int), decide ((↑j : Int) < (↑m : Int)) = true])) (hK : ∀ zz, (miL cs ds o n c p m d k i bo v Q).inv 1 zz → ltO ((miL cs ds o n c p m d k i bo v Q).mu 1 zz) (some (m - j)) → Sat E (mkLp (lpIn (lp Try.f13 0) J0 0) J) ((miL cs ds o n c p m d k i bo v Q).st 1 zz)) : Sat E (inLp (lpIn (lp Try.f13 0) J0 0) J) ((miL cs ds o n c p m d k i bo v Q).st 1 ⟨j, out⟩) :=
  by_to (T := auto0 t_rmeetbox) (h := hints [(7, 0, {p := true}), (7, 1, {o := some (.agg ⟨b2.cs ++ [.int .i64 v2]⟩)}), (13, 0, {v := some (.int .i64 ((j + 1 : Nat) : Int))})]) (ws := [.b true, .b true]) (i0 := ⟨j + 1, out⟩) hE hm (auto0_ok t_rmeetbox_ok) hL (by kernel_rfl) hob hK
theorem cF0 (cs ds : List Value) (o n c p m d : Nat) (k : Int) (Q : Nat → MI → Prop) (i j : Nat) (out : List Pc) (bo b2 : Bx) (v v2 : Int) (J0 : Act → World → Prop) (J : Act → World → Prop) {E : Env} (hE : EnvOK E Try.prog Try.f13 3 2 (.tuple ⟨[.slice none 0 0, .bool false]⟩) [] []) (hob : all ([Back (Value.tuple (Array.mk [Value.slice none 0 0, Value.bool false])) (Value.tuple (Array.mk [Value.slice none 0 0, Value.bool false])) [] [] [], decide ((↑0 : Int) ≥ k) = true, emptyB (mLo bo.a0 bo.b0 b2.a0 b2.b0) (mHi bo.a0 bo.b0 b2.a0 b2.b0) (mLo bo.a1 bo.b1 b2.a1 b2.b1) (mHi bo.a1 bo.b1 b2.a1 b2.b1) (mLo bo.a2 bo.b2 b2.a2 b2.b2) (mHi bo.a2 bo.b2 b2.a2 b2.b2) (mLo bo.a3 bo.b3 b2.a3 b2.b3) (mHi bo.a3 bo.b3 b2.a3 b2.b3) (mLo bo.a4 bo.b4 b2.a4 b2.b4) (mHi bo.a4 bo.b4 b2.a4 b2.b4) = false, readPart Try.prog 27 ds (p + ((j : Int)).toNat * 11) = some (Value.agg (Array.mk [Value.int IntKind.i64 b2.a0, Value.int IntKind.i64 b2.b0, Value.int IntKind.i64 b2.a1, Value.int IntKind.i64 b2.b1, Value.int IntKind.i64 b2.a2, Value.int IntKind.i64 b2.b2, Value.int IntKind.i64 b2.a3, Value.int IntKind.i64 b2.b3, Value.int IntKind.i64 b2.a4, Value.int IntKind.i64 b2.b4, Value.int IntKind.i64 v2])), (0 : Int) ≤ (j : Int) ∧ (j : Int) < (m : Int), decide ((↑j : Int) < (↑m : Int)) = true])) : Sat E (inLp (lpIn (lp Try.f13 0) J0 0) J) ((miL cs ds o n c p m d k i bo v Q).st 0 ⟨j, out⟩) :=
  by_ret (T := auto0 t_rmeetbox) (h := hints [(7, 0, {p := true}), (7, 1, {o := some (.agg ⟨b2.cs ++ [.int .i64 v2]⟩)})]) (ws := [.b true, .b false, .b true]) (nx' := 2) hE hm (auto0_ok t_rmeetbox_ok) (by omega) (by simp) (by simp) (by kernel_rfl) hob
theorem cF1 (cs ds : List Value) (o n c p m d : Nat) (k : Int) (Q : Nat → MI → Prop) (i j : Nat) (out : List Pc) (bo b2 : Bx) (v v2 : Int) (J0 : Act → World → Prop) (J : Act → World → Prop) {E : Env} (hE : EnvOK E Try.prog Try.f13 3 2 (.tuple ⟨[.slice none 0 0, .bool false]⟩) [] []) (hob : all ([Back (Value.tuple (Array.mk [Value.slice none 0 0, Value.bool false])) (Value.tuple (Array.mk [Value.slice none 0 0, Value.bool false])) [] [] [], decide ((↑out.length : Int) ≥ k) = true, emptyB (mLo bo.a0 bo.b0 b2.a0 b2.b0) (mHi bo.a0 bo.b0 b2.a0 b2.b0) (mLo bo.a1 bo.b1 b2.a1 b2.b1) (mHi bo.a1 bo.b1 b2.a1 b2.b1) (mLo bo.a2 bo.b2 b2.a2 b2.b2) (mHi bo.a2 bo.b2 b2.a2 b2.b2) (mLo bo.a3 bo.b3 b2.a3 b2.b3) (mHi bo.a3 bo.b3 b2.a3 b2.b3) (mLo bo.a4 bo.b4 b2.a4 b2.b4) (mHi bo.a4 bo.b4 b2.a4 b2.b4) = false, readPart Try.prog 27 ds (p + ((j : Int)).toNat * 11) = some (Value.agg (Array.mk [Value.int IntKind.i64 b2.a0, Value.int IntKind.i64 b2.b0, Value.int IntKind.i64 b2.a1, Value.int IntKind.i64 b2.b1, Value.int IntKind.i64 b2.a2, Value.int IntKind.i64 b2.b2, Value.int IntKind.i64 b2.a3, Value.int IntKind.i64 b2.b3, Value.int IntKind.i64 b2.a4, Value.int IntKind.i64 b2.b4, Value.int IntKind.i64 v2])), (0 : Int) ≤ (j : Int) ∧ (j : Int) < (m : Int), decide ((↑j : Int) < (↑m : Int)) = true])) : Sat E (inLp (lpIn (lp Try.f13 0) J0 0) J) ((miL cs ds o n c p m d k i bo v Q).st 1 ⟨j, out⟩) :=
  by_ret (T := auto0 t_rmeetbox) (h := hints [(7, 0, {p := true}), (7, 1, {o := some (.agg ⟨b2.cs ++ [.int .i64 v2]⟩)})]) (ws := [.b true, .b false, .b true]) (nx' := 2) hE hm (auto0_ok t_rmeetbox_ok) (by omega) (by simp) (by simp) (by kernel_rfl) hob
theorem cA0 (cs ds : List Value) (o n c p m d : Nat) (k : Int) (Q : Nat → MI → Prop) (i j : Nat) (out out2 : List Pc) (bo b2 : Bx) (v v2 s : Int) (J0 : Act → World → Prop) (J : Act → World → Prop) {E : Env} {rv : Value} {rhs : List Nat} {rhv : List Blk} (hE : EnvOK E Try.prog Try.f13 3 2 rv rhs rhv) (hL : (miL cs ds o n c p m d k i bo v Q).OK 2) (hob : all ([SameK (mkLp (lpIn (lp Try.f13 0) J0 0) J) (mkLp (lpIn (lp Try.f13 0) J0 0) J), Enter (miL cs ds o n c p m d k i bo v Q) 1 (some (m - j)) [Value.slice (some (Addr.mk 1 p none)) m d, Value.int IntKind.i64 k, Value.slice (some (Addr.mk 122 0 none)) 1 1267650600228229401496703205376, Value.pointer (some (Addr.mk 10 0 none)), Value.slice (some (Addr.mk 0 o none)) n c, Value.int IntKind.i64 ((n : Int)), Value.int IntKind.i64 ((i : Int)), Value.slice (some (Addr.mk 1 p none)) m d, Value.int IntKind.i64 ((m : Int)), Value.int IntKind.i64 (Int.ofNat j.succ)] [Blk.ro cs, Blk.ro ds, Blk.cells [Value.int IntKind.i64 bo.a0, Value.int IntKind.i64 bo.b0, Value.int IntKind.i64 bo.a1, Value.int IntKind.i64 bo.b1, Value.int IntKind.i64 bo.a2, Value.int IntKind.i64 bo.b2, Value.int IntKind.i64 bo.a3, Value.int IntKind.i64 bo.b3, Value.int IntKind.i64 bo.a4, Value.int IntKind.i64 bo.b4, Value.int IntKind.i64 v] 27, Blk.vec (ePc.row out2) 27 11] [(1, 1), (13, 122), (10, 10), (0, 0), (1, 1)], Value.int IntKind.i64 (IntKind.i64.wrap (Int.ofNat j.succ)) = Value.int IntKind.i64 (Int.ofNat j.succ), AppOK none 0 0 11 88 1 [Value.int IntKind.i64 (mLo bo.a0 bo.b0 b2.a0 b2.b0), Value.int IntKind.i64 (mHi bo.a0 bo.b0 b2.a0 b2.b0), Value.int IntKind.i64 (mLo bo.a1 bo.b1 b2.a1 b2.b1), Value.int IntKind.i64 (mHi bo.a1 bo.b1 b2.a1 b2.b1), Value.int IntKind.i64 (mLo bo.a2 bo.b2 b2.a2 b2.b2), Value.int IntKind.i64 (mHi bo.a2 bo.b2 b2.a2 b2.b2), Value.int IntKind.i64 (mLo bo.a3 bo.b3 b2.a3 b2.b3), Value.int IntKind.i64 (mHi bo.a3 bo.b3 b2.a3 b2.b3), Value.int IntKind.i64 (mLo bo.a4 bo.b4 b2.a4 b2.b4), Value.int IntKind.i64 (mHi bo.a4 bo.b4 b2.a4 b2.b4), Value.int IntKind.i64 s] 0 (ePc.row out2), Value.int IntKind.i64 (IntKind.i64.wrap (v + v2)) = Value.int IntKind.i64 s, decide ((↑0 : Int) ≥ k) = false, emptyB (mLo bo.a0 bo.b0 b2.a0 b2.b0) (mHi bo.a0 bo.b0 b2.a0 b2.b0) (mLo bo.a1 bo.b1 b2.a1 b2.b1) (mHi bo.a1 bo.b1 b2.a1 b2.b1) (mLo bo.a2 bo.b2 b2.a2 b2.b2) (mHi bo.a2 bo.b2 b2.a2 b2.b2) (mLo bo.a3 bo.b3 b2.a3 b2.b3) (mHi bo.a3 bo.b3 b2.a3 b2.b3) (mLo bo.a4 bo.b4 b2.a4 b2.b4) (mHi bo.a4 bo.b4 b2.a4 b2.b4) = false, readPart Try.prog 27 ds (p + ((j : Int)).toNat * 11) = some (Value.agg (Array.mk [Value.int IntKind.i64 b2.a0, Value.int IntKind.i64 b2.b0, Value.int IntKind.i64 b2.a1, Value.int IntKind.i64 b2.b1, Value.int IntKind.i64 b2.a2, Value.int IntKind.i64 b2.b2, Value.int IntKind.i64 b2.a3, Value.int IntKind.i64 b2.b3, Value.int IntKind.i64 b2.a4, Value.int IntKind.i64 b2.b4, Value.int IntKind.i64 v2])), (0 : Int) ≤ (j : Int) ∧ (j : Int) < (m : Int), decide ((↑j : Int) < (↑m : Int)) = true])) (hK : ∀ zz, (miL cs ds o n c p m d k i bo v Q).inv 1 zz → ltO ((miL cs ds o n c p m d k i bo v Q).mu 1 zz) (some (m - j)) → Sat E (mkLp (lpIn (lp Try.f13 0) J0 0) J) ((miL cs ds o n c p m d k i bo v Q).st 1 zz)) : Sat E (inLp (lpIn (lp Try.f13 0) J0 0) J) ((miL cs ds o n c p m d k i bo v Q).st 0 ⟨j, out⟩) :=
  by_to (T := auto0 t_rmeetbox) (h := hints [(7, 0, {p := true}), (7, 1, {o := some (.agg ⟨b2.cs ++ [.int .i64 v2]⟩)}), (12, 6, {v := some (.int .i64 s)}), (12, 9, {c := some (ePc.row out2)}), (13, 0, {v := some (.int .i64 ((j + 1 : Nat) : Int))})]) (ws := [.b true, .b false, .b false]) (i0 := ⟨j + 1, out2⟩) hE hm (auto0_ok t_rmeetbox_ok) hL (by kernel_rfl) hob hK
theorem cA1 (cs ds : List Value) (o n c p m d : Nat) (k : Int) (Q : Nat → MI → Prop) (i j : Nat) (out out2 : List Pc) (bo b2 : Bx) (v v2 s : Int) (J0 : Act → World → Prop) (J : Act → World → Prop) {E : Env} {rv : Value} {rhs : List Nat} {rhv : List Blk} (hE : EnvOK E Try.prog Try.f13 3 2 rv rhs rhv) (hL : (miL cs ds o n c p m d k i bo v Q).OK 2) (hob : all ([SameK (mkLp (lpIn (lp Try.f13 0) J0 0) J) (mkLp (lpIn (lp Try.f13 0) J0 0) J), Enter (miL cs ds o n c p m d k i bo v Q) 1 (some (m - j)) [Value.slice (some (Addr.mk 1 p none)) m d, Value.int IntKind.i64 k, Value.slice (some (Addr.mk 122 0 none)) (out.length + 1) 1267650600228229401496703205376, Value.pointer (some (Addr.mk 10 0 none)), Value.slice (some (Addr.mk 0 o none)) n c, Value.int IntKind.i64 ((n : Int)), Value.int IntKind.i64 ((i : Int)), Value.slice (some (Addr.mk 1 p none)) m d, Value.int IntKind.i64 ((m : Int)), Value.int IntKind.i64 (Int.ofNat j.succ)] [Blk.ro cs, Blk.ro ds, Blk.cells [Value.int IntKind.i64 bo.a0, Value.int IntKind.i64 bo.b0, Value.int IntKind.i64 bo.a1, Value.int IntKind.i64 bo.b1, Value.int IntKind.i64 bo.a2, Value.int IntKind.i64 bo.b2, Value.int IntKind.i64 bo.a3, Value.int IntKind.i64 bo.b3, Value.int IntKind.i64 bo.a4, Value.int IntKind.i64 bo.b4, Value.int IntKind.i64 v] 27, Blk.vec (ePc.row out2) 27 11] [(1, 1), (13, 122), (10, 10), (0, 0), (1, 1)], Value.int IntKind.i64 (IntKind.i64.wrap (Int.ofNat j.succ)) = Value.int IntKind.i64 (Int.ofNat j.succ), AppOK (some (Blk.vec (ePc.row out) 27 11)) out.length 1267650600228229401496703205376 11 88 1 [Value.int IntKind.i64 (mLo bo.a0 bo.b0 b2.a0 b2.b0), Value.int IntKind.i64 (mHi bo.a0 bo.b0 b2.a0 b2.b0), Value.int IntKind.i64 (mLo bo.a1 bo.b1 b2.a1 b2.b1), Value.int IntKind.i64 (mHi bo.a1 bo.b1 b2.a1 b2.b1), Value.int IntKind.i64 (mLo bo.a2 bo.b2 b2.a2 b2.b2), Value.int IntKind.i64 (mHi bo.a2 bo.b2 b2.a2 b2.b2), Value.int IntKind.i64 (mLo bo.a3 bo.b3 b2.a3 b2.b3), Value.int IntKind.i64 (mHi bo.a3 bo.b3 b2.a3 b2.b3), Value.int IntKind.i64 (mLo bo.a4 bo.b4 b2.a4 b2.b4), Value.int IntKind.i64 (mHi bo.a4 bo.b4 b2.a4 b2.b4), Value.int IntKind.i64 s] 0 (ePc.row out2), Value.int IntKind.i64 (IntKind.i64.wrap (v + v2)) = Value.int IntKind.i64 s, decide ((↑out.length : Int) ≥ k) = false, emptyB (mLo bo.a0 bo.b0 b2.a0 b2.b0) (mHi bo.a0 bo.b0 b2.a0 b2.b0) (mLo bo.a1 bo.b1 b2.a1 b2.b1) (mHi bo.a1 bo.b1 b2.a1 b2.b1) (mLo bo.a2 bo.b2 b2.a2 b2.b2) (mHi bo.a2 bo.b2 b2.a2 b2.b2) (mLo bo.a3 bo.b3 b2.a3 b2.b3) (mHi bo.a3 bo.b3 b2.a3 b2.b3) (mLo bo.a4 bo.b4 b2.a4 b2.b4) (mHi bo.a4 bo.b4 b2.a4 b2.b4) = false, readPart Try.prog 27 ds (p + ((j : Int)).toNat * 11) = some (Value.agg (Array.mk [Value.int IntKind.i64 b2.a0, Value.int IntKind.i64 b2.b0, Value.int IntKind.i64 b2.a1, Value.int IntKind.i64 b2.b1, Value.int IntKind.i64 b2.a2, Value.int IntKind.i64 b2.b2, Value.int IntKind.i64 b2.a3, Value.int IntKind.i64 b2.b3, Value.int IntKind.i64 b2.a4, Value.int IntKind.i64 b2.b4, Value.int IntKind.i64 v2])), (0 : Int) ≤ (j : Int) ∧ (j : Int) < (m : Int), decide ((↑j : Int) < (↑m : Int)) = true])) (hK : ∀ zz, (miL cs ds o n c p m d k i bo v Q).inv 1 zz → ltO ((miL cs ds o n c p m d k i bo v Q).mu 1 zz) (some (m - j)) → Sat E (mkLp (lpIn (lp Try.f13 0) J0 0) J) ((miL cs ds o n c p m d k i bo v Q).st 1 zz)) : Sat E (inLp (lpIn (lp Try.f13 0) J0 0) J) ((miL cs ds o n c p m d k i bo v Q).st 1 ⟨j, out⟩) :=
  by_to (T := auto0 t_rmeetbox) (h := hints [(7, 0, {p := true}), (7, 1, {o := some (.agg ⟨b2.cs ++ [.int .i64 v2]⟩)}), (12, 6, {v := some (.int .i64 s)}), (12, 9, {c := some (ePc.row out2)}), (13, 0, {v := some (.int .i64 ((j + 1 : Nat) : Int))})]) (ws := [.b true, .b false, .b false]) (i0 := ⟨j + 1, out2⟩) hE hm (auto0_ok t_rmeetbox_ok) hL (by kernel_rfl) hob hK
theorem cO0 (cs ds : List Value) (o n c p m d : Nat) (k : Int) (Q : Nat → MI → Prop) (Q1 : Nat → MO → Prop) (i j : Nat) (out : List Pc) (bo : Bx) (v : Int) (J0 : Act → World → Prop) (J : Act → World → Prop) {E : Env} {rv : Value} {rhs : List Nat} {rhv : List Blk} (hE : EnvOK E Try.prog Try.f13 3 2 rv rhs rhv) (hL : (moL cs ds o n c p m d k Q1).OK 2) (hob : all ([SameK (mkLp (lp Try.f13 0) J0) (mkLp (lp Try.f13 0) J0), Enter (moL cs ds o n c p m d k Q1) 0 (some (n - i)) [Value.slice (some (Addr.mk 1 p none)) m d, Value.int IntKind.i64 k, Value.slice none 0 0, Value.slice (some (Addr.mk 0 o none)) n c, Value.int IntKind.i64 ((n : Int)), Value.int IntKind.i64 (Int.ofNat i.succ)] [Blk.ro cs, Blk.ro ds] [(1, 1), (0, 0)], Value.int IntKind.i64 (IntKind.i64.wrap (Int.ofNat i.succ)) = Value.int IntKind.i64 (Int.ofNat i.succ), decide ((↑j : Int) < (↑m : Int)) = false])) (hK : ∀ zz, (moL cs ds o n c p m d k Q1).inv 0 zz → ltO ((moL cs ds o n c p m d k Q1).mu 0 zz) (some (n - i)) → Sat E (mkLp (lp Try.f13 0) J0) ((moL cs ds o n c p m d k Q1).st 0 zz)) : Sat E (inLp (lpIn (lp Try.f13 0) J0 0) J) ((miL cs ds o n c p m d k i bo v Q).st 0 ⟨j, out⟩) :=
  by_to (T := auto0 t_rmeetbox) (h := hints [(14, 0, {v := some (.int .i64 ((i + 1 : Nat) : Int))})]) (ws := [.b false]) (i0 := ⟨i + 1, out⟩) hE hm (auto0_ok t_rmeetbox_ok) hL (by kernel_rfl) hob hK
theorem cO1 (cs ds : List Value) (o n c p m d : Nat) (k : Int) (Q : Nat → MI → Prop) (Q1 : Nat → MO → Prop) (i j : Nat) (out : List Pc) (bo : Bx) (v : Int) (J0 : Act → World → Prop) (J : Act → World → Prop) {E : Env} {rv : Value} {rhs : List Nat} {rhv : List Blk} (hE : EnvOK E Try.prog Try.f13 3 2 rv rhs rhv) (hL : (moL cs ds o n c p m d k Q1).OK 2) (hob : all ([SameK (mkLp (lp Try.f13 0) J0) (mkLp (lp Try.f13 0) J0), Enter (moL cs ds o n c p m d k Q1) 1 (some (n - i)) [Value.slice (some (Addr.mk 1 p none)) m d, Value.int IntKind.i64 k, Value.slice (some (Addr.mk 13 0 none)) out.length 1267650600228229401496703205376, Value.slice (some (Addr.mk 0 o none)) n c, Value.int IntKind.i64 ((n : Int)), Value.int IntKind.i64 (Int.ofNat i.succ)] [Blk.ro cs, Blk.ro ds, Blk.vec (ePc.row out) 27 11] [(1, 1), (13, 13), (0, 0)], Value.int IntKind.i64 (IntKind.i64.wrap (Int.ofNat i.succ)) = Value.int IntKind.i64 (Int.ofNat i.succ), decide ((↑j : Int) < (↑m : Int)) = false])) (hK : ∀ zz, (moL cs ds o n c p m d k Q1).inv 1 zz → ltO ((moL cs ds o n c p m d k Q1).mu 1 zz) (some (n - i)) → Sat E (mkLp (lp Try.f13 0) J0) ((moL cs ds o n c p m d k Q1).st 1 zz)) : Sat E (inLp (lpIn (lp Try.f13 0) J0 0) J) ((miL cs ds o n c p m d k i bo v Q).st 1 ⟨j, out⟩) :=
  by_to (T := auto0 t_rmeetbox) (h := hints [(14, 0, {v := some (.int .i64 ((i + 1 : Nat) : Int))})]) (ws := [.b false]) (i0 := ⟨i + 1, out⟩) hE hm (auto0_ok t_rmeetbox_ok) hL (by kernel_rfl) hob hK
end Go.Proofs.Ythbaccmhdffjdaa.Mt


set_option linter.unusedVariables false
set_option linter.unusedSimpArgs false
set_option maxRecDepth 100000
namespace Go.Proofs.Ythbaccmhdffjdaa.Mt
open Go Go.RowKit Go.Proofs.Ythbaccmhdffjdaa.Ev Go.Proofs.Ythbaccmhdffjdaa.Within Go.Proofs.Ythbaccmhdffjdaa.BoxF Go.Proofs.Ythbaccmhdffjdaa.Mm Go.Proofs.Ythbaccmhdffjdaa.Mt
/-- What comes of it. -/
inductive MR where
  | few
  | nil
  | row (l : List Pc)
def MR.opt : MR → Option (List Pc)
  | .few => none
  | .nil => some []
  | .row l => some l
def MR.ok : MR → Prop
  | .row l => l ≠ []
  | _ => True
def mtV : MR → Value
  | .few => .tuple ⟨[.slice none 0 0, .bool false]⟩
  | .nil => .tuple ⟨[.slice none 0 0, .bool true]⟩
  | .row l => .tuple ⟨[.slice (some ⟨100, 0, none⟩) l.length mk, .bool true]⟩
def mtH : MR → List Blk
  | .row l => [.vec (ePc.row l) 27 11]
  | _ => []
def mtN : MR → List Nat
  | .row l => [100]
  | _ => []
theorem MR.of (o : Option (List Pc)) : ∃ R : MR, o = R.opt ∧ R.ok := match o with
  | none => ⟨.few, rfl, trivial⟩
  | some [] => ⟨.nil, rfl, trivial⟩
  | some (x :: l) => ⟨.row (x :: l), rfl, by simp [MR.ok]⟩
theorem MR.is_few {R : MR} (h : none = R.opt) : R = .few := by cases R <;> simp [MR.opt] at h ⊢
theorem MR.is_nil {R : MR} (h : some [] = R.opt) (h2 : R.ok) : R = .nil := by cases R <;> simp [MR.opt, MR.ok] at h h2 ⊢; exact h2 h
theorem MR.is_row {R : MR} {l : List Pc} (h : some l = R.opt) (h2 : l ≠ []) : R = .row l := by cases R <;> simp [MR.opt] at h ⊢ <;> first | exact absurd h h2 | exact h.symm
/-- Which shape is it? -/
def shp (b : Nat) (out : List Pc) : Prop := (b = 0 ∧ out = []) ∨ (b = 1 ∧ out ≠ [])
theorem shp_app {out : List Pc} {x : Pc} : shp 1 (out ++ [x]) := Or.inr ⟨rfl, by simp⟩
theorem mtI_cons (k : Int) (x y : Pc) (out ys : List Pc) : mtI k x out (y :: ys) = if bxE (mBx x.box y.box) = true then mtI k x out ys else if (out.length : Int) ≥ k then none else mtI k x (out ++ [mPc x y]) ys := rfl
theorem mtO_cons (k : Int) (b out : List Pc) (x : Pc) (xs : List Pc) : mtO k b out (x :: xs) = (mtI k x out b).bind fun o => mtO k b o xs := rfl
theorem drop_get {α : Type} {l : List α} {i : Nat} {x : α} (h : l[i]? = some x) : l.drop i = x :: l.drop (i + 1) := by
  obtain ⟨hi, he⟩ := List.getElem?_eq_some_iff.1 h
  rw [List.drop_eq_getElem_cons hi, he]
theorem c_spec (cs ds : List Value) (o n c p m d : Nat) (k : Int) (hra : ePc.Row cs o n) (hrb : ePc.Row ds p m) (h1 : ∀ x ∈ cs, leafG x = true) (h2 : ∀ x ∈ ds, leafG x = true) (hn : n ≤ 100000) (hm : m ≤ 100000) (hk : k ≤ 100000) (R : MR) (hR : meetL (ePc.list cs o n) (ePc.list ds p m) k = R.opt) (hok : R.ok) :
    CallSpec Try.prog 13 [.slice (some ⟨0, o, none⟩) n c, .slice (some ⟨1, p, none⟩) m d, .int .i64 k] (roRows [cs, ds]) 2 (mtV R) (assocN (mtN R) (mtH R)) := by
  refine spec_of_sat Try.func13 rfl fun E hE => ?_
  have hla : (ePc.list cs o n).length = n := Elt.list_len _ _ _
  have hlb : (ePc.list ds p m).length = m := Elt.list_len _ _ _
  have geta : ∀ i y, (ePc.list cs o n)[i]? = some y → readPart Try.prog 27 cs (o + (Int.ofNat i).toNat * 11) = some (.agg ⟨y.box.cs ++ [.int .i64 y.val]⟩) := fun i y hy => hra.read (P := Try.prog) (ty := 27) (by kernel_rfl) (by kernel_rfl) (i := i) (x := y) hy
  have getb : ∀ i y, (ePc.list ds p m)[i]? = some y → readPart Try.prog 27 ds (p + (Int.ofNat i).toNat * 11) = some (.agg ⟨y.box.cs ++ [.int .i64 y.val]⟩) := fun i y hy => hrb.read (P := Try.prog) (ty := 27) (by kernel_rfl) (by kernel_rfl) (i := i) (x := y) hy
  generalize ePc.list cs o n = A at hla geta hR
  generalize ePc.list ds p m = B at hlb getb hR
  have okO := fun Q => moL_ok cs ds o n c p m d k Q h1 h2
  have okI := fun i bo v Q => miL_ok cs ds o n c p m d k i bo v Q h1 h2
  have rnr1 : ∀ f : Nat → Nat, Blk.rnB f (.ro cs) = .ro cs := fun f => Blk.plain.rnB (b := .ro cs) h1 f
  have rnr2 : ∀ f : Nat → Nat, Blk.rnB f (.ro ds) = .ro ds := fun f => Blk.plain.rnB (b := .ro ds) h2 f
  have rnc : ∀ (f : Nat → Nat) (x : Bx) (v : Int), Blk.rnB f (.cells (x.cs ++ [Value.int .i64 v]) 27) = .cells (x.cs ++ [Value.int .i64 v]) 27 := fun f x v => Blk.plain.rnB (b := .cells _ 27) (ePc.pl ⟨x, v⟩) f
  have rnv : ∀ (f : Nat → Nat) (l : List Pc), Blk.rnB f (.vec (ePc.row l) 27 11) = .vec (ePc.row l) 27 11 := fun f l => Blk.plain.rnB (b := .vec (ePc.row l) 27 11) (Elt.row_pl _) f
  let Q : Nat → MO → Prop := fun b s => s.i ≤ n ∧ shp b s.out ∧ s.out.length ≤ 100000 ∧ mtO k B s.out (A.drop s.i) = R.opt
  have bd : ∀ out : List Pc, ¬ ((out.length : Int) ≥ k) → out.length + 1 ≤ 100000 := fun out h => by omega
  refine cIn cs ds o n c p m d k Q hE (okO Q) ⟨rfl, ⟨⟨0, []⟩, ⟨Nat.zero_le _, Or.inl ⟨rfl, rfl⟩, Nat.zero_le _, hR⟩, trivial, rfl, by simp only [moL, List.map_cons, List.map_nil, rnr1, rnr2]⟩, trivial⟩ fun zz hz _ => by_loop (moL cs ds o n c p m d k Q) (lp Try.f13 0) ?_ 0 zz hz
  rintro b ⟨i, out⟩ hinv J hJ
  obtain ⟨k1, k2, k3, k4⟩ : i ≤ n ∧ shp b out ∧ out.length ≤ 100000 ∧ mtO k B out (A.drop i) = R.opt := hinv
  show Sat E (inLp (lp Try.f13 0) J) ((moL cs ds o n c p m d k Q).st b ⟨i, out⟩)
  by_cases hin : i < n
  · have hlt : decide ((i : Int) < (n : Int)) = true := decide_eq_true (by omega)
    obtain ⟨x, hx⟩ : ∃ x, A[i]? = some x := ⟨_, List.getElem?_eq_getElem (by omega)⟩
    rw [drop_get hx, mtO_cons] at k4
    let Q2 : Nat → MI → Prop := fun b s => s.j ≤ m ∧ shp b s.out ∧ s.out.length ≤ 100000 ∧ ((mtI k x s.out (B.drop s.j)).bind fun o => mtO k B o (A.drop (i + 1))) = R.opt
    have hx0 := geta i x hx
    have hix : (0 : Int) ≤ (i : Int) ∧ (i : Int) < (n : Int) := ⟨Int.natCast_nonneg _, Int.ofNat_lt.2 hin⟩
    have inner : ∀ b zz, Q2 b zz → Sat E (atLp (lpIn (lp Try.f13 0) J 0)) ((miL cs ds o n c p m d k i x.box x.val Q2).st b zz) := by
      intro b0 zz0 hz0
      refine by_loop (miL cs ds o n c p m d k i x.box x.val Q2) (lpIn (lp Try.f13 0) J 0) ?_ b0 zz0 hz0
      rintro b2 ⟨j, out⟩ hinv J2 hJ2
      obtain ⟨q1, q2, q3, q4⟩ : j ≤ m ∧ shp b2 out ∧ out.length ≤ 100000 ∧ ((mtI k x out (B.drop j)).bind fun o => mtO k B o (A.drop (i + 1))) = R.opt := hinv
      show Sat E (inLp (lpIn (lp Try.f13 0) J 0) J2) ((miL cs ds o n c p m d k i x.box x.val Q2).st b2 ⟨j, out⟩)
      have hJm : ∀ b' zz, (miL cs ds o n c p m d k i x.box x.val Q2).inv b' zz → ltO ((miL cs ds o n c p m d k i x.box x.val Q2).mu b' zz) (some (m - j)) → Sat E (mkLp (lpIn (lp Try.f13 0) J 0) J2) ((miL cs ds o n c p m d k i x.box x.val Q2).st b' zz) := fun b' zz g1 g2 => hJ2 b' zz g1 g2
      by_cases hjm : j < m
      · have hlt2 : decide ((j : Int) < (m : Int)) = true := decide_eq_true (by omega)
        obtain ⟨y, hy⟩ : ∃ y, B[j]? = some y := ⟨_, List.getElem?_eq_getElem (by omega)⟩
        have hy0 := getb j y hy
        have hjx : (0 : Int) ≤ (j : Int) ∧ (j : Int) < (m : Int) := ⟨Int.natCast_nonneg _, Int.ofNat_lt.2 hjm⟩
        have hs := i64_succ (i := j) (by omega)
        rw [drop_get hy, mtI_cons] at q4
        by_cases he : bxE (mBx x.box y.box) = true
        · rw [if_pos he] at q4
          rcases q2 with ⟨rfl, rfl⟩ | ⟨rfl, q2⟩
          · exact cK0 cs ds o n c p m d k Q2 i j [] x.box y.box x.val y.val J J2 hE (okI _ _ _ _) ⟨rfl, ⟨⟨j + 1, []⟩, ⟨hjm, Or.inl ⟨rfl, rfl⟩, q3, q4⟩, (by show m - (j + 1) < m - j; omega), rfl, by simp only [miL, List.map_cons, List.map_nil, rnr1, rnr2, rnc]; rfl⟩, hs, he, hy0, hjx, hlt2, trivial⟩ (hJm 0)
          · exact cK1 cs ds o n c p m d k Q2 i j out x.box y.box x.val y.val J J2 hE (okI _ _ _ _) ⟨rfl, ⟨⟨j + 1, out⟩, ⟨hjm, Or.inr ⟨rfl, q2⟩, q3, q4⟩, (by show m - (j + 1) < m - j; omega), rfl, by simp only [miL, List.map_cons, List.map_nil, rnr1, rnr2, rnc, rnv]; rfl⟩, hs, he, hy0, hjx, hlt2, trivial⟩ (hJm 1)
        · rw [if_neg he] at q4
          have he' : bxE (mBx x.box y.box) = false := by simpa using he
          by_cases hf : (out.length : Int) ≥ k
          · rw [if_pos hf] at q4
            obtain rfl := MR.is_few q4
            rcases q2 with ⟨rfl, rfl⟩ | ⟨rfl, q2⟩
            · exact cF0 cs ds o n c p m d k Q2 i j [] x.box y.box x.val y.val J J2 hE ⟨⟨rfl, rfl⟩, decide_eq_true hf, he', hy0, hjx, hlt2, trivial⟩
            · exact cF1 cs ds o n c p m d k Q2 i j out x.box y.box x.val y.val J J2 hE ⟨⟨rfl, rfl⟩, decide_eq_true hf, he', hy0, hjx, hlt2, trivial⟩
          · rw [if_neg hf] at q4
            have hb := bd out hf
            have q5 : Q2 1 ⟨j + 1, out ++ [mPc x y]⟩ := ⟨hjm, shp_app, (by simp; omega), q4⟩
            have hlen : (out ++ [mPc x y]).length = out.length + 1 := by simp
            rcases q2 with ⟨rfl, rfl⟩ | ⟨rfl, q2⟩
            · exact cA0 cs ds o n c p m d k Q2 i j [] ([] ++ [mPc x y]) x.box y.box x.val y.val (mPc x y).val J J2 hE (okI _ _ _ _) ⟨rfl, ⟨⟨j + 1, [] ++ [mPc x y]⟩, q5, (by show m - (j + 1) < m - j; omega), rfl, by simp only [miL, List.map_cons, List.map_nil, rnr1, rnr2, rnc, rnv]; rfl⟩, hs, appOK_nil (e := ePc) (new := [mPc x y]) rfl rfl rfl rfl (by simp) (by simp) (by simp), rfl, decide_eq_false hf, he', hy0, hjx, hlt2, trivial⟩ (hJm 1)
            · exact cA1 cs ds o n c p m d k Q2 i j out (out ++ [mPc x y]) x.box y.box x.val y.val (mPc x y).val J J2 hE (okI _ _ _ _) ⟨rfl, ⟨⟨j + 1, out ++ [mPc x y]⟩, q5, (by show m - (j + 1) < m - j; omega), (by simp [miL, muV]; repeat' (first | exact rfl | refine ⟨rfl, ?_⟩)), by simp only [miL, List.map_cons, List.map_nil, rnr1, rnr2, rnc, rnv]; rfl⟩, hs, appOK (e := ePc) (L := out) (new := [mPc x y]) rfl rfl rfl rfl (Nat.le_refl _) (by simp) (by decide) (by omega) (by omega), rfl, decide_eq_false hf, he', hy0, hjx, hlt2, trivial⟩ (hJm 1)
      · have hlt2 : decide ((j : Int) < (m : Int)) = false := decide_eq_false (by omega)
        have hdr : B.drop j = [] := List.drop_eq_nil_of_le (by omega)
        rw [hdr] at q4
        have q4 : mtO k B out (A.drop (i + 1)) = R.opt := q4
        have hs := i64_succ (i := i) (by omega)
        rcases q2 with ⟨rfl, rfl⟩ | ⟨rfl, q2⟩
        · exact cO0 cs ds o n c p m d k Q2 Q i j [] x.box x.val J J2 hE (okO _) ⟨rfl, ⟨⟨i + 1, []⟩, ⟨hin, Or.inl ⟨rfl, rfl⟩, q3, q4⟩, (by show n - (i + 1) < n - i; omega), rfl, by simp only [moL, List.map_cons, List.map_nil, rnr1, rnr2]⟩, hs, hlt2, trivial⟩ fun zz g1 g2 => hJ 0 zz g1 (by have : n - zz.i < n - i := g2; exact this)
        · exact cO1 cs ds o n c p m d k Q2 Q i j out x.box x.val J J2 hE (okO _) ⟨rfl, ⟨⟨i + 1, out⟩, ⟨hin, Or.inr ⟨rfl, q2⟩, q3, q4⟩, (by show n - (i + 1) < n - i; omega), rfl, by simp only [moL, List.map_cons, List.map_nil, rnr1, rnr2, rnv]⟩, hs, hlt2, trivial⟩ fun zz g1 g2 => hJ 1 zz g1 (by have : n - zz.i < n - i := g2; exact this)
    rcases k2 with ⟨rfl, rfl⟩ | ⟨rfl, k2⟩
    · exact cB0 cs ds o n c p m d k Q Q2 i [] x.box x.val J hE (okI _ _ _ _) ⟨rfl, ⟨⟨0, []⟩, ⟨Nat.zero_le _, Or.inl ⟨rfl, rfl⟩, k3, k4⟩, trivial, rfl, by simp only [miL, List.map_cons, List.map_nil, rnr1, rnr2, rnc]; rfl⟩, hx0, hix, hlt, trivial⟩ fun zz hz _ => inner 0 zz hz
    · exact cB1 cs ds o n c p m d k Q Q2 i out x.box x.val J hE (okI _ _ _ _) ⟨rfl, ⟨⟨0, out⟩, ⟨Nat.zero_le _, Or.inr ⟨rfl, k2⟩, k3, k4⟩, trivial, rfl, by simp only [miL, List.map_cons, List.map_nil, rnr1, rnr2, rnc, rnv]; rfl⟩, hx0, hix, hlt, trivial⟩ fun zz hz _ => inner 1 zz hz
  · have hlt : decide ((i : Int) < (n : Int)) = false := decide_eq_false (by omega)
    have hdr : A.drop i = [] := List.drop_eq_nil_of_le (by omega)
    rw [hdr] at k4
    have k4 : some out = R.opt := k4
    rcases k2 with ⟨rfl, rfl⟩ | ⟨rfl, k2⟩
    · obtain rfl := MR.is_nil k4 hok
      exact cE0 cs ds o n c p m d k Q i [] J hE ⟨⟨rfl, rfl⟩, hlt, trivial⟩
    · obtain rfl := MR.is_row k4 k2
      exact cE1 cs ds o n c p m d k Q i out J hE ⟨⟨rfl, by simp only [List.map_cons, List.map_nil, rnv]⟩, hlt, trivial⟩
/-- The answer is told ahead. -/
def meet_F (R : MR) : RoF := fun xs css => match xs, css with
  | [.slice (some ⟨0, o, none⟩) n c, .slice (some ⟨1, p, none⟩) m d, .int .i64 k], [cs, ds] => some (mtV R, mtH R, [meetL (ePc.list cs o n) (ePc.list ds p m) k = R.opt, R.ok, ePc.Row cs o n, ePc.Row ds p m, n ≤ 100000, m ≤ 100000, k ≤ 100000])
  | _, _ => none
theorem mt_sum {f : FuncId} (he : Enters Try.prog f) (hs : ∀ (cs ds : List Value) (o n c p m d : Nat) (k : Int), ePc.Row cs o n → ePc.Row ds p m → (∀ x ∈ cs, leafG x = true) → (∀ x ∈ ds, leafG x = true) → n ≤ 100000 → m ≤ 100000 → k ≤ 100000 → ∀ R : MR, meetL (ePc.list cs o n) (ePc.list ds p m) k = R.opt → R.ok →
    CallSpec Try.prog f [.slice (some ⟨0, o, none⟩) n c, .slice (some ⟨1, p, none⟩) m d, .int .i64 k] (roRows [cs, ds]) 2 (mtV R) (assocN (mtN R) (mtH R))) (R : MR) : SumOK Try.prog f (roSum (meet_F R)) := by
  refine roSum_ok he ?_ (fun xs css r h => ?_)
  · intro xs css v blks ob h hob hpl hl
    unfold meet_F at h
    split at h
    · rename_i o n c p m d k cs ds
      simp only [Option.some.injEq, Prod.mk.injEq] at h
      obtain ⟨rfl, rfl, rfl⟩ := h
      have hsp := hs cs ds o n c p m d k (hob (ePc.Row cs o n) (by simp)) (hob (ePc.Row ds p m) (by simp)) (hpl cs (by simp)) (hpl ds (by simp)) (hob (n ≤ 100000) (by simp)) (hob (m ≤ 100000) (by simp)) (hob (k ≤ 100000) (by simp)) R (hob _ (List.mem_cons_self ..)) (hob _ (List.mem_cons_of_mem _ (List.mem_cons_self ..)))
      match R with
      | .few => exact ⟨by simp [mtH], fun x hx => by simp [mtH] at hx, fun j hj => by simp [mtV, nms, nm1, nm0, nmL] at hj, hsp⟩
      | .nil => exact ⟨by simp [mtH], fun x hx => by simp [mtH] at hx, fun j hj => by simp [mtV, nms, nm1, nm0, nmL] at hj, hsp⟩
      | .row l => exact ⟨by simp [mtH], fun x hx => by simp [mtH] at hx; subst hx; exact ⟨Elt.row_pl _, rfl⟩, fun j hj => by simp [mtV, nms, nm1, nm0, nmL] at hj; subst hj; simp [mtH], hsp⟩
    · simp at h
  · unfold meet_F at h
    split at h <;> simp at h <;> simp
theorem cmeet_sum (R : MR) : SumOK Try.prog 13 (roSum (meet_F R)) := mt_sum (en Try.func13 rfl) c_spec R
end Go.Proofs.Ythbaccmhdffjdaa.Mt


set_option linter.unusedVariables false
set_option linter.unusedSimpArgs false
set_option maxRecDepth 100000
namespace Go.Proofs.Ythbaccmhdffjdaa.Mt
open Go Go.RowKit Go.Proofs.Ythbaccmhdffjdaa.Ev Go.Proofs.Ythbaccmhdffjdaa.Within Go.Proofs.Ythbaccmhdffjdaa.BoxF Go.Proofs.Ythbaccmhdffjdaa.Mm Go.Proofs.Ythbaccmhdffjdaa.Mt
theorem rIn (cs ds : List Value) (o n c p m d : Nat) (k : Int) (Q : Nat → MO → Prop)  {E : Env} {rv : Value} {rhs : List Nat} {rhv : List Blk} (hE : EnvOK E Try.prog Try.f20 3 2 rv rhs rhv) (hL : (moL cs ds o n c p m d k Q).OK 2) (hob : all ([SameK (atLp (lp Try.f20 0)) (atLp (lp Try.f20 0)), Enter (moL cs ds o n c p m d k Q) 0 none [Value.slice (some (Addr.mk 1 p none)) m d, Value.int IntKind.i64 k, Value.slice none 0 0, Value.slice (some (Addr.mk 0 o none)) n c, Value.int IntKind.i64 ((n : Int)), Value.int IntKind.i64 ((0 : Int))] [Blk.ro cs, Blk.ro ds] [(1, 1), (0, 0)]])) (hK : ∀ zz, (moL cs ds o n c p m d k Q).inv 0 zz → ltO ((moL cs ds o n c p m d k Q).mu 0 zz) none → Sat E (atLp (lp Try.f20 0)) ((moL cs ds o n c p m d k Q).st 0 zz)) : Sat E [.code (bodyOf Try.f20)] (st0 Try.f20 [.slice (some ⟨0, o, none⟩) n c, .slice (some ⟨1, p, none⟩) m d, .int .i64 k] (roRows [cs, ds]) 2) :=
  by_to (T := auto0 t_rmeetbox) (h := hints []) (ws := [.stop]) (i0 := ⟨0, []⟩) hE hm (auto0_ok t_rmeetbox_ok) hL (by kernel_rfl) hob hK
theorem rE0 (cs ds : List Value) (o n c p m d : Nat) (k : Int) (Q : Nat → MO → Prop) (i : Nat) (out : List Pc) (J : Act → World → Prop) {E : Env} (hE : EnvOK E Try.prog Try.f20 3 2 (.tuple ⟨[.slice none 0 0, .bool true]⟩) [] []) (hob : all ([Back (Value.tuple (Array.mk [Value.slice none 0 0, Value.bool true])) (Value.tuple (Array.mk [Value.slice none 0 0, Value.bool true])) [] [] [], decide ((↑i : Int) < (↑n : Int)) = false])) : Sat E (inLp (lp Try.f20 0) J) ((moL cs ds o n c p m d k Q).st 0 ⟨i, out⟩) :=
  by_ret (T := auto0 t_rmeetbox) (h := hints []) (ws := [.b false]) (nx' := 2) hE hm (auto0_ok t_rmeetbox_ok) (by omega) (by simp) (by simp) (by kernel_rfl) hob
theorem rE1 (cs ds : List Value) (o n c p m d : Nat) (k : Int) (Q : Nat → MO → Prop) (i : Nat) (out : List Pc) (J : Act → World → Prop) {E : Env} (hE : EnvOK E Try.prog Try.f20 3 2 (.tuple ⟨[.slice (some ⟨100, 0, none⟩) out.length mk, .bool true]⟩) [100] [.vec (ePc.row out) 27 11]) (hob : all ([Back (Value.tuple (Array.mk [Value.slice (some (Addr.mk 13 0 none)) out.length 1267650600228229401496703205376, Value.bool true])) (Value.tuple (Array.mk [Value.slice (some (Addr.mk 100 0 none)) out.length 1267650600228229401496703205376, Value.bool true])) [Blk.vec (ePc.row out) 27 11] [Blk.vec (ePc.row out) 27 11] [(100, 13)], decide ((↑i : Int) < (↑n : Int)) = false])) : Sat E (inLp (lp Try.f20 0) J) ((moL cs ds o n c p m d k Q).st 1 ⟨i, out⟩) :=
  by_ret (T := auto0 t_rmeetbox) (h := hints []) (ws := [.b false]) (nx' := 101) hE hm (auto0_ok t_rmeetbox_ok) (by omega) (by simp) (by intro x hx; simp at hx; subst hx; exact Blk.plain.namesLt (b := .vec _ _ _) (Elt.row_pl _) _) (by kernel_rfl) hob
theorem rB0 (cs ds : List Value) (o n c p m d : Nat) (k : Int) (Q : Nat → MO → Prop) (Q2 : Nat → MI → Prop) (i : Nat) (out : List Pc) (bo : Bx) (v : Int) (J : Act → World → Prop) {E : Env} {rv : Value} {rhs : List Nat} {rhv : List Blk} (hE : EnvOK E Try.prog Try.f20 3 2 rv rhs rhv) (hL : (miL cs ds o n c p m d k i bo v Q2).OK 2) (hob : all ([SameK (atLp (lpIn (lp Try.f20 0) J 0)) (atLp (lpIn (lp Try.f20 0) J 0)), Enter (miL cs ds o n c p m d k i bo v Q2) 0 none [Value.slice (some (Addr.mk 1 p none)) m d, Value.int IntKind.i64 k, Value.slice none 0 0, Value.pointer (some (Addr.mk 26 0 none)), Value.slice (some (Addr.mk 0 o none)) n c, Value.int IntKind.i64 ((n : Int)), Value.int IntKind.i64 ((i : Int)), Value.slice (some (Addr.mk 1 p none)) m d, Value.int IntKind.i64 ((m : Int)), Value.int IntKind.i64 ((0 : Int))] [Blk.ro cs, Blk.ro ds, Blk.cells [Value.int IntKind.i64 bo.a0, Value.int IntKind.i64 bo.b0, Value.int IntKind.i64 bo.a1, Value.int IntKind.i64 bo.b1, Value.int IntKind.i64 bo.a2, Value.int IntKind.i64 bo.b2, Value.int IntKind.i64 bo.a3, Value.int IntKind.i64 bo.b3, Value.int IntKind.i64 bo.a4, Value.int IntKind.i64 bo.b4, Value.int IntKind.i64 v] 27] [(1, 1), (10, 26), (0, 0), (1, 1)], readPart Try.prog 27 cs (o + ((i : Int)).toNat * 11) = some (Value.agg (Array.mk [Value.int IntKind.i64 bo.a0, Value.int IntKind.i64 bo.b0, Value.int IntKind.i64 bo.a1, Value.int IntKind.i64 bo.b1, Value.int IntKind.i64 bo.a2, Value.int IntKind.i64 bo.b2, Value.int IntKind.i64 bo.a3, Value.int IntKind.i64 bo.b3, Value.int IntKind.i64 bo.a4, Value.int IntKind.i64 bo.b4, Value.int IntKind.i64 v])), (0 : Int) ≤ (i : Int) ∧ (i : Int) < (n : Int), decide ((↑i : Int) < (↑n : Int)) = true])) (hK : ∀ zz, (miL cs ds o n c p m d k i bo v Q2).inv 0 zz → ltO ((miL cs ds o n c p m d k i bo v Q2).mu 0 zz) none → Sat E (atLp (lpIn (lp Try.f20 0) J 0)) ((miL cs ds o n c p m d k i bo v Q2).st 0 zz)) : Sat E (inLp (lp Try.f20 0) J) ((moL cs ds o n c p m d k Q).st 0 ⟨i, out⟩) :=
  by_to (T := auto0 t_rmeetbox) (h := hints [(4, 0, {p := true}), (4, 1, {o := some (.agg ⟨bo.cs ++ [.int .i64 v]⟩)})]) (ws := [.b true, .stop]) (i0 := ⟨0, out⟩) hE hm (auto0_ok t_rmeetbox_ok) hL (by kernel_rfl) hob hK
theorem rB1 (cs ds : List Value) (o n c p m d : Nat) (k : Int) (Q : Nat → MO → Prop) (Q2 : Nat → MI → Prop) (i : Nat) (out : List Pc) (bo : Bx) (v : Int) (J : Act → World → Prop) {E : Env} {rv : Value} {rhs : List Nat} {rhv : List Blk} (hE : EnvOK E Try.prog Try.f20 3 2 rv rhs rhv) (hL : (miL cs ds o n c p m d k i bo v Q2).OK 2) (hob : all ([SameK (atLp (lpIn (lp Try.f20 0) J 0)) (atLp (lpIn (lp Try.f20 0) J 0)), Enter (miL cs ds o n c p m d k i bo v Q2) 1 none [Value.slice (some (Addr.mk 1 p none)) m d, Value.int IntKind.i64 k, Value.slice (some (Addr.mk 13 0 none)) out.length 1267650600228229401496703205376, Value.pointer (some (Addr.mk 26 0 none)), Value.slice (some (Addr.mk 0 o none)) n c, Value.int IntKind.i64 ((n : Int)), Value.int IntKind.i64 ((i : Int)), Value.slice (some (Addr.mk 1 p none)) m d, Value.int IntKind.i64 ((m : Int)), Value.int IntKind.i64 ((0 : Int))] [Blk.ro cs, Blk.ro ds, Blk.cells [Value.int IntKind.i64 bo.a0, Value.int IntKind.i64 bo.b0, Value.int IntKind.i64 bo.a1, Value.int IntKind.i64 bo.b1, Value.int IntKind.i64 bo.a2, Value.int IntKind.i64 bo.b2, Value.int IntKind.i64 bo.a3, Value.int IntKind.i64 bo.b3, Value.int IntKind.i64 bo.a4, Value.int IntKind.i64 bo.b4, Value.int IntKind.i64 v] 27, Blk.vec (ePc.row out) 27 11] [(1, 1), (13, 13), (10, 26), (0, 0), (1, 1)], readPart Try.prog 27 cs (o + ((i : Int)).toNat * 11) = some (Value.agg (Array.mk [Value.int IntKind.i64 bo.a0, Value.int IntKind.i64 bo.b0, Value.int IntKind.i64 bo.a1, Value.int IntKind.i64 bo.b1, Value.int IntKind.i64 bo.a2, Value.int IntKind.i64 bo.b2, Value.int IntKind.i64 bo.a3, Value.int IntKind.i64 bo.b3, Value.int IntKind.i64 bo.a4, Value.int IntKind.i64 bo.b4, Value.int IntKind.i64 v])), (0 : Int) ≤ (i : Int) ∧ (i : Int) < (n : Int), decide ((↑i : Int) < (↑n : Int)) = true])) (hK : ∀ zz, (miL cs ds o n c p m d k i bo v Q2).inv 1 zz → ltO ((miL cs ds o n c p m d k i bo v Q2).mu 1 zz) none → Sat E (atLp (lpIn (lp Try.f20 0) J 0)) ((miL cs ds o n c p m d k i bo v Q2).st 1 zz)) : Sat E (inLp (lp Try.f20 0) J) ((moL cs ds o n c p m d k Q).st 1 ⟨i, out⟩) :=
  by_to (T := auto0 t_rmeetbox) (h := hints [(4, 0, {p := true}), (4, 1, {o := some (.agg ⟨bo.cs ++ [.int .i64 v]⟩)})]) (ws := [.b true, .stop]) (i0 := ⟨0, out⟩) hE hm (auto0_ok t_rmeetbox_ok) hL (by kernel_rfl) hob hK
theorem rK0 (cs ds : List Value) (o n c p m d : Nat) (k : Int) (Q : Nat → MI → Prop) (i j : Nat) (out : List Pc) (bo b2 : Bx) (v v2 : Int) (J0 : Act → World → Prop) (J : Act → World → Prop) {E : Env} {rv : Value} {rhs : List Nat} {rhv : List Blk} (hE : EnvOK E Try.prog Try.f20 3 2 rv rhs rhv) (hL : (miL cs ds o n c p m d k i bo v Q).OK 2) (hob : all ([SameK (mkLp (lpIn (lp Try.f20 0) J0 0) J) (mkLp (lpIn (lp Try.f20 0) J0 0) J), Enter (miL cs ds o n c p m d k i bo v Q) 0 (some (m - j)) [Value.slice (some (Addr.mk 1 p none)) m d, Value.int IntKind.i64 k, Value.slice none 0 0, Value.pointer (some (Addr.mk 10 0 none)), Value.slice (some (Addr.mk 0 o none)) n c, Value.int IntKind.i64 ((n : Int)), Value.int IntKind.i64 ((i : Int)), Value.slice (some (Addr.mk 1 p none)) m d, Value.int IntKind.i64 ((m : Int)), Value.int IntKind.i64 (Int.ofNat j.succ)] [Blk.ro cs, Blk.ro ds, Blk.cells [Value.int IntKind.i64 bo.a0, Value.int IntKind.i64 bo.b0, Value.int IntKind.i64 bo.a1, Value.int IntKind.i64 bo.b1, Value.int IntKind.i64 bo.a2, Value.int IntKind.i64 bo.b2, Value.int IntKind.i64 bo.a3, Value.int IntKind.i64 bo.b3, Value.int IntKind.i64 bo.a4, Value.int IntKind.i64 bo.b4, Value.int IntKind.i64 v] 27] [(1, 1), (10, 10), (0, 0), (1, 1)], Value.int IntKind.i64 (IntKind.i64.wrap (Int.ofNat j.succ)) = Value.int IntKind.i64 (Int.ofNat j.succ), emptyB (mLo bo.a0 bo.b0 b2.a0 b2.b0) (mHi bo.a0 bo.b0 b2.a0 b2.b0) (mLo bo.a1 bo.b1 b2.a1 b2.b1) (mHi bo.a1 bo.b1 b2.a1 b2.b1) (mLo bo.a2 bo.b2 b2.a2 b2.b2) (mHi bo.a2 bo.b2 b2.a2 b2.b2) (mLo bo.a3 bo.b3 b2.a3 b2.b3) (mHi bo.a3 bo.b3 b2.a3 b2.b3) (mLo bo.a4 bo.b4 b2.a4 b2.b4) (mHi bo.a4 bo.b4 b2.a4 b2.b4) = true, readPart Try.prog 27 ds (p + ((j : Int)).toNat * 11) = some (Value.agg (Array.mk [Value.int IntKind.i64 b2.a0, Value.int IntKind.i64 b2.b0, Value.int IntKind.i64 b2.a1, Value.int IntKind.i64 b2.b1, Value.int IntKind.i64 b2.a2, Value.int IntKind.i64 b2.b2, Value.int IntKind.i64 b2.a3, Value.int IntKind.i64 b2.b3, Value.int IntKind.i64 b2.a4, Value.int IntKind.i64 b2.b4, Value.int IntKind.i64 v2])), (0 : Int) ≤ (j : Int) ∧ (j : Int) < (m : Int), decide ((↑j : Int) < (↑m : Int)) = true])) (hK : ∀ zz, (miL cs ds o n c p m d k i bo v Q).inv 0 zz → ltO ((miL cs ds o n c p m d k i bo v Q).mu 0 zz) (some (m - j)) → Sat E (mkLp (lpIn (lp Try.f20 0) J0 0) J) ((miL cs ds o n c p m d k i bo v Q).st 0 zz)) : Sat E (inLp (lpIn (lp Try.f20 0) J0 0) J) ((miL cs ds o n c p m d k i bo v Q).st 0 ⟨j, out⟩) :=
  by_to (T := auto0 t_rmeetbox) (h := hints [(7, 0, {p := true}), (7, 1, {o := some (.agg ⟨b2.cs ++ [.int .i64 v2]⟩)}), (13, 0, {v := some (.int .i64 ((j + 1 : Nat) : Int))})]) (ws := [.b true, .b true]) (i0 := ⟨j + 1, out⟩) hE hm (auto0_ok t_rmeetbox_ok) hL (by kernel_rfl) hob hK
theorem rK1 (cs ds : List Value) (o n c p m d : Nat) (k : Int) (Q : Nat → MI → Prop) (i j : Nat) (out : List Pc) (bo b2 : Bx) (v v2 : Int) (J0 : Act → World → Prop) (J : Act → World → Prop) {E : Env} {rv : Value} {rhs : List Nat} {rhv : List Blk} (hE : EnvOK E Try.prog Try.f20 3 2 rv rhs rhv) (hL : (miL cs ds o n c p m d k i bo v Q).OK 2) (hob : all ([SameK (mkLp (lpIn (lp Try.f20 0) J0 0) J) (mkLp (lpIn (lp Try.f20 0) J0 0) J), Enter (miL cs ds o n c p m d k i bo v Q) 1 (some (m - j)) [Value.slice (some (Addr.mk 1 p none)) m d, Value.int IntKind.i64 k, Value.slice (some (Addr.mk 13 0 none)) out.length 1267650600228229401496703205376, Value.pointer (some (Addr.mk 10 0 none)), Value.slice (some (Addr.mk 0 o none)) n c, Value.int IntKind.i64 ((n : Int)), Value.int IntKind.i64 ((i : Int)), Value.slice (some (Addr.mk 1 p none)) m d, Value.int IntKind.i64 ((m : Int)), Value.int IntKind.i64 (Int.ofNat j.succ)] [Blk.ro cs, Blk.ro ds, Blk.cells [Value.int IntKind.i64 bo.a0, Value.int IntKind.i64 bo.b0, Value.int IntKind.i64 bo.a1, Value.int IntKind.i64 bo.b1, Value.int IntKind.i64 bo.a2, Value.int IntKind.i64 bo.b2, Value.int IntKind.i64 bo.a3, Value.int IntKind.i64 bo.b3, Value.int IntKind.i64 bo.a4, Value.int IntKind.i64 bo.b4, Value.int IntKind.i64 v] 27, Blk.vec (ePc.row out) 27 11] [(1, 1), (13, 13), (10, 10), (0, 0), (1, 1)], Value.int IntKind.i64 (IntKind.i64.wrap (Int.ofNat j.succ)) = Value.int IntKind.i64 (Int.ofNat j.succ), emptyB (mLo bo.a0 bo.b0 b2.a0 b2.b0) (mHi bo.a0 bo.b0 b2.a0 b2.b0) (mLo bo.a1 bo.b1 b2.a1 b2.b1) (mHi bo.a1 bo.b1 b2.a1 b2.b1) (mLo bo.a2 bo.b2 b2.a2 b2.b2) (mHi bo.a2 bo.b2 b2.a2 b2.b2) (mLo bo.a3 bo.b3 b2.a3 b2.b3) (mHi bo.a3 bo.b3 b2.a3 b2.b3) (mLo bo.a4 bo.b4 b2.a4 b2.b4) (mHi bo.a4 bo.b4 b2.a4 b2.b4) = true, readPart Try.prog 27 ds (p + ((j : Int)).toNat * 11) = some (Value.agg (Array.mk [Value.int IntKind.i64 b2.a0, Value.int IntKind.i64 b2.b0, Value.int IntKind.i64 b2.a1, Value.int IntKind.i64 b2.b1, Value.int IntKind.i64 b2.a2, Value.int IntKind.i64 b2.b2, Value.int IntKind.i64 b2.a3, Value.int IntKind.i64 b2.b3, Value.int IntKind.i64 b2.a4, Value.int IntKind.i64 b2.b4, Value.int IntKind.i64 v2])), (0 : Int) ≤ (j : Int) ∧ (j : Int) < (m : Int), decide ((↑j : Int) < (↑m : Int)) = true])) (hK : ∀ zz, (miL cs ds o n c p m d k i bo v Q).inv 1 zz → ltO ((miL cs ds o n c p m d k i bo v Q).mu 1 zz) (some (m - j)) → Sat E (mkLp (lpIn (lp Try.f20 0) J0 0) J) ((miL cs ds o n c p m d k i bo v Q).st 1 zz)) : Sat E (inLp (lpIn (lp Try.f20 0) J0 0) J) ((miL cs ds o n c p m d k i bo v Q).st 1 ⟨j, out⟩) :=
  by_to (T := auto0 t_rmeetbox) (h := hints [(7, 0, {p := true}), (7, 1, {o := some (.agg ⟨b2.cs ++ [.int .i64 v2]⟩)}), (13, 0, {v := some (.int .i64 ((j + 1 : Nat) : Int))})]) (ws := [.b true, .b true]) (i0 := ⟨j + 1, out⟩) hE hm (auto0_ok t_rmeetbox_ok) hL (by kernel_rfl) hob hK
theorem rF0 (cs ds : List Value) (o n c p m d : Nat) (k : Int) (Q : Nat → MI → Prop) (i j : Nat) (out : List Pc) (bo b2 : Bx) (v v2 : Int) (J0 : Act → World → Prop) (J : Act → World → Prop) {E : Env} (hE : EnvOK E Try.prog Try.f20 3 2 (.tuple ⟨[.slice none 0 0, .bool false]⟩) [] []) (hob : all ([Back (Value.tuple (Array.mk [Value.slice none 0 0, Value.bool false])) (Value.tuple (Array.mk [Value.slice none 0 0, Value.bool false])) [] [] [], decide ((↑0 : Int) ≥ k) = true, emptyB (mLo bo.a0 bo.b0 b2.a0 b2.b0) (mHi bo.a0 bo.b0 b2.a0 b2.b0) (mLo bo.a1 bo.b1 b2.a1 b2.b1) (mHi bo.a1 bo.b1 b2.a1 b2.b1) (mLo bo.a2 bo.b2 b2.a2 b2.b2) (mHi bo.a2 bo.b2 b2.a2 b2.b2) (mLo bo.a3 bo.b3 b2.a3 b2.b3) (mHi bo.a3 bo.b3 b2.a3 b2.b3) (mLo bo.a4 bo.b4 b2.a4 b2.b4) (mHi bo.a4 bo.b4 b2.a4 b2.b4) = false, readPart Try.prog 27 ds (p + ((j : Int)).toNat * 11) = some (Value.agg (Array.mk [Value.int IntKind.i64 b2.a0, Value.int IntKind.i64 b2.b0, Value.int IntKind.i64 b2.a1, Value.int IntKind.i64 b2.b1, Value.int IntKind.i64 b2.a2, Value.int IntKind.i64 b2.b2, Value.int IntKind.i64 b2.a3, Value.int IntKind.i64 b2.b3, Value.int IntKind.i64 b2.a4, Value.int IntKind.i64 b2.b4, Value.int IntKind.i64 v2])), (0 : Int) ≤ (j : Int) ∧ (j : Int) < (m : Int), decide ((↑j : Int) < (↑m : Int)) = true])) : Sat E (inLp (lpIn (lp Try.f20 0) J0 0) J) ((miL cs ds o n c p m d k i bo v Q).st 0 ⟨j, out⟩) :=
  by_ret (T := auto0 t_rmeetbox) (h := hints [(7, 0, {p := true}), (7, 1, {o := some (.agg ⟨b2.cs ++ [.int .i64 v2]⟩)})]) (ws := [.b true, .b false, .b true]) (nx' := 2) hE hm (auto0_ok t_rmeetbox_ok) (by omega) (by simp) (by simp) (by kernel_rfl) hob
theorem rF1 (cs ds : List Value) (o n c p m d : Nat) (k : Int) (Q : Nat → MI → Prop) (i j : Nat) (out : List Pc) (bo b2 : Bx) (v v2 : Int) (J0 : Act → World → Prop) (J : Act → World → Prop) {E : Env} (hE : EnvOK E Try.prog Try.f20 3 2 (.tuple ⟨[.slice none 0 0, .bool false]⟩) [] []) (hob : all ([Back (Value.tuple (Array.mk [Value.slice none 0 0, Value.bool false])) (Value.tuple (Array.mk [Value.slice none 0 0, Value.bool false])) [] [] [], decide ((↑out.length : Int) ≥ k) = true, emptyB (mLo bo.a0 bo.b0 b2.a0 b2.b0) (mHi bo.a0 bo.b0 b2.a0 b2.b0) (mLo bo.a1 bo.b1 b2.a1 b2.b1) (mHi bo.a1 bo.b1 b2.a1 b2.b1) (mLo bo.a2 bo.b2 b2.a2 b2.b2) (mHi bo.a2 bo.b2 b2.a2 b2.b2) (mLo bo.a3 bo.b3 b2.a3 b2.b3) (mHi bo.a3 bo.b3 b2.a3 b2.b3) (mLo bo.a4 bo.b4 b2.a4 b2.b4) (mHi bo.a4 bo.b4 b2.a4 b2.b4) = false, readPart Try.prog 27 ds (p + ((j : Int)).toNat * 11) = some (Value.agg (Array.mk [Value.int IntKind.i64 b2.a0, Value.int IntKind.i64 b2.b0, Value.int IntKind.i64 b2.a1, Value.int IntKind.i64 b2.b1, Value.int IntKind.i64 b2.a2, Value.int IntKind.i64 b2.b2, Value.int IntKind.i64 b2.a3, Value.int IntKind.i64 b2.b3, Value.int IntKind.i64 b2.a4, Value.int IntKind.i64 b2.b4, Value.int IntKind.i64 v2])), (0 : Int) ≤ (j : Int) ∧ (j : Int) < (m : Int), decide ((↑j : Int) < (↑m : Int)) = true])) : Sat E (inLp (lpIn (lp Try.f20 0) J0 0) J) ((miL cs ds o n c p m d k i bo v Q).st 1 ⟨j, out⟩) :=
  by_ret (T := auto0 t_rmeetbox) (h := hints [(7, 0, {p := true}), (7, 1, {o := some (.agg ⟨b2.cs ++ [.int .i64 v2]⟩)})]) (ws := [.b true, .b false, .b true]) (nx' := 2) hE hm (auto0_ok t_rmeetbox_ok) (by omega) (by simp) (by simp) (by kernel_rfl) hob
theorem rA0 (cs ds : List Value) (o n c p m d : Nat) (k : Int) (Q : Nat → MI → Prop) (i j : Nat) (out out2 : List Pc) (bo b2 : Bx) (v v2 s : Int) (J0 : Act → World → Prop) (J : Act → World → Prop) {E : Env} {rv : Value} {rhs : List Nat} {rhv : List Blk} (hE : EnvOK E Try.prog Try.f20 3 2 rv rhs rhv) (hL : (miL cs ds o n c p m d k i bo v Q).OK 2) (hob : all ([SameK (mkLp (lpIn (lp Try.f20 0) J0 0) J) (mkLp (lpIn (lp Try.f20 0) J0 0) J), Enter (miL cs ds o n c p m d k i bo v Q) 1 (some (m - j)) [Value.slice (some (Addr.mk 1 p none)) m d, Value.int IntKind.i64 k, Value.slice (some (Addr.mk 122 0 none)) 1 1267650600228229401496703205376, Value.pointer (some (Addr.mk 10 0 none)), Value.slice (some (Addr.mk 0 o none)) n c, Value.int IntKind.i64 ((n : Int)), Value.int IntKind.i64 ((i : Int)), Value.slice (some (Addr.mk 1 p none)) m d, Value.int IntKind.i64 ((m : Int)), Value.int IntKind.i64 (Int.ofNat j.succ)] [Blk.ro cs, Blk.ro ds, Blk.cells [Value.int IntKind.i64 bo.a0, Value.int IntKind.i64 bo.b0, Value.int IntKind.i64 bo.a1, Value.int IntKind.i64 bo.b1, Value.int IntKind.i64 bo.a2, Value.int IntKind.i64 bo.b2, Value.int IntKind.i64 bo.a3, Value.int IntKind.i64 bo.b3, Value.int IntKind.i64 bo.a4, Value.int IntKind.i64 bo.b4, Value.int IntKind.i64 v] 27, Blk.vec (ePc.row out2) 27 11] [(1, 1), (13, 122), (10, 10), (0, 0), (1, 1)], Value.int IntKind.i64 (IntKind.i64.wrap (Int.ofNat j.succ)) = Value.int IntKind.i64 (Int.ofNat j.succ), AppOK none 0 0 11 88 1 [Value.int IntKind.i64 (mLo bo.a0 bo.b0 b2.a0 b2.b0), Value.int IntKind.i64 (mHi bo.a0 bo.b0 b2.a0 b2.b0), Value.int IntKind.i64 (mLo bo.a1 bo.b1 b2.a1 b2.b1), Value.int IntKind.i64 (mHi bo.a1 bo.b1 b2.a1 b2.b1), Value.int IntKind.i64 (mLo bo.a2 bo.b2 b2.a2 b2.b2), Value.int IntKind.i64 (mHi bo.a2 bo.b2 b2.a2 b2.b2), Value.int IntKind.i64 (mLo bo.a3 bo.b3 b2.a3 b2.b3), Value.int IntKind.i64 (mHi bo.a3 bo.b3 b2.a3 b2.b3), Value.int IntKind.i64 (mLo bo.a4 bo.b4 b2.a4 b2.b4), Value.int IntKind.i64 (mHi bo.a4 bo.b4 b2.a4 b2.b4), Value.int IntKind.i64 s] 0 (ePc.row out2), Value.int IntKind.i64 (IntKind.i64.wrap (v + v2)) = Value.int IntKind.i64 s, decide ((↑0 : Int) ≥ k) = false, emptyB (mLo bo.a0 bo.b0 b2.a0 b2.b0) (mHi bo.a0 bo.b0 b2.a0 b2.b0) (mLo bo.a1 bo.b1 b2.a1 b2.b1) (mHi bo.a1 bo.b1 b2.a1 b2.b1) (mLo bo.a2 bo.b2 b2.a2 b2.b2) (mHi bo.a2 bo.b2 b2.a2 b2.b2) (mLo bo.a3 bo.b3 b2.a3 b2.b3) (mHi bo.a3 bo.b3 b2.a3 b2.b3) (mLo bo.a4 bo.b4 b2.a4 b2.b4) (mHi bo.a4 bo.b4 b2.a4 b2.b4) = false, readPart Try.prog 27 ds (p + ((j : Int)).toNat * 11) = some (Value.agg (Array.mk [Value.int IntKind.i64 b2.a0, Value.int IntKind.i64 b2.b0, Value.int IntKind.i64 b2.a1, Value.int IntKind.i64 b2.b1, Value.int IntKind.i64 b2.a2, Value.int IntKind.i64 b2.b2, Value.int IntKind.i64 b2.a3, Value.int IntKind.i64 b2.b3, Value.int IntKind.i64 b2.a4, Value.int IntKind.i64 b2.b4, Value.int IntKind.i64 v2])), (0 : Int) ≤ (j : Int) ∧ (j : Int) < (m : Int), decide ((↑j : Int) < (↑m : Int)) = true])) (hK : ∀ zz, (miL cs ds o n c p m d k i bo v Q).inv 1 zz → ltO ((miL cs ds o n c p m d k i bo v Q).mu 1 zz) (some (m - j)) → Sat E (mkLp (lpIn (lp Try.f20 0) J0 0) J) ((miL cs ds o n c p m d k i bo v Q).st 1 zz)) : Sat E (inLp (lpIn (lp Try.f20 0) J0 0) J) ((miL cs ds o n c p m d k i bo v Q).st 0 ⟨j, out⟩) :=
  by_to (T := auto0 t_rmeetbox) (h := hints [(7, 0, {p := true}), (7, 1, {o := some (.agg ⟨b2.cs ++ [.int .i64 v2]⟩)}), (12, 6, {v := some (.int .i64 s)}), (12, 9, {c := some (ePc.row out2)}), (13, 0, {v := some (.int .i64 ((j + 1 : Nat) : Int))})]) (ws := [.b true, .b false, .b false]) (i0 := ⟨j + 1, out2⟩) hE hm (auto0_ok t_rmeetbox_ok) hL (by kernel_rfl) hob hK
theorem rA1 (cs ds : List Value) (o n c p m d : Nat) (k : Int) (Q : Nat → MI → Prop) (i j : Nat) (out out2 : List Pc) (bo b2 : Bx) (v v2 s : Int) (J0 : Act → World → Prop) (J : Act → World → Prop) {E : Env} {rv : Value} {rhs : List Nat} {rhv : List Blk} (hE : EnvOK E Try.prog Try.f20 3 2 rv rhs rhv) (hL : (miL cs ds o n c p m d k i bo v Q).OK 2) (hob : all ([SameK (mkLp (lpIn (lp Try.f20 0) J0 0) J) (mkLp (lpIn (lp Try.f20 0) J0 0) J), Enter (miL cs ds o n c p m d k i bo v Q) 1 (some (m - j)) [Value.slice (some (Addr.mk 1 p none)) m d, Value.int IntKind.i64 k, Value.slice (some (Addr.mk 122 0 none)) (out.length + 1) 1267650600228229401496703205376, Value.pointer (some (Addr.mk 10 0 none)), Value.slice (some (Addr.mk 0 o none)) n c, Value.int IntKind.i64 ((n : Int)), Value.int IntKind.i64 ((i : Int)), Value.slice (some (Addr.mk 1 p none)) m d, Value.int IntKind.i64 ((m : Int)), Value.int IntKind.i64 (Int.ofNat j.succ)] [Blk.ro cs, Blk.ro ds, Blk.cells [Value.int IntKind.i64 bo.a0, Value.int IntKind.i64 bo.b0, Value.int IntKind.i64 bo.a1, Value.int IntKind.i64 bo.b1, Value.int IntKind.i64 bo.a2, Value.int IntKind.i64 bo.b2, Value.int IntKind.i64 bo.a3, Value.int IntKind.i64 bo.b3, Value.int IntKind.i64 bo.a4, Value.int IntKind.i64 bo.b4, Value.int IntKind.i64 v] 27, Blk.vec (ePc.row out2) 27 11] [(1, 1), (13, 122), (10, 10), (0, 0), (1, 1)], Value.int IntKind.i64 (IntKind.i64.wrap (Int.ofNat j.succ)) = Value.int IntKind.i64 (Int.ofNat j.succ), AppOK (some (Blk.vec (ePc.row out) 27 11)) out.length 1267650600228229401496703205376 11 88 1 [Value.int IntKind.i64 (mLo bo.a0 bo.b0 b2.a0 b2.b0), Value.int IntKind.i64 (mHi bo.a0 bo.b0 b2.a0 b2.b0), Value.int IntKind.i64 (mLo bo.a1 bo.b1 b2.a1 b2.b1), Value.int IntKind.i64 (mHi bo.a1 bo.b1 b2.a1 b2.b1), Value.int IntKind.i64 (mLo bo.a2 bo.b2 b2.a2 b2.b2), Value.int IntKind.i64 (mHi bo.a2 bo.b2 b2.a2 b2.b2), Value.int IntKind.i64 (mLo bo.a3 bo.b3 b2.a3 b2.b3), Value.int IntKind.i64 (mHi bo.a3 bo.b3 b2.a3 b2.b3), Value.int IntKind.i64 (mLo bo.a4 bo.b4 b2.a4 b2.b4), Value.int IntKind.i64 (mHi bo.a4 bo.b4 b2.a4 b2.b4), Value.int IntKind.i64 s] 0 (ePc.row out2), Value.int IntKind.i64 (IntKind.i64.wrap (v + v2)) = Value.int IntKind.i64 s, decide ((↑out.length : Int) ≥ k) = false, emptyB (mLo bo.a0 bo.b0 b2.a0 b2.b0) (mHi bo.a0 bo.b0 b2.a0 b2.b0) (mLo bo.a1 bo.b1 b2.a1 b2.b1) (mHi bo.a1 bo.b1 b2.a1 b2.b1) (mLo bo.a2 bo.b2 b2.a2 b2.b2) (mHi bo.a2 bo.b2 b2.a2 b2.b2) (mLo bo.a3 bo.b3 b2.a3 b2.b3) (mHi bo.a3 bo.b3 b2.a3 b2.b3) (mLo bo.a4 bo.b4 b2.a4 b2.b4) (mHi bo.a4 bo.b4 b2.a4 b2.b4) = false, readPart Try.prog 27 ds (p + ((j : Int)).toNat * 11) = some (Value.agg (Array.mk [Value.int IntKind.i64 b2.a0, Value.int IntKind.i64 b2.b0, Value.int IntKind.i64 b2.a1, Value.int IntKind.i64 b2.b1, Value.int IntKind.i64 b2.a2, Value.int IntKind.i64 b2.b2, Value.int IntKind.i64 b2.a3, Value.int IntKind.i64 b2.b3, Value.int IntKind.i64 b2.a4, Value.int IntKind.i64 b2.b4, Value.int IntKind.i64 v2])), (0 : Int) ≤ (j : Int) ∧ (j : Int) < (m : Int), decide ((↑j : Int) < (↑m : Int)) = true])) (hK : ∀ zz, (miL cs ds o n c p m d k i bo v Q).inv 1 zz → ltO ((miL cs ds o n c p m d k i bo v Q).mu 1 zz) (some (m - j)) → Sat E (mkLp (lpIn (lp Try.f20 0) J0 0) J) ((miL cs ds o n c p m d k i bo v Q).st 1 zz)) : Sat E (inLp (lpIn (lp Try.f20 0) J0 0) J) ((miL cs ds o n c p m d k i bo v Q).st 1 ⟨j, out⟩) :=
  by_to (T := auto0 t_rmeetbox) (h := hints [(7, 0, {p := true}), (7, 1, {o := some (.agg ⟨b2.cs ++ [.int .i64 v2]⟩)}), (12, 6, {v := some (.int .i64 s)}), (12, 9, {c := some (ePc.row out2)}), (13, 0, {v := some (.int .i64 ((j + 1 : Nat) : Int))})]) (ws := [.b true, .b false, .b false]) (i0 := ⟨j + 1, out2⟩) hE hm (auto0_ok t_rmeetbox_ok) hL (by kernel_rfl) hob hK
theorem rO0 (cs ds : List Value) (o n c p m d : Nat) (k : Int) (Q : Nat → MI → Prop) (Q1 : Nat → MO → Prop) (i j : Nat) (out : List Pc) (bo : Bx) (v : Int) (J0 : Act → World → Prop) (J : Act → World → Prop) {E : Env} {rv : Value} {rhs : List Nat} {rhv : List Blk} (hE : EnvOK E Try.prog Try.f20 3 2 rv rhs rhv) (hL : (moL cs ds o n c p m d k Q1).OK 2) (hob : all ([SameK (mkLp (lp Try.f20 0) J0) (mkLp (lp Try.f20 0) J0), Enter (moL cs ds o n c p m d k Q1) 0 (some (n - i)) [Value.slice (some (Addr.mk 1 p none)) m d, Value.int IntKind.i64 k, Value.slice none 0 0, Value.slice (some (Addr.mk 0 o none)) n c, Value.int IntKind.i64 ((n : Int)), Value.int IntKind.i64 (Int.ofNat i.succ)] [Blk.ro cs, Blk.ro ds] [(1, 1), (0, 0)], Value.int IntKind.i64 (IntKind.i64.wrap (Int.ofNat i.succ)) = Value.int IntKind.i64 (Int.ofNat i.succ), decide ((↑j : Int) < (↑m : Int)) = false])) (hK : ∀ zz, (moL cs ds o n c p m d k Q1).inv 0 zz → ltO ((moL cs ds o n c p m d k Q1).mu 0 zz) (some (n - i)) → Sat E (mkLp (lp Try.f20 0) J0) ((moL cs ds o n c p m d k Q1).st 0 zz)) : Sat E (inLp (lpIn (lp Try.f20 0) J0 0) J) ((miL cs ds o n c p m d k i bo v Q).st 0 ⟨j, out⟩) :=
  by_to (T := auto0 t_rmeetbox) (h := hints [(14, 0, {v := some (.int .i64 ((i + 1 : Nat) : Int))})]) (ws := [.b false]) (i0 := ⟨i + 1, out⟩) hE hm (auto0_ok t_rmeetbox_ok) hL (by kernel_rfl) hob hK
theorem rO1 (cs ds : List Value) (o n c p m d : Nat) (k : Int) (Q : Nat → MI → Prop) (Q1 : Nat → MO → Prop) (i j : Nat) (out : List Pc) (bo : Bx) (v : Int) (J0 : Act → World → Prop) (J : Act → World → Prop) {E : Env} {rv : Value} {rhs : List Nat} {rhv : List Blk} (hE : EnvOK E Try.prog Try.f20 3 2 rv rhs rhv) (hL : (moL cs ds o n c p m d k Q1).OK 2) (hob : all ([SameK (mkLp (lp Try.f20 0) J0) (mkLp (lp Try.f20 0) J0), Enter (moL cs ds o n c p m d k Q1) 1 (some (n - i)) [Value.slice (some (Addr.mk 1 p none)) m d, Value.int IntKind.i64 k, Value.slice (some (Addr.mk 13 0 none)) out.length 1267650600228229401496703205376, Value.slice (some (Addr.mk 0 o none)) n c, Value.int IntKind.i64 ((n : Int)), Value.int IntKind.i64 (Int.ofNat i.succ)] [Blk.ro cs, Blk.ro ds, Blk.vec (ePc.row out) 27 11] [(1, 1), (13, 13), (0, 0)], Value.int IntKind.i64 (IntKind.i64.wrap (Int.ofNat i.succ)) = Value.int IntKind.i64 (Int.ofNat i.succ), decide ((↑j : Int) < (↑m : Int)) = false])) (hK : ∀ zz, (moL cs ds o n c p m d k Q1).inv 1 zz → ltO ((moL cs ds o n c p m d k Q1).mu 1 zz) (some (n - i)) → Sat E (mkLp (lp Try.f20 0) J0) ((moL cs ds o n c p m d k Q1).st 1 zz)) : Sat E (inLp (lpIn (lp Try.f20 0) J0 0) J) ((miL cs ds o n c p m d k i bo v Q).st 1 ⟨j, out⟩) :=
  by_to (T := auto0 t_rmeetbox) (h := hints [(14, 0, {v := some (.int .i64 ((i + 1 : Nat) : Int))})]) (ws := [.b false]) (i0 := ⟨i + 1, out⟩) hE hm (auto0_ok t_rmeetbox_ok) hL (by kernel_rfl) hob hK
end Go.Proofs.Ythbaccmhdffjdaa.Mt


set_option linter.unusedVariables false
set_option linter.unusedSimpArgs false
set_option maxRecDepth 100000
namespace Go.Proofs.Ythbaccmhdffjdaa.Mt
open Go Go.RowKit Go.Proofs.Ythbaccmhdffjdaa.Ev Go.Proofs.Ythbaccmhdffjdaa.Within Go.Proofs.Ythbaccmhdffjdaa.BoxF Go.Proofs.Ythbaccmhdffjdaa.Mm Go.Proofs.Ythbaccmhdffjdaa.Mt
theorem r_spec (cs ds : List Value) (o n c p m d : Nat) (k : Int) (hra : ePc.Row cs o n) (hrb : ePc.Row ds p m) (h1 : ∀ x ∈ cs, leafG x = true) (h2 : ∀ x ∈ ds, leafG x = true) (hn : n ≤ 100000) (hm : m ≤ 100000) (hk : k ≤ 100000) (R : MR) (hR : meetL (ePc.list cs o n) (ePc.list ds p m) k = R.opt) (hok : R.ok) :
    CallSpec Try.prog 20 [.slice (some ⟨0, o, none⟩) n c, .slice (some ⟨1, p, none⟩) m d, .int .i64 k] (roRows [cs, ds]) 2 (mtV R) (assocN (mtN R) (mtH R)) := by
  refine spec_of_sat Try.func20 rfl fun E hE => ?_
  have hla : (ePc.list cs o n).length = n := Elt.list_len _ _ _
  have hlb : (ePc.list ds p m).length = m := Elt.list_len _ _ _
  have geta : ∀ i y, (ePc.list cs o n)[i]? = some y → readPart Try.prog 27 cs (o + (Int.ofNat i).toNat * 11) = some (.agg ⟨y.box.cs ++ [.int .i64 y.val]⟩) := fun i y hy => hra.read (P := Try.prog) (ty := 27) (by kernel_rfl) (by kernel_rfl) (i := i) (x := y) hy
  have getb : ∀ i y, (ePc.list ds p m)[i]? = some y → readPart Try.prog 27 ds (p + (Int.ofNat i).toNat * 11) = some (.agg ⟨y.box.cs ++ [.int .i64 y.val]⟩) := fun i y hy => hrb.read (P := Try.prog) (ty := 27) (by kernel_rfl) (by kernel_rfl) (i := i) (x := y) hy
  generalize ePc.list cs o n = A at hla geta hR
  generalize ePc.list ds p m = B at hlb getb hR
  have okO := fun Q => moL_ok cs ds o n c p m d k Q h1 h2
  have okI := fun i bo v Q => miL_ok cs ds o n c p m d k i bo v Q h1 h2
  have rnr1 : ∀ f : Nat → Nat, Blk.rnB f (.ro cs) = .ro cs := fun f => Blk.plain.rnB (b := .ro cs) h1 f
  have rnr2 : ∀ f : Nat → Nat, Blk.rnB f (.ro ds) = .ro ds := fun f => Blk.plain.rnB (b := .ro ds) h2 f
  have rnc : ∀ (f : Nat → Nat) (x : Bx) (v : Int), Blk.rnB f (.cells (x.cs ++ [Value.int .i64 v]) 27) = .cells (x.cs ++ [Value.int .i64 v]) 27 := fun f x v => Blk.plain.rnB (b := .cells _ 27) (ePc.pl ⟨x, v⟩) f
  have rnv : ∀ (f : Nat → Nat) (l : List Pc), Blk.rnB f (.vec (ePc.row l) 27 11) = .vec (ePc.row l) 27 11 := fun f l => Blk.plain.rnB (b := .vec (ePc.row l) 27 11) (Elt.row_pl _) f
  let Q : Nat → MO → Prop := fun b s => s.i ≤ n ∧ shp b s.out ∧ s.out.length ≤ 100000 ∧ mtO k B s.out (A.drop s.i) = R.opt
  have bd : ∀ out : List Pc, ¬ ((out.length : Int) ≥ k) → out.length + 1 ≤ 100000 := fun out h => by omega
  refine rIn cs ds o n c p m d k Q hE (okO Q) ⟨rfl, ⟨⟨0, []⟩, ⟨Nat.zero_le _, Or.inl ⟨rfl, rfl⟩, Nat.zero_le _, hR⟩, trivial, rfl, by simp only [moL, List.map_cons, List.map_nil, rnr1, rnr2]⟩, trivial⟩ fun zz hz _ => by_loop (moL cs ds o n c p m d k Q) (lp Try.f20 0) ?_ 0 zz hz
  rintro b ⟨i, out⟩ hinv J hJ
  obtain ⟨k1, k2, k3, k4⟩ : i ≤ n ∧ shp b out ∧ out.length ≤ 100000 ∧ mtO k B out (A.drop i) = R.opt := hinv
  show Sat E (inLp (lp Try.f20 0) J) ((moL cs ds o n c p m d k Q).st b ⟨i, out⟩)
  by_cases hin : i < n
  · have hlt : decide ((i : Int) < (n : Int)) = true := decide_eq_true (by omega)
    obtain ⟨x, hx⟩ : ∃ x, A[i]? = some x := ⟨_, List.getElem?_eq_getElem (by omega)⟩
    rw [drop_get hx, mtO_cons] at k4
    let Q2 : Nat → MI → Prop := fun b s => s.j ≤ m ∧ shp b s.out ∧ s.out.length ≤ 100000 ∧ ((mtI k x s.out (B.drop s.j)).bind fun o => mtO k B o (A.drop (i + 1))) = R.opt
    have hx0 := geta i x hx
    have hix : (0 : Int) ≤ (i : Int) ∧ (i : Int) < (n : Int) := ⟨Int.natCast_nonneg _, Int.ofNat_lt.2 hin⟩
    have inner : ∀ b zz, Q2 b zz → Sat E (atLp (lpIn (lp Try.f20 0) J 0)) ((miL cs ds o n c p m d k i x.box x.val Q2).st b zz) := by
      intro b0 zz0 hz0
      refine by_loop (miL cs ds o n c p m d k i x.box x.val Q2) (lpIn (lp Try.f20 0) J 0) ?_ b0 zz0 hz0
      rintro b2 ⟨j, out⟩ hinv J2 hJ2
      obtain ⟨q1, q2, q3, q4⟩ : j ≤ m ∧ shp b2 out ∧ out.length ≤ 100000 ∧ ((mtI k x out (B.drop j)).bind fun o => mtO k B o (A.drop (i + 1))) = R.opt := hinv
      show Sat E (inLp (lpIn (lp Try.f20 0) J 0) J2) ((miL cs ds o n c p m d k i x.box x.val Q2).st b2 ⟨j, out⟩)
      have hJm : ∀ b' zz, (miL cs ds o n c p m d k i x.box x.val Q2).inv b' zz → ltO ((miL cs ds o n c p m d k i x.box x.val Q2).mu b' zz) (some (m - j)) → Sat E (mkLp (lpIn (lp Try.f20 0) J 0) J2) ((miL cs ds o n c p m d k i x.box x.val Q2).st b' zz) := fun b' zz g1 g2 => hJ2 b' zz g1 g2
      by_cases hjm : j < m
      · have hlt2 : decide ((j : Int) < (m : Int)) = true := decide_eq_true (by omega)
        obtain ⟨y, hy⟩ : ∃ y, B[j]? = some y := ⟨_, List.getElem?_eq_getElem (by omega)⟩
        have hy0 := getb j y hy
        have hjx : (0 : Int) ≤ (j : Int) ∧ (j : Int) < (m : Int) := ⟨Int.natCast_nonneg _, Int.ofNat_lt.2 hjm⟩
        have hs := i64_succ (i := j) (by omega)
        rw [drop_get hy, mtI_cons] at q4
        by_cases he : bxE (mBx x.box y.box) = true
        · rw [if_pos he] at q4
          rcases q2 with ⟨rfl, rfl⟩ | ⟨rfl, q2⟩
          · exact rK0 cs ds o n c p m d k Q2 i j [] x.box y.box x.val y.val J J2 hE (okI _ _ _ _) ⟨rfl, ⟨⟨j + 1, []⟩, ⟨hjm, Or.inl ⟨rfl, rfl⟩, q3, q4⟩, (by show m - (j + 1) < m - j; omega), rfl, by simp only [miL, List.map_cons, List.map_nil, rnr1, rnr2, rnc]; rfl⟩, hs, he, hy0, hjx, hlt2, trivial⟩ (hJm 0)
          · exact rK1 cs ds o n c p m d k Q2 i j out x.box y.box x.val y.val J J2 hE (okI _ _ _ _) ⟨rfl, ⟨⟨j + 1, out⟩, ⟨hjm, Or.inr ⟨rfl, q2⟩, q3, q4⟩, (by show m - (j + 1) < m - j; omega), rfl, by simp only [miL, List.map_cons, List.map_nil, rnr1, rnr2, rnc, rnv]; rfl⟩, hs, he, hy0, hjx, hlt2, trivial⟩ (hJm 1)
        · rw [if_neg he] at q4
          have he' : bxE (mBx x.box y.box) = false := by simpa using he
          by_cases hf : (out.length : Int) ≥ k
          · rw [if_pos hf] at q4
            obtain rfl := MR.is_few q4
            rcases q2 with ⟨rfl, rfl⟩ | ⟨rfl, q2⟩
            · exact rF0 cs ds o n c p m d k Q2 i j [] x.box y.box x.val y.val J J2 hE ⟨⟨rfl, rfl⟩, decide_eq_true hf, he', hy0, hjx, hlt2, trivial⟩
            · exact rF1 cs ds o n c p m d k Q2 i j out x.box y.box x.val y.val J J2 hE ⟨⟨rfl, rfl⟩, decide_eq_true hf, he', hy0, hjx, hlt2, trivial⟩
          · rw [if_neg hf] at q4
            have hb := bd out hf
            have q5 : Q2 1 ⟨j + 1, out ++ [mPc x y]⟩ := ⟨hjm, shp_app, (by simp; omega), q4⟩
            have hlen : (out ++ [mPc x y]).length = out.length + 1 := by simp
            rcases q2 with ⟨rfl, rfl⟩ | ⟨rfl, q2⟩
            · exact rA0 cs ds o n c p m d k Q2 i j [] ([] ++ [mPc x y]) x.box y.box x.val y.val (mPc x y).val J J2 hE (okI _ _ _ _) ⟨rfl, ⟨⟨j + 1, [] ++ [mPc x y]⟩, q5, (by show m - (j + 1) < m - j; omega), rfl, by simp only [miL, List.map_cons, List.map_nil, rnr1, rnr2, rnc, rnv]; rfl⟩, hs, appOK_nil (e := ePc) (new := [mPc x y]) rfl rfl rfl rfl (by simp) (by simp) (by simp), rfl, decide_eq_false hf, he', hy0, hjx, hlt2, trivial⟩ (hJm 1)
            · exact rA1 cs ds o n c p m d k Q2 i j out (out ++ [mPc x y]) x.box y.box x.val y.val (mPc x y).val J J2 hE (okI _ _ _ _) ⟨rfl, ⟨⟨j + 1, out ++ [mPc x y]⟩, q5, (by show m - (j + 1) < m - j; omega), (by simp [miL, muV]; repeat' (first | exact rfl | refine ⟨rfl, ?_⟩)), by simp only [miL, List.map_cons, List.map_nil, rnr1, rnr2, rnc, rnv]; rfl⟩, hs, appOK (e := ePc) (L := out) (new := [mPc x y]) rfl rfl rfl rfl (Nat.le_refl _) (by simp) (by decide) (by omega) (by omega), rfl, decide_eq_false hf, he', hy0, hjx, hlt2, trivial⟩ (hJm 1)
      · have hlt2 : decide ((j : Int) < (m : Int)) = false := decide_eq_false (by omega)
        have hdr : B.drop j = [] := List.drop_eq_nil_of_le (by omega)
        rw [hdr] at q4
        have q4 : mtO k B out (A.drop (i + 1)) = R.opt := q4
        have hs := i64_succ (i := i) (by omega)
        rcases q2 with ⟨rfl, rfl⟩ | ⟨rfl, q2⟩
        · exact rO0 cs ds o n c p m d k Q2 Q i j [] x.box x.val J J2 hE (okO _) ⟨rfl, ⟨⟨i + 1, []⟩, ⟨hin, Or.inl ⟨rfl, rfl⟩, q3, q4⟩, (by show n - (i + 1) < n - i; omega), rfl, by simp only [moL, List.map_cons, List.map_nil, rnr1, rnr2]⟩, hs, hlt2, trivial⟩ fun zz g1 g2 => hJ 0 zz g1 (by have : n - zz.i < n - i := g2; exact this)
        · exact rO1 cs ds o n c p m d k Q2 Q i j out x.box x.val J J2 hE (okO _) ⟨rfl, ⟨⟨i + 1, out⟩, ⟨hin, Or.inr ⟨rfl, q2⟩, q3, q4⟩, (by show n - (i + 1) < n - i; omega), rfl, by simp only [moL, List.map_cons, List.map_nil, rnr1, rnr2, rnv]⟩, hs, hlt2, trivial⟩ fun zz g1 g2 => hJ 1 zz g1 (by have : n - zz.i < n - i := g2; exact this)
    rcases k2 with ⟨rfl, rfl⟩ | ⟨rfl, k2⟩
    · exact rB0 cs ds o n c p m d k Q Q2 i [] x.box x.val J hE (okI _ _ _ _) ⟨rfl, ⟨⟨0, []⟩, ⟨Nat.zero_le _, Or.inl ⟨rfl, rfl⟩, k3, k4⟩, trivial, rfl, by simp only [miL, List.map_cons, List.map_nil, rnr1, rnr2, rnc]; rfl⟩, hx0, hix, hlt, trivial⟩ fun zz hz _ => inner 0 zz hz
    · exact rB1 cs ds o n c p m d k Q Q2 i out x.box x.val J hE (okI _ _ _ _) ⟨rfl, ⟨⟨0, out⟩, ⟨Nat.zero_le _, Or.inr ⟨rfl, k2⟩, k3, k4⟩, trivial, rfl, by simp only [miL, List.map_cons, List.map_nil, rnr1, rnr2, rnc, rnv]; rfl⟩, hx0, hix, hlt, trivial⟩ fun zz hz _ => inner 1 zz hz
  · have hlt : decide ((i : Int) < (n : Int)) = false := decide_eq_false (by omega)
    have hdr : A.drop i = [] := List.drop_eq_nil_of_le (by omega)
    rw [hdr] at k4
    have k4 : some out = R.opt := k4
    rcases k2 with ⟨rfl, rfl⟩ | ⟨rfl, k2⟩
    · obtain rfl := MR.is_nil k4 hok
      exact rE0 cs ds o n c p m d k Q i [] J hE ⟨⟨rfl, rfl⟩, hlt, trivial⟩
    · obtain rfl := MR.is_row k4 k2
      exact rE1 cs ds o n c p m d k Q i out J hE ⟨⟨rfl, by simp only [List.map_cons, List.map_nil, rnv]⟩, hlt, trivial⟩
theorem rmeet_sum (R : MR) : SumOK Try.prog 20 (roSum (meet_F R)) := mt_sum (en Try.func20 rfl) r_spec R
end Go.Proofs.Ythbaccmhdffjdaa.Mt


set_option linter.unusedVariables false
set_option linter.unusedSimpArgs false
set_option maxRecDepth 100000
namespace Go.Proofs.Ythbaccmhdffjdaa.SamePc
open Go Go.RowKit Go.Proofs.Ythbaccmhdffjdaa.Ev 
def sL (cs ds : List Value) (o n c p m d : Nat) : LoopF Nat where
  ts _ := [0, 1, 5]
  hs _ := [0, 1]
  tv _ i := [.slice (some ⟨0, o, none⟩) n c, .slice (some ⟨1, p, none⟩) m d, .int .i64 (i : Int)]
  hv _ _ := [.ro cs, .ro ds]
  inv _ i := i ≤ n ∧ n = m ∧ n ≤ 9223372036854775806 ∧ ((ePc.list cs o n).take i = (ePc.list ds p m).take i)
  mu _ i := n - i
  nx := 2
theorem sL_ok (cs ds : List Value) (o n c p m d : Nat) (h1 : ∀ x ∈ cs, leafG x = true) (h2 : ∀ x ∈ ds, leafG x = true) : (sL cs ds o n c p m d).OK 2 := by
  refine ⟨Nat.le_refl _, fun b i h k hk => ?_, fun b i h v hv k hk => ?_, fun b i h x hx => ?_⟩
  · simp [sL] at hk
    show k < 2
    omega
  · simp [sL] at hv
    show k < 2
    rcases hv with rfl | rfl | rfl <;> simp [nms, nm1, nm0] at hk <;> omega
  · simp [sL] at hx
    rcases hx with rfl | rfl
    · exact Blk.plain.namesLt (b := .ro cs) h1 _
    · exact Blk.plain.namesLt (b := .ro ds) h2 _
end Go.Proofs.Ythbaccmhdffjdaa.SamePc


set_option linter.unusedVariables false
set_option linter.unusedSimpArgs false
set_option maxRecDepth 100000
namespace Go.Proofs.Ythbaccmhdffjdaa.SamePc
open Go Go.RowKit Go.Proofs.Ythbaccmhdffjdaa.Ev  Go.Proofs.Ythbaccmhdffjdaa.SamePc
theorem sNN (u : Unit)  {E : Env} (hE : EnvOK E Try.prog Try.f15 2 0 (.bool true) [] []) (hob : all ([Back (Value.bool true) (Value.bool true) [] [] []])) : Sat E [.code (bodyOf Try.f15)] (st0 Try.f15 [.slice none 0 0, .slice none 0 0] (roRows []) 0) :=
  by_ret (T := auto0 t_none) (h := hints []) (ws := []) (nx' := 0) hE hm (auto0_ok t_none_ok) (by omega) (by simp) (by simp) (by kernel_rfl) hob
theorem sNS0 (ds : List Value) (p m d : Nat)  {E : Env} (hE : EnvOK E Try.prog Try.f15 2 1 (.bool true) [] []) (hob : all ([Back (Value.bool true) (Value.bool true) [] [] [], ((0 : Int) != (m : Int)) = false])) : Sat E [.code (bodyOf Try.f15)] (st0 Try.f15 [.slice none 0 0, .slice (some ⟨0, p, none⟩) m d] (roRows [ds]) 1) :=
  by_ret (T := auto0 t_none) (h := hints []) (ws := [.b false]) (nx' := 1) hE hm (auto0_ok t_none_ok) (by omega) (by simp) (by simp) (by kernel_rfl) hob
theorem sNS1 (ds : List Value) (p m d : Nat)  {E : Env} (hE : EnvOK E Try.prog Try.f15 2 1 (.bool false) [] []) (hob : all ([Back (Value.bool false) (Value.bool false) [] [] [], ((0 : Int) != (m : Int)) = true])) : Sat E [.code (bodyOf Try.f15)] (st0 Try.f15 [.slice none 0 0, .slice (some ⟨0, p, none⟩) m d] (roRows [ds]) 1) :=
  by_ret (T := auto0 t_none) (h := hints []) (ws := [.b true]) (nx' := 1) hE hm (auto0_ok t_none_ok) (by omega) (by simp) (by simp) (by kernel_rfl) hob
theorem sSN0 (cs : List Value) (o n c : Nat)  {E : Env} (hE : EnvOK E Try.prog Try.f15 2 1 (.bool true) [] []) (hob : all ([Back (Value.bool true) (Value.bool true) [] [] [], decide (0 < (↑n : Int)) = false, ((n : Int) != (0 : Int)) = false])) : Sat E [.code (bodyOf Try.f15)] (st0 Try.f15 [.slice (some ⟨0, o, none⟩) n c, .slice none 0 0] (roRows [cs]) 1) :=
  by_ret (T := auto0 t_none) (h := hints []) (ws := [.b false, .go, .b false]) (nx' := 1) hE hm (auto0_ok t_none_ok) (by omega) (by simp) (by simp) (by kernel_rfl) hob
theorem sSN1 (cs : List Value) (o n c : Nat)  {E : Env} (hE : EnvOK E Try.prog Try.f15 2 1 (.bool false) [] []) (hob : all ([Back (Value.bool false) (Value.bool false) [] [] [], ((n : Int) != (0 : Int)) = true])) : Sat E [.code (bodyOf Try.f15)] (st0 Try.f15 [.slice (some ⟨0, o, none⟩) n c, .slice none 0 0] (roRows [cs]) 1) :=
  by_ret (T := auto0 t_none) (h := hints []) (ws := [.b true]) (nx' := 1) hE hm (auto0_ok t_none_ok) (by omega) (by simp) (by simp) (by kernel_rfl) hob
theorem sLen (cs ds : List Value) (o n c p m d : Nat)  {E : Env} (hE : EnvOK E Try.prog Try.f15 2 2 (.bool false) [] []) (hob : all ([Back (Value.bool false) (Value.bool false) [] [] [], ((n : Int) != (m : Int)) = true])) : Sat E [.code (bodyOf Try.f15)] (st0 Try.f15 [.slice (some ⟨0, o, none⟩) n c, .slice (some ⟨1, p, none⟩) m d] (roRows [cs, ds]) 2) :=
  by_ret (T := auto0 t_none) (h := hints []) (ws := [.b true]) (nx' := 2) hE hm (auto0_ok t_none_ok) (by omega) (by simp) (by simp) (by kernel_rfl) hob
theorem sIn (cs ds : List Value) (o n c p m d : Nat)  {E : Env} {rv : Value} {rhs : List Nat} {rhv : List Blk} (hE : EnvOK E Try.prog Try.f15 2 2 rv rhs rhv) (hL : (sL cs ds o n c p m d).OK 2) (hob : all ([SameK (atLp (lp Try.f15 0)) (atLp (lp Try.f15 0)), Enter (sL cs ds o n c p m d) 0 none [Value.slice (some (Addr.mk 0 o none)) n c, Value.slice (some (Addr.mk 1 p none)) m d, Value.int IntKind.i64 ((0 : Int))] [Blk.ro cs, Blk.ro ds] [(0, 0), (1, 1)], ((n : Int) != (m : Int)) = false])) (hK : ∀ zz, (sL cs ds o n c p m d).inv 0 zz → ltO ((sL cs ds o n c p m d).mu 0 zz) none → Sat E (atLp (lp Try.f15 0)) ((sL cs ds o n c p m d).st 0 zz)) : Sat E [.code (bodyOf Try.f15)] (st0 Try.f15 [.slice (some ⟨0, o, none⟩) n c, .slice (some ⟨1, p, none⟩) m d] (roRows [cs, ds]) 2) :=
  by_to (T := auto0 t_none) (h := hints []) (ws := [.b false, .stop]) (i0 := 0) hE hm (auto0_ok t_none_ok) hL (by kernel_rfl) hob hK
theorem sEnd (cs ds : List Value) (o n c p m d : Nat) (i : Nat) (J : Act → World → Prop) {E : Env} (hE : EnvOK E Try.prog Try.f15 2 2 (.bool true) [] []) (hob : all ([Back (Value.bool true) (Value.bool true) [] [] [], decide ((↑i : Int) < (↑n : Int)) = false])) : Sat E (inLp (lp Try.f15 0) J) ((sL cs ds o n c p m d).st 0 i) :=
  by_ret (T := auto0 t_none) (h := hints []) (ws := [.b false]) (nx' := 2) hE hm (auto0_ok t_none_ok) (by omega) (by simp) (by simp) (by kernel_rfl) hob
theorem sDiff (cs ds : List Value) (o n c p m d : Nat) (i : Nat) (xa0 : Int) (xb0 : Int) (xa1 : Int) (xb1 : Int) (xa2 : Int) (xb2 : Int) (xa3 : Int) (xb3 : Int) (xa4 : Int) (xb4 : Int) (xv : Int) (ya0 : Int) (yb0 : Int) (ya1 : Int) (yb1 : Int) (ya2 : Int) (yb2 : Int) (ya3 : Int) (yb3 : Int) (ya4 : Int) (yb4 : Int) (yv : Int) (J : Act → World → Prop) {E : Env} (hE : EnvOK E Try.prog Try.f15 2 2 (.bool false) [] []) (hob : all ([Back (Value.bool false) (Value.bool false) [] [] [], (!keyEq (Value.agg (Array.mk [Value.int IntKind.i64 xa0, Value.int IntKind.i64 xb0, Value.int IntKind.i64 xa1, Value.int IntKind.i64 xb1, Value.int IntKind.i64 xa2, Value.int IntKind.i64 xb2, Value.int IntKind.i64 xa3, Value.int IntKind.i64 xb3, Value.int IntKind.i64 xa4, Value.int IntKind.i64 xb4, Value.int IntKind.i64 xv])) (Value.agg (Array.mk [Value.int IntKind.i64 ya0, Value.int IntKind.i64 yb0, Value.int IntKind.i64 ya1, Value.int IntKind.i64 yb1, Value.int IntKind.i64 ya2, Value.int IntKind.i64 yb2, Value.int IntKind.i64 ya3, Value.int IntKind.i64 yb3, Value.int IntKind.i64 ya4, Value.int IntKind.i64 yb4, Value.int IntKind.i64 yv]))) = true, readPart Try.prog 27 ds (p + ((i : Int)).toNat * 11) = some (Value.agg (Array.mk [Value.int IntKind.i64 ya0, Value.int IntKind.i64 yb0, Value.int IntKind.i64 ya1, Value.int IntKind.i64 yb1, Value.int IntKind.i64 ya2, Value.int IntKind.i64 yb2, Value.int IntKind.i64 ya3, Value.int IntKind.i64 yb3, Value.int IntKind.i64 ya4, Value.int IntKind.i64 yb4, Value.int IntKind.i64 yv])), (0 : Int) ≤ (i : Int) ∧ (i : Int) < (m : Int), readPart Try.prog 27 cs (o + ((i : Int)).toNat * 11) = some (Value.agg (Array.mk [Value.int IntKind.i64 xa0, Value.int IntKind.i64 xb0, Value.int IntKind.i64 xa1, Value.int IntKind.i64 xb1, Value.int IntKind.i64 xa2, Value.int IntKind.i64 xb2, Value.int IntKind.i64 xa3, Value.int IntKind.i64 xb3, Value.int IntKind.i64 xa4, Value.int IntKind.i64 xb4, Value.int IntKind.i64 xv])), (0 : Int) ≤ (i : Int) ∧ (i : Int) < (n : Int), decide ((↑i : Int) < (↑n : Int)) = true])) : Sat E (inLp (lp Try.f15 0) J) ((sL cs ds o n c p m d).st 0 i) :=
  by_ret (T := auto0 t_none) (h := hints [(6, 2, {p := true}), (6, 3, {o := some (.agg ⟨[.int .i64 xa0, .int .i64 xb0, .int .i64 xa1, .int .i64 xb1, .int .i64 xa2, .int .i64 xb2, .int .i64 xa3, .int .i64 xb3, .int .i64 xa4, .int .i64 xb4, .int .i64 xv]⟩)}), (6, 6, {p := true}), (6, 7, {o := some (.agg ⟨[.int .i64 ya0, .int .i64 yb0, .int .i64 ya1, .int .i64 yb1, .int .i64 ya2, .int .i64 yb2, .int .i64 ya3, .int .i64 yb3, .int .i64 ya4, .int .i64 yb4, .int .i64 yv]⟩)})]) (ws := [.b true, .b true]) (nx' := 2) hE hm (auto0_ok t_none_ok) (by omega) (by simp) (by simp) (by kernel_rfl) hob
theorem sNext (cs ds : List Value) (o n c p m d : Nat) (i : Nat) (xa0 : Int) (xb0 : Int) (xa1 : Int) (xb1 : Int) (xa2 : Int) (xb2 : Int) (xa3 : Int) (xb3 : Int) (xa4 : Int) (xb4 : Int) (xv : Int) (ya0 : Int) (yb0 : Int) (ya1 : Int) (yb1 : Int) (ya2 : Int) (yb2 : Int) (ya3 : Int) (yb3 : Int) (ya4 : Int) (yb4 : Int) (yv : Int) (J : Act → World → Prop) {E : Env} {rv : Value} {rhs : List Nat} {rhv : List Blk} (hE : EnvOK E Try.prog Try.f15 2 2 rv rhs rhv) (hL : (sL cs ds o n c p m d).OK 2) (hob : all ([SameK (mkLp (lp Try.f15 0) J) (mkLp (lp Try.f15 0) J), Enter (sL cs ds o n c p m d) 0 (some (n - i)) [Value.slice (some (Addr.mk 0 o none)) n c, Value.slice (some (Addr.mk 1 p none)) m d, Value.int IntKind.i64 (Int.ofNat i.succ)] [Blk.ro cs, Blk.ro ds] [(0, 0), (1, 1)], Value.int IntKind.i64 (IntKind.i64.wrap (Int.ofNat i.succ)) = Value.int IntKind.i64 (Int.ofNat i.succ), (!keyEq (Value.agg (Array.mk [Value.int IntKind.i64 xa0, Value.int IntKind.i64 xb0, Value.int IntKind.i64 xa1, Value.int IntKind.i64 xb1, Value.int IntKind.i64 xa2, Value.int IntKind.i64 xb2, Value.int IntKind.i64 xa3, Value.int IntKind.i64 xb3, Value.int IntKind.i64 xa4, Value.int IntKind.i64 xb4, Value.int IntKind.i64 xv])) (Value.agg (Array.mk [Value.int IntKind.i64 ya0, Value.int IntKind.i64 yb0, Value.int IntKind.i64 ya1, Value.int IntKind.i64 yb1, Value.int IntKind.i64 ya2, Value.int IntKind.i64 yb2, Value.int IntKind.i64 ya3, Value.int IntKind.i64 yb3, Value.int IntKind.i64 ya4, Value.int IntKind.i64 yb4, Value.int IntKind.i64 yv]))) = false, readPart Try.prog 27 ds (p + ((i : Int)).toNat * 11) = some (Value.agg (Array.mk [Value.int IntKind.i64 ya0, Value.int IntKind.i64 yb0, Value.int IntKind.i64 ya1, Value.int IntKind.i64 yb1, Value.int IntKind.i64 ya2, Value.int IntKind.i64 yb2, Value.int IntKind.i64 ya3, Value.int IntKind.i64 yb3, Value.int IntKind.i64 ya4, Value.int IntKind.i64 yb4, Value.int IntKind.i64 yv])), (0 : Int) ≤ (i : Int) ∧ (i : Int) < (m : Int), readPart Try.prog 27 cs (o + ((i : Int)).toNat * 11) = some (Value.agg (Array.mk [Value.int IntKind.i64 xa0, Value.int IntKind.i64 xb0, Value.int IntKind.i64 xa1, Value.int IntKind.i64 xb1, Value.int IntKind.i64 xa2, Value.int IntKind.i64 xb2, Value.int IntKind.i64 xa3, Value.int IntKind.i64 xb3, Value.int IntKind.i64 xa4, Value.int IntKind.i64 xb4, Value.int IntKind.i64 xv])), (0 : Int) ≤ (i : Int) ∧ (i : Int) < (n : Int), decide ((↑i : Int) < (↑n : Int)) = true])) (hK : ∀ zz, (sL cs ds o n c p m d).inv 0 zz → ltO ((sL cs ds o n c p m d).mu 0 zz) (some (n - i)) → Sat E (mkLp (lp Try.f15 0) J) ((sL cs ds o n c p m d).st 0 zz)) : Sat E (inLp (lp Try.f15 0) J) ((sL cs ds o n c p m d).st 0 i) :=
  by_to (T := auto0 t_none) (h := hints [(6, 2, {p := true}), (6, 3, {o := some (.agg ⟨[.int .i64 xa0, .int .i64 xb0, .int .i64 xa1, .int .i64 xb1, .int .i64 xa2, .int .i64 xb2, .int .i64 xa3, .int .i64 xb3, .int .i64 xa4, .int .i64 xb4, .int .i64 xv]⟩)}), (6, 6, {p := true}), (6, 7, {o := some (.agg ⟨[.int .i64 ya0, .int .i64 yb0, .int .i64 ya1, .int .i64 yb1, .int .i64 ya2, .int .i64 yb2, .int .i64 ya3, .int .i64 yb3, .int .i64 ya4, .int .i64 yb4, .int .i64 yv]⟩)}), (5, 1, {v := some (.int .i64 ((i + 1 : Nat) : Int))})]) (ws := [.b true, .b false]) (i0 := i) hE hm (auto0_ok t_none_ok) hL (by kernel_rfl) hob hK
end Go.Proofs.Ythbaccmhdffjdaa.SamePc


set_option linter.unusedVariables false
set_option linter.unusedSimpArgs false
set_option maxRecDepth 100000
namespace Go.Proofs.Ythbaccmhdffjdaa.SamePc
open Go Go.RowKit Go.Proofs.Ythbaccmhdffjdaa.Ev 
theorem keq (xa0 : Int) (xb0 : Int) (xa1 : Int) (xb1 : Int) (xa2 : Int) (xb2 : Int) (xa3 : Int) (xb3 : Int) (xa4 : Int) (xb4 : Int) (xv : Int) (ya0 : Int) (yb0 : Int) (ya1 : Int) (yb1 : Int) (ya2 : Int) (yb2 : Int) (ya3 : Int) (yb3 : Int) (ya4 : Int) (yb4 : Int) (yv : Int) : keyEq (.agg ⟨[.int .i64 xa0, .int .i64 xb0, .int .i64 xa1, .int .i64 xb1, .int .i64 xa2, .int .i64 xb2, .int .i64 xa3, .int .i64 xb3, .int .i64 xa4, .int .i64 xb4, .int .i64 xv]⟩) (.agg ⟨[.int .i64 ya0, .int .i64 yb0, .int .i64 ya1, .int .i64 yb1, .int .i64 ya2, .int .i64 yb2, .int .i64 ya3, .int .i64 yb3, .int .i64 ya4, .int .i64 yb4, .int .i64 yv]⟩) = decide ((⟨⟨xa0, xb0, xa1, xb1, xa2, xb2, xa3, xb3, xa4, xb4⟩, xv⟩ : Pc) = ⟨⟨ya0, yb0, ya1, yb1, ya2, yb2, ya3, yb3, ya4, yb4⟩, yv⟩) := by
  rw [Bool.eq_iff_iff]
  simp [keyEq, cellsEq, leafEq, and_assoc]
theorem same_spec (cs ds : List Value) (o n c p m d : Nat) (r1 : ePc.Row cs o n) (r2 : ePc.Row ds p m) (h1 : ∀ x ∈ cs, leafG x = true) (h2 : ∀ x ∈ ds, leafG x = true) (hn : n ≤ 9223372036854775806) :
    CallSpec Try.prog 15 [.slice (some ⟨0, o, none⟩) n c, .slice (some ⟨1, p, none⟩) m d] (roRows [cs, ds]) 2 (.bool (decide (ePc.list cs o n = ePc.list ds p m))) (assocN [] []) := by
  refine spec_of_sat Try.func15 rfl fun E hE => ?_
  have l1 : (ePc.list cs o n).length = n := Elt.list_len cs o n
  have l2 : (ePc.list ds p m).length = m := Elt.list_len ds p m
  by_cases hnm : n ≠ m
  · have e : decide (ePc.list cs o n = ePc.list ds p m) = false := decide_eq_false fun h => hnm (by rw [← l1, ← l2, h])
    rw [e] at hE
    exact sLen cs ds o n c p m d hE ⟨⟨rfl, rfl⟩, by simpa [bne_iff_ne] using (fun h => hnm (by omega) : ¬ (n : Int) = (m : Int)), trivial⟩
  have hnm : n = m := Decidable.not_not.1 hnm
  refine sIn cs ds o n c p m d hE (sL_ok cs ds o n c p m d h1 h2) ⟨rfl, ⟨0, ⟨Nat.zero_le _, hnm, hn, by simp⟩, trivial, rfl, ?_⟩, by simp [bne_iff_ne, hnm], trivial⟩ fun i hi _ => by_loop (sL cs ds o n c p m d) (lp Try.f15 0) ?_ 0 i hi
  · simp [sL, Blk.plain.rnB (b := .ro cs) h1, Blk.plain.rnB (b := .ro ds) h2]
  rintro b i ⟨k1, k2, k3, k4⟩ J hJ
  show Sat E (inLp (lp Try.f15 0) J) ((sL cs ds o n c p m d).st 0 i)
  by_cases hin : i < n
  · have hlt : decide ((i : Int) < (n : Int)) = true := decide_eq_true (by omega)
    obtain ⟨x, hx⟩ : ∃ x, (ePc.list cs o n)[i]? = some x := ⟨_, List.getElem?_eq_getElem (by rw [l1]; omega)⟩
    obtain ⟨y, hy⟩ : ∃ y, (ePc.list ds p m)[i]? = some y := ⟨_, List.getElem?_eq_getElem (by rw [l2]; omega)⟩
    obtain ⟨⟨xa0, xb0, xa1, xb1, xa2, xb2, xa3, xb3, xa4, xb4⟩, xv⟩ := x
    obtain ⟨⟨ya0, yb0, ya1, yb1, ya2, yb2, ya3, yb3, ya4, yb4⟩, yv⟩ := y
    have g1 := (r1.read (P := Try.prog) (ty := 27) (by kernel_rfl) (by kernel_rfl) (i := i) hx)
    have g2 := (r2.read (P := Try.prog) (ty := 27) (by kernel_rfl) (by kernel_rfl) (i := i) hy)
    by_cases hxy : (⟨⟨xa0, xb0, xa1, xb1, xa2, xb2, xa3, xb3, xa4, xb4⟩, xv⟩ : Pc) = ⟨⟨ya0, yb0, ya1, yb1, ya2, yb2, ya3, yb3, ya4, yb4⟩, yv⟩
    · refine sNext cs ds o n c p m d i xa0 xb0 xa1 xb1 xa2 xb2 xa3 xb3 xa4 xb4 xv ya0 yb0 ya1 yb1 ya2 yb2 ya3 yb3 ya4 yb4 yv J hE (sL_ok cs ds o n c p m d h1 h2) ⟨rfl, ⟨i + 1, ⟨by omega, k2, k3, ?_⟩, ?_, rfl, ?_⟩, i64_succ (by omega), by rw [keq, decide_eq_true hxy]; rfl, g2, by omega, g1, by omega, hlt, trivial⟩ fun zz hz hz' => hJ 0 zz hz hz'
      · rw [List.take_add_one, List.take_add_one, hx, hy, k4, hxy]
      · simp only [sL, ltO]; omega
      · simp [sL, Blk.plain.rnB (b := .ro cs) h1, Blk.plain.rnB (b := .ro ds) h2]
    · have e : decide (ePc.list cs o n = ePc.list ds p m) = false := decide_eq_false fun h => hxy (by rw [h, hy] at hx; exact (Option.some.inj hx).symm)
      rw [e] at hE
      exact sDiff cs ds o n c p m d i xa0 xb0 xa1 xb1 xa2 xb2 xa3 xb3 xa4 xb4 xv ya0 yb0 ya1 yb1 ya2 yb2 ya3 yb3 ya4 yb4 yv J hE ⟨⟨rfl, rfl⟩, by rw [keq, decide_eq_false hxy]; rfl, g2, by omega, g1, by omega, hlt, trivial⟩
  · have hlt : decide ((i : Int) < (n : Int)) = false := decide_eq_false (by omega)
    have e : decide (ePc.list cs o n = ePc.list ds p m) = true := decide_eq_true (by
      rw [List.take_of_length_le (by omega), List.take_of_length_le (by omega)] at k4
      exact k4)
    rw [e] at hE
    exact sEnd cs ds o n c p m d i J hE ⟨⟨rfl, rfl⟩, hlt, trivial⟩
def same_F : RoF := fun xs css => match xs, css with
  | [.slice none 0 0, .slice none 0 0], [] => some (.bool true, [], [])
  | [.slice none 0 0, .slice (some ⟨0, p, none⟩) m d], [ds] => some (.bool (decide ([] = ePc.list ds p m)), [], [])
  | [.slice (some ⟨0, o, none⟩) n c, .slice none 0 0], [cs] => some (.bool (decide (ePc.list cs o n = [])), [], [])
  | [.slice (some ⟨0, o, none⟩) n c, .slice (some ⟨1, p, none⟩) m d], [cs, ds] => some (.bool (decide (ePc.list cs o n = ePc.list ds p m)), [], [ePc.Row cs o n, ePc.Row ds p m, n ≤ 9223372036854775806])
  | _, _ => none
theorem same_sum : SumOK Try.prog 15 (roSum same_F) := by
  refine roSum_ok (en Try.func15 rfl) ?_ (fun xs css r h => ?_)
  · intro xs css v blks ob h hob hpl hl
    unfold same_F at h
    split at h
    · simp only [Option.some.injEq, Prod.mk.injEq] at h
      obtain ⟨rfl, rfl, rfl⟩ := h
      refine ⟨by simp, by simp, fun j hj => by simp [nms, nm1, nm0] at hj, ?_⟩
      exact spec_of_sat Try.func15 rfl fun E hE => sNN () hE ⟨⟨rfl, rfl⟩, trivial⟩
    · rename_i p m d ds
      simp only [Option.some.injEq, Prod.mk.injEq] at h
      obtain ⟨rfl, rfl, rfl⟩ := h
      refine ⟨by simp, by simp, fun j hj => by simp [nms, nm1, nm0] at hj, ?_⟩
      refine spec_of_sat Try.func15 rfl fun E hE => ?_
      have l2 : (ePc.list ds p m).length = m := Elt.list_len ds p m
      by_cases hm : m = 0
      · have e : decide ([] = ePc.list ds p m) = true := decide_eq_true (List.eq_nil_of_length_eq_zero (by omega)).symm
        rw [e] at hE
        exact sNS0 ds p m d hE ⟨⟨rfl, rfl⟩, by simp [hm], trivial⟩
      · have e : decide ([] = ePc.list ds p m) = false := decide_eq_false fun h => hm (by rw [← l2, ← h]; rfl)
        rw [e] at hE
        exact sNS1 ds p m d hE ⟨⟨rfl, rfl⟩, bne_iff_ne.2 (by show (0 : Int) ≠ (m : Int); omega), trivial⟩
    · rename_i o n c cs
      simp only [Option.some.injEq, Prod.mk.injEq] at h
      obtain ⟨rfl, rfl, rfl⟩ := h
      refine ⟨by simp, by simp, fun j hj => by simp [nms, nm1, nm0] at hj, ?_⟩
      refine spec_of_sat Try.func15 rfl fun E hE => ?_
      have l1 : (ePc.list cs o n).length = n := Elt.list_len cs o n
      by_cases hm : n = 0
      · have e : decide (ePc.list cs o n = []) = true := decide_eq_true (List.eq_nil_of_length_eq_zero (by omega))
        rw [e] at hE
        exact sSN0 cs o n c hE ⟨⟨rfl, rfl⟩, decide_eq_false (by show ¬ (0 : Int) < (n : Int); omega), by simp [hm], trivial⟩
      · have e : decide (ePc.list cs o n = []) = false := decide_eq_false fun h => hm (by rw [← l1, h]; rfl)
        rw [e] at hE
        exact sSN1 cs o n c hE ⟨⟨rfl, rfl⟩, bne_iff_ne.2 (by show (n : Int) ≠ (0 : Int); omega), trivial⟩
    · rename_i o n c p m d cs ds
      simp only [Option.some.injEq, Prod.mk.injEq] at h
      obtain ⟨rfl, rfl, rfl⟩ := h
      refine ⟨by simp, by simp, fun j hj => by simp [nms, nm1, nm0] at hj, ?_⟩
      exact same_spec cs ds o n c p m d (hob _ (by simp)) (hob _ (by simp)) (hpl cs (by simp)) (hpl ds (by simp)) (hob _ (by simp))
    · simp at h
  · unfold same_F at h
    split at h <;> simp at h <;> simp
noncomputable def t_same : Sums := upd t_none 15 (some (roSum same_F))
theorem t_same_ok : SumsOK Try.prog t_same := sums_cons t_none_ok same_sum
end Go.Proofs.Ythbaccmhdffjdaa.SamePc


set_option linter.unusedVariables false
set_option linter.unusedSimpArgs false
set_option maxRecDepth 100000
namespace Go.Proofs.Ythbaccmhdffjdaa.Rp
open Go Go.RowKit Go.Proofs.Ythbaccmhdffjdaa.Ev Go.Proofs.Ythbaccmhdffjdaa.BitLib
def rmL (N : Nat) (Q : Nat → List Value → Prop) : LoopF (Nat × List Value) where
  ts _ := [3, 5, 6]
  hs _ := [3, 10]
  tv _ := fun ⟨i, r⟩ => [.pointer (some ⟨3, 0, none⟩), .slice (some ⟨10, 0, none⟩) N N, .int .i64 (i : Int)]
  hv _ := fun ⟨i, r⟩ => [.cells [.int .i64 0, .int .i64 0, .int .i64 0, .int .i64 0, .int .i64 0, .int .i64 0, .int .i64 0, .int .i64 0, .int .i64 0, .int .i64 0, .int .i64 77] 27, .cells r 27]
  inv _ := fun ⟨i, r⟩ => Q i r
  mu _ := fun ⟨i, r⟩ => N - i
  nx := 11
theorem rmL_ok (N : Nat) (Q : Nat → List Value → Prop) (hQ : ∀ i r, Q i r → ∀ x ∈ r, leafG x = true) : (rmL N Q).OK 1 := by
  refine ⟨(by decide : 1 ≤ 11), fun z i h k hk => ?_, fun z i h v hv k hk => ?_, fun z i h x hx => ?_⟩
  · show k < 11
    simp [rmL] at hk; omega
  · show k < 11
    simp [rmL] at hv
    rcases hv with rfl | rfl | rfl <;> simp [nms, nm1, nm0] at hk <;> omega
  · obtain ⟨i, r⟩ := i
    simp [rmL] at hx
    rcases hx with rfl | rfl
    · exact Blk.plain.namesLt (b := .cells _ _) (fun v hv => by simp at hv; rcases hv with rfl | rfl <;> rfl) _
    · exact Blk.plain.namesLt (b := .cells r _) (hQ i r h) _
def itL (cs : List Value) (o n c : Nat) (m : Nat) : LoopF Nat where
  ts _ := [0, 5, 7]
  hs _ := [0, 5]
  tv _ := fun i => [.slice (some ⟨0, o, none⟩) n c, .pointer (some ⟨5, 0, none⟩), .int .i64 (i : Int)]
  hv _ _ := [.ro cs, .cells [.int .i64 0, .int .i64 0, .int .i64 0, .int .i64 0, .int .i64 0, .int .i64 0, .int .i64 0, .int .i64 0, .int .i64 0, .int .i64 0, .int .i64 77] 27]
  inv _ := fun i => m ≤ i ∧ i ≤ n
  mu _ := fun i => n - i
  nx := 6
theorem itL_ok (cs : List Value) (o n c : Nat) (m : Nat) (h1 : ∀ x ∈ cs, leafG x = true) : (itL cs o n c m).OK 2 := by
  refine ⟨(by decide : 2 ≤ 6), fun z i h k hk => ?_, fun z i h v hv k hk => ?_, fun z i h x hx => ?_⟩
  · show k < 6
    simp [itL] at hk; omega
  · show k < 6
    simp [itL] at hv
    rcases hv with rfl | rfl | rfl <;> simp [nms, nm1, nm0] at hk <;> omega
  · simp [itL] at hx
    rcases hx with rfl | rfl
    · exact Blk.plain.namesLt (b := .ro cs) h1 _
    · exact Blk.plain.namesLt (b := .cells _ _) (fun v hv => by simp at hv; rcases hv with rfl | rfl <;> rfl) _
end Go.Proofs.Ythbaccmhdffjdaa.Rp

