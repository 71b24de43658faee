/-
  BoxSet, as the evaluator runs it. No condition.
-/
import Derived.Laws.IdiomRangeMap
import Derived.Test.YtdeedabhgfmgjaaProg
import Derived.Test.YtdeedabhgfmgjaaRows
import Derived.WalkKit
import Derived.ProofKit
import Derived.OpenShut
import Derived.Deep.Slices
import Derived.RowKit
import Derived.RowKit3
import Derived.Laws.BitsAllLaws
import Derived.Laws.BitsLemmas
import Derived.Laws.Bits64
import Derived.Below
import Derived.WalkLawsBesides
import Derived.KernelRfl
import Derived.Lib.Hide
import Derived.WalkSpells
import Derived.Deep.QuietTactic
import Derived.BigQuiet
import Derived.Outline
import Derived.Test.YtdeedabhgfmgjaaBoxSetP1
set_option linter.unusedVariables false
set_option linter.unusedSimpArgs false
namespace Go.Proofs.Ytdeedabhgfmgjaa.Ev
open Go Go.RowKit
/-- Code unfolded up to its first region. -/
def peel : Nat → List Ctl → List Ctl
  | 0, k => k
  | n + 1, .code (.seq x y) :: k => peel n (.code x :: .code y :: k)
  | n + 1, .code (.block id c) :: k => peel n (.code c :: .inBlock id :: k)
  | n + 1, .code .skip :: k => peel n k
  | _ + 1, k => k
theorem sat_peel {E : Env} {S : St} : ∀ (n : Nat) (k : List Ctl), Sat E (peel n k) S → Sat E k S
  | 0, k, h => h
  | n + 1, k, h => by
    unfold peel at h
    split at h
    · simp at *
    · rename_i n' x y k' e1
      obtain rfl : n' = n := by omega
      have := sat_peel n' _ h
      exact fun g a w hc => wp_seq (this g a w hc)
    · rename_i n' id c k' e1
      obtain rfl : n' = n := by omega
      have := sat_peel n' _ h
      exact fun g a w hc => wp_block (this g a w hc)
    · rename_i n' k' e1
      obtain rfl : n' = n := by omega
      have := sat_peel n' _ h
      exact fun g a w hc => wp_skip (this g a w hc)
    · exact h
/-- What 'next' does: nothing is left, or one entry that is left comes out. -/
theorem run_next {P : Program} (w : World) (ty : TypeId) (r bm since c0 : Nat) (seen : Array Nat) (es : Array MapEntry) (clock : Nat) (hr : w.heap[r]? = some (.mapIter (some bm) since seen c0)) (hb : w.heap[bm]? = some (.map es clock)) (hold : ∀ x ∈ es.toList, x.born < since) (hsc : since ≤ c0) :
    ((leftOf es seen).size = 0 ∧ (Instr.next (.pointer (some ⟨r, 0, none⟩)) false ty).run P w = .ok (.tuple #[.bool false]) w) ∨
    ∃ e ∈ (leftOf es seen).toList, ∃ d : Nat, (Instr.next (.pointer (some ⟨r, 0, none⟩)) false ty).run P w = .ok (.tuple #[.bool true, e.key, e.val]) { w with heap := w.heap.setIfInBounds r (.mapIter (some bm) since (seen.push e.born) clock), drawn := d } := by
  simp only [Instr.next, getObj, Sem.run_bind, Sem.run, hr, hb, Result.andThen, next_test_false seen es since c0 hold hsc, Bool.false_eq_true, if_false]
  unfold leftOf
  have hmem : ∀ x ∈ (Array.filter (fun e => !seen.contains e.born) es).toList, x.born < since := fun x hx => hold x (by simp at hx ⊢; exact hx.1)
  generalize Array.filter (fun e => !seen.contains e.born) es = L at hmem ⊢
  have e1 : L.filter (fun x => decide (x.born < since)) = L := Array.filter_eq_self.2 (fun x hx => by simpa using hmem x (by simpa using hx))
  have e2 : L.filter (fun x => decide (x.born ≥ since)) = #[] := by
    rw [Array.filter_eq_empty_iff]
    intro x hx
    have := hmem x (by simpa using hx)
    simp
    omega
  simp only [e1, e2, Array.append_empty]
  by_cases h0 : L.size = 0
  · left
    have : L = #[] := Array.eq_empty_of_size_eq_zero h0
    subst this
    refine ⟨rfl, ?_⟩
    simp [choose, Sem.run, Question.forced]
  · right
    have hne : L.isEmpty = false := by simp [Array.isEmpty, h0]
    simp only [hne, Bool.false_eq_true, if_false, Array.empty_append, Array.size_map]
    have hch : ∃ (j d : Nat), j < L.size ∧ (choose (Question.mapNext L.size)).run P w = .ok j { w with drawn := d } := by
      by_cases hf : L.size ≤ 1
      · exact ⟨0, w.drawn, by omega, by simp [choose, Sem.run, Question.forced, hf]⟩
      · exact ⟨_, w.drew.drawn, Nat.mod_lt _ (by omega), by
          simp only [choose, Sem.run, Question.forced, decide_eq_true_eq, hf, if_false, Question.cut]
          rfl⟩
    obtain ⟨j, d, hj, hrun⟩ := hch
    refine ⟨L[j], by simp, d, ?_⟩
    have hset : ∀ o', (setObj r o').run P { w with drawn := d } = .ok () { w with heap := w.heap.setIfInBounds r o', drawn := d } := fun o' => by
      simp only [setObj, Sem.run]
      rw [show ({ w with drawn := d } : World).heap[r]? = some (.mapIter (some bm) since seen c0) from hr]
    simp only [hrun, Array.getElem?_map, Array.getElem?_eq_getElem hj, Option.map_some, Sem.run_bind, hset, Result.andThen]
    rfl
def stNo (S : St) (t0 t1 : Nat) : St := ⟨upd (upd S.T t0 (some (.tuple ⟨[.bool false]⟩))) t1 (some (.bool false)), S.H, S.nx, S.c, S.ob⟩
def stYes (S : St) (t0 t1 j k since : Nat) (seen : List Nat) (clock : Nat) (e : Ent) : St := ⟨upd (upd S.T t0 (some (.tuple ⟨[.bool true, e.1, e.2.1]⟩))) t1 (some (.bool true)), upd S.H j (some (.it k since (seen ++ [e.2.2]) clock)), S.nx, S.c, S.ob⟩
theorem hc_drawn {M : Nat → Prop} {w0 w : World} {g : Nm} {B : Nat → Prop} {H : Heap} (h : HC M w0 g B H w) (d : Nat) : HC M w0 g B H { w with drawn := d } :=
  ⟨⟨h.below.os, h.below.tape, h.below.output, h.below.size, h.below.block⟩, h.dom, h.scope, h.holds, h.own, h.inj⟩
theorem set_it {M : Nat → Prop} {w0 w : World} {g : Nm} {B : Nat → Prop} {H : Heap} (hH : HC M w0 g B H w) {j k since c c' : Nat} {seen seen' : List Nat} (hb : H j = some (.it k since seen c)) :
    HC M w0 g B (upd H j (some (.it k since seen' c'))) { w with heap := w.heap.setIfInBounds (g.blk j) (.mapIter (some (g.blk k)) since seen'.toArray c') } := by
  have hlt := hH.lt hb
  have h0 := hH.holds j _ hb
  refine hH.set hb rfl rfl rfl rfl rfl (by simp) (fun i hi => ?_) (show B k from hH.scope j (.it k since seen c) hb) ?_
  · simp [Array.getElem?_setIfInBounds_ne (Ne.symm hi)]
  · refine ⟨h0.1, ?_⟩
    simp [hlt]
theorem put_rc {An : Nm × (Nat → Prop)} {M : Nat → Prop} {w0 w w' : World} {n : Nat} {g : Nm} {B : Nat → Prop} {T : Tm} {H H' : Heap} {a : Act} (h : RC An M w0 n g B T H a w) (hc : HC M w0 g B H' w') {t : Nat} (ht : t < n) {v : Value} (hg : gnd v = true) : RC An M w0 n g B (upd T t (some v)) H' (a.put (some t) v) w' := by
  refine ⟨hc, by simp [Act.put, h.size], h.defers, fun i u hu => ?_, h.anch, h.sub⟩
  by_cases e : i = t
  · subst e
    rw [upd_self] at hu
    simp at hu; subst hu
    exact ⟨by rw [ren_gnd g hg]; simp [Act.put, h.size, ht], InB.gnd hg⟩
  · rw [upd_ne _ _ e] at hu
    obtain ⟨h1, h2⟩ := h.tm i u hu
    exact ⟨by simp [Act.put, Array.getElem?_setIfInBounds_ne (Ne.symm e), h1], h2⟩
theorem sat_next {E : Env} {id : Nat} {o0 o1 : Oper} {K : List Ctl} {S : St} {x : Operand} {t0 t1 j k since c clock : Nat} {seen : List Nat} {lay : List (Option IntKind)} {agg : Bool} {ek : Option IntKind} {es : List Ent}
    (h0 : o0.op = .next x false) (g0 : o0.guard = none) (d0 : o0.dst = some t0) (h1 : o1.op = .extract (.tmp t0) 0) (g1 : o1.guard = none) (d1 : o1.dst = some t1) (n0 : t0 < E.n) (n1 : t1 < E.n)
    (hx : ev S.T x = some (.pointer (some ⟨j, 0, none⟩))) (hj : S.H j = some (.it k since seen c)) (hk : S.H k = some (.map lay agg ek es clock)) (hold : ∀ e ∈ es, e.2.2 < since) (hsc : since ≤ c)
    (hend : (∀ e ∈ es, e.2.2 ∈ seen) → Sat E K (stNo S t0 t1)) (hnext : ∀ e ∈ es, e.2.2 ∉ seen → Sat E K (stYes S t0 t1 j k since seen clock e)) :
    Sat E (.code (.region id #[o0, o1] false) :: K) S := by
  intro g a w ⟨B, hB, hrc⟩
  refine wp_region ?_
  show wpOps _ _ _ [0, 1] a w
  rw [wpOps_cons]
  have hjw : g.base j = 0 ∧ w.heap[g.blk j]? = some (.mapIter (some (g.blk k)) since seen.toArray c) := hrc.hc.holds j _ hj
  have hkw : w.heap[g.blk k]? = some (.map (objMap es) clock) := hrc.hc.holds k _ hk
  have hxv := (hrc.stands x _ hx).1
  have hxe : a.eval x = .pointer (some ⟨g.blk j, 0, none⟩) := by rw [hxv]; simp [ren_ptr, renA_none, hjw.1]
  -- one operation
  have step : ∀ (i : Nat) (o : Oper) (KK : Act → World → Prop) (a : Act) (w : World), (#[o0, o1] : Array Oper)[i]? = some o → o.guard = none → o.wp E.P a w KK (wpK E.P E.R K) → wpOp E.P #[o0, o1] (wpK E.P E.R K) i KK a w := fun i o KK a w ho hg hw => by
    unfold wpOp
    simp only [ho]
    rw [if_pos (by simp [Region.wanted, hg])]
    exact .inl hw
  have ext : ∀ (S1 : St) (b : Bool) (vs : List Value) (a1 : Act) (w1 : World), RC E.An E.M E.w0 E.n g B S1.T S1.H a1 w1 → S1.T t0 = some (.tuple ⟨.bool b :: vs⟩) → gnd (.tuple ⟨.bool b :: vs⟩) = true → (∀ k, B k → k < S1.nx) → Sat E K ⟨upd S1.T t1 (some (.bool b)), S1.H, S1.nx, S1.c, S1.ob⟩ → wpOps E.P #[o0, o1] (wpK E.P E.R K) [1] a1 w1 := fun S1 b vs a1 w1 hr ht hg hB1 hs => by
    rw [wpOps_cons]
    refine step 1 o1 _ a1 w1 rfl g1 ?_
    obtain ⟨h2, _⟩ := hr.tm t0 _ ht
    rw [ren_gnd g hg] at h2
    have he : a1.eval (.tmp t0) = .tuple ⟨.bool b :: vs⟩ := by
      obtain ⟨hlt, he⟩ := Array.getElem?_eq_some_iff.1 h2
      simp [Act.eval, Array.getD, hlt, he]
    unfold Oper.wp
    have hex : (execOp a1.eval o1).run E.P w1 = .ok (.value (.bool b)) w1 := by
      unfold execOp
      rw [h1]
      simp only [he, Instr.extract]
      rfl
    rw [hex, Oper.upon_value, d1]
    exact hs g _ _ ⟨B, hB1, put_rc hr hr.hc n1 rfl⟩
  refine step 0 o0 _ a w rfl g0 ?_
  unfold Oper.wp
  rcases run_next (P := E.P) w o0.type (g.blk j) (g.blk k) since c seen.toArray (objMap es) clock hjw.2 hkw (fun y hy => by
    have : y ∈ es.map conv := by simpa [objMap] using hy
    obtain ⟨e, he, rfl⟩ := List.mem_map.1 this
    exact hold e he) hsc with ⟨hz, hrun⟩ | ⟨y, hy, d, hrun⟩
  · have hex : (execOp a.eval o0).run E.P w = .ok (.value (.tuple #[.bool false])) w := by
      unfold execOp
      rw [h0]
      simp only [hxe, Sem.run_bind, hrun, Result.andThen]
      rfl
    rw [hex, Oper.upon_value, d0]
    have hall : ∀ e ∈ es, e.2.2 ∈ seen := fun e he => by
      have hsz : leftOf (objMap es) seen.toArray = #[] := Array.eq_empty_of_size_eq_zero hz
      unfold leftOf at hsz
      rw [Array.filter_eq_empty_iff] at hsz
      have := hsz (conv e) (by simp only [objMap, List.mem_toArray, List.mem_map]; exact ⟨e, he, rfl⟩)
      simpa [conv] using this
    exact ext ⟨upd S.T t0 (some (.tuple ⟨[.bool false]⟩)), S.H, S.nx, S.c, S.ob⟩ false [] _ w (put_rc hrc hrc.hc n0 rfl) (upd_self _ _ _) rfl hB (hend hall)
  · have hm := mem_left hy
    have hyl : y ∈ es.map conv := by simpa [objMap] using hm.1
    obtain ⟨e, he, rfl⟩ := List.mem_map.1 hyl
    have hns : e.2.2 ∉ seen := by
      have := hm.2
      simpa [conv] using this
    obtain ⟨q1, q2⟩ := entry_gnd (hrc.hc.scope k _ hk) he
    have hg : gnd (.tuple ⟨[.bool true, e.1, e.2.1]⟩) = true := allB_iff.2 fun u hu => by
      simp at hu
      rcases hu with rfl | rfl | rfl
      · rfl
      · exact q1
      · exact q2
    have hex : (execOp a.eval o0).run E.P w = .ok (.value (.tuple ⟨[.bool true, e.1, e.2.1]⟩)) { w with heap := w.heap.setIfInBounds (g.blk j) (.mapIter (some (g.blk k)) since (seen ++ [e.2.2]).toArray clock), drawn := d } := by
      unfold execOp
      rw [h0]
      simp only [hxe, Sem.run_bind, hrun, Result.andThen]
      simp only [List.push_toArray]
      rfl
    rw [hex, Oper.upon_value, d0]
    have hc' : HC E.M E.w0 g B (upd S.H j (some (.it k since (seen ++ [e.2.2]) clock))) { w with heap := w.heap.setIfInBounds (g.blk j) (.mapIter (some (g.blk k)) since (seen ++ [e.2.2]).toArray clock), drawn := d } := hc_drawn (set_it hrc.hc hj) d
    exact ext ⟨upd S.T t0 (some (.tuple ⟨[.bool true, e.1, e.2.1]⟩)), upd S.H j (some (.it k since (seen ++ [e.2.2]) clock)), S.nx, S.c, S.ob⟩ true [e.1, e.2.1] _ _ (put_rc hrc hc' n0 hg) (upd_self _ _ _) hg hB (hnext e he hns)
/-- Is the next thing a region of 'next' and 'extract' alone? -/
def nextOK (k : List Ctl) (tx t0 t1 : Nat) : Bool :=
  match k with
  | .code (.region _ ⟨[o0, o1]⟩ false) :: _ => match o0.op, o0.guard, o0.dst, o1.op, o1.guard, o1.dst with
    | .next (.tmp x) false, none, some a, .extract (.tmp a') 0, none, some b => Nat.beq x tx && (Nat.beq a t0 && (Nat.beq a' t0 && Nat.beq b t1))
    | _, _, _, _, _, _ => false
  | _ => false
/-- What follows it. -/
def afterN (k : List Ctl) : List Ctl := (peel 20 k).tail
theorem sat_nextB {E : Env} {k0 : List Ctl} {S : St} {tx t0 t1 j k since c clock : Nat} {seen : List Nat} {lay : List (Option IntKind)} {agg : Bool} {ek : Option IntKind} {es : List Ent}
    (hb : nextOK (peel 20 k0) tx t0 t1 = true) (n0 : t0 < E.n) (n1 : t1 < E.n)
    (hx : S.T tx = some (.pointer (some ⟨j, 0, none⟩))) (hj : S.H j = some (.it k since seen c)) (hk : S.H k = some (.map lay agg ek es clock)) (hold : ∀ e ∈ es, e.2.2 < since) (hsc : since ≤ c)
    (hend : (∀ e ∈ es, e.2.2 ∈ seen) → Sat E (afterN k0) (stNo S t0 t1)) (hnext : ∀ e ∈ es, e.2.2 ∉ seen → Sat E (afterN k0) (stYes S t0 t1 j k since seen clock e)) : Sat E k0 S := by
  refine sat_peel 20 k0 ?_
  unfold afterN at hend hnext
  generalize peel 20 k0 = kk at hb hend hnext ⊢
  unfold nextOK at hb
  split at hb
  · rename_i id o0 o1 K
    split at hb
    · rename_i x a a' b e1 e2 e3 e4 e5 e6
      simp only [Bool.and_eq_true] at hb
      obtain ⟨q1, q2, q3, q4⟩ := hb
      obtain rfl := Nat.eq_of_beq_eq_true q1
      obtain rfl := Nat.eq_of_beq_eq_true q2
      obtain rfl := Nat.eq_of_beq_eq_true q3
      obtain rfl := Nat.eq_of_beq_eq_true q4
      exact sat_next e1 e2 e3 e4 e5 e6 n0 n1 hx hj hk hold hsc hend hnext
    · simp at hb
  · simp at hb
end Go.Proofs.Ytdeedabhgfmgjaa.Ev


set_option linter.unusedVariables false
set_option linter.unusedSimpArgs false
namespace Go.Proofs.Ytdeedabhgfmgjaa.Ev
open Go Go.RowKit
def can0 : Value → Nat → Option (Value × List Nat)
  | .slice (some ⟨k, off, none⟩) n c, i => some (.slice (some ⟨i, off, none⟩) n c, [k])
  | .map (some k), i => some (.map (some i), [k])
  | v, _ => bif leafG v then some (v, []) else none
def canL (f : Value → Nat → Option (Value × List Nat)) : List Value → Nat → Option (List Value × List Nat)
  | [], _ => some ([], [])
  | v :: l, i => match f v i with
    | some (u, ks) => match canL f l (i + ks.length) with
      | some (us, ks') => some (u :: us, ks ++ ks')
      | none => none
    | none => none
def can1 : Value → Nat → Option (Value × List Nat)
  | .agg ⟨cs⟩, i => match canL can0 cs i with
    | some (us, ks) => some (.agg ⟨us⟩, ks)
    | none => none
  | v, i => can0 v i
def At (f : Nat → Nat) (i : Nat) (ks : List Nat) : Prop := ∀ j k, ks[j]? = some k → f (i + j) = k
theorem At.app {f : Nat → Nat} {i : Nat} {ks ks' : List Nat} (h : At f i (ks ++ ks')) : At f i ks ∧ At f (i + ks.length) ks' := by
  refine ⟨fun j k hj => ?_, fun j k hj => ?_⟩
  · have hlt := (List.getElem?_eq_some_iff.1 hj).1
    exact h j k (by rw [List.getElem?_append_left hlt]; exact hj)
  · have := h (ks.length + j) k (by rw [List.getElem?_append_right (by omega)]; simpa using hj)
    rw [← this]; congr 1; omega
def CanOK (r : (Nat → Nat) → Value → Value) (nn : Value → List Nat) (can : Value → Nat → Option (Value × List Nat)) : Prop :=
  ∀ v i u ks, can v i = some (u, ks) → (∀ f, At f i ks → r f u = v) ∧ ∀ m ∈ nn u, i ≤ m ∧ m < i + ks.length
theorem can0_ok : CanOK rn0 nm0 can0 := by
  intro v i u ks h
  unfold can0 at h
  split at h
  · rename_i k off n c
    simp at h; obtain ⟨rfl, rfl⟩ := h
    refine ⟨fun f hf => ?_, fun m hm => ?_⟩
    · have := hf 0 k rfl
      simp only [rn0, rnA]
      rw [show f i = k by simpa using this]
    · simp [nm0] at hm; subst hm; simp
  · rename_i k
    simp at h; obtain ⟨rfl, rfl⟩ := h
    refine ⟨fun f hf => ?_, fun m hm => ?_⟩
    · have := hf 0 k rfl
      simp only [rn0]
      rw [show f i = k by simpa using this]
    · simp [nm0] at hm; subst hm; simp
  · rename_i hne
    cases hl : leafG v <;> rw [hl] at h <;> simp at h
    obtain ⟨rfl, rfl⟩ := h
    exact ⟨fun f _ => rn0_leafG f hl, fun m hm => by rw [nm0_leafG hl] at hm; simp at hm⟩
theorem canL_ok {r : (Nat → Nat) → Value → Value} {nn : Value → List Nat} {can : Value → Nat → Option (Value × List Nat)} (hc : CanOK r nn can) : ∀ {l : List Value} {i : Nat} {us : List Value} {ks : List Nat}, canL can l i = some (us, ks) →
    (∀ f, At f i ks → us.map (r f) = l) ∧ ∀ u ∈ us, ∀ m ∈ nn u, i ≤ m ∧ m < i + ks.length
  | [], i, us, ks, h => by simp [canL] at h; obtain ⟨rfl, rfl⟩ := h; simp
  | v :: l, i, us, ks, h => by
    simp only [canL] at h
    split at h
    · rename_i u ks1 hu
      split at h
      · rename_i us' ks2 hus
        simp at h; obtain ⟨rfl, rfl⟩ := h
        obtain ⟨h1, h2⟩ := hc v i u ks1 hu
        obtain ⟨h3, h4⟩ := canL_ok hc hus
        refine ⟨fun f hf => ?_, fun x hx m hm => ?_⟩
        · rw [List.map_cons, h1 f hf.app.1, h3 f hf.app.2]
        · rw [List.length_append]
          rcases List.mem_cons.1 hx with rfl | hx
          · have := h2 m hm; omega
          · have := h4 x hx m hm; omega
      · simp at h
    · simp at h
theorem mem_nmL' {f : Value → List Nat} {k : Nat} : ∀ {l : List Value}, k ∈ nmL f l → ∃ v ∈ l, k ∈ f v
  | [], h => by simp [nmL] at h
  | v :: l, h => by
    simp only [nmL, List.mem_append] at h
    rcases h with h | h
    · exact ⟨v, by simp, h⟩
    · obtain ⟨u, hu, hk⟩ := mem_nmL' h; exact ⟨u, by simp [hu], hk⟩
theorem can0_nt {v u : Value} {i : Nat} {ks : List Nat} (h : can0 v i = some (u, ks)) : leaf u = true := by
  unfold can0 at h
  split at h
  · simp at h; obtain ⟨rfl, rfl⟩ := h; rfl
  · simp at h; obtain ⟨rfl, rfl⟩ := h; rfl
  · rename_i hne
    cases hl : leafG v <;> rw [hl] at h <;> simp at h
    obtain ⟨rfl, rfl⟩ := h
    exact leaf_of_leafG hl
theorem can1_ok : CanOK rn nms can1 := by
  intro v i u ks h
  unfold can1 at h
  split at h
  · rename_i cs
    split at h
    · rename_i us ks' hus
      simp at h; obtain ⟨rfl, rfl⟩ := h
      obtain ⟨h1, h2⟩ := canL_ok can0_ok hus
      refine ⟨fun f hf => ?_, fun m hm => ?_⟩
      · simp only [rn, rn1, mapL_eq]
        rw [h1 f hf]
      · obtain ⟨x, hx, hm⟩ := mem_nmL' (f := nm0) hm
        exact h2 x hx m hm
    · simp at h
  · have hl := can0_nt h
    obtain ⟨h1, h2⟩ := can0_ok v i u ks h
    refine ⟨fun f hf => ?_, fun m hm => ?_⟩
    · rw [← h1 f hf]
      cases u <;> first | rfl | simp [leaf] at hl
    · refine h2 m ?_
      cases u <;> first | exact hm | simp [leaf] at hl
def num : List Nat → Nat → List (Nat × Nat)
  | [], _ => []
  | k :: ks, i => (i, k) :: num ks (i + 1)
theorem num_fst : ∀ (ks : List Nat) (i : Nat), (num ks i).map (·.1) = List.range' i ks.length
  | [], _ => rfl
  | k :: ks, i => by simp [num, num_fst ks (i + 1), List.range'_succ]
theorem num_mem : ∀ {ks : List Nat} {i j k : Nat}, (j, k) ∈ num ks i ↔ ∃ m, ks[m]? = some k ∧ j = i + m
  | [], i, j, k => by simp [num]
  | a :: ks, i, j, k => by
    simp only [num, List.mem_cons, Prod.mk.injEq, num_mem (ks := ks)]
    constructor
    · rintro (⟨rfl, rfl⟩ | ⟨m, h1, rfl⟩)
      · exact ⟨0, by simp, rfl⟩
      · exact ⟨m + 1, by simpa using h1, by omega⟩
    · rintro ⟨m, h1, rfl⟩
      cases m with
      | zero => simp at h1; exact Or.inl ⟨rfl, h1.symm⟩
      | succ m => exact Or.inr ⟨m, by simpa using h1, by omega⟩
theorem look_num {ks : List Nat} {more : List (Nat × Nat)} : At (look (num ks 0 ++ more)) 0 ks := by
  have key : ∀ (ks : List Nat) (i : Nat), At (look (num ks i ++ more)) i ks := by
    intro ks
    induction ks with
    | nil => intro i j k h; simp at h
    | cons a ks ih =>
      intro i j k h
      cases j with
      | zero => simp at h; subst h; simp [num, look]
      | succ j =>
        have := ih (i + 1) j k (by simpa using h)
        simp only [num, List.cons_append, look]
        have hne : Nat.beq (i + (j + 1)) i = false := by
          cases e : Nat.beq (i + (j + 1)) i with
          | false => rfl
          | true => have := Nat.eq_of_beq_eq_true e; omega
        rw [hne]
        simp only [cond_false]
        rw [← this]
        congr 1; omega
  exact key ks 0
def rowsOf (H : Heap) : List Nat → Option (List (List Value))
  | [] => some []
  | k :: ks => match H k with
    | some b => match b.row with
      | some cs => match rowsOf H ks with
        | some css => some (cs :: css)
        | none => none
      | none => none
    | none => none
theorem rowsOf_spec {H : Heap} : ∀ {ks : List Nat} {css : List (List Value)}, rowsOf H ks = some css → ks.length = css.length ∧ ∀ (m : Nat) (k : Nat), ks[m]? = some k → ∃ b cs, H k = some b ∧ b.row = some cs ∧ css[m]? = some cs
  | [], css, h => by simp [rowsOf] at h; subst h; simp
  | k :: ks, css, h => by
    simp only [rowsOf] at h
    split at h
    · rename_i b hb
      split at h
      · rename_i cs hcs
        split at h
        · rename_i css' hc
          simp at h; subst h
          obtain ⟨h1, h2⟩ := rowsOf_spec hc
          refine ⟨by simp [h1], fun m k' hk => ?_⟩
          cases m with
          | zero => simp at hk; subst hk; exact ⟨b, cs, hb, hcs, by simp⟩
          | succ m => simpa using h2 m k' (by simpa using hk)
        · simp at h
      · simp at h
    · simp at h
theorem rowsOf_congr {H H' : Heap} : ∀ {ks : List Nat}, (∀ k ∈ ks, H' k = H k) → rowsOf H' ks = rowsOf H ks
  | [], _ => rfl
  | k :: ks, h => by simp only [rowsOf]; rw [h k (by simp), rowsOf_congr fun j hj => h j (by simp [hj])]
def plainR (css : List (List Value)) : Prop := ∀ cs ∈ css, ∀ c ∈ cs, leafG c = true
def roRows (css : List (List Value)) : Heap := fun j => match css[j]? with
  | some cs => some (.ro cs)
  | none => none
/-- Names of the new blocks: 100 on. -/
def newNs : List Blk → Nat → List Nat
  | [], _ => []
  | _ :: l, i => i :: newNs l (i + 1)
theorem newNs_mem : ∀ {l : List Blk} {i j : Nat}, j ∈ newNs l i ↔ i ≤ j ∧ j < i + l.length
  | [], i, j => by simp [newNs]
  | b :: l, i, j => by simp [newNs, newNs_mem (l := l)]; omega
theorem newNs_nodup : ∀ (l : List Blk) (i : Nat), (newNs l i).Nodup
  | [], _ => List.nodup_nil
  | b :: l, i => List.nodup_cons.2 ⟨fun h => by have := newNs_mem.1 h; omega, newNs_nodup l (i + 1)⟩
theorem newNs_len : ∀ (l : List Blk) (i : Nat), (newNs l i).length = l.length
  | [], _ => rfl
  | b :: l, i => by simp [newNs, newNs_len l]
theorem assoc_new : ∀ {l : List Blk} {i j : Nat}, i ≤ j → j < i + l.length → ∃ x ∈ l, assocN (newNs l i) l j = some x
  | [], i, j, h1, h2 => by simp at h2; omega
  | b :: l, i, j, h1, h2 => by
    simp only [newNs, assocN]
    cases e : Nat.beq j i
    · have hne : j ≠ i := fun h => by subst h; simp at e
      obtain ⟨x, hx, hy⟩ := assoc_new (l := l) (i := i + 1) (j := j) (by omega) (by simp at h2; omega)
      exact ⟨x, by simp [hx], hy⟩
    · exact ⟨b, by simp, rfl⟩
abbrev RoF := List Value → List (List Value) → Option (Value × List Blk × List Prop)
noncomputable def roSum (F : RoF) : List Value → Heap → Nat → Option Res := fun args H nm =>
  match canL can1 args 0 with
  | some (ar, ks) => match rowsOf H ks with
    | some css => match F ar css with
      | some (v, blks, ob) => some ⟨rn (look (num ks 0 ++ toP (newNs blks 100) nm)) v, usOf (toP (newNs blks 100) nm) (assocN (newNs blks 100) blks), ks, plainR css :: ob⟩
      | none => none
    | none => none
  | none => none
theorem roSum_ok {P : Program} {f : FuncId} (he : Enters P f) {F : RoF}
    (h : ∀ ar css v blks ob, F ar css = some (v, blks, ob) → (∀ p ∈ ob, p) → plainR css → css.length ≤ 100 →
      blks.length ≤ 4 ∧ (∀ x ∈ blks, x.plain ∧ x.wr = true) ∧ (∀ j ∈ nms v, j < css.length ∨ (100 ≤ j ∧ j < 100 + blks.length)) ∧ CallSpec P f ar (roRows css) css.length v (assocN (newNs blks 100) blks))
    (hlen : ∀ ar css r, F ar css = some r → css.length ≤ 100) : SumOK P f (roSum F) := by
  refine ⟨he, ?_, ?_⟩
  · intro args H nm r hr hob M w0 g B w hH hargs hn
    unfold roSum at hr
    split at hr
    · rename_i ar ks hc
      split at hr
      · rename_i css hcss
        split at hr
        · rename_i v blks ob hF
          simp only [Option.some.injEq] at hr
          subst hr
          have hpl : plainR css := hob _ (List.mem_cons_self ..)
          have hl100 := hlen ar css _ hF
          obtain ⟨h1, h2, h3, h4⟩ := h ar css v blks ob hF (fun p hp => hob p (List.mem_cons_of_mem _ hp)) hpl hl100
          obtain ⟨c1, c2⟩ := canL_ok can1_ok hc
          obtain ⟨r1, r2⟩ := rowsOf_spec hcss
          have hnd : ((num ks 0 ++ toP (newNs blks 100) nm).map (·.1)).Nodup := by
            rw [List.map_append, num_fst, toP_fst]
            refine List.nodup_append.2 ⟨List.nodup_range', newNs_nodup _ _, fun a ha b hb => ?_⟩
            have e1 := List.mem_range'.1 ha
            have e2 := newNs_mem.1 hb
            obtain ⟨m, hm1, hm2⟩ := e1
            omega
          have hall : ∀ j, (j < css.length ∨ (100 ≤ j ∧ j < 100 + blks.length)) → ∃ k, (j, k) ∈ num ks 0 ++ toP (newNs blks 100) nm := by
            rintro j (hj | hj)
            · have hj' : j < ks.length := by omega
              exact ⟨ks[j], List.mem_append_left _ (num_mem.2 ⟨j, List.getElem?_eq_getElem hj', by omega⟩)⟩
            · have h' : j ∈ (toP (newNs blks 100) nm).map (·.1) := by rw [toP_fst]; exact newNs_mem.2 hj
              obtain ⟨⟨m, k'⟩, hm', he⟩ := List.mem_map.1 h'
              simp only at he; subst he
              exact ⟨k', List.mem_append_right _ hm'⟩
          have := ro_calls (old := num ks 0) (new := toP (newNs blks 100) nm) (nm := nm) h4 hnd (toP_snd _ nm)
            (fun j k hjk => by
              obtain ⟨m, hm1, rfl⟩ := num_mem.1 hjk
              obtain ⟨b, cs, hb, hr, hcs⟩ := r2 m k hm1
              have hlt := (List.getElem?_eq_some_iff.1 hcs).1
              refine ⟨by omega, b, hb, fun b0 hb0 => ⟨cs, hr, ?_, hpl cs (List.mem_of_getElem? hcs)⟩⟩
              unfold roRows at hb0
              rw [Nat.zero_add, hcs] at hb0
              simp at hb0
              exact hb0.symm)
            (fun j b hb => by
              unfold roRows at hb
              split at hb
              · rename_i cs hcs
                have hlt := (List.getElem?_eq_some_iff.1 hcs).1
                have hj' : j < ks.length := by omega
                exact ⟨ks[j], num_mem.2 ⟨j, List.getElem?_eq_getElem hj', by omega⟩⟩
              · simp at hb)
            (fun m k hmk => by
              obtain ⟨e1, e2, e3⟩ := toP_mem hmk
              rw [newNs_len] at e3
              have e4 := newNs_mem.1 e1
              obtain ⟨x, hx, hy⟩ := assoc_new e4.1 e4.2
              refine ⟨⟨e2, by omega⟩, x, hy, (h2 x hx).2, (h2 x hx).1.noIt, fun cs hcs c hcc j hj => ?_⟩
              have hp := (h2 x hx).1
              have : leafG c = true := by
                cases x <;> simp only [Blk.row, Option.some.injEq, reduceCtorEq] at hcs <;> subst hcs <;> exact hp c hcc
              rw [nm0_leafG this] at hj; simp at hj)
            (fun j hj => hall j (h3 j hj))
            (fun u hu j hj => by
              have := c2 u hu j hj
              have hj' : j < ks.length := by omega
              exact ⟨ks[j], num_mem.2 ⟨j, List.getElem?_eq_getElem hj', by omega⟩⟩)
            hH hn
          have hl0 : At (look (num ks 0)) 0 ks := by have := look_num (ks := ks) (more := []); rwa [List.append_nil] at this
          rw [c1 _ hl0] at this
          have hus : ∀ f, usR f (toP (newNs blks 100) nm) (assocN (newNs blks 100) blks) = usOf (toP (newNs blks 100) nm) (assocN (newNs blks 100) blks) := by
            intro f
            unfold usR usOf
            refine List.map_congr_left fun p hp => ?_
            congr 1
            simp only
            cases ha : assocN (newNs blks 100) blks p.1 with
            | none => rfl
            | some x =>
              obtain ⟨i, _, hi⟩ := assocN_mem ha
              have := (h2 x (List.mem_of_getElem? hi)).1
              simp only [this.rnB]
          rw [hus] at this
          exact this
        · simp at hr
      · simp at hr
    · simp at hr
  · intro args H nm r hr H' hH'
    unfold roSum at hr ⊢
    split at hr
    · rename_i ar ks hc
      split at hr
      · rename_i css hcss
        split at hr
        · rename_i v blks ob hF
          simp only [Option.some.injEq] at hr
          have : rowsOf H' ks = rowsOf H ks := rowsOf_congr fun k hk => hH' k (by rw [← hr]; exact hk)
          rw [this, hcss]
          simp only [hF]
          rw [hr]
        · simp at hr
      · simp at hr
    · simp at hr
end Go.Proofs.Ytdeedabhgfmgjaa.Ev


set_option linter.unusedVariables false
set_option linter.unusedSimpArgs false
set_option maxRecDepth 100000
namespace Go.Proofs.Ytdeedabhgfmgjaa.Ev
open Go Go.RowKit
theorem hm : Try.prog.follows .mixedOrders = true := by kernel_rfl
theorem hN : namesB Try.prog = true := by kernel_rfl
abbrev noHint : Nat → Nat → Nat → Hint := fun _ _ _ => {}
noncomputable abbrev auto0 (given : Sums) : Sums := auto Try.prog given (fun _ => []) (fun _ => noHint) 8
theorem auto0_ok {given : Sums} (h : SumsOK Try.prog given) : SumsOK Try.prog (auto0 given) := auto_ok hm hN h _ _ 8
noncomputable abbrev auto1 (given : Sums) : Sums := autoH Try.prog given (fun _ => []) (fun _ => noHint) 8
theorem auto1_ok {given : Sums} (h : SumsOK Try.prog given) : SumsOK Try.prog (auto1 given) := autoH_ok hm hN h _ _ 8
noncomputable abbrev autoM (given : Sums) : Sums := autoR Try.prog given (fun _ => []) (fun _ => noHint) 8
theorem autoM_ok {given : Sums} (h : SumsOK Try.prog given) : SumsOK Try.prog (autoM given) := autoR_ok hm hN h _ _ 8
theorem en {f : FuncId} {fn : Func} {c : Code} (hf : Try.prog.funcs[f]? = some fn) (hb : fn.body = some c) : Enters Try.prog f := enters_of hN hf hb
noncomputable abbrev t_none : Sums := fun _ => none
theorem t_none_ok : SumsOK Try.prog t_none := sums_none
abbrev i64 (n : Int) : Value := .int .i64 n
abbrev sp (a b : Int) : Value := .agg ⟨[.int .i64 a, .int .i64 b]⟩
abbrev I64 (n : Int) : Prop := -9223372036854775808 ≤ n ∧ n ≤ 9223372036854775807
abbrev bb (x y : Bool) : Prop := Value.bool x = Value.bool y
theorem bb_of {x y : Bool} (h : x = y) : bb x y := by rw [h]
abbrev ht (b : Bool) : Hint := { v := some (.bool b) }
theorem cond_ite (b : Bool) {α : Type} (x y : α) : (bif b then x else y) = if b = true then x else y := by cases b <;> rfl
theorem bool_eq {a b : Bool} (h : a = b) : Value.bool a = Value.bool b := by rw [h]
theorem int_eq {k : IntKind} {a b : Int} (h : a = b) : Value.int k a = Value.int k b := by rw [h]
theorem wrap_id {n : Int} (h : I64 n) : IntKind.i64.wrap n = n := by rw [IntKind.wrap_i64]; omega
end Go.Proofs.Ytdeedabhgfmgjaa.Ev


set_option linter.unusedVariables false
set_option linter.unusedSimpArgs false
namespace Go.Proofs.Ytdeedabhgfmgjaa.Ev
open Go Go.RowKit
/-- The mark of a room. -/
abbrev mk : Nat := Ev.mark
def ro1 (cs : List Value) : Heap := upd (fun _ => none) 0 (some (.ro cs))
/-- The numbers that stand in a row from a place on. -/
def intsOf (cs : List Value) (off n : Nat) : List Int := ((cs.drop off).take n).map intV
def IntRow (k : IntKind) (cs : List Value) (off n : Nat) : Prop := off + n ≤ cs.length ∧ ∀ j, j < n → cs[off + j]? = some (.int k ((intsOf cs off n).getD j 0))
theorem intsOf_len {cs : List Value} {off n : Nat} (h : off + n ≤ cs.length) : (intsOf cs off n).length = n := by simp [intsOf]; omega
theorem intRow_of (k : IntKind) (zs : List Int) : IntRow k (zs.map (Value.int k)) 0 zs.length ∧ intsOf (zs.map (Value.int k)) 0 zs.length = zs := by
  have h : intsOf (zs.map (Value.int k)) 0 zs.length = zs := by
    simp only [intsOf, List.drop_zero]
    rw [List.take_of_length_le (by simp), List.map_map]
    conv => rhs; rw [← List.map_id zs]
    exact List.map_congr_left fun x _ => rfl
  refine ⟨⟨by simp, fun j hj => ?_⟩, h⟩
  rw [h]
  simp [List.getD, List.getElem?_eq_getElem hj]
/-- What is read of a row of one-cell values. -/
theorem readPart_one {P : Program} {ty : TypeId} (ha : aggT P ty = some false) {cs : List Value} {off : Nat} {v : Value} (h : cs[off]? = some v) (hl : leaf v = true) : readPart P ty cs off = some v := by
  have hlt : off < cs.length := (List.getElem?_eq_some_iff.1 h).1
  have he : cs[off] = v := (List.getElem?_eq_some_iff.1 h).2
  have : sub cs off 1 = some [v] := by
    rw [sub_of (by omega)]
    simp [List.drop_eq_getElem_cons hlt, he]
  simp [readPart, ha, this, hl]
theorem i64_id {z w : Int} (h : z = w) (h1 : -9223372036854775808 ≤ w) (h2 : w ≤ 9223372036854775807) : Value.int .i64 (IntKind.i64.wrap z) = Value.int .i64 w := by
  subst h; rw [wrap_id ⟨h1, h2⟩]
theorem i64_succ {i : Nat} (h : i < 9223372036854775807) : Value.int .i64 (IntKind.i64.wrap (Int.ofNat i.succ)) = Value.int .i64 (Int.ofNat i.succ) := by
  refine i64_id rfl ?_ ?_
  · exact Int.le_trans (by decide) (Int.natCast_nonneg (i + 1))
  · show ((i + 1 : Nat) : Int) ≤ _
    omega
end Go.Proofs.Ytdeedabhgfmgjaa.Ev


set_option linter.unusedVariables false
set_option linter.unusedSimpArgs false
namespace Go.Proofs.Ytdeedabhgfmgjaa.Ev
open Go Go.RowKit
structure Elt (α : Type) where
  cells : α → List Value
  s : Nat
  of : List Value → α
  len : ∀ x, (cells x).length = s
  ofc : ∀ x, of (cells x) = x
  pl : ∀ x, ∀ c ∈ cells x, leafG c = true
namespace Elt
variable {α : Type} (e : Elt α)
def row (l : List α) : List Value := l.flatMap e.cells
def list (cs : List Value) (off n : Nat) : List α := (List.range n).map fun i => e.of ((cs.drop (off + i * e.s)).take e.s)
def Row (cs : List Value) (off n : Nat) : Prop := off + n * e.s ≤ cs.length ∧ ∀ i, i < n → (cs.drop (off + i * e.s)).take e.s = e.cells (e.of ((cs.drop (off + i * e.s)).take e.s))
variable {e}
theorem row_nil : e.row [] = [] := rfl
theorem row_cons (x : α) (l : List α) : e.row (x :: l) = e.cells x ++ e.row l := by simp [row]
theorem row_app (l m : List α) : e.row (l ++ m) = e.row l ++ e.row m := by simp [row]
theorem row_one (x : α) : e.row [x] = e.cells x := by simp [row]
theorem row_len (l : List α) : (e.row l).length = l.length * e.s := by
  induction l with
  | nil => simp [row]
  | cons x l ih => rw [row_cons, List.length_append, ih, e.len]; simp [Nat.succ_mul]; omega
theorem row_pl (l : List α) : ∀ c ∈ e.row l, leafG c = true := by
  intro c hc
  obtain ⟨x, _, hx⟩ := List.mem_flatMap.1 hc
  exact e.pl x c hx
theorem row_drop (l : List α) (i : Nat) : (e.row l).drop (i * e.s) = e.row (l.drop i) := by
  induction l generalizing i with
  | nil => simp [row]
  | cons x l ih =>
    cases i with
    | zero => simp
    | succ i =>
      rw [row_cons, Nat.succ_mul, Nat.add_comm, ← List.drop_drop, List.drop_left' (e.len x), ih]
      simp
theorem row_take (l : List α) (i : Nat) : (e.row l).take (i * e.s) = e.row (l.take i) := by
  induction l generalizing i with
  | nil => simp [row]
  | cons x l ih =>
    cases i with
    | zero => simp [row]
    | succ i =>
      rw [row_cons, Nat.succ_mul, List.take_append, e.len, List.take_of_length_le (by rw [e.len]; omega), show i * e.s + e.s - e.s = i * e.s by omega, ih]
      rw [List.take_succ_cons, row_cons]
theorem row_at (l : List α) (tail : List Value) {i : Nat} {x : α} (h : l[i]? = some x) : ((e.row l ++ tail).drop (i * e.s)).take e.s = e.cells x := by
  have hlt := (List.getElem?_eq_some_iff.1 h).1
  have he := (List.getElem?_eq_some_iff.1 h).2
  have h1 : (i + 1) * e.s ≤ l.length * e.s := Nat.mul_le_mul_right _ hlt
  rw [Nat.succ_mul] at h1
  rw [List.drop_append_of_le_length (by rw [row_len]; omega), row_drop, List.drop_eq_getElem_cons hlt, he, row_cons, List.append_assoc, List.take_left' (e.len x)]
theorem row_sub (l : List α) (tail : List Value) {i : Nat} {x : α} (h : l[i]? = some x) : sub (e.row l ++ tail) (i * e.s) e.s = some (e.cells x) := by
  have hlt := (List.getElem?_eq_some_iff.1 h).1
  have h1 : (i + 1) * e.s ≤ l.length * e.s := Nat.mul_le_mul_right _ hlt
  rw [Nat.succ_mul] at h1
  rw [sub_of (by rw [List.length_append, row_len]; omega), row_at l tail h]
/-- A row that is laid as a list tells: it reads as that list. -/
theorem canon (l : List α) (tail : List Value) : e.Row (e.row l ++ tail) 0 l.length ∧ e.list (e.row l ++ tail) 0 l.length = l := by
  refine ⟨⟨by rw [List.length_append, row_len]; omega, fun i hi => ?_⟩, ?_⟩
  · rw [Nat.zero_add, row_at l tail (List.getElem?_eq_getElem hi), e.ofc]
  · apply List.ext_getElem
    · simp [list]
    · intro i h1 h2
      simp only [list, List.getElem_map, List.getElem_range, Nat.zero_add]
      rw [row_at l tail (List.getElem?_eq_getElem h2), e.ofc]
theorem canon0 (l : List α) : e.Row (e.row l) 0 l.length ∧ e.list (e.row l) 0 l.length = l := by have := canon (e := e) l []; simpa using this
theorem list_len (cs : List Value) (off n : Nat) : (e.list cs off n).length = n := by simp [list]
theorem Row.get {cs : List Value} {off n : Nat} (h : e.Row cs off n) {i : Nat} {x : α} (hx : (e.list cs off n)[i]? = some x) : sub cs (off + i * e.s) e.s = some (e.cells x) := by
  have hlt := (List.getElem?_eq_some_iff.1 hx).1
  have he := (List.getElem?_eq_some_iff.1 hx).2
  rw [list_len] at hlt
  have h1 : (i + 1) * e.s ≤ n * e.s := Nat.mul_le_mul_right _ hlt
  rw [Nat.succ_mul] at h1
  have h0 := h.1
  rw [sub_of (by omega), h.2 i hlt]
  simp [list] at he
  rw [he]
/-- What is read of a row of structs. -/
theorem Row.read {P : Program} {ty : TypeId} (ha : aggT P ty = some true) (hs : sizeOfT P ty = some e.s) {cs : List Value} {off n : Nat} (h : e.Row cs off n) {i : Nat} {x : α} (hx : (e.list cs off n)[i]? = some x) : readPart P ty cs (off + i * e.s) = some (.agg ⟨e.cells x⟩) := by
  simp only [readPart, ha, hs, h.get hx]
theorem Row.read1 {P : Program} {ty : TypeId} (ha : aggT P ty = some false) (hs : e.s = 1) {cs : List Value} {off n : Nat} (h : e.Row cs off n) {i : Nat} {x : α} (hx : (e.list cs off n)[i]? = some x) {v : Value} (hv : e.cells x = [v]) (hl : leaf v = true) : readPart P ty cs (off + i) = some v := by
  have := h.get hx
  rw [hs, Nat.mul_one, hv] at this
  simp [readPart, ha, this, hl]
theorem Row.take {cs : List Value} {off n m : Nat} (h : e.Row cs off n) (hm : m ≤ n) : e.Row cs off m ∧ e.list cs off m = (e.list cs off n).take m := by
  have h1 : m * e.s ≤ n * e.s := Nat.mul_le_mul_right _ hm
  refine ⟨⟨by have := h.1; omega, fun i hi => h.2 i (by omega)⟩, ?_⟩
  simp only [list, ← List.map_take, List.take_range, Nat.min_eq_left hm]
end Elt
/-! ### What the evaluator owes of rows -/
section
variable {α : Type} {e : Elt α}
theorem appOK {L new : List α} {ty : TypeId} {own : Option Blk} {n m size bytes : Nat} {src res : List Value} (hown : own = some (.vec (e.row L) ty size)) (hs : size = e.s) (hm : m = new.length) (hsrc : src = e.row new) (hn : n ≤ L.length) (hres : res = e.row (L.take n ++ new))
    (h1 : 1 ≤ m) (hb : n + m ≤ 16777216) (hby : (n + m) * bytes ≤ 140737488355328) : AppOK own n mk size bytes m src 0 res := by
  subst hown
  subst hs
  subst hm
  subst hsrc
  subst hres
  refine ⟨e.row (L.take n), e.row new, ?_, ?_, h1, hb, hby, Elt.row_app _ _, rfl, ?_, (Elt.row_take L n).symm⟩
  · rw [sub_of (by rw [Elt.row_len]; omega), List.drop_zero, List.take_of_length_le (by rw [Elt.row_len]; omega)]
  · exact allB_iff.2 fun c hc => leaf_of_leafG (Elt.row_pl _ c hc)
  · rw [Elt.row_len]; exact Nat.mul_le_mul_right _ hn
theorem appOK_nil {new : List α} {m size bytes : Nat} {src res : List Value} (hs : size = e.s) (hm : m = new.length) (hsrc : src = e.row new) (hres : res = e.row new)
    (h1 : 1 ≤ m) (hb : m ≤ 16777216) (hby : m * bytes ≤ 140737488355328) : AppOK none 0 0 size bytes m src 0 res := by
  subst hs
  subst hm
  subst hsrc
  subst hres
  refine ⟨[], e.row new, ?_, ?_, h1, by omega, by rw [Nat.zero_add]; exact hby, rfl, rfl, rfl, rfl⟩
  · rw [sub_of (by rw [Elt.row_len]; omega), List.drop_zero, List.take_of_length_le (by rw [Elt.row_len]; omega)]
  · exact allB_iff.2 fun c hc => leaf_of_leafG (Elt.row_pl _ c hc)
theorem slOK_pre {size k n h : Nat} {i : Int} {cs : List Value} {ty : TypeId} (hi : i = (h : Int)) (hh : h ≤ n) (hs : 1 ≤ size) (hc : n * size ≤ cs.length) :
    SlOK size k 0 n mk none (some i) (some (.vec cs ty size)) (.slice (some ⟨k, 0, none⟩) h mk) :=
  ⟨0, h, rfl, hi, Nat.zero_le _, hh, Or.inl ⟨Nat.le_refl _, ⟨cs, ty, rfl, hs, by rw [Nat.sub_self, Nat.zero_add]; exact hc⟩, Or.inl rfl, by simp⟩⟩
theorem read_row {P : Program} {ty : TypeId} (ha : aggT P ty = some true) (hs : sizeOfT P ty = some e.s) {L : List α} {i : Nat} {x : α} (h : L[i]? = some x) : readPart P ty (e.row L) (0 + (Int.ofNat i).toNat * e.s) = some (.agg ⟨e.cells x⟩) := by
  have := (Elt.canon0 (e := e) L).1.read (P := P) (ty := ty) ha hs (i := i) (x := x) (by rw [(Elt.canon0 L).2]; exact h)
  exact this
theorem i64_pred {n : Nat} (h : n < 9223372036854775807) : Value.int .i64 (IntKind.i64.wrap (Int.ofNat n.succ - 1)) = Value.int .i64 (Int.ofNat n) := by
  have e : Int.ofNat n.succ - 1 = (n : Int) := by show ((n + 1 : Nat) : Int) - 1 = n; omega
  rw [e]
  exact i64_id (w := (n : Int)) rfl (by omega) (by omega)
theorem nat_in {n : Nat} : (0 : Int) ≤ Int.ofNat n ∧ Int.ofNat n < Int.ofNat n.succ := ⟨Int.natCast_nonneg n, Int.ofNat_lt.2 (Nat.lt_succ_self n)⟩
end
abbrev i64s (l : List Int) : List Value := l.map (Value.int .i64)
/-- Numbers. -/
def eInt : Elt Int := ⟨fun z => [.int .i64 z], 1, fun cs => match cs with | [.int _ z] => z | _ => 0, fun _ => rfl, fun _ => rfl, fun x c hc => by simp at hc; subst hc; rfl⟩
def eWord : Elt Int := ⟨fun z => [.int .u64 z], 1, fun cs => match cs with | [.int _ z] => z | _ => 0, fun _ => rfl, fun _ => rfl, fun x c hc => by simp at hc; subst hc; rfl⟩
/-- A box: five spans. -/
structure Bx where
  a0 : Int
  b0 : Int
  a1 : Int
  b1 : Int
  a2 : Int
  b2 : Int
  a3 : Int
  b3 : Int
  a4 : Int
  b4 : Int
deriving DecidableEq
def Bx.cs (x : Bx) : List Value := [.int .i64 x.a0, .int .i64 x.b0, .int .i64 x.a1, .int .i64 x.b1, .int .i64 x.a2, .int .i64 x.b2, .int .i64 x.a3, .int .i64 x.b3, .int .i64 x.a4, .int .i64 x.b4]
def eBox : Elt Bx := ⟨Bx.cs, 10, fun cs => match cs with | [.int _ a0, .int _ b0, .int _ a1, .int _ b1, .int _ a2, .int _ b2, .int _ a3, .int _ b3, .int _ a4, .int _ b4] => ⟨a0, b0, a1, b1, a2, b2, a3, b3, a4, b4⟩ | _ => ⟨0, 0, 0, 0, 0, 0, 0, 0, 0, 0⟩, fun _ => rfl, fun _ => rfl, fun x c hc => by
  simp [Bx.cs] at hc
  rcases hc with rfl | rfl | rfl | rfl | rfl | rfl | rfl | rfl | rfl | rfl <;> rfl⟩
/-- A step of a proof. -/
structure Stp where
  sum : Bool
  place : Int
  at_ : Int
deriving DecidableEq
def eStp : Elt Stp := ⟨fun x => [.bool x.sum, .int .i64 x.place, .int .i64 x.at_], 3, fun cs => match cs with | [.bool s, .int _ p, .int _ a] => ⟨s, p, a⟩ | _ => ⟨false, 0, 0⟩, fun _ => rfl, fun _ => rfl, fun x c hc => by
  simp at hc
  rcases hc with rfl | rfl | rfl <;> rfl⟩
/-- A piece: a box, a value. -/
structure Pc where
  box : Bx
  val : Int
deriving DecidableEq
def ePc : Elt Pc := ⟨fun x => x.box.cs ++ [.int .i64 x.val], 11, fun cs => match cs with | [.int _ a0, .int _ b0, .int _ a1, .int _ b1, .int _ a2, .int _ b2, .int _ a3, .int _ b3, .int _ a4, .int _ b4, .int _ v] => ⟨⟨a0, b0, a1, b1, a2, b2, a3, b3, a4, b4⟩, v⟩ | _ => ⟨⟨0, 0, 0, 0, 0, 0, 0, 0, 0, 0⟩, 0⟩, fun _ => rfl, fun _ => rfl, fun x c hc => by
  simp [Bx.cs] at hc
  rcases hc with rfl | rfl | rfl | rfl | rfl | rfl | rfl | rfl | rfl | rfl | rfl <;> rfl⟩
/-- cells of numbers and bools that are the same. -/
theorem cellsEq_app {a b c d : List Value} (h : a.length = b.length) : cellsEq (a ++ c) (b ++ d) = (cellsEq a b && cellsEq c d) := by
  have key : ∀ (x y : Value) (xs ys : List Value), xs.length = ys.length → cellsEq (x :: xs) (y :: ys) = (leafEq x y && cellsEq xs ys) := by
    intro x y xs ys hl
    cases xs with
    | nil =>
      cases ys with
      | nil => simp [cellsEq]
      | cons _ _ => simp at hl
    | cons u us =>
      cases ys with
      | nil => simp at hl
      | cons _ _ => simp [cellsEq]
  have key2 : ∀ (x y : Value) (xs ys : List Value), cellsEq (x :: xs) (y :: ys) = (leafEq x y && cellsEq xs ys) := by
    intro x y xs ys
    by_cases hl : xs.length = ys.length
    · exact key x y xs ys hl
    · cases xs with
      | nil =>
        cases ys with
        | nil => simp at hl
        | cons _ _ => simp [cellsEq]
      | cons u us =>
        cases ys with
        | nil => simp [cellsEq]
        | cons _ _ => simp [cellsEq]
  induction a generalizing b with
  | nil =>
    cases b with
    | nil => simp [cellsEq]
    | cons _ _ => simp at h
  | cons x a ih =>
    cases b with
    | nil => simp at h
    | cons y b =>
      simp only [List.cons_append, key2, ih (b := b) (by simpa using h), Bool.and_assoc]
end Go.Proofs.Ytdeedabhgfmgjaa.Ev


set_option linter.unusedVariables false
set_option linter.unusedSimpArgs false
namespace Go.Proofs.Ytdeedabhgfmgjaa.Ev
open Go Go.RowKit
abbrev L10 : List (Option IntKind) := [some .i64, some .i64, some .i64, some .i64, some .i64, some .i64, some .i64, some .i64, some .i64, some .i64]
abbrev kB (b : Bx) : Value := .agg ⟨b.cs⟩
structure EB where
  b : Bx
  n : Int
  s : Nat
def EB.ent (e : EB) : Ent := (kB e.b, .int .i64 e.n, e.s)
def esB (l : List EB) : List Ent := l.map EB.ent
def putB (b : Bx) (n : Int) (c : Nat) : List EB → List EB
  | [] => [⟨b, n, c⟩]
  | e :: l => if b = e.b then ⟨e.b, n, e.s⟩ :: l else e :: putB b n c l
def getK (b : Bx) : List EB → Int
  | [] => 0
  | e :: l => if b = e.b then e.n else getK b l
def hasK (b : Bx) : List EB → Bool
  | [] => false
  | e :: l => if b = e.b then true else hasK b l
theorem keyEq_kB (a b : Bx) : keyEq (kB a) (kB b) = decide (a = b) := by
  obtain ⟨a0, b0, a1, b1, a2, b2, a3, b3, a4, b4⟩ := a
  obtain ⟨c0, d0, c1, d1, c2, d2, c3, d3, c4, d4⟩ := b
  rw [Bool.eq_iff_iff]
  simp [keyEq, cellsEq, leafEq, Bx.cs, and_assoc]
theorem mput_esB (b : Bx) (n : Int) (c : Nat) : ∀ l : List EB, mput (kB b) (.int .i64 n) c (esB l) = esB (putB b n c l)
  | [] => rfl
  | e :: l => by
    show (bif keyEq (kB b) (kB e.b) then _ else _) = _
    rw [keyEq_kB]
    by_cases h : b = e.b
    · rw [decide_eq_true h]; simp only [putB, if_pos h]; rfl
    · rw [decide_eq_false h]; simp only [putB, if_neg h, cond_false]
      show _ :: mput (kB b) (.int .i64 n) c (esB l) = _
      rw [mput_esB b n c l]; rfl
theorem mget_esB (b : Bx) : ∀ l : List EB, mgetI (kB b) (esB l) = getK b l
  | [] => rfl
  | e :: l => by
    show (bif keyEq (kB b) (kB e.b) then _ else mgetI (kB b) (esB l)) = _
    rw [keyEq_kB, mget_esB b l]
    by_cases h : b = e.b
    · rw [decide_eq_true h]; simp only [getK, if_pos h]; rfl
    · rw [decide_eq_false h]; simp only [getK, if_neg h, cond_false]
theorem mhas_esB (b : Bx) : ∀ l : List EB, mhas (kB b) (esB l) = hasK b l
  | [] => rfl
  | e :: l => by
    show (bif keyEq (kB b) (kB e.b) then true else mhas (kB b) (esB l)) = _
    rw [keyEq_kB, mhas_esB b l]
    by_cases h : b = e.b
    · rw [decide_eq_true h]; simp only [hasK, if_pos h]; rfl
    · rw [decide_eq_false h]; simp only [hasK, if_neg h, cond_false]
/-- Keys apart, stamps rising, all below the clock. -/
structure OKB (l : List EB) (c : Nat) : Prop where
  keys : (l.map (·.b)).Nodup
  borns : l.Pairwise fun a b => a.s < b.s
  clock : ∀ e ∈ l, e.s < c
theorem okB_nil : OKB [] 0 := ⟨List.nodup_nil, List.Pairwise.nil, fun e h => by simp at h⟩
theorem hasK_iff {b : Bx} : ∀ {l : List EB}, hasK b l = true ↔ b ∈ l.map (·.b)
  | [] => by simp [hasK]
  | e :: l => by
    simp only [hasK, List.map_cons, List.mem_cons]
    by_cases h : b = e.b
    · simp [h]
    · simp only [if_neg h, hasK_iff (l := l)]; simp [h]
theorem put_keys (b : Bx) (n : Int) (c : Nat) : ∀ l : List EB, (putB b n c l).map (·.b) = bif hasK b l then l.map (·.b) else l.map (·.b) ++ [b]
  | [] => rfl
  | e :: l => by
    simp only [putB, hasK]
    by_cases h : b = e.b
    · simp [h]
    · simp only [if_neg h, List.map_cons, put_keys b n c l]
      cases hasK b l <;> rfl
theorem put_stamps (b : Bx) (n : Int) (c : Nat) : ∀ l : List EB, (putB b n c l).map (·.s) = bif hasK b l then l.map (·.s) else l.map (·.s) ++ [c]
  | [] => rfl
  | e :: l => by
    simp only [putB, hasK]
    by_cases h : b = e.b
    · simp [h]
    · simp only [if_neg h, List.map_cons, put_stamps b n c l]
      cases hasK b l <;> rfl
theorem okB_put {l : List EB} {c : Nat} (h : OKB l c) (b : Bx) (n : Int) : OKB (putB b n c l) (bif hasK b l then c else c + 1) := by
  have hk := put_keys b n c l
  have hs := put_stamps b n c l
  have hb : (l.map (·.s)).Pairwise (· < ·) := by rw [List.pairwise_map]; exact h.borns
  have hc : ∀ x ∈ l.map (·.s), x < c := fun x hx => by obtain ⟨e, he, rfl⟩ := List.mem_map.1 hx; exact h.clock e he
  refine ⟨?_, ?_, fun e he => ?_⟩
  · rw [hk]
    cases hh : hasK b l
    · rw [cond_false, List.nodup_append]
      refine ⟨h.keys, by simp, fun x hx y hy => ?_⟩
      simp at hy
      subst hy
      intro e
      subst e
      have := hasK_iff.2 hx
      rw [hh] at this
      exact absurd this (by simp)
    · exact h.keys
  · have : ((putB b n c l).map (·.s)).Pairwise (· < ·) := by
      rw [hs]
      cases hasK b l
      · rw [cond_false, List.pairwise_append]
        exact ⟨hb, by simp, fun x hx y hy => by simp at hy; subst hy; exact hc x hx⟩
      · exact hb
    rw [List.pairwise_map] at this
    exact this
  · have he' : e.s ∈ (putB b n c l).map (·.s) := List.mem_map.2 ⟨e, he, rfl⟩
    rw [hs] at he'
    cases hh : hasK b l <;> rw [hh] at he'
    · rw [cond_false, List.mem_append] at he'
      rcases he' with he' | he'
      · have := hc _ he'; simp only [cond_false]; omega
      · simp at he'; simp only [cond_false]; omega
    · exact hc _ he'
theorem okB_map {l : List EB} {c : Nat} (h : OKB l c) : MapOK L10 true (some .i64) (esB l) c := by
  refine ⟨fun e he => ?_, fun e he => ?_, ?_, fun e he => ?_⟩
  · obtain ⟨x, _, rfl⟩ := List.mem_map.1 he; rfl
  · obtain ⟨x, _, rfl⟩ := List.mem_map.1 he; rfl
  · rw [esB, List.pairwise_map]; exact h.borns
  · obtain ⟨x, hx, rfl⟩ := List.mem_map.1 he; exact h.clock x hx
theorem getK_put (a b : Bx) (n : Int) (c : Nat) : ∀ l : List EB, getK a (putB b n c l) = if a = b then n else getK a l
  | [] => by simp only [putB, getK]
  | e :: l => by
    by_cases h : b = e.b
    · subst h
      simp only [putB, if_true, getK]
      by_cases h2 : a = e.b <;> simp [h2]
    · simp only [putB, if_neg h, getK, getK_put a b n c l]
      by_cases h2 : a = e.b
      · have : a ≠ b := fun e' => h (e' ▸ h2)
        rw [if_pos h2, if_neg this, if_pos h2]
      · rw [if_neg h2, if_neg h2]
theorem hasK_put (a b : Bx) (n : Int) (c : Nat) (l : List EB) : hasK a (putB b n c l) = (decide (a = b) || hasK a l) := by
  rw [Bool.eq_iff_iff, hasK_iff, put_keys]
  cases h : hasK b l
  · rw [cond_false, List.mem_append, Bool.or_eq_true, decide_eq_true_eq, hasK_iff]
    simp only [List.mem_cons, List.not_mem_nil, or_false]
    exact Or.comm
  · rw [cond_true, Bool.or_eq_true, decide_eq_true_eq, hasK_iff]
    constructor
    · exact Or.inr
    · rintro (rfl | h2)
      · exact hasK_iff.1 h
      · exact h2
theorem len_put (b : Bx) (n : Int) (c : Nat) (l : List EB) : (putB b n c l).length = bif hasK b l then l.length else l.length + 1 := by
  have := congrArg List.length (put_keys b n c l)
  rw [List.length_map] at this
  rw [this]
  cases hasK b l <;> simp
theorem getK_mem {l : List EB} {c : Nat} (h : OKB l c) {e : EB} (he : e ∈ l) : getK e.b l = e.n ∧ hasK e.b l = true := by
  refine ⟨?_, hasK_iff.2 (List.mem_map.2 ⟨e, he, rfl⟩)⟩
  have hk := h.keys
  clear h
  induction l with
  | nil => simp at he
  | cons x l ih =>
    obtain ⟨h1, h2⟩ := List.nodup_cons.1 hk
    rcases List.mem_cons.1 he with rfl | he
    · simp [getK]
    · have hne : e.b ≠ x.b := fun e' => h1 (List.mem_map.2 ⟨e, he, e'⟩)
      simp only [getK, if_neg hne]
      exact ih he h2
theorem getK_no {b : Bx} : ∀ {l : List EB}, hasK b l = false → getK b l = 0
  | [], _ => rfl
  | e :: l, h => by
    simp only [hasK] at h
    split at h
    · simp at h
    · rename_i hne
      simp only [getK, if_neg hne]
      exact getK_no h
end Go.Proofs.Ytdeedabhgfmgjaa.Ev


set_option linter.unusedVariables false
set_option linter.unusedSimpArgs false
namespace Go.Proofs.Ytdeedabhgfmgjaa.Ev
open Go Go.RowKit Go.Deep
/-- A slice whose elements are such. -/
def Opened {α : Type} (W : World) (e : Elt α) (good : α → Prop) (v : Value) : Prop :=
  v = .slice none 0 0 ∨ ∃ (b off cap : Nat) (l : List α), v = .slice (some ⟨b, off, none⟩) l.length cap ∧ l.length ≤ cap ∧ cap ≤ maxLen ∧ (∀ x ∈ l, good x) ∧ ∃ c ty fz, W.heap[b]? = some (.cells c ty fz) ∧ ∀ i u, (e.row l)[i]? = some u → c[off + i]? = some u
theorem row_get {α : Type} (e : Elt α) : ∀ (l : List α) (i : Nat) (u : Value), (e.row l)[i]? = some u → ∃ (j r : Nat) (x : α), l[j]? = some x ∧ (e.cells x)[r]? = some u ∧ i = j * e.s + r ∧ r < e.s
  | [], i, u, h => by simp [Elt.row] at h
  | x :: l, i, u, h => by
    rw [Elt.row_cons] at h
    by_cases hi : i < e.s
    · rw [List.getElem?_append_left (by rw [e.len]; exact hi)] at h
      exact ⟨0, i, x, rfl, h, by omega, hi⟩
    · rw [List.getElem?_append_right (by rw [e.len]; omega), e.len] at h
      obtain ⟨j, r, y, h1, h2, h3, h4⟩ := row_get e l _ u h
      exact ⟨j + 1, r, y, by simpa using h1, h2, by rw [Nat.succ_mul]; omega, h4⟩
theorem choose_list {α : Type} (p : Nat → α → Prop) : ∀ n, (∀ i, i < n → ∃ x, p i x) → ∃ l : List α, l.length = n ∧ ∀ i x, l[i]? = some x → p i x
  | 0, _ => ⟨[], rfl, by simp⟩
  | n + 1, h => by
    obtain ⟨l, h1, h2⟩ := choose_list p n (fun i hi => h i (by omega))
    obtain ⟨x, hx⟩ := h n (by omega)
    refine ⟨l ++ [x], by simp [h1], fun i y hy => ?_⟩
    by_cases hi : i < l.length
    · rw [List.getElem?_append_left hi] at hy; exact h2 i y hy
    · rw [List.getElem?_append_right (by omega)] at hy
      have : i - l.length = 0 := by
        rcases Nat.eq_zero_or_pos (i - l.length) with h0 | h0
        · exact h0
        · rw [List.getElem?_eq_none (by simp; omega)] at hy; simp at hy
      rw [this] at hy
      simp at hy
      subst hy
      have : i = n := by omega
      subst this
      exact hx
section
variable {H : Type} {enc : TypeId × Value → H} {P : Program} {W : World} {base : Nat} {spare : Nat → Bool} {held : Bool} {r : Reach} {b0 : Nat}
theorem open_row {α : Type} {e : Elt α} {good : α → Prop} {t et : TypeId} {fuel : Nat} {v : Value} {y : DataW H × List MemPlace} (ht : P.underlying t = some (.slice et)) (hc : P.cellsOf et = e.s)
    (elem : ∀ n cs z, DataW.trod enc P W base spare held n et cs = some z → ∃ x, cs = e.cells x ∧ good x) (hv : Cell.okWide P W r b0 t v) (h : DataW.trod enc P W base spare held fuel t [v] = some y) : Opened W e good v := by
  rcases open_slice ht h with ⟨h0, _⟩ | ⟨a, len, cap, m, n, D, Pl, hcs, _, hl, hm, hmm, _, hx⟩
  · left; simpa using h0
  right
  have hcs : v = .slice (some a) len cap := by simpa using hcs
  subst hcs
  have hok : W.has P r b0 a et cap := by
    simp only [Cell.okWide, ht, Cell.ok] at hv
    exact hv.2.2
  obtain ⟨_, hsp, row, cells, hsh, _⟩ := hok
  obtain ⟨blk, off, spot⟩ := a
  simp only at hsp hsh
  subst hsp
  have hlm : len ≤ m := by rw [hmm]; split <;> omega
  obtain ⟨c, ty, fz, hblk⟩ : ∃ c ty fz, W.heap[blk]? = some (.cells c ty fz) := by
    unfold World.shape? at hsh
    split at hsh
    · rename_i c ty fz hb; exact ⟨c, ty, fz, hb⟩
    · simp at hsh
  obtain ⟨l, hl1, hl2⟩ := choose_list (fun i x => good x ∧ ∀ j u, (e.cells x)[j]? = some u → c[off + (i * e.s + j)]? = some u) len (fun i hi => by
    obtain ⟨cs', h1, h2⟩ := hx i (by omega)
    obtain ⟨x, rfl, hg⟩ := elem _ _ _ h2
    obtain ⟨_, hlen, hcell⟩ := World.cells?_some h1
    refine ⟨x, hg, fun j u hj => ?_⟩
    have hjl : j < P.cellsOf et := by
      have := (List.getElem?_eq_some_iff.1 hj).1
      omega
    have := hcell j hjl
    rw [add_add, hj, plain_add, hc] at this
    simpa [World.cell?, hblk] using this)
  refine ⟨blk, off, cap, l, by rw [hl1], by rw [hl1]; exact hl, hm, fun x hx' => ?_, c, ty, fz, hblk, fun i u hu => ?_⟩
  · obtain ⟨j, hj⟩ := List.getElem?_of_mem hx'
    exact (hl2 j x hj).1
  · obtain ⟨j, q, x, h1, h2, h3, _⟩ := row_get e l i u hu
    rw [h3]
    exact (hl2 j x h1).2 q u h2
theorem elem_int {k : IntKind} {t : TypeId} (ht : P.underlying t = some (.int k)) (n : Nat) (cs : List Value) (z : DataW H × List MemPlace) (h : DataW.trod enc P W base spare held n t cs = some z) : ∃ x : Int, cs = [.int k x] ∧ (Lit.int k x).wf = true := by
  obtain ⟨m, h1, _, h2⟩ := DataW.trod_int ht h
  exact ⟨m, h1, h2⟩
theorem wf64 {n : Int} (h : (Lit.int .i64 n).wf = true) : I64 n := by
  simp [Lit.wf, IntKind.has, IntKind.min, IntKind.max, IntKind.signed, IntKind.bits] at h
  exact ⟨by omega, by omega⟩
end
/-- Names stand for these addresses. -/
def Nm.at (l : List (Nat × Nat)) : Nm := ⟨fun k => match l[k]? with | some p => p.1 | none => 0, fun k => match l[k]? with | some p => p.2 | none => 0, fun _ => 0⟩
/-- What a call does that only reads, where its arguments lie there. -/
theorem calls_ro {P : Program} {f : FuncId} {args : List Value} {H0 : Heap} {nx : Nat} {v : Value} (hs : CallSpec P f args H0 nx v (assocN [] [])) (hv : gnd v = true) (hro : ∀ j b, H0 j = some b → j < nx ∧ ∃ cs, b = .ro cs ∧ ∀ c ∈ cs, leafG c = true)
    (hnm : ∀ u ∈ args, ∀ j ∈ nms u, j < nx) {W : World} {l : List (Nat × Nat)} (hat : ∀ j cs, H0 j = some (.ro cs) → (Blk.ro cs).Holds (Nm.at l) j W.heap[(Nm.at l).blk j]?) :
    Calls P f (args.map (ren (Nm.at l))).toArray W fun e w' => e = .returned v ∧ Below W.heap.size W w' := by
  have hwr : ∀ j b, H0 j = some b → b.wr = false := fun j b hb => by obtain ⟨_, cs, rfl, _⟩ := hro j b hb; rfl
  have hH : HC (fun _ => False) W (Nm.at l) (· < nx) H0 W := by
    refine ⟨BelowBut.refl _ _, fun j b hb => (hro j b hb).1, fun j b hb => ?_, fun j b hb => ?_, fun j b hb hw => by rw [hwr j b hb] at hw; simp at hw, fun i j b c hb hc hw he => by rw [hwr i b hb] at hw; simp at hw⟩
    · obtain ⟨_, cs, rfl, hp⟩ := hro j b hb
      exact fun c hc => In0.leafG (hp c hc)
    · obtain ⟨_, cs, rfl, _⟩ := hro j b hb
      exact hat j cs hb
  refine (ro_own hs hwr (fun _ h => h) hH (fun u hu => inB_lt (hnm u hu))).mono ?_
  rintro e w' ⟨g', B', _, hc, rfl⟩
  exact ⟨by rw [ren_gnd g' hv], hc.below.below⟩
end Go.Proofs.Ytdeedabhgfmgjaa.Ev


set_option linter.unusedVariables false
set_option linter.unusedSimpArgs false
namespace Go.Proofs.Ytdeedabhgfmgjaa.Ev
open Go Go.RowKit
/-- Under that name: nil, or a row. -/
def CanAt {α : Type} (e : Elt α) (good : α → Prop) (k : Nat) (u : Value) (r : Option (List Value)) : Prop :=
  (u = .slice none 0 0 ∧ r = none) ∨ ∃ (l : List α) (cap : Nat), u = .slice (some ⟨k, 0, none⟩) l.length cap ∧ r = some (e.row l) ∧ l.length ≤ cap ∧ cap ≤ maxLen ∧ ∀ x ∈ l, good x
section
variable {α : Type} {e : Elt α} {good : α → Prop} {k : Nat} {u : Value} {r : Option (List Value)}
theorem CanAt.nm0 (h : CanAt e good k u r) : ∀ j ∈ nm0 u, j = k := by
  rcases h with ⟨rfl, _⟩ | ⟨l, cap, rfl, _⟩
  · simp [Ev.nm0]
  · simp [Ev.nm0]
theorem CanAt.nms (h : CanAt e good k u r) : ∀ j ∈ nms u, j = k := by
  rcases h with ⟨rfl, _⟩ | ⟨l, cap, rfl, _⟩
  · simp [Ev.nms, nm1, Ev.nm0]
  · simp [Ev.nms, nm1, Ev.nm0]
theorem CanAt.ren (h : CanAt e good k u r) (g : Nm) : ren g u = ren0 g u := by
  rcases h with ⟨rfl, _⟩ | ⟨l, cap, rfl, _⟩ <;> rfl
theorem small_cap {c : Nat} (h : c ≤ maxLen) : Nat.ble mark c = false := by
  cases hb : Nat.ble mark c with
  | false => rfl
  | true =>
    have := Nat.le_of_ble_eq_true hb
    unfold mark maxLen at *
    omega
theorem Opened.can {W : World} {v : Value} (h : Opened W e good v) (k : Nat) : ∃ (u : Value) (r : Option (List Value)) (ad : Nat × Nat), CanAt e good k u r ∧ (∀ l : List (Nat × Nat), l[k]? = some ad → ren0 (Nm.at l) u = v) ∧ (∀ j ∈ Ev.nms u, j = k) ∧
    ∀ cs, r = some cs → (∀ c ∈ cs, leafG c = true) ∧ ∀ l : List (Nat × Nat), l[k]? = some ad → (Blk.ro cs).Holds (Nm.at l) k W.heap[(Nm.at l).blk k]? := by
  rcases h with rfl | ⟨b, off, cap, l, rfl, hl, hm, hg, c, ty, fz, hb, hc⟩
  · exact ⟨.slice none 0 0, none, (0, 0), Or.inl ⟨rfl, rfl⟩, fun _ _ => rfl, by simp [Ev.nms, nm1, Ev.nm0], fun _ h => by simp at h⟩
  · have hca : CanAt e good k (.slice (some ⟨k, 0, none⟩) l.length cap) (some (e.row l)) := Or.inr ⟨l, cap, rfl, rfl, hl, hm, hg⟩
    refine ⟨_, _, (b, off), hca, fun m hk => ?_, hca.nms, fun cs hcs => ?_⟩
    · simp only [ren0, renA, Nm.at, hk, capOf, small_cap hm, cond_false, Nat.add_zero]
    · simp at hcs; subst hcs
      refine ⟨Elt.row_pl _, fun m hk => ?_⟩
      have e1 : (Nm.at m).blk k = b := by simp [Nm.at, hk]
      have e2 : (Nm.at m).base k = off := by simp [Nm.at, hk]
      rw [e1]
      refine ⟨c, ty, fz, hb, fun i v hv => ?_⟩
      rw [e2, hc i v hv, ren0_leafG _ (Elt.row_pl _ v (List.mem_of_getElem? hv))]
end
theorem slOK_ro {size k off n c h : Nat} {b : Option Blk} (hh : h ≤ n) (hn : n ≤ c) (hc : c ≤ maxLen) : SlOK size k off n c none (some (h : Int)) b (.slice (some ⟨k, off, none⟩) h c) := by
  have hm : c < mark := by unfold mark maxLen at *; omega
  refine ⟨0, h, rfl, rfl, Nat.zero_le _, hh, Or.inr ⟨hm, hn, ?_⟩⟩
  by_cases h0 : c = 0
  · exact Or.inl ⟨h0, by simp⟩
  · exact Or.inr ⟨h0, by simp⟩
theorem eInt_row (l : List Int) : eInt.row l = l.map (Value.int .i64) := by
  induction l with
  | nil => rfl
  | cons x l ih => rw [Elt.row_cons, ih]; rfl
theorem int_row {l : List Int} (h : ∀ x ∈ l, I64 x) : IntRow .i64 (eInt.row l) 0 l.length ∧ ∀ z ∈ intsOf (eInt.row l) 0 l.length, I64 z := by
  obtain ⟨h1, h2⟩ := intRow_of .i64 l
  rw [eInt_row]
  exact ⟨h1, by rw [h2]; exact h⟩
theorem ints_of (l : List Int) : intsOf (eInt.row l) 0 l.length = l := by
  rw [eInt_row]; exact (intRow_of .i64 l).2
end Go.Proofs.Ytdeedabhgfmgjaa.Ev


set_option linter.unusedVariables false
set_option linter.unusedSimpArgs false
namespace Go.Proofs.Ytdeedabhgfmgjaa.Ev
open Go Go.RowKit
def rowsL (rs : List (Option (List Value))) : Heap := fun k => match rs[k]? with
  | some (some x) => some (.ro x)
  | _ => none
/-- What a slice that comes in tells, under its name. -/
def CanQ (W : World) (k : Nat) (r : Option (List Value)) (ad : Nat × Nat) : Prop :=
  ∀ cs, r = some cs → (∀ c ∈ cs, leafG c = true) ∧ ∀ l : List (Nat × Nat), l[k]? = some ad → (Blk.ro cs).Holds (Nm.at l) k W.heap[(Nm.at l).blk k]?
/-- What a call does that only reads rows. -/
theorem calls_rows {P : Program} {f : FuncId} {args : List Value} {rs : List (Option (List Value))} {nx : Nat} {v : Value} (hs : CallSpec P f args (rowsL rs) nx v (assocN [] [])) (hv : gnd v = true) (hlen : rs.length ≤ nx)
    (hnm : ∀ u ∈ args, ∀ j ∈ nms u, j < nx) {W : World} {l : List (Nat × Nat)} (hq : ∀ j r ad, rs[j]? = some r → l[j]? = some ad → CanQ W j r ad) (hl : rs.length ≤ l.length) :
    Calls P f (args.map (ren (Nm.at l))).toArray W fun e w' => e = .returned v ∧ Below W.heap.size W w' := by
  have key : ∀ j b, rowsL rs j = some b → j < rs.length ∧ ∃ cs, b = .ro cs ∧ rs[j]? = some (some cs) := by
    intro j b h
    unfold rowsL at h
    split at h
    · rename_i x hx
      simp at h
      exact ⟨(List.getElem?_eq_some_iff.1 hx).1, x, h.symm, hx⟩
    · simp at h
  refine calls_ro hs hv (fun j b hb => ?_) hnm (fun j cs hj => ?_)
  · obtain ⟨h1, cs, h2, h3⟩ := key j b hb
    exact ⟨by omega, cs, h2, (hq j _ (l[j]'(by omega)) h3 (List.getElem?_eq_getElem (by omega)) cs rfl).1⟩
  · obtain ⟨h1, cs', h2, h3⟩ := key j _ hj
    injection h2 with h2
    subst h2
    exact (hq j _ (l[j]'(by omega)) h3 (List.getElem?_eq_getElem (by omega)) _ rfl).2 l (List.getElem?_eq_getElem (by omega))
theorem canQ_none (W : World) (k : Nat) (ad : Nat × Nat) : CanQ W k none ad := fun _ h => by simp at h
end Go.Proofs.Ytdeedabhgfmgjaa.Ev


set_option linter.unusedVariables false
set_option linter.unusedSimpArgs false
namespace Go.Proofs.Ytdeedabhgfmgjaa.Ev
open Go Go.RowKit
theorem lset_of : ∀ {cs : List Value} {o : Nat} {vs : List Value}, o + vs.length ≤ cs.length → lset cs o vs = some (cs.take o ++ vs ++ cs.drop (o + vs.length))
  | cs, 0, [], _ => by cases cs <;> simp [lset]
  | [], 0, v :: vs, h => by simp at h
  | [], o + 1, vs, h => by simp at h
  | c :: cs, 0, v :: vs, h => by
    have := lset_of (cs := cs) (o := 0) (vs := vs) (by simp at h ⊢; omega)
    simp only [lset, this]
    simp
  | c :: cs, o + 1, vs, h => by
    have := lset_of (cs := cs) (o := o) (vs := vs) (by simp at h; omega)
    simp only [lset, this]
    rw [show o + 1 + vs.length = (o + vs.length) + 1 by omega]
    simp
theorem lset_mid {a b c vs r : List Value} {f : Nat} (h : lset b f vs = some r) : lset (a ++ (b ++ c)) (a.length + f) vs = some (a ++ (r ++ c)) := by
  obtain ⟨h1, h2⟩ := lset_spec h
  rw [lset_of (by simp; omega), h1]
  congr 1
  rw [List.take_length_add_append, List.take_append_of_le_length (by omega), show a.length + f + vs.length = a.length + (f + vs.length) by omega, List.drop_length_add_append, List.drop_append_of_le_length (by omega)]
  simp
/-- A store into one struct of a row. -/
theorem lset_row {α : Type} {e : Elt α} {l : List α} {k f : Nat} {x y : α} {vs : List Value} (hk : l[k]? = some y) (h : lset (e.cells y) f vs = some (e.cells x)) : lset (e.row l) (k * e.s + f) vs = some (e.row (l.set k x)) := by
  have hlt := (List.getElem?_eq_some_iff.1 hk).1
  have he := (List.getElem?_eq_some_iff.1 hk).2
  have e1 : l = l.take k ++ y :: l.drop (k + 1) := by
    conv => lhs; rw [← List.take_append_drop k l]
    rw [List.drop_eq_getElem_cons hlt, he]
  have e2 : l.set k x = l.take k ++ x :: l.drop (k + 1) := by
    rw [List.set_eq_take_append_cons_drop, if_pos hlt]
  have e3 : e.row l = e.row (l.take k) ++ (e.cells y ++ e.row (l.drop (k + 1))) := by
    conv => lhs; rw [e1]
    rw [Elt.row_app, Elt.row_cons]
  rw [e2, e3, Elt.row_app, Elt.row_cons]
  have hl : (e.row (l.take k)).length = k * e.s := by rw [Elt.row_len, List.length_take, Nat.min_eq_left (by omega)]
  rw [← hl]
  exact lset_mid h
section
variable {α : Type} {e : Elt α}
theorem appG {L M : List α} {ty : TypeId} {own : Option Blk} {n m c size bytes o : Nat} {res : List Value} (hown : (own = some (.vec (e.row L) ty size) ∧ c = mk) ∨ (own = some (.cells [] ty) ∧ n = 0 ∧ c = 0)) (hs : size = e.s) {k : Nat} (ho : o = k * e.s) (hk : k + m ≤ M.length) (hn : n ≤ L.length) (hres : res = e.row (L.take n ++ (M.drop k).take m))
    (h1 : 1 ≤ m) (hb : n + m ≤ 16777216) (hby : (n + m) * bytes ≤ 140737488355328) : AppOK own n c size bytes m (e.row M) o res := by
  subst hs
  subst hres
  subst ho
  have hkm : k * e.s + m * e.s ≤ M.length * e.s := by rw [← Nat.add_mul]; exact Nat.mul_le_mul_right _ hk
  refine ⟨e.row (L.take n), e.row ((M.drop k).take m), ?_, ?_, h1, hb, hby, Elt.row_app _ _, ?_⟩
  · rw [sub_of (by rw [Elt.row_len]; exact hkm), Elt.row_drop, Elt.row_take]
  · exact allB_iff.2 fun c hc => leaf_of_leafG (Elt.row_pl _ c hc)
  · rcases hown with ⟨rfl, rfl⟩ | ⟨rfl, rfl, rfl⟩
    · refine ⟨rfl, ?_, (Elt.row_take L n).symm⟩
      rw [Elt.row_len]; exact Nat.mul_le_mul_right _ hn
    · refine ⟨by simp, by omega, by omega, ?_⟩
      simp [Elt.row]
theorem rowN {L : List α} {n : Nat} (h : n = L.length) : e.Row (e.row L) 0 n := by subst h; exact (Elt.canon0 L).1
theorem rowM {L : List α} {n : Nat} (h : n ≤ L.length) : e.Row (e.row L) 0 n := ((Elt.canon0 L).1.take h).1
theorem listM {L : List α} {n : Nat} (h : n ≤ L.length) : e.list (e.row L) 0 n = L.take n := by rw [((Elt.canon0 L).1.take h).2, (Elt.canon0 L).2]
theorem plain1 {cs : List Value} (h : ∀ x ∈ cs, leafG x = true) : plainR [cs] := by
  intro x hx
  simp at hx
  subst hx
  exact h
end
section
variable {α : Type} {e : Elt α}
theorem appC {L M : List α} {ty : TypeId} {own : Option Blk} {n m c size bytes : Nat} {res : List Value} (hown : own = some (.cells (e.row L) ty)) (hs : size = e.s) (hn : n ≤ c) (hc16 : c ≤ 16777216) (hc : c = L.length) (hres : res = e.row (L.take n ++ M))
    (h1 : 1 ≤ m) (hb : n + m ≤ 16777216) (hby : (n + m) * bytes ≤ 140737488355328) (hm : m = M.length := by rfl) : AppOK own n c size bytes m (e.row M) 0 res := by
  subst hs
  subst hres
  subst hown
  subst hc
  subst hm
  refine ⟨e.row (L.take n), e.row M, ?_, ?_, h1, hb, hby, Elt.row_app _ _, ?_⟩
  · rw [sub_of (by rw [Elt.row_len]; omega), List.drop_zero, List.take_of_length_le (by rw [Elt.row_len]; omega)]
  · exact allB_iff.2 fun c hc => leaf_of_leafG (Elt.row_pl _ c hc)
  · exact ⟨Elt.row_len L, hn, hc16, (Elt.row_take L n).symm⟩
theorem plain2 {cs ds : List Value} (h : ∀ x ∈ cs, leafG x = true) (g : ∀ x ∈ ds, leafG x = true) : plainR [cs, ds] := by
  intro x hx
  simp at hx
  rcases hx with rfl | rfl
  · exact h
  · exact g
end
theorem lsetE {α : Type} {e : Elt α} {l : List α} {k f o : Nat} {x y : α} {vs : List Value} (hk : l[k]? = some y) (h : lset (e.cells y) f vs = some (e.cells x)) (ho : o = k * e.s + f) : lset (e.row l) o vs = some (e.row (l.set k x)) := by
  subst ho; exact lset_row hk h
/-- The rest of a row. -/
theorem slK {i : Int} {α : Type} {e : Elt α} {n h m c : Nat} {L : List α} {ty : TypeId} {nm o size : Nat} (hi : i = (h : Int)) (hh : h + 1 ≤ n) (hm : m = n - h) (hc : c = mk + h) (ho : o = 0 + h * size) (hs : size = e.s) (h1 : 1 ≤ size) (hl : n ≤ L.length := by omega) : SlOK size nm 0 n mk (some i) none (some (.vec (e.row L) ty size)) (.slice (some ⟨nm, o, none⟩) m c) := by
  subst hm
  subst hc
  subst ho
  subst hs
  refine ⟨h, n, hi, rfl, by omega, Nat.le_refl _, Or.inl ⟨Nat.le_refl _, ⟨_, ty, rfl, h1, ?_⟩, Or.inr hh, rfl⟩⟩
  rw [Elt.row_len, Nat.sub_self, Nat.zero_add]
  exact Nat.mul_le_mul_right _ hl
section
variable {α : Type} {e : Elt α}
theorem Elt.Row.eq_row {cs : List Value} {off n : Nat} (h : e.Row cs off n) : (cs.drop off).take (n * e.s) = e.row (e.list cs off n) := by
  induction n with
  | zero => simp [Elt.row, Elt.list]
  | succ n ih =>
    have h1 : e.Row cs off n := (h.take (Nat.le_succ n)).1
    have hn := h.2 n (Nat.lt_succ_self n)
    rw [Nat.succ_mul, List.take_add, ih h1, List.drop_drop, hn]
    simp only [Elt.list, List.range_succ, List.map_append, List.map_cons, List.map_nil, Elt.row_app, Elt.row_one]
theorem repl_row {x : α} {zs : List Value} (h : e.cells x = zs) : ∀ n : Nat, repl zs n = e.row (List.replicate n x)
  | 0 => rfl
  | n + 1 => by simp only [repl, repl_row h n, List.replicate_succ, Elt.row_cons, h]
/-- A copy of a whole list into new memory. -/
theorem copyOK {cs : List Value} {o n m : Nat} {zs : List α} {size : Nat} {res : List Value} (hr : e.Row cs o n) (hs : size = e.s) (hm : n ≤ m) (hz : zs.length = m) (hpl : ∀ c ∈ cs, leafG c = true) (hres : res = e.row (e.list cs o n ++ zs.drop n)) : CopyOK n m size 0 cs o (e.row zs) res := by
  subst hs
  subst hres
  have hmin : Nat.min n m = n := Nat.min_eq_left hm
  have hle : n * e.s ≤ zs.length * e.s := Nat.mul_le_mul_right _ (by omega)
  refine ⟨e.row (e.list cs o n), ?_, allB_iff.2 fun c hc => leaf_of_leafG (Elt.row_pl _ c hc), ?_⟩
  · rw [hmin, sub_of hr.1, hr.eq_row]
  · rw [lset_of (by rw [Elt.row_len, Elt.list_len, Elt.row_len]; omega)]
    rw [Elt.row_len, Elt.list_len, Nat.zero_add, Elt.row_drop, List.take_zero, List.nil_append, Elt.row_app]
end
end Go.Proofs.Ytdeedabhgfmgjaa.Ev


set_option linter.unusedVariables false
set_option linter.unusedSimpArgs false
set_option maxRecDepth 100000
namespace Go.Proofs.Ytdeedabhgfmgjaa.Bs
open Go Go.RowKit Go.Proofs.Ytdeedabhgfmgjaa.Ev
abbrev i64 (n : Int) : Value := .int .i64 n
def isnan_F : List Value → Option (Value × List Prop)
  | [.int .i64 a] => some (.bool false, [])
  | _ => none
theorem isnan_sum : SumOK Try.prog 42 (sumOf isnan_F) := by
  refine sumOf_ok (en Try.func42 rfl) fun args v ob h hob => ?_
  unfold isnan_F at h
  split at h
  · rename_i a
    obtain ⟨rfl, rfl⟩ := Prod.mk.inj (Option.some.inj h)
    clear h
    exact calls_runO hm (auto0_ok t_none_ok) (hints [(1, 2, ht false)]) [] [Value.bool (a != a) = .bool false] (by kernel_rfl) ⟨congrArg Value.bool (by simp), trivial⟩
  · exact absurd h (by simp)
noncomputable def t_isnan : Sums := upd t_none 42 (some (sumOf isnan_F))
theorem t_isnan_ok : SumsOK Try.prog t_isnan := sums_cons t_none_ok isnan_sum
def cmpI (a b : Int) : Int := bif decide (a < b) then -1 else bif decide (a > b) then 1 else 0
def cmpc_F : List Value → Option (Value × List Prop)
  | [.int .i64 a, .int .i64 b] => some (.int .i64 (cmpI a b), [])
  | _ => none
theorem cmpc_sum : SumOK Try.prog 41 (sumOf cmpc_F) := by
  refine sumOf_ok (en Try.func41 rfl) fun args v ob h hob => ?_
  unfold cmpc_F at h
  split at h
  · obtain ⟨rfl, rfl⟩ := Prod.mk.inj (Option.some.inj h)
    exact calls_run0 hm (auto0_ok t_isnan_ok) noHint [.go,.go,.fork,.fork] (by kernel_rfl)
  · exact absurd h (by simp)
noncomputable def t_cmpc : Sums := upd t_isnan 41 (some (sumOf cmpc_F))
theorem t_cmpc_ok : SumsOK Try.prog t_cmpc := sums_cons t_isnan_ok cmpc_sum
theorem orA (a b : Int)  {E : Env} (hE : EnvOK E Try.prog Try.f40 1 1 (i64 a) [] []) (hob : all ([Back (Value.int IntKind.i64 a) (Value.int IntKind.i64 a) [] [] [], (a != (0 : Int)) = true])) : Sat E [.code (bodyOf Try.f40)] (st0 Try.f40 [.slice (some ⟨0, 0, none⟩) 2 2] (roRows [[i64 a, i64 b]]) 1) :=
  by_ret (T := auto0 t_none) (h := hints []) (ws := [.go, .go, .b true]) (nx' := 1) hE hm (auto0_ok t_none_ok) (by omega) (by simp) (by simp) (by kernel_rfl) hob
theorem orB (a b : Int)  {E : Env} (hE : EnvOK E Try.prog Try.f40 1 1 (i64 b) [] []) (hob : all ([Back (Value.int IntKind.i64 b) (Value.int IntKind.i64 b) [] [] [], (b != (0 : Int)) = true, (a != (0 : Int)) = false])) : Sat E [.code (bodyOf Try.f40)] (st0 Try.f40 [.slice (some ⟨0, 0, none⟩) 2 2] (roRows [[i64 a, i64 b]]) 1) :=
  by_ret (T := auto0 t_none) (h := hints []) (ws := [.go, .go, .b false, .go, .b true]) (nx' := 1) hE hm (auto0_ok t_none_ok) (by omega) (by simp) (by simp) (by kernel_rfl) hob
theorem orZ (a b : Int)  {E : Env} (hE : EnvOK E Try.prog Try.f40 1 1 (i64 0) [] []) (hob : all ([Back (Value.int IntKind.i64 ((0 : Int))) (Value.int IntKind.i64 ((0 : Int))) [] [] [], (b != (0 : Int)) = false, (a != (0 : Int)) = false])) : Sat E [.code (bodyOf Try.f40)] (st0 Try.f40 [.slice (some ⟨0, 0, none⟩) 2 2] (roRows [[i64 a, i64 b]]) 1) :=
  by_ret (T := auto0 t_none) (h := hints []) (ws := [.go, .go, .b false, .go, .b false, .go]) (nx' := 1) hE hm (auto0_ok t_none_ok) (by omega) (by simp) (by simp) (by kernel_rfl) hob
def orI (a b : Int) : Int := bif a != 0 then a else b
def or_F : RoF := fun xs css => match xs, css with
  | [.slice (some ⟨0, 0, none⟩) 2 2], [[.int .i64 a, .int .i64 b]] => some (i64 (orI a b), [], [])
  | _, _ => none
theorem or_sum : SumOK Try.prog 40 (roSum or_F) := by
  refine roSum_ok (en Try.func40 rfl) ?_ (fun xs css r h => ?_)
  · intro xs css v blks ob h hob hpl hl
    unfold or_F at h
    split at h
    · rename_i a b
      simp only [Option.some.injEq, Prod.mk.injEq] at h
      obtain ⟨rfl, rfl, rfl⟩ := h
      refine ⟨by simp, by simp, fun j hj => by simp [nms, nm1, nm0] at hj, ?_⟩
      refine spec_of_sat Try.func40 rfl fun E hE => ?_
      unfold orI at hE
      cases ha : a != 0
      · rw [ha] at hE
        cases hb : b != 0
        · have : b = 0 := by simpa using hb
          subst this
          exact orZ a 0 hE ⟨⟨rfl, rfl⟩, hb, ha, trivial⟩
        · exact orB a b hE ⟨⟨rfl, rfl⟩, hb, ha, trivial⟩
      · rw [ha] at hE
        exact orA a b hE ⟨⟨rfl, rfl⟩, ha, trivial⟩
    · simp at h
  · unfold or_F at h
    split at h <;> simp at h <;> simp
noncomputable def t_or : Sums := upd t_cmpc 40 (some (roSum or_F))
theorem t_or_ok : SumsOK Try.prog t_or := sums_cons t_cmpc_ok or_sum
def lAhead (x y : Bx) : Bool := bif x.a0 != y.a0 then decide (x.a0 < y.a0) else bif x.a1 != y.a1 then decide (x.a1 < y.a1) else bif x.a2 != y.a2 then decide (x.a2 < y.a2) else bif x.a3 != y.a3 then decide (x.a3 < y.a3) else bif x.a4 != y.a4 then decide (x.a4 < y.a4) else
  bif x.b0 != y.b0 then decide (x.b0 < y.b0) else bif x.b1 != y.b1 then decide (x.b1 < y.b1) else bif x.b2 != y.b2 then decide (x.b2 < y.b2) else bif x.b3 != y.b3 then decide (x.b3 < y.b3) else bif x.b4 != y.b4 then decide (x.b4 < y.b4) else false
def lah_F : List Value → Option (Value × List Prop)
  | [.agg ⟨[.int .i64 a0, .int .i64 b0, .int .i64 a1, .int .i64 b1, .int .i64 a2, .int .i64 b2, .int .i64 a3, .int .i64 b3, .int .i64 a4, .int .i64 b4]⟩, .agg ⟨[.int .i64 c0, .int .i64 d0, .int .i64 c1, .int .i64 d1, .int .i64 c2, .int .i64 d2, .int .i64 c3, .int .i64 d3, .int .i64 c4, .int .i64 d4]⟩] => some (.bool (lAhead ⟨a0, b0, a1, b1, a2, b2, a3, b3, a4, b4⟩ ⟨c0, d0, c1, d1, c2, d2, c3, d3, c4, d4⟩), [])
  | _ => none
theorem lah_sum : SumOK Try.prog 34 (sumOf lah_F) := by
  refine sumOf_ok (en Try.func34 rfl) fun args v ob h hob => ?_
  unfold lah_F at h
  split at h
  · obtain ⟨rfl, rfl⟩ := Prod.mk.inj (Option.some.inj h)
    exact calls_run0 hm (auto0_ok t_none_ok) noHint [.go,.go,.fork,.go,.fork,.go,.fork,.go,.fork,.go,.fork,.go,.go,.go,.fork,.go,.fork,.go,.fork,.go,.fork,.go,.fork] (by kernel_rfl)
  · exact absurd h (by simp)
noncomputable def t_lah : Sums := upd t_none 34 (some (sumOf lah_F))
theorem t_lah_ok : SumsOK Try.prog t_lah := sums_cons t_none_ok lah_sum
end Go.Proofs.Ytdeedabhgfmgjaa.Bs


set_option linter.unusedVariables false
set_option linter.unusedSimpArgs false
set_option maxRecDepth 100000
namespace Go.Proofs.Ytdeedabhgfmgjaa.Bs
open Go Go.RowKit Go.Proofs.Ytdeedabhgfmgjaa.Ev Go.Proofs.Ytdeedabhgfmgjaa.Bs
theorem bah_run (a0 b0 a1 b1 a2 b2 a3 b3 a4 b4 c0 d0 c1 d1 c2 d2 c3 d3 c4 d4 : Int) (hob : all [plainR [[Value.int IntKind.i64 (orI (orI (orI (orI (orI ((0 : Int)) (cmpI a0 c0)) (cmpI a1 c1)) (cmpI a2 c2)) (cmpI a3 c3)) (cmpI a4 c4)), Value.int IntKind.i64 (orI (orI (orI (orI (orI ((0 : Int)) (cmpI b0 d0)) (cmpI b1 d1)) (cmpI b2 d2)) (cmpI b3 d3)) (cmpI b4 d4))]], plainR [[Value.int IntKind.i64 (orI (orI (orI (orI ((0 : Int)) (cmpI b0 d0)) (cmpI b1 d1)) (cmpI b2 d2)) (cmpI b3 d3)), Value.int IntKind.i64 (cmpI b4 d4)]], plainR [[Value.int IntKind.i64 (orI (orI (orI (orI ((0 : Int)) (cmpI a0 c0)) (cmpI a1 c1)) (cmpI a2 c2)) (cmpI a3 c3)), Value.int IntKind.i64 (cmpI a4 c4)]], plainR [[Value.int IntKind.i64 (orI (orI (orI ((0 : Int)) (cmpI b0 d0)) (cmpI b1 d1)) (cmpI b2 d2)), Value.int IntKind.i64 (cmpI b3 d3)]], plainR [[Value.int IntKind.i64 (orI (orI (orI ((0 : Int)) (cmpI a0 c0)) (cmpI a1 c1)) (cmpI a2 c2)), Value.int IntKind.i64 (cmpI a3 c3)]], plainR [[Value.int IntKind.i64 (orI (orI ((0 : Int)) (cmpI b0 d0)) (cmpI b1 d1)), Value.int IntKind.i64 (cmpI b2 d2)]], plainR [[Value.int IntKind.i64 (orI (orI ((0 : Int)) (cmpI a0 c0)) (cmpI a1 c1)), Value.int IntKind.i64 (cmpI a2 c2)]], plainR [[Value.int IntKind.i64 (orI ((0 : Int)) (cmpI b0 d0)), Value.int IntKind.i64 (cmpI b1 d1)]], plainR [[Value.int IntKind.i64 (orI ((0 : Int)) (cmpI a0 c0)), Value.int IntKind.i64 (cmpI a1 c1)]], plainR [[Value.int IntKind.i64 ((0 : Int)), Value.int IntKind.i64 (cmpI b0 d0)]], plainR [[Value.int IntKind.i64 ((0 : Int)), Value.int IntKind.i64 (cmpI a0 c0)]]]) : ∀ w, Calls Try.prog 39 ([.agg ⟨[.int .i64 a0, .int .i64 b0, .int .i64 a1, .int .i64 b1, .int .i64 a2, .int .i64 b2, .int .i64 a3, .int .i64 b3, .int .i64 a4, .int .i64 b4]⟩, .agg ⟨[.int .i64 c0, .int .i64 d0, .int .i64 c1, .int .i64 d1, .int .i64 c2, .int .i64 d2, .int .i64 c3, .int .i64 d3, .int .i64 c4, .int .i64 d4]⟩] : List Value).toArray w fun e w' => e = .returned (Value.bool (decide (orI (orI (orI (orI (orI (orI 0 (cmpI a0 c0)) (cmpI a1 c1)) (cmpI a2 c2)) (cmpI a3 c3)) (cmpI a4 c4)) (orI (orI (orI (orI (orI 0 (cmpI b0 d0)) (cmpI b1 d1)) (cmpI b2 d2)) (cmpI b3 d3)) (cmpI b4 d4)) < 0))) ∧ Below w.heap.size w w' :=
  (calls_runO hm (auto0_ok t_or_ok) (noHint) [] _ (by kernel_rfl) hob).2.2
theorem orI_ne {a b : Int} (h : a ≠ 0) : orI a b = a := by
  unfold orI
  have : (a != 0) = true := by simpa using h
  rw [this]; rfl
theorem orI_0 (b : Int) : orI 0 b = b := rfl
theorem cmpI_self (a : Int) : cmpI a a = 0 := by
  unfold cmpI
  have h1 : decide (a < a) = false := decide_eq_false (by omega)
  have h2 : decide (a > a) = false := decide_eq_false (by omega)
  rw [h1]; rfl
def neg (z : Int) : Bool := decide (z < 0)
theorem cmpI_ne {a b : Int} (h : a ≠ b) : cmpI a b ≠ 0 ∧ neg (cmpI a b) = decide (a < b) := by
  unfold cmpI
  by_cases h1 : a < b
  · rw [decide_eq_true h1, cond_true]; exact ⟨by decide, rfl⟩
  · have h2 : a > b := by omega
    rw [decide_eq_false h1, cond_false, decide_eq_true h2, cond_true]; exact ⟨by decide, rfl⟩
theorem bah_is0 (x y : Bx) : neg (orI (orI (orI (orI (orI (orI 0 (cmpI x.a0 y.a0)) (cmpI x.a1 y.a1)) (cmpI x.a2 y.a2)) (cmpI x.a3 y.a3)) (cmpI x.a4 y.a4)) (orI (orI (orI (orI (orI 0 (cmpI x.b0 y.b0)) (cmpI x.b1 y.b1)) (cmpI x.b2 y.b2)) (cmpI x.b3 y.b3)) (cmpI x.b4 y.b4))) = lAhead x y := by
  obtain ⟨a0, b0, a1, b1, a2, b2, a3, b3, a4, b4⟩ := x
  obtain ⟨c0, d0, c1, d1, c2, d2, c3, d3, c4, d4⟩ := y
  simp only [lAhead, orI_0]
  by_cases h0 : a0 = c0
  · subst h0
    simp only [cmpI_self, orI_0, bne_self_eq_false, cond_false]
    by_cases h1 : a1 = c1
    · subst h1
      simp only [cmpI_self, orI_0, bne_self_eq_false, cond_false]
      by_cases h2 : a2 = c2
      · subst h2
        simp only [cmpI_self, orI_0, bne_self_eq_false, cond_false]
        by_cases h3 : a3 = c3
        · subst h3
          simp only [cmpI_self, orI_0, bne_self_eq_false, cond_false]
          by_cases h4 : a4 = c4
          · subst h4
            simp only [cmpI_self, orI_0, bne_self_eq_false, cond_false]
            by_cases g0 : b0 = d0
            · subst g0
              simp only [cmpI_self, orI_0, bne_self_eq_false, cond_false]
              by_cases g1 : b1 = d1
              · subst g1
                simp only [cmpI_self, orI_0, bne_self_eq_false, cond_false]
                by_cases g2 : b2 = d2
                · subst g2
                  simp only [cmpI_self, orI_0, bne_self_eq_false, cond_false]
                  by_cases g3 : b3 = d3
                  · subst g3
                    simp only [cmpI_self, orI_0, bne_self_eq_false, cond_false]
                    by_cases g4 : b4 = d4
                    · subst g4
                      simp [cmpI_self, neg]
                    · rw [(cmpI_ne g4).2, show (b4 != d4) = true from by simpa using g4]; rfl
                  · rw [orI_ne (cmpI_ne g3).1, (cmpI_ne g3).2, show (b3 != d3) = true from by simpa using g3]; rfl
                · rw [orI_ne (cmpI_ne g2).1, orI_ne (cmpI_ne g2).1, (cmpI_ne g2).2, show (b2 != d2) = true from by simpa using g2]; rfl
              · rw [orI_ne (cmpI_ne g1).1, orI_ne (cmpI_ne g1).1, orI_ne (cmpI_ne g1).1, (cmpI_ne g1).2, show (b1 != d1) = true from by simpa using g1]; rfl
            · rw [orI_ne (cmpI_ne g0).1, orI_ne (cmpI_ne g0).1, orI_ne (cmpI_ne g0).1, orI_ne (cmpI_ne g0).1, (cmpI_ne g0).2, show (b0 != d0) = true from by simpa using g0]; rfl
          · rw [orI_ne (cmpI_ne h4).1, (cmpI_ne h4).2, show (a4 != c4) = true from by simpa using h4]; rfl
        · rw [orI_ne (cmpI_ne h3).1, orI_ne (cmpI_ne h3).1, (cmpI_ne h3).2, show (a3 != c3) = true from by simpa using h3]; rfl
      · rw [orI_ne (cmpI_ne h2).1, orI_ne (cmpI_ne h2).1, orI_ne (cmpI_ne h2).1, (cmpI_ne h2).2, show (a2 != c2) = true from by simpa using h2]; rfl
    · rw [orI_ne (cmpI_ne h1).1, orI_ne (cmpI_ne h1).1, orI_ne (cmpI_ne h1).1, orI_ne (cmpI_ne h1).1, (cmpI_ne h1).2, show (a1 != c1) = true from by simpa using h1]; rfl
  · rw [orI_ne (cmpI_ne h0).1, orI_ne (cmpI_ne h0).1, orI_ne (cmpI_ne h0).1, orI_ne (cmpI_ne h0).1, orI_ne (cmpI_ne h0).1, (cmpI_ne h0).2, show (a0 != c0) = true from by simpa using h0]; rfl
theorem bah_calls (x y : Bx) : ∀ w, Calls Try.prog 39 #[.agg ⟨x.cs⟩, .agg ⟨y.cs⟩] w fun e w' => e = .returned (.bool (lAhead x y)) ∧ Below w.heap.size w w' := by
  have pr : ∀ a b : Int, plainR [[Value.int .i64 a, Value.int .i64 b]] := fun a b => plain1 fun c hc => by
    simp at hc
    rcases hc with rfl | rfl <;> rfl
  have := bah_run x.a0 x.b0 x.a1 x.b1 x.a2 x.b2 x.a3 x.b3 x.a4 x.b4 y.a0 y.b0 y.a1 y.b1 y.a2 y.b2 y.a3 y.b3 y.a4 y.b4 ⟨pr _ _, pr _ _, pr _ _, pr _ _, pr _ _, pr _ _, pr _ _, pr _ _, pr _ _, pr _ _, pr _ _, trivial⟩
  have e : Value.bool (decide (orI (orI (orI (orI (orI (orI 0 (cmpI x.a0 y.a0)) (cmpI x.a1 y.a1)) (cmpI x.a2 y.a2)) (cmpI x.a3 y.a3)) (cmpI x.a4 y.a4)) (orI (orI (orI (orI (orI 0 (cmpI x.b0 y.b0)) (cmpI x.b1 y.b1)) (cmpI x.b2 y.b2)) (cmpI x.b3 y.b3)) (cmpI x.b4 y.b4)) < 0)) = .bool (lAhead x y) := congrArg Value.bool (bah_is0 x y)
  rw [e] at this
  exact this
def bah_F : List Value → Option (Value × List Prop)
  | [.agg ⟨[.int .i64 a0, .int .i64 b0, .int .i64 a1, .int .i64 b1, .int .i64 a2, .int .i64 b2, .int .i64 a3, .int .i64 b3, .int .i64 a4, .int .i64 b4]⟩, .agg ⟨[.int .i64 c0, .int .i64 d0, .int .i64 c1, .int .i64 d1, .int .i64 c2, .int .i64 d2, .int .i64 c3, .int .i64 d3, .int .i64 c4, .int .i64 d4]⟩] =>
    some (.bool (lAhead ⟨a0, b0, a1, b1, a2, b2, a3, b3, a4, b4⟩ ⟨c0, d0, c1, d1, c2, d2, c3, d3, c4, d4⟩), [])
  | _ => none
theorem bah_sum : SumOK Try.prog 39 (sumOf bah_F) := by
  refine sumOf_ok (en Try.func39 rfl) fun args v ob h hob => ?_
  unfold bah_F at h
  split at h
  · rename_i a0 b0 a1 b1 a2 b2 a3 b3 a4 b4 c0 d0 c1 d1 c2 d2 c3 d3 c4 d4
    obtain ⟨rfl, rfl⟩ := Prod.mk.inj (Option.some.inj h)
    exact ⟨rfl, rfl, bah_calls ⟨a0, b0, a1, b1, a2, b2, a3, b3, a4, b4⟩ ⟨c0, d0, c1, d1, c2, d2, c3, d3, c4, d4⟩⟩
  · exact absurd h (by simp)
/-! ### Which box is ahead: an order -/
def key (x : Bx) : List Int := [x.a0, x.a1, x.a2, x.a3, x.a4, x.b0, x.b1, x.b2, x.b3, x.b4]
def lexI : List Int → List Int → Bool
  | a :: l, b :: m => bif a != b then decide (a < b) else lexI l m
  | _, _ => false
theorem lAhead_lex (x y : Bx) : lAhead x y = lexI (key x) (key y) := rfl
theorem lex_irr : ∀ l : List Int, lexI l l = false
  | [] => rfl
  | a :: l => by simp [lexI, lex_irr l]
theorem lex_asym : ∀ {l m : List Int}, lexI l m = true → lexI m l = false
  | [], m, h => by simp [lexI] at h
  | a :: l, [], h => by simp [lexI] at h
  | a :: l, b :: m, h => by
    by_cases e : a = b
    · subst e
      simp only [lexI, bne_self_eq_false, cond_false] at h ⊢
      exact lex_asym h
    · have h1 : (a != b) = true := by simpa using e
      have h2 : (b != a) = true := by simpa using fun e' => e e'.symm
      simp only [lexI, h1, h2, cond_true, decide_eq_true_eq, decide_eq_false_iff_not] at h ⊢
      omega
theorem lex_tot : ∀ {l m : List Int}, l.length = m.length → lexI l m = false → lexI m l = false → l = m
  | [], [], _, _, _ => rfl
  | [], _ :: _, h, _, _ => by simp at h
  | _ :: _, [], h, _, _ => by simp at h
  | a :: l, b :: m, h, h1, h2 => by
    by_cases e : a = b
    · subst e
      simp only [lexI, bne_self_eq_false, cond_false] at h1 h2
      rw [lex_tot (by simpa using h) h1 h2]
    · have g1 : (a != b) = true := by simpa using e
      have g2 : (b != a) = true := by simpa using fun e' => e e'.symm
      simp only [lexI, g1, g2, cond_true, decide_eq_false_iff_not] at h1 h2
      omega
theorem lex_trans : ∀ {l m n : List Int}, lexI l m = true → lexI m n = true → lexI l n = true
  | [], _, _, h, _ => by simp [lexI] at h
  | _ :: _, [], _, h, _ => by simp [lexI] at h
  | _ :: _, _ :: _, [], _, h => by simp [lexI] at h
  | a :: l, b :: m, c :: n, h1, h2 => by
    by_cases e1 : a = b
    · subst e1
      by_cases e2 : a = c
      · subst e2
        simp only [lexI, bne_self_eq_false, cond_false] at h1 h2 ⊢
        exact lex_trans h1 h2
      · have g : (a != c) = true := by simpa using e2
        simp only [lexI, g, cond_true] at h2 ⊢
        exact h2
    · have g1 : (a != b) = true := by simpa using e1
      simp only [lexI, g1, cond_true, decide_eq_true_eq] at h1
      by_cases e2 : b = c
      · subst e2
        simp only [lexI, g1, cond_true, decide_eq_true_eq]
        exact h1
      · have g2 : (b != c) = true := by simpa using e2
        simp only [lexI, g2, cond_true, decide_eq_true_eq] at h2
        have g3 : (a != c) = true := by simp; omega
        simp only [lexI, g3, cond_true, decide_eq_true_eq]
        omega
theorem key_inj {x y : Bx} (h : key x = key y) : x = y := by
  obtain ⟨a0, b0, a1, b1, a2, b2, a3, b3, a4, b4⟩ := x
  obtain ⟨c0, d0, c1, d1, c2, d2, c3, d3, c4, d4⟩ := y
  simp only [key, List.cons.injEq, and_true] at h
  obtain ⟨rfl, rfl, rfl, rfl, rfl, rfl, rfl, rfl, rfl, rfl⟩ := h
  rfl
theorem ahead_irr (x : Bx) : lAhead x x = false := by rw [lAhead_lex]; exact lex_irr _
theorem ahead_asym {x y : Bx} (h : lAhead x y = true) : lAhead y x = false := by rw [lAhead_lex] at h ⊢; exact lex_asym h
theorem ahead_tot {x y : Bx} (h1 : lAhead x y = false) (h2 : lAhead y x = false) : x = y := by rw [lAhead_lex] at h1 h2; exact key_inj (lex_tot rfl h1 h2)
theorem ahead_trans {x y z : Bx} (h1 : lAhead x y = true) (h2 : lAhead y z = true) : lAhead x z = true := by rw [lAhead_lex] at h1 h2 ⊢; exact lex_trans h1 h2
/-- The most, and of alike many the first, of those whose stamps are told. -/
def Best (l : List EB) (seen : List Nat) (x : Bx) (n : Int) : Prop :=
  (seen = [] ∧ x = ⟨0, 0, 0, 0, 0, 0, 0, 0, 0, 0⟩ ∧ n = 0) ∨ (∃ e ∈ l, e.s ∈ seen ∧ e.b = x ∧ e.n = n ∧ ∀ y ∈ l, y.s ∈ seen → y.n < n ∨ (y.n = n ∧ lAhead y.b x = false))
theorem stamp_one {l : List EB} {c : Nat} (ok : OKB l c) {e y : EB} (he : e ∈ l) (hy : y ∈ l) (h : y.s = e.s) : y = e := by
  have hp := ok.borns
  clear ok
  induction l with
  | nil => simp at he
  | cons x l ih =>
    obtain ⟨p1, p2⟩ := List.pairwise_cons.1 hp
    rcases List.mem_cons.1 he with e1 | he'
    · rcases List.mem_cons.1 hy with e2 | hy'
      · rw [e1, e2]
      · have := p1 y hy'; rw [e1] at h; omega
    · rcases List.mem_cons.1 hy with e2 | hy'
      · have := p1 e he'; rw [e2] at h; omega
      · exact ih he' hy' p2
theorem best_gt {l : List EB} {c : Nat} (ok : OKB l c) {seen : List Nat} {x : Bx} {n : Int} (h : Best l seen x n) {e : EB} (he : e ∈ l) (hg : e.n > n) : Best l (seen ++ [e.s]) e.b e.n := by
  refine Or.inr ⟨e, he, by simp, rfl, rfl, fun y hy hs => ?_⟩
  rcases List.mem_append.1 hs with hs | hs
  · rcases h with ⟨rfl, _, _⟩ | ⟨e0, _, _, _, _, hall⟩
    · simp at hs
    · have := hall y hy hs; left; omega
  · simp at hs
    rw [stamp_one ok he hy hs]
    exact Or.inr ⟨rfl, ahead_irr _⟩
theorem best_eq {l : List EB} {c : Nat} (ok : OKB l c) {seen : List Nat} {x : Bx} {n : Int} (h : Best l seen x n) {e : EB} (he : e ∈ l) (h1 : 1 ≤ e.n) (hn : e.n = n) (ha : lAhead e.b x = true) : Best l (seen ++ [e.s]) e.b e.n := by
  refine Or.inr ⟨e, he, by simp, rfl, rfl, fun y hy hs => ?_⟩
  rcases List.mem_append.1 hs with hs | hs
  · rcases h with ⟨rfl, _, _⟩ | ⟨e0, _, _, _, _, hall⟩
    · simp at hs
    · rcases hall y hy hs with h2 | ⟨h2, h3⟩
      · left; omega
      · right
        refine ⟨by omega, ?_⟩
        cases hq : lAhead y.b e.b
        · rfl
        · rw [ahead_trans hq ha] at h3; exact absurd h3 (by simp)
  · simp at hs
    rw [stamp_one ok he hy hs]
    exact Or.inr ⟨rfl, ahead_irr _⟩
theorem best_no {l : List EB} {c : Nat} (ok : OKB l c) {seen : List Nat} {x : Bx} {n : Int} (h : Best l seen x n) {e : EB} (he : e ∈ l) (h1 : 1 ≤ e.n) (hg : ¬ e.n > n) (ha : e.n = n → lAhead e.b x = false) : Best l (seen ++ [e.s]) x n := by
  rcases h with ⟨rfl, _, rfl⟩ | ⟨e0, he0, hs0, hb0, hn0, hall⟩
  · omega
  · refine Or.inr ⟨e0, he0, List.mem_append_left _ hs0, hb0, hn0, fun y hy hs => ?_⟩
    rcases List.mem_append.1 hs with hs | hs
    · exact hall y hy hs
    · simp at hs
      rw [stamp_one ok he hy hs]
      by_cases hq : e.n = n
      · exact Or.inr ⟨hq, ha hq⟩
      · left; omega
def LG (l : List EB) (x : Bx) (n : Int) : Prop :=
  (l = [] ∧ x = ⟨0, 0, 0, 0, 0, 0, 0, 0, 0, 0⟩ ∧ n = 0) ∨ (∃ e ∈ l, e.b = x ∧ e.n = n ∧ ∀ y ∈ l, y.n < n ∨ (y.n = n ∧ lAhead y.b x = false))
theorem best_all {l : List EB} {seen : List Nat} {x : Bx} {n : Int} (h : Best l seen x n) (hs : ∀ e ∈ l, e.s ∈ seen) : LG l x n := by
  rcases h with ⟨rfl, hx, hn⟩ | ⟨e, he, _, hb, hn, hall⟩
  · left
    refine ⟨?_, hx, hn⟩
    cases l with
    | nil => rfl
    | cons y l => have := hs y (List.mem_cons_self ..); simp at this
  · exact Or.inr ⟨e, he, hb, hn, fun y hy => hall y hy (hs y hy)⟩
theorem lg_one {l : List EB} {x x' : Bx} {n n' : Int} (h : LG l x n) (h' : LG l x' n') : x = x' ∧ n = n' := by
  rcases h with ⟨rfl, rfl, rfl⟩ | ⟨e, he, rfl, rfl, hall⟩
  · rcases h' with ⟨_, rfl, rfl⟩ | ⟨e', he', _⟩
    · exact ⟨rfl, rfl⟩
    · simp at he'
  · rcases h' with ⟨rfl, _, _⟩ | ⟨e', he', rfl, rfl, hall'⟩
    · simp at he
    · have a1 := hall e' he'
      have a2 := hall' e he
      have hn : e.n = e'.n := by omega
      refine ⟨?_, hn⟩
      rcases a1 with a1 | ⟨_, a1⟩
      · omega
      · rcases a2 with a2 | ⟨_, a2⟩
        · omega
        · exact ahead_tot a2 a1
theorem lg_is : ∀ (l : List EB), (∀ e ∈ l, 1 ≤ e.n) → ∃ x n, LG l x n
  | [], _ => ⟨_, _, Or.inl ⟨rfl, rfl, rfl⟩⟩
  | e :: l, h => by
    obtain ⟨x, n, hx⟩ := lg_is l fun y hy => h y (List.mem_cons_of_mem _ hy)
    rcases hx with ⟨rfl, _, _⟩ | ⟨e', he', rfl, rfl, hall⟩
    · exact ⟨e.b, e.n, Or.inr ⟨e, List.mem_cons_self .., rfl, rfl, fun y hy => by simp at hy; subst hy; exact Or.inr ⟨rfl, ahead_irr _⟩⟩⟩
    · by_cases hg : e.n > e'.n
      · refine ⟨e.b, e.n, Or.inr ⟨e, List.mem_cons_self .., rfl, rfl, fun y hy => ?_⟩⟩
        rcases List.mem_cons.1 hy with rfl | hy
        · exact Or.inr ⟨rfl, ahead_irr _⟩
        · have := hall y hy; left; omega
      · by_cases hq : e.n = e'.n ∧ lAhead e.b e'.b = true
        · refine ⟨e.b, e.n, Or.inr ⟨e, List.mem_cons_self .., rfl, rfl, fun y hy => ?_⟩⟩
          rcases List.mem_cons.1 hy with rfl | hy
          · exact Or.inr ⟨rfl, ahead_irr _⟩
          · rcases hall y hy with h2 | ⟨h2, h3⟩
            · left; omega
            · right
              refine ⟨by omega, ?_⟩
              cases hh : lAhead y.b e.b
              · rfl
              · rw [ahead_trans hh hq.2] at h3; exact absurd h3 (by simp)
        · refine ⟨e'.b, e'.n, Or.inr ⟨e', List.mem_cons_of_mem _ he', rfl, rfl, fun y hy => ?_⟩⟩
          rcases List.mem_cons.1 hy with rfl | hy
          · by_cases hh : y.n = e'.n
            · right
              refine ⟨hh, ?_⟩
              cases hz : lAhead y.b e'.b
              · rfl
              · exact absurd ⟨hh, hz⟩ hq
            · left; omega
          · exact hall y hy
end Go.Proofs.Ytdeedabhgfmgjaa.Bs


set_option linter.unusedVariables false
set_option linter.unusedSimpArgs false
namespace Go.Proofs.Ytdeedabhgfmgjaa.Ev
open Go Go.RowKit
abbrev VcF := List Value → Option Blk → Option (Value × List Prop)
noncomputable def vcSum (F : VcF) : List Value → Heap → Nat → Option Res := fun args H nm =>
  match canL can1 args 0 with
  | some (ar, []) => match F ar none with
    | some (v, ob) => some ⟨v, [], [], ob⟩
    | none => none
  | some (ar, [k]) => match H k with
    | some b => match F ar (some b) with
      | some (v, ob) => some ⟨v, [], [k], b.plain :: ob⟩
      | none => none
    | none => none
  | _ => none
theorem apU_same {H : Heap} {k : Nat} {b : Blk} (h : H k = some b) : apU (usOf [(0, k)] (assocN [0] [b])) H = H := by
  funext j
  have := apU_usOf (H1 := assocN [0] [b]) (pr := [(0, k)]) (H := H) (k := j) (by simp)
  by_cases hj : j = k
  · subst hj
    rw [this.1 0 (by simp), h]
    rfl
  · exact this.2 fun i hi => hj (by simp at hi; exact hi.2)
theorem vcSum_ok {P : Program} {f : FuncId} (he : Enters P f) {F : VcF}
    (h0 : ∀ ar v ob, F ar none = some (v, ob) → (∀ p ∈ ob, p) → (∀ g, rn g v = v) ∧ (∀ g1 g2 : Nm, ren g1 v = ren g2 v) ∧ CallSpec P f ar (assocN [] []) 0 v (assocN [] []))
    (h1 : ∀ ar b v ob, F ar (some b) = some (v, ob) → (∀ p ∈ ob, p) → b.plain → (∀ g, rn g v = v) ∧ (∀ g1 g2 : Nm, ren g1 v = ren g2 v) ∧ CallSpec P f ar (assocN [0] [b]) 1 v (assocN [0] [b])) : SumOK P f (vcSum F) := by
  refine ⟨he, ?_, ?_⟩
  · intro args H nm r hr hob M w0 g B w hH hargs hn
    unfold vcSum at hr
    split at hr
    · rename_i ar hc
      split at hr
      · rename_i v ob hF
        simp only [Option.some.injEq] at hr
        subst hr
        obtain ⟨e1, e2, e3⟩ := h0 ar v ob hF hob
        obtain ⟨c1, c2⟩ := canL_ok can1_ok hc
        have := spec_calls (old := []) (new := []) (H := H) (nm := nm) e3 (by simp) (by simp) (fun j k hjk => by simp at hjk) (fun j b hb => by simp [assocN] at hb) (fun m k hmk => by simp at hmk) (fun j k hjk => by simp at hjk)
          (fun g1 g2 _ => e2 g1 g2) (fun u hu g1 g2 _ => ren_names fun j hj => absurd (c2 u hu j hj) (by simp)) hH hn
        rw [c1 (look []) (fun j k hj => by simp at hj)] at this
        rw [e1] at this
        exact this
      · simp at hr
    · rename_i ar k hc
      split at hr
      · rename_i b hb
        split at hr
        · rename_i v ob hF
          simp only [Option.some.injEq] at hr
          subst hr
          have hpl : b.plain := hob _ (List.mem_cons_self ..)
          obtain ⟨e1, e2, e3⟩ := h1 ar b v ob hF (fun p hp => hob p (List.mem_cons_of_mem _ hp)) hpl
          obtain ⟨c1, c2⟩ := canL_ok can1_ok hc
          have := spec_calls (old := [(0, k)]) (new := []) (H := H) (nm := nm) e3 (by simp) (by simp)
            (fun j l hjl => by simp at hjl; obtain ⟨rfl, rfl⟩ := hjl; exact ⟨Nat.zero_lt_one, b, hb, rfl, hpl⟩)
            (fun j c hc => by
              have : j = 0 := by
                simp only [assocN] at hc
                cases hz : Nat.beq j 0
                · rw [hz] at hc; simp at hc
                · exact Nat.eq_of_beq_eq_true hz
              subst this; exact ⟨k, by simp⟩)
            (fun m l hml => by simp at hml)
            (fun j l hjl c hcc => by
              simp at hjl; obtain ⟨rfl, rfl⟩ := hjl
              have hc' : some b = some c := hcc
              injection hc' with this
              exact ⟨this ▸ hpl, fun hw => ⟨c, by rw [← this]; rfl, hw⟩⟩)
            (fun g1 g2 _ => e2 g1 g2)
            (fun u hu g1 g2 ag => ren_names fun j hj => by
              have := c2 u hu j hj
              have hj0 : j = 0 := by simp at this; omega
              subst hj0
              exact ag 0 k (by simp)) hH hn
          have hlk : At (look [(0, k)]) 0 [k] := fun j l hj => by
            cases j with
            | zero => simp at hj; subst hj; rfl
            | succ j => simp at hj
          rw [c1 _ hlk, e1, List.append_nil, apU_same hb] at this
          exact this
        · simp at hr
      · simp at hr
    · simp at hr
  · intro args H nm r hr H' hH'
    unfold vcSum at hr ⊢
    split at hr
    · rename_i ar hc
      exact hr
    · rename_i ar k hc
      split at hr
      · rename_i b hb
        split at hr
        · rename_i v ob hF
          simp only [Option.some.injEq] at hr
          have : H' k = H k := hH' k (by rw [← hr]; simp)
          simp only [this, hb, hF, hr]
        · simp at hr
      · simp at hr
    · simp at hr
end Go.Proofs.Ytdeedabhgfmgjaa.Ev


set_option linter.unusedVariables false
set_option linter.unusedSimpArgs false
set_option maxRecDepth 100000
namespace Go.Proofs.Ytdeedabhgfmgjaa.Bs
open Go Go.RowKit Go.Proofs.Ytdeedabhgfmgjaa.Ev Go.Proofs.Ytdeedabhgfmgjaa.Bs

structure LGS where
  seen : List Nat
  x : Bx
  n : Int
def Z0 : Bx := ⟨0, 0, 0, 0, 0, 0, 0, 0, 0, 0⟩
def fLg (l : List EB) (c : Nat) (Q : LGS → Prop) : LoopF LGS where
  ts _ := [2, 4, 5, 9]
  hs _ := [0, 10, 11, 12]
  tv _ := fun ⟨seen, x, n⟩ => [.pointer (some ⟨10, 0, none⟩), .pointer (some ⟨11, 0, none⟩), .int .i64 n, .pointer (some ⟨12, 0, none⟩)]
  hv _ := fun ⟨seen, x, n⟩ => [.map L10 true (some .i64) (esB l) c, .cells Z0.cs 25, .cells x.cs 25, .it 0 c seen c]
  inv _ := Q
  mu _ := fun ⟨seen, x, n⟩ => l.length - seen.length
  nx := 20
theorem fLg_ok (l : List EB) (c : Nat) (Q : LGS → Prop) : (fLg l c Q).OK 1 := by
  refine ⟨(by decide : 1 ≤ 20), fun z i h k hk => ?_, fun z i h v hv k hk => ?_, fun z i h x hx => ?_⟩
  · show k < 20
    simp [fLg] at hk; omega
  · show k < 20
    simp [fLg] at hv
    repeat' (refine Or.elim hv (fun hv => ?_) (fun hv => ?_))
    all_goals (subst hv; simp [nms, nm1, nm0] at hk; try omega)
  · simp [fLg] at hx
    rcases hx with rfl | rfl | rfl | rfl
    · trivial
    · exact Blk.plain.namesLt (b := .cells _ _) (eBox.pl _) _
    · exact Blk.plain.namesLt (b := .cells _ _) (eBox.pl _) _
    · show 0 < 20; omega
noncomputable def t_bah : Sums := upd t_none 39 (some (sumOf bah_F))
theorem t_bah_ok : SumsOK Try.prog t_bah := sums_cons t_none_ok bah_sum
end Go.Proofs.Ytdeedabhgfmgjaa.Bs


set_option linter.unusedVariables false
set_option linter.unusedSimpArgs false
set_option maxRecDepth 100000
namespace Go.Proofs.Ytdeedabhgfmgjaa.Bs
open Go Go.RowKit Go.Proofs.Ytdeedabhgfmgjaa.Ev Go.Proofs.Ytdeedabhgfmgjaa.Bs

theorem lgIn (l : List EB) (c : Nat) (Q : LGS → Prop)  {E : Env} {rv : Value} {rhs : List Nat} {rhv : List Blk} (hE : EnvOK E Try.prog Try.f33 1 1 rv rhs rhv) (hL : (fLg l c Q).OK 1) (hob : all ([SameK (atLp (lp Try.f33 0)) (atLp (lp Try.f33 0)), Enter (fLg l c Q) 0 none [Value.pointer (some (Addr.mk 1 0 none)), Value.pointer (some (Addr.mk 9 0 none)), Value.int IntKind.i64 ((0 : Int)), Value.pointer (some (Addr.mk 21 0 none))] [Blk.map [some IntKind.i64, some IntKind.i64, some IntKind.i64, some IntKind.i64, some IntKind.i64, some IntKind.i64, some IntKind.i64, some IntKind.i64, some IntKind.i64, some IntKind.i64] true (some IntKind.i64) (esB l) c, Blk.cells [Value.int IntKind.i64 ((0 : Int)), Value.int IntKind.i64 ((0 : Int)), Value.int IntKind.i64 ((0 : Int)), Value.int IntKind.i64 ((0 : Int)), Value.int IntKind.i64 ((0 : Int)), Value.int IntKind.i64 ((0 : Int)), Value.int IntKind.i64 ((0 : Int)), Value.int IntKind.i64 ((0 : Int)), Value.int IntKind.i64 ((0 : Int)), Value.int IntKind.i64 ((0 : Int))] 25, Blk.cells [Value.int IntKind.i64 ((0 : Int)), Value.int IntKind.i64 ((0 : Int)), Value.int IntKind.i64 ((0 : Int)), Value.int IntKind.i64 ((0 : Int)), Value.int IntKind.i64 ((0 : Int)), Value.int IntKind.i64 ((0 : Int)), Value.int IntKind.i64 ((0 : Int)), Value.int IntKind.i64 ((0 : Int)), Value.int IntKind.i64 ((0 : Int)), Value.int IntKind.i64 ((0 : Int))] 25, Blk.it 0 c [] c] [(10, 1), (11, 9), (12, 21)]])) (hK : ∀ zz, (fLg l c Q).inv 0 zz → ltO ((fLg l c Q).mu 0 zz) none → Sat E (atLp (lp Try.f33 0)) ((fLg l c Q).st 0 zz)) : Sat E [.code (bodyOf Try.f33)] (st0 Try.f33 [.map (some 0)] (assocN [0] [.map L10 true (some .i64) (esB l) c]) 1) :=
  by_to (T := auto0 t_bah) (h := hints []) (ws := [.stop]) (i0 := ⟨[], Z0, 0⟩) hE hm (auto0_ok t_bah_ok) hL (by kernel_rfl) hob hK
theorem lgG (l : List EB) (c : Nat) (Q : LGS → Prop) (seen : List Nat) (x b : Bx) (n k : Int) (s : Nat) (J : Act → World → Prop) {E : Env} {rv : Value} {rhs : List Nat} {rhv : List Blk} (hE : EnvOK E Try.prog Try.f33 1 1 rv rhs rhv) (hL : (fLg l c Q).OK 1) (hob : all ([SameK (mkLp (lp Try.f33 0) J) (mkLp (lp Try.f33 0) J), Enter (fLg l c Q) 0 (some (l.length - seen.length)) [Value.pointer (some (Addr.mk 10 0 none)), Value.pointer (some (Addr.mk 11 0 none)), Value.int IntKind.i64 k, Value.pointer (some (Addr.mk 12 0 none))] [Blk.map [some IntKind.i64, some IntKind.i64, some IntKind.i64, some IntKind.i64, some IntKind.i64, some IntKind.i64, some IntKind.i64, some IntKind.i64, some IntKind.i64, some IntKind.i64] true (some IntKind.i64) (esB l) c, Blk.cells [Value.int IntKind.i64 ((0 : Int)), Value.int IntKind.i64 ((0 : Int)), Value.int IntKind.i64 ((0 : Int)), Value.int IntKind.i64 ((0 : Int)), Value.int IntKind.i64 ((0 : Int)), Value.int IntKind.i64 ((0 : Int)), Value.int IntKind.i64 ((0 : Int)), Value.int IntKind.i64 ((0 : Int)), Value.int IntKind.i64 ((0 : Int)), Value.int IntKind.i64 ((0 : Int))] 25, Blk.cells [Value.int IntKind.i64 b.a0, Value.int IntKind.i64 b.b0, Value.int IntKind.i64 b.a1, Value.int IntKind.i64 b.b1, Value.int IntKind.i64 b.a2, Value.int IntKind.i64 b.b2, Value.int IntKind.i64 b.a3, Value.int IntKind.i64 b.b3, Value.int IntKind.i64 b.a4, Value.int IntKind.i64 b.b4] 25, Blk.it 0 c (seen ++ [(EB.mk b k s).ent.snd.snd]) c] [(10, 10), (11, 11), (12, 12)], Value.bool (decide (k > n)) = Value.bool true, EntryOK (esB l) (seen ++ [(EB.mk b k s).ent.snd.snd]) c c (Value.tuple (Array.mk [Value.agg (Array.mk [Value.int IntKind.i64 b.a0, Value.int IntKind.i64 b.b0, Value.int IntKind.i64 b.a1, Value.int IntKind.i64 b.b1, Value.int IntKind.i64 b.a2, Value.int IntKind.i64 b.b2, Value.int IntKind.i64 b.a3, Value.int IntKind.i64 b.b3, Value.int IntKind.i64 b.a4, Value.int IntKind.i64 b.b4]), Value.int IntKind.i64 k]))])) (hK : ∀ zz, (fLg l c Q).inv 0 zz → ltO ((fLg l c Q).mu 0 zz) (some (l.length - seen.length)) → Sat E (mkLp (lp Try.f33 0) J) ((fLg l c Q).st 0 zz)) : Sat E (afterN (inLp (lp Try.f33 0) J)) (stYes ((fLg l c Q).st 0 ⟨seen, x, n⟩) 10 11 12 0 c seen c (EB.ent ⟨b, k, s⟩)) :=
  by_to (T := auto0 t_bah) (h := hints [(5, 0, {o := some (.tuple ⟨[kB b, .int .i64 k]⟩)}), (6, 2, ht true)]) (ws := []) (i0 := ⟨seen ++ [s], b, k⟩) hE hm (auto0_ok t_bah_ok) hL (by kernel_rfl) hob hK
theorem lgE (l : List EB) (c : Nat) (Q : LGS → Prop) (seen : List Nat) (x b : Bx) (n k : Int) (s : Nat) (J : Act → World → Prop) {E : Env} {rv : Value} {rhs : List Nat} {rhv : List Blk} (hE : EnvOK E Try.prog Try.f33 1 1 rv rhs rhv) (hL : (fLg l c Q).OK 1) (hob : all ([SameK (mkLp (lp Try.f33 0) J) (mkLp (lp Try.f33 0) J), Enter (fLg l c Q) 0 (some (l.length - seen.length)) [Value.pointer (some (Addr.mk 10 0 none)), Value.pointer (some (Addr.mk 11 0 none)), Value.int IntKind.i64 k, Value.pointer (some (Addr.mk 12 0 none))] [Blk.map [some IntKind.i64, some IntKind.i64, some IntKind.i64, some IntKind.i64, some IntKind.i64, some IntKind.i64, some IntKind.i64, some IntKind.i64, some IntKind.i64, some IntKind.i64] true (some IntKind.i64) (esB l) c, Blk.cells [Value.int IntKind.i64 ((0 : Int)), Value.int IntKind.i64 ((0 : Int)), Value.int IntKind.i64 ((0 : Int)), Value.int IntKind.i64 ((0 : Int)), Value.int IntKind.i64 ((0 : Int)), Value.int IntKind.i64 ((0 : Int)), Value.int IntKind.i64 ((0 : Int)), Value.int IntKind.i64 ((0 : Int)), Value.int IntKind.i64 ((0 : Int)), Value.int IntKind.i64 ((0 : Int))] 25, Blk.cells [Value.int IntKind.i64 b.a0, Value.int IntKind.i64 b.b0, Value.int IntKind.i64 b.a1, Value.int IntKind.i64 b.b1, Value.int IntKind.i64 b.a2, Value.int IntKind.i64 b.b2, Value.int IntKind.i64 b.a3, Value.int IntKind.i64 b.b3, Value.int IntKind.i64 b.a4, Value.int IntKind.i64 b.b4] 25, Blk.it 0 c (seen ++ [(EB.mk b k s).ent.snd.snd]) c] [(10, 10), (11, 11), (12, 12)], Value.bool (lAhead (Bx.mk b.a0 b.b0 b.a1 b.b1 b.a2 b.b2 b.a3 b.b3 b.a4 b.b4) (Bx.mk x.a0 x.b0 x.a1 x.b1 x.a2 x.b2 x.a3 x.b3 x.a4 x.b4)) = Value.bool true, Value.bool (k == n) = Value.bool true, Value.bool (decide (k > n)) = Value.bool false, EntryOK (esB l) (seen ++ [(EB.mk b k s).ent.snd.snd]) c c (Value.tuple (Array.mk [Value.agg (Array.mk [Value.int IntKind.i64 b.a0, Value.int IntKind.i64 b.b0, Value.int IntKind.i64 b.a1, Value.int IntKind.i64 b.b1, Value.int IntKind.i64 b.a2, Value.int IntKind.i64 b.b2, Value.int IntKind.i64 b.a3, Value.int IntKind.i64 b.b3, Value.int IntKind.i64 b.a4, Value.int IntKind.i64 b.b4]), Value.int IntKind.i64 k]))])) (hK : ∀ zz, (fLg l c Q).inv 0 zz → ltO ((fLg l c Q).mu 0 zz) (some (l.length - seen.length)) → Sat E (mkLp (lp Try.f33 0) J) ((fLg l c Q).st 0 zz)) : Sat E (afterN (inLp (lp Try.f33 0) J)) (stYes ((fLg l c Q).st 0 ⟨seen, x, n⟩) 10 11 12 0 c seen c (EB.ent ⟨b, k, s⟩)) :=
  by_to (T := auto0 t_bah) (h := hints [(5, 0, {o := some (.tuple ⟨[kB b, .int .i64 k]⟩)}), (6, 2, ht false), (6, 6, ht true), (6, 10, {v := some (.bool true)})]) (ws := []) (i0 := ⟨seen ++ [s], b, k⟩) hE hm (auto0_ok t_bah_ok) hL (by kernel_rfl) hob hK
theorem lgN (l : List EB) (c : Nat) (Q : LGS → Prop) (seen : List Nat) (x b : Bx) (n k : Int) (s : Nat) (J : Act → World → Prop) {E : Env} {rv : Value} {rhs : List Nat} {rhv : List Blk} (hE : EnvOK E Try.prog Try.f33 1 1 rv rhs rhv) (hL : (fLg l c Q).OK 1) (hob : all ([SameK (mkLp (lp Try.f33 0) J) (mkLp (lp Try.f33 0) J), Enter (fLg l c Q) 0 (some (l.length - seen.length)) [Value.pointer (some (Addr.mk 10 0 none)), Value.pointer (some (Addr.mk 11 0 none)), Value.int IntKind.i64 n, Value.pointer (some (Addr.mk 12 0 none))] [Blk.map [some IntKind.i64, some IntKind.i64, some IntKind.i64, some IntKind.i64, some IntKind.i64, some IntKind.i64, some IntKind.i64, some IntKind.i64, some IntKind.i64, some IntKind.i64] true (some IntKind.i64) (esB l) c, Blk.cells [Value.int IntKind.i64 ((0 : Int)), Value.int IntKind.i64 ((0 : Int)), Value.int IntKind.i64 ((0 : Int)), Value.int IntKind.i64 ((0 : Int)), Value.int IntKind.i64 ((0 : Int)), Value.int IntKind.i64 ((0 : Int)), Value.int IntKind.i64 ((0 : Int)), Value.int IntKind.i64 ((0 : Int)), Value.int IntKind.i64 ((0 : Int)), Value.int IntKind.i64 ((0 : Int))] 25, Blk.cells [Value.int IntKind.i64 x.a0, Value.int IntKind.i64 x.b0, Value.int IntKind.i64 x.a1, Value.int IntKind.i64 x.b1, Value.int IntKind.i64 x.a2, Value.int IntKind.i64 x.b2, Value.int IntKind.i64 x.a3, Value.int IntKind.i64 x.b3, Value.int IntKind.i64 x.a4, Value.int IntKind.i64 x.b4] 25, Blk.it 0 c (seen ++ [(EB.mk b k s).ent.snd.snd]) c] [(10, 10), (11, 11), (12, 12)], Value.bool (k == n) = Value.bool false, Value.bool (decide (k > n)) = Value.bool false, EntryOK (esB l) (seen ++ [(EB.mk b k s).ent.snd.snd]) c c (Value.tuple (Array.mk [Value.agg (Array.mk [Value.int IntKind.i64 b.a0, Value.int IntKind.i64 b.b0, Value.int IntKind.i64 b.a1, Value.int IntKind.i64 b.b1, Value.int IntKind.i64 b.a2, Value.int IntKind.i64 b.b2, Value.int IntKind.i64 b.a3, Value.int IntKind.i64 b.b3, Value.int IntKind.i64 b.a4, Value.int IntKind.i64 b.b4]), Value.int IntKind.i64 k]))])) (hK : ∀ zz, (fLg l c Q).inv 0 zz → ltO ((fLg l c Q).mu 0 zz) (some (l.length - seen.length)) → Sat E (mkLp (lp Try.f33 0) J) ((fLg l c Q).st 0 zz)) : Sat E (afterN (inLp (lp Try.f33 0) J)) (stYes ((fLg l c Q).st 0 ⟨seen, x, n⟩) 10 11 12 0 c seen c (EB.ent ⟨b, k, s⟩)) :=
  by_to (T := auto0 t_bah) (h := hints [(5, 0, {o := some (.tuple ⟨[kB b, .int .i64 k]⟩)}), (6, 2, ht false), (6, 6, ht false)]) (ws := []) (i0 := ⟨seen ++ [s], x, n⟩) hE hm (auto0_ok t_bah_ok) hL (by kernel_rfl) hob hK
theorem lgM (l : List EB) (c : Nat) (Q : LGS → Prop) (seen : List Nat) (x b : Bx) (n k : Int) (s : Nat) (J : Act → World → Prop) {E : Env} {rv : Value} {rhs : List Nat} {rhv : List Blk} (hE : EnvOK E Try.prog Try.f33 1 1 rv rhs rhv) (hL : (fLg l c Q).OK 1) (hob : all ([SameK (mkLp (lp Try.f33 0) J) (mkLp (lp Try.f33 0) J), Enter (fLg l c Q) 0 (some (l.length - seen.length)) [Value.pointer (some (Addr.mk 10 0 none)), Value.pointer (some (Addr.mk 11 0 none)), Value.int IntKind.i64 n, Value.pointer (some (Addr.mk 12 0 none))] [Blk.map [some IntKind.i64, some IntKind.i64, some IntKind.i64, some IntKind.i64, some IntKind.i64, some IntKind.i64, some IntKind.i64, some IntKind.i64, some IntKind.i64, some IntKind.i64] true (some IntKind.i64) (esB l) c, Blk.cells [Value.int IntKind.i64 ((0 : Int)), Value.int IntKind.i64 ((0 : Int)), Value.int IntKind.i64 ((0 : Int)), Value.int IntKind.i64 ((0 : Int)), Value.int IntKind.i64 ((0 : Int)), Value.int IntKind.i64 ((0 : Int)), Value.int IntKind.i64 ((0 : Int)), Value.int IntKind.i64 ((0 : Int)), Value.int IntKind.i64 ((0 : Int)), Value.int IntKind.i64 ((0 : Int))] 25, Blk.cells [Value.int IntKind.i64 x.a0, Value.int IntKind.i64 x.b0, Value.int IntKind.i64 x.a1, Value.int IntKind.i64 x.b1, Value.int IntKind.i64 x.a2, Value.int IntKind.i64 x.b2, Value.int IntKind.i64 x.a3, Value.int IntKind.i64 x.b3, Value.int IntKind.i64 x.a4, Value.int IntKind.i64 x.b4] 25, Blk.it 0 c (seen ++ [(EB.mk b k s).ent.snd.snd]) c] [(10, 10), (11, 11), (12, 12)], Value.bool (lAhead (Bx.mk b.a0 b.b0 b.a1 b.b1 b.a2 b.b2 b.a3 b.b3 b.a4 b.b4) (Bx.mk x.a0 x.b0 x.a1 x.b1 x.a2 x.b2 x.a3 x.b3 x.a4 x.b4)) = Value.bool false, Value.bool (k == n) = Value.bool true, Value.bool (decide (k > n)) = Value.bool false, EntryOK (esB l) (seen ++ [(EB.mk b k s).ent.snd.snd]) c c (Value.tuple (Array.mk [Value.agg (Array.mk [Value.int IntKind.i64 b.a0, Value.int IntKind.i64 b.b0, Value.int IntKind.i64 b.a1, Value.int IntKind.i64 b.b1, Value.int IntKind.i64 b.a2, Value.int IntKind.i64 b.b2, Value.int IntKind.i64 b.a3, Value.int IntKind.i64 b.b3, Value.int IntKind.i64 b.a4, Value.int IntKind.i64 b.b4]), Value.int IntKind.i64 k]))])) (hK : ∀ zz, (fLg l c Q).inv 0 zz → ltO ((fLg l c Q).mu 0 zz) (some (l.length - seen.length)) → Sat E (mkLp (lp Try.f33 0) J) ((fLg l c Q).st 0 zz)) : Sat E (afterN (inLp (lp Try.f33 0) J)) (stYes ((fLg l c Q).st 0 ⟨seen, x, n⟩) 10 11 12 0 c seen c (EB.ent ⟨b, k, s⟩)) :=
  by_to (T := auto0 t_bah) (h := hints [(5, 0, {o := some (.tuple ⟨[kB b, .int .i64 k]⟩)}), (6, 2, ht false), (6, 6, ht true), (6, 10, {v := some (.bool false)})]) (ws := []) (i0 := ⟨seen ++ [s], x, n⟩) hE hm (auto0_ok t_bah_ok) hL (by kernel_rfl) hob hK
theorem lgX (l : List EB) (c : Nat) (Q : LGS → Prop) (seen : List Nat) (x : Bx) (n : Int) (J : Act → World → Prop) {E : Env} (hE : EnvOK E Try.prog Try.f33 1 1 (.tuple ⟨[.agg ⟨x.cs⟩, .int .i64 n]⟩) [0] [.map L10 true (some .i64) (esB l) c]) (hob : all ([Back (Value.tuple (Array.mk [Value.agg (Array.mk [Value.int IntKind.i64 x.a0, Value.int IntKind.i64 x.b0, Value.int IntKind.i64 x.a1, Value.int IntKind.i64 x.b1, Value.int IntKind.i64 x.a2, Value.int IntKind.i64 x.b2, Value.int IntKind.i64 x.a3, Value.int IntKind.i64 x.b3, Value.int IntKind.i64 x.a4, Value.int IntKind.i64 x.b4]), Value.int IntKind.i64 n])) (Value.tuple (Array.mk [Value.agg (Array.mk [Value.int IntKind.i64 x.a0, Value.int IntKind.i64 x.b0, Value.int IntKind.i64 x.a1, Value.int IntKind.i64 x.b1, Value.int IntKind.i64 x.a2, Value.int IntKind.i64 x.b2, Value.int IntKind.i64 x.a3, Value.int IntKind.i64 x.b3, Value.int IntKind.i64 x.a4, Value.int IntKind.i64 x.b4]), Value.int IntKind.i64 n])) [Blk.map [some IntKind.i64, some IntKind.i64, some IntKind.i64, some IntKind.i64, some IntKind.i64, some IntKind.i64, some IntKind.i64, some IntKind.i64, some IntKind.i64, some IntKind.i64] true (some IntKind.i64) (esB l) c] [Blk.map [some IntKind.i64, some IntKind.i64, some IntKind.i64, some IntKind.i64, some IntKind.i64, some IntKind.i64, some IntKind.i64, some IntKind.i64, some IntKind.i64, some IntKind.i64] true (some IntKind.i64) (esB l) c] []])) : Sat E (afterN (inLp (lp Try.f33 0) J)) (stNo ((fLg l c Q).st 0 ⟨seen, x, n⟩) 10 11) :=
  by_ret (T := auto0 t_bah) (h := hints []) (ws := []) (nx' := 1) hE hm (auto0_ok t_bah_ok) (by omega) (by simp) (by intro y hy; simp at hy; subst hy; trivial) (by kernel_rfl) hob
end Go.Proofs.Ytdeedabhgfmgjaa.Bs


set_option linter.unusedVariables false
set_option linter.unusedSimpArgs false
set_option maxRecDepth 100000
namespace Go.Proofs.Ytdeedabhgfmgjaa.Bs
open Go Go.RowKit Go.Proofs.Ytdeedabhgfmgjaa.Ev Go.Proofs.Ytdeedabhgfmgjaa.Bs

theorem nodup_len : ∀ {xs ys : List Nat}, xs.Nodup → (∀ x ∈ xs, x ∈ ys) → xs.length ≤ ys.length
  | [], _, _, _ => Nat.zero_le _
  | x :: xs, ys, hn, hs => by
    obtain ⟨h1, h2⟩ := List.nodup_cons.1 hn
    have hx := hs x (List.mem_cons_self ..)
    have := nodup_len (xs := xs) (ys := ys.erase x) h2 fun y hy => by
      have hne : y ≠ x := fun e => h1 (e ▸ hy)
      exact (List.mem_erase_of_ne hne).2 (hs y (List.mem_cons_of_mem _ hy))
    rw [List.length_erase_of_mem hx] at this
    have hpos : 1 ≤ ys.length := by cases ys with | nil => simp at hx | cons _ _ => simp
    simp only [List.length_cons]
    omega
theorem find_stamp {l : List EB} (hp : l.Pairwise fun a b => a.s < b.s) {e : EB} (he : e ∈ l) : (esB l).find? (fun x => x.2.2 == e.s) = some e.ent := by
  induction l with
  | nil => simp at he
  | cons x l ih =>
    obtain ⟨p1, p2⟩ := List.pairwise_cons.1 hp
    show List.find? _ (x.ent :: esB l) = _
    rw [List.find?_cons]
    rcases List.mem_cons.1 he with rfl | he
    · simp [EB.ent]
    · have : (x.ent.2.2 == e.s) = false := by
        rw [beq_eq_false_iff_ne]
        have := p1 e he
        show x.s ≠ e.s
        omega
      rw [this]
      exact ih p2 he
def LQ (l : List EB) : LGS → Prop := fun s => s.seen.Nodup ∧ (∀ y ∈ s.seen, y ∈ l.map (·.s)) ∧ Best l s.seen s.x s.n
theorem largest_spec {l : List EB} {c : Nat} {bx : Bx} {nn : Int} (ok : OKB l c) (hlg : LG l bx nn) (hpos : ∀ e ∈ l, 1 ≤ e.n) :
    CallSpec Try.prog 33 [.map (some 0)] (assocN [0] [.map L10 true (some .i64) (esB l) c]) 1 (.tuple ⟨[.agg ⟨bx.cs⟩, .int .i64 nn]⟩) (assocN [0] [.map L10 true (some .i64) (esB l) c]) := by
  refine spec_of_sat Try.func33 rfl fun E hE => ?_
  have okL := fLg_ok l c (LQ l)
  have rnm : ∀ (f : Nat → Nat) (es : List Ent) (c : Nat), Blk.rnB f (.map L10 true (some .i64) es c) = .map L10 true (some .i64) es c := fun f es c => rfl
  have rnb : ∀ (f : Nat → Nat) (x : Bx), Blk.rnB f (.cells x.cs 25) = .cells [.int .i64 x.a0, .int .i64 x.b0, .int .i64 x.a1, .int .i64 x.b1, .int .i64 x.a2, .int .i64 x.b2, .int .i64 x.a3, .int .i64 x.b3, .int .i64 x.a4, .int .i64 x.b4] 25 := fun f x => rfl
  have rni : ∀ (f : Nat → Nat) (k s : Nat) (x : List Nat) (c : Nat), Blk.rnB f (.it k s x c) = .it (f k) s x c := fun f k s x c => rfl
  refine lgIn l c (LQ l) hE okL ⟨rfl, ⟨⟨[], Z0, 0⟩, ⟨List.nodup_nil, fun y hy => by simp at hy, Or.inl ⟨rfl, rfl, rfl⟩⟩, trivial, rfl, by simp only [fLg, List.map_cons, List.map_nil, rnm, rnb, rni]; rfl⟩, trivial⟩ fun zz hz _ => by_loop (fLg l c (LQ l)) (lp Try.f33 0) ?_ 0 zz hz
  rintro z ⟨seen, x, n⟩ hinv J hJ
  have hinv : seen.Nodup ∧ (∀ y ∈ seen, y ∈ l.map (·.s)) ∧ Best l seen x n := hinv
  obtain ⟨q1, q2, q3⟩ := hinv
  show Sat E (inLp (lp Try.f33 0) J) ((fLg l c (LQ l)).st 0 ⟨seen, x, n⟩)
  have hEn : 11 < E.n := by rw [hE.n]; decide
  refine sat_nextB (tx := 9) (t0 := 10) (t1 := 11) (j := 12) (k := 0) (since := c) (c := c) (clock := c) (seen := seen) (lay := L10) (agg := true) (ek := some .i64) (es := esB l) (by kernel_rfl) (by omega) hEn (by kernel_rfl) (by kernel_rfl) (by kernel_rfl) (fun e he => ?_) (Nat.le_refl _) (fun hall => ?_) (fun e he hne => ?_)
  · obtain ⟨y, hy, rfl⟩ := List.mem_map.1 he
    exact ok.clock y hy
  · have := best_all q3 fun y hy => hall y.ent (List.mem_map.2 ⟨y, hy, rfl⟩)
    obtain ⟨e1, e2⟩ := lg_one hlg this
    rw [e1, e2] at hE
    exact lgX l c (LQ l) seen x n J hE ⟨⟨rfl, rfl⟩, trivial⟩
  · obtain ⟨y, hy, rfl⟩ := List.mem_map.1 he
    have hne : y.s ∉ seen := hne
    obtain ⟨b, k, s⟩ := y
    have hk1 : 1 ≤ k := hpos _ hy
    have hnd : (seen ++ [s]).Nodup := by
      rw [List.nodup_append]
      exact ⟨q1, by simp, fun a ha b hb => by simp at hb; subst hb; intro e; subst e; exact hne ha⟩
    have hsub : ∀ y ∈ seen ++ [s], y ∈ l.map (·.s) := fun y hy' => by
      rcases List.mem_append.1 hy' with h | h
      · exact q2 y h
      · simp at h; subst h; exact List.mem_map.2 ⟨_, hy, rfl⟩
    have hcnt := nodup_len hnd hsub
    rw [List.length_append, List.length_map] at hcnt
    have hcnt : seen.length + 1 ≤ l.length := hcnt
    have hmu : l.length - (seen ++ [s]).length < l.length - seen.length := by rw [List.length_append]; simp only [List.length_cons, List.length_nil]; omega
    have hfd : EntryOK (esB l) (seen ++ [s]) c c (.tuple ⟨[kB b, .int .i64 k]⟩) := ⟨rfl, EB.ent ⟨b, k, s⟩, by simp [EB.ent], find_stamp ok.borns hy, rfl⟩
    have hJ' : ∀ zz, LQ l zz → ltO (l.length - zz.seen.length) (some (l.length - seen.length)) → Sat E (mkLp (lp Try.f33 0) J) ((fLg l c (LQ l)).st 0 zz) := fun zz h1 h2 => hJ 0 zz h1 h2
    by_cases hg : k > n
    · have hb := best_gt ok q3 hy hg
      exact lgG l c (LQ l) seen x b n k s J hE okL ⟨rfl, ⟨⟨seen ++ [s], b, k⟩, ⟨hnd, hsub, hb⟩, hmu, rfl, by simp only [fLg, List.map_cons, List.map_nil, rnm, rnb, rni]; rfl⟩, (congrArg Value.bool (decide_eq_true hg)), hfd, trivial⟩ hJ'
    · have hgf : Value.bool (decide (k > n)) = .bool false := congrArg Value.bool (decide_eq_false hg)
      by_cases hq : k = n
      · have hqt : Value.bool (k == n) = .bool true := congrArg Value.bool (by simpa using hq)
        cases ha : lAhead b x
        · have hb := best_no ok q3 hy hk1 hg fun _ => ha
          exact lgM l c (LQ l) seen x b n k s J hE okL ⟨rfl, ⟨⟨seen ++ [s], x, n⟩, ⟨hnd, hsub, hb⟩, hmu, rfl, by simp only [fLg, List.map_cons, List.map_nil, rnm, rnb, rni]; rfl⟩, (congrArg Value.bool ha), hqt, hgf, hfd, trivial⟩ hJ'
        · have hb := best_eq ok q3 hy hk1 hq ha
          exact lgE l c (LQ l) seen x b n k s J hE okL ⟨rfl, ⟨⟨seen ++ [s], b, k⟩, ⟨hnd, hsub, hb⟩, hmu, rfl, by simp only [fLg, List.map_cons, List.map_nil, rnm, rnb, rni]; rfl⟩, (congrArg Value.bool ha), hqt, hgf, hfd, trivial⟩ hJ'
      · have hqf : Value.bool (k == n) = .bool false := congrArg Value.bool (by simpa using hq)
        have hb := best_no ok q3 hy hk1 hg fun h => absurd h hq
        exact lgN l c (LQ l) seen x b n k s J hE okL ⟨rfl, ⟨⟨seen ++ [s], x, n⟩, ⟨hnd, hsub, hb⟩, hmu, rfl, by simp only [fLg, List.map_cons, List.map_nil, rnm, rnb, rni]; rfl⟩, hqf, hgf, hfd, trivial⟩ hJ'
noncomputable def largest_F (l : List EB) (bx : Bx) (nn : Int) : VcF := fun xs b => match xs, b with
  | [.map (some 0)], some (.map lay true (some .i64) es c) => some (.tuple ⟨[.agg ⟨bx.cs⟩, .int .i64 nn]⟩, [lay = L10, es = esB l, OKB l c, LG l bx nn, ∀ e ∈ l, 1 ≤ e.n])
  | _, _ => none
theorem largest_sum (l : List EB) (bx : Bx) (nn : Int) : SumOK Try.prog 33 (vcSum (largest_F l bx nn)) := by
  refine vcSum_ok (en Try.func33 rfl) (fun ar v ob h hob => ?_) (fun ar b v ob h hob hpl => ?_)
  · unfold largest_F at h
    split at h <;> simp at *
  · unfold largest_F at h
    split at h
    · rename_i lay es c hb
      injection hb with hb
      subst hb
      simp only [Option.some.injEq, Prod.mk.injEq] at h
      obtain ⟨rfl, rfl⟩ := h
      obtain rfl : lay = L10 := hob _ (List.mem_cons_self ..)
      obtain rfl : es = esB l := hob _ (List.mem_cons_of_mem _ (List.mem_cons_self ..))
      refine ⟨fun g => rfl, fun g1 g2 => ren_names fun k hk => by simp [nms, nm1, nmL, nm0, Bx.cs] at hk, ?_⟩
      exact largest_spec (hob _ (List.mem_cons_of_mem _ (List.mem_cons_of_mem _ (List.mem_cons_self ..)))) (hob _ (List.mem_cons_of_mem _ (List.mem_cons_of_mem _ (List.mem_cons_of_mem _ (List.mem_cons_self ..))))) (hob _ (List.mem_cons_of_mem _ (List.mem_cons_of_mem _ (List.mem_cons_of_mem _ (List.mem_cons_of_mem _ (List.mem_cons_self ..))))))
    · simp at h
end Go.Proofs.Ytdeedabhgfmgjaa.Bs


set_option linter.unusedVariables false
set_option linter.unusedSimpArgs false
namespace Go.Proofs.Ytdeedabhgfmgjaa.BitLib
open Go Go.RowKit

theorem wrap64_id {n : Int} (h0 : -9223372036854775808 ≤ n) (h1 : n ≤ 9223372036854775807) : wrap64 n = n := by unfold wrap64; omega
theorem wrap64_eq (n : Int) : wrap64 n = IntKind.i64.wrap n := by rw [IntKind.wrap_i64]; unfold wrap64; rfl
theorem wf_i64 {n : Int} (h : (Lit.int .i64 n).wf = true) : -9223372036854775808 ≤ n ∧ n ≤ 9223372036854775807 := by
  simpa [Lit.wf, IntKind.min, IntKind.max, IntKind.signed, IntKind.bits] using h
theorem wf_u64 {n : Int} (h : (Lit.int .u64 n).wf = true) : 0 ≤ n ∧ n ≤ 18446744073709551615 := by
  simpa [Lit.wf, IntKind.min, IntKind.max, IntKind.signed, IntKind.bits] using h
theorem wrapu_id {n : Int} (h0 : 0 ≤ n) (h1 : n ≤ 18446744073709551615) : IntKind.u64.wrap n = n := by rw [IntKind.wrap_u64]; omega
theorem wrap64_range (n : Int) : -9223372036854775808 ≤ wrap64 n ∧ wrap64 n ≤ 9223372036854775807 := by unfold wrap64; omega

/-! ### 64 bits with a sign -/
theorem toInt_of (x : Int) (h0 : -9223372036854775808 ≤ x) (h1 : x ≤ 9223372036854775807) : (BitVec.ofInt 64 x).toInt = x := by
  rw [BitVec.toInt_ofInt, Int.bmod_eq_of_le] <;> omega
theorem i64_toNat (b : BitVec 64) : IntKind.i64.wrap (b.toNat : Int) = b.toInt := by
  have := b.isLt
  rw [IntKind.wrap_i64, BitVec.toInt_eq_toNat_cond]
  split <;> omega
theorem toNat_of (x : Int) : ((BitVec.ofInt 64 x).toNat : Int) = x % 18446744073709551616 := by
  rw [BitVec.toNat_ofInt]
  exact Int.toNat_of_nonneg (Int.emod_nonneg _ (by decide))
theorem neg_iff (x : Int) (h0 : -9223372036854775808 ≤ x) (h1 : x ≤ 9223372036854775807) : (BitVec.ofInt 64 x).msb = decide (x < 0) := by
  rw [BitVec.msb_eq_toInt, toInt_of x h0 h1]
theorem bits_and_i (x y : Int) : Go.bits .and .i64 x y = (BitVec.ofInt 64 x &&& BitVec.ofInt 64 y).toInt := i64_toNat _
theorem bits_or_i (x y : Int) : Go.bits .or .i64 x y = (BitVec.ofInt 64 x ||| BitVec.ofInt 64 y).toInt := i64_toNat _
theorem bits_xor_i (x y : Int) : Go.bits .xor .i64 x y = (BitVec.ofInt 64 x ^^^ BitVec.ofInt 64 y).toInt := i64_toNat _
theorem toInt_range (b : BitVec 64) : -9223372036854775808 ≤ b.toInt ∧ b.toInt ≤ 9223372036854775807 := by
  have := b.isLt
  rw [BitVec.toInt_eq_toNat_cond]
  split <;> omega
theorem and_neg {x y : Int} (hx0 : -9223372036854775808 ≤ x) (hx1 : x ≤ 9223372036854775807) (hy0 : -9223372036854775808 ≤ y) (hy1 : y ≤ 9223372036854775807) :
    Go.bits .and .i64 x y < 0 ↔ (x < 0 ∧ y < 0) := by
  rw [bits_and_i]
  have h := BitVec.msb_eq_toInt (x := BitVec.ofInt 64 x &&& BitVec.ofInt 64 y)
  rw [BitVec.msb_and, neg_iff x hx0 hx1, neg_iff y hy0 hy1] at h
  have h2 : decide ((BitVec.ofInt 64 x &&& BitVec.ofInt 64 y).toInt < 0) = true ↔ (decide (x < 0) && decide (y < 0)) = true := by rw [h]
  simpa using h2
theorem xor_neg {x y : Int} (hx0 : -9223372036854775808 ≤ x) (hx1 : x ≤ 9223372036854775807) (hy0 : -9223372036854775808 ≤ y) (hy1 : y ≤ 9223372036854775807) :
    Go.bits .xor .i64 x y < 0 ↔ ¬ (x < 0 ↔ y < 0) := by
  rw [bits_xor_i]
  have h := BitVec.msb_eq_toInt (x := BitVec.ofInt 64 x ^^^ BitVec.ofInt 64 y)
  rw [BitVec.msb_xor, neg_iff x hx0 hx1, neg_iff y hy0 hy1] at h
  have h2 : decide ((BitVec.ofInt 64 x ^^^ BitVec.ofInt 64 y).toInt < 0) = true ↔ (decide (x < 0) ^^ decide (y < 0)) = true := by rw [h]
  by_cases a : x < 0 <;> by_cases b : y < 0 <;> simpa [a, b] using h2
theorem xor_range (x y : Int) : -9223372036854775808 ≤ Go.bits .xor .i64 x y ∧ Go.bits .xor .i64 x y ≤ 9223372036854775807 := by
  rw [bits_xor_i]; exact toInt_range _
theorem pow_le {a b : Nat} (h : a ≤ b) : (2 : Int) ^ a ≤ 2 ^ b := by
  have := Nat.pow_le_pow_right (show 0 < 2 by decide) h
  exact_mod_cast this
/-- The lowest bits of a number with a sign. -/
theorem i64_low (x : Int) (w : Nat) (hw : w ≤ 63) : Go.bits .and .i64 x (2 ^ w - 1) = x % 2 ^ w := by
  have hp : (0 : Int) < 2 ^ w := Int.pow_pos (by decide)
  have hle : (2 : Int) ^ w ≤ 2 ^ 63 := pow_le hw
  have hd : (2 : Int) ^ w ∣ 18446744073709551616 := by
    have : (2 : Int) ^ 64 = 2 ^ w * 2 ^ (64 - w) := by rw [← Int.pow_add]; congr 1; omega
    exact ⟨2 ^ (64 - w), by rw [← this]; rfl⟩
  have h63 : (2 : Int) ^ 63 = 9223372036854775808 := rfl
  unfold Go.bits
  simp only
  have e1 : (BitVec.ofInt IntKind.i64.bits (2 ^ w - 1 : Int)).toNat = 2 ^ w - 1 := by
    have h := toNat_of (2 ^ w - 1)
    have e : (2 ^ w - 1 : Int) % 18446744073709551616 = 2 ^ w - 1 := Int.emod_eq_of_lt (by omega) (by omega)
    rw [e] at h
    have h' : ((BitVec.ofInt IntKind.i64.bits (2 ^ w - 1 : Int)).toNat : Int) = (2 : Int) ^ w - 1 := h
    have hn : (1 : Nat) ≤ 2 ^ w := Nat.one_le_two_pow
    have hc : ((2 ^ w - 1 : Nat) : Int) = (2 : Int) ^ w - 1 := by rw [Int.natCast_sub hn]; simp
    exact Int.ofNat.inj (h'.trans hc.symm)
  rw [BitVec.toNat_and, e1, Nat.and_two_pow_sub_one_eq_mod]
  have h2 : (((BitVec.ofInt IntKind.i64.bits x).toNat % 2 ^ w : Nat) : Int) = x % 2 ^ w := by
    rw [Int.natCast_emod]
    have := toNat_of x
    have h' : ((BitVec.ofInt IntKind.i64.bits x).toNat : Int) = x % 18446744073709551616 := this
    rw [h']
    simp only [Int.natCast_pow, Int.cast_ofNat_Int]
    exact Int.emod_emod_of_dvd _ hd
  rw [h2]
  have a0 := Int.emod_nonneg x (show (2 : Int) ^ w ≠ 0 by omega)
  have a1 := Int.emod_lt_of_pos x hp
  rw [IntKind.wrap_i64]
  omega
theorem i64_low32 (x : Int) : Go.bits .and .i64 x 4294967295 = x % 4294967296 := i64_low x 32 (by decide)
theorem i64_low1 (x : Int) : Go.bits .and .i64 x 1 = x % 2 := i64_low x 1 (by decide)
/-- An upper half and a lower one, put together. -/
theorem or_halves (h l : Int) (h0 : -2147483648 ≤ h) (h1 : h < 2147483648) (l0 : 0 ≤ l) (l1 : l < 4294967296) :
    Go.bits .or .i64 (h * 4294967296) l = h * 4294967296 + l := by
  unfold Go.bits
  simp only
  rw [BitVec.toNat_or]
  have eh : ((BitVec.ofInt IntKind.i64.bits (h * 4294967296)).toNat : Int) = (h * 4294967296) % 18446744073709551616 := toNat_of _
  have el : ((BitVec.ofInt IntKind.i64.bits l).toNat : Int) = l % 18446744073709551616 := toNat_of _
  generalize (BitVec.ofInt IntKind.i64.bits (h * 4294967296)).toNat = a at *
  generalize (BitVec.ofInt IntKind.i64.bits l).toNat = b at *
  have hb : b < 2 ^ 32 := by have : (2 : Nat) ^ 32 = 4294967296 := rfl; omega
  have ha : a % 2 ^ 32 = 0 := by have : (2 : Nat) ^ 32 = 4294967296 := rfl; rw [this]; omega
  rw [nat_join 32 a b ha hb, IntKind.wrap_i64]
  push_cast
  omega
end Go.Proofs.Ytdeedabhgfmgjaa.BitLib


set_option linter.unusedVariables false
set_option linter.unusedSimpArgs false
namespace Go.Proofs.Ytdeedabhgfmgjaa
open Go Go.RowKit
theorem below_alloc {w W : World} (h : Below w.heap.size w W) (o : Obj) : Below w.heap.size w (W.alloc o) := h.alloc h.size o
theorem below_drew {B : Nat} {w W : World} (h : Below B w W) : Below B w W.drew := ⟨h.os, h.tape, h.output, h.size, h.block⟩
/-- What was there before a call that only adds is there behind it: cells and marks. -/
theorem bcell {W w1 : World} (hb : Below W.heap.size W w1) : (∀ b o, b < W.heap.size → w1.cell? ⟨b, o, none⟩ = W.cell? ⟨b, o, none⟩) ∧ (∀ b o, b < W.heap.size → w1.frozen? ⟨b, o, none⟩ = W.frozen? ⟨b, o, none⟩) :=
  ⟨fun b o h => hb.cell (p := ⟨b, o, none⟩) h, fun b o h => hb.frozen (p := ⟨b, o, none⟩) h⟩
theorem below_call {w X w1 : World} (k : Below X.heap.size X w1) (h : Below w.heap.size w X) : Below w.heap.size w w1 := h.trans (k.mono h.size)
theorem add_plain (g j : Nat) : (⟨g, 0, none⟩ : Addr).add j = ⟨g, j, none⟩ := by unfold Addr.add; split <;> simp_all
/-- A slice reads as a list of numbers of a kind. -/
def ReadsInt (w : World) (k : IntKind) (A : Option Addr) (n : Nat) (xs : List Int) : Prop :=
  xs.length = n ∧ n ≤ 9223372036854775807 ∧ (0 < n → ∃ ad, A = some ad ∧ ∀ j, j < n → w.cell? (ad.add j) = some (.int k (xs.getD j 0)))
theorem reads_alloc (w : World) (xs : List Int) (T : TypeId) (hn : xs.length ≤ 9223372036854775807) : ReadsInt (w.alloc (.cells (xs.map (Value.int .i64)).toArray T)) .i64 (some ⟨w.heap.size, 0, none⟩) xs.length xs := by
  refine ⟨rfl, hn, fun _ => ⟨_, rfl, fun j hj => ?_⟩⟩
  rw [add_plain]
  simp [List.getD, List.getElem?_eq_getElem hj]
/-- The slice reads as these numbers, up to its length. -/
structure ReadsInts (w : World) (A : Option Addr) (n c : Nat) (zs : List Int) : Prop where
  reads : ReadsInt w .i64 A n zs
  cap : n ≤ c
theorem ReadsInts.nil {w : World} : ReadsInts w none 0 0 [] := ⟨⟨rfl, by decide, fun h => absurd h (by decide)⟩, Nat.le_refl _⟩
theorem ReadsInts.of {w : World} {x : Addr} {n c : Nat} {zs : List Int} (hl : n ≤ c) (hm : c ≤ maxLen) (hz : zs.length = c) (hcell : ∀ i, i < zs.length → w.cell? (x.add i) = some (.int .i64 (zs.getD i 0))) :
    ReadsInts w (some x) n c (zs.take n) := by
  refine ⟨⟨by simp; omega, by unfold maxLen at hm; omega, fun _ => ⟨x, rfl, fun j hj => ?_⟩⟩, hl⟩
  rw [hcell j (by omega)]
  simp [List.getD, List.getElem?_take, hj]
end Go.Proofs.Ytdeedabhgfmgjaa


set_option linter.unusedVariables false
set_option linter.unusedSimpArgs false
namespace Go.Proofs.Ytdeedabhgfmgjaa.Within
open Go Go.RowKit Go.Proofs.Ytdeedabhgfmgjaa.BitLib

theorem emod_of_tmod {n m : Int} (hm : 0 < m) : (n.tmod m < 0 → n % m = n.tmod m + m) ∧ (0 ≤ n.tmod m → n % m = n.tmod m) ∧ -m < n.tmod m ∧ n.tmod m < m := by
  have h := Int.tmod_eq_emod (a := n) (b := m)
  have h0 := Int.emod_nonneg n (show m ≠ 0 by omega)
  have h1 := Int.emod_lt_of_pos n hm
  have ha : ((m.natAbs : Nat) : Int) = m := by omega
  by_cases hc : 0 ≤ n ∨ m ∣ n
  · rw [if_pos hc] at h; omega
  · rw [if_neg hc] at h; omega
def withinS (n lo hi : Int) : Int := lo + n % (hi - lo + 1)
theorem within_range (n : Int) {lo hi : Int} (h : lo ≤ hi) : lo ≤ withinS n lo hi ∧ withinS n lo hi ≤ hi := by
  have h0 := Int.emod_nonneg n (show hi - lo + 1 ≠ 0 by omega)
  have h1 := Int.emod_lt_of_pos n (show 0 < hi - lo + 1 by omega)
  unfold withinS; omega
set_option maxHeartbeats 1000000 in
theorem within_calls (n lo hi : Int) (n0 : -9223372036854775808 ≤ n) (n1 : n ≤ 9223372036854775807) (h0 : -2305843009213693952 ≤ lo) (h1 : lo ≤ hi) (h2 : hi ≤ 2305843009213693952) (w : World) :
    Calls Try.prog 21 #[.int .i64 n, .int .i64 lo, .int .i64 hi] w fun e w' => e = .returned (.int .i64 (withinS n lo hi)) ∧ w = w' := by
  obtain ⟨t1, t2, t3, t4⟩ := emod_of_tmod (n := n) (m := hi - lo + 1) (by omega)
  have hne : ¬ hi - lo + 1 = 0 := by omega
  by_cases ht : n.tmod (hi - lo + 1) < 0
  · have HR : Hid (withinS n lo hi = lo + (n.tmod (hi - lo + 1) + hi - lo + 1)) := Lib.hid (by unfold withinS; rw [t1 ht]; omega)
    clear t1 t2
    go_enter Try.func21, Try.ntmps21
    go_wp2
    go_ret
    exact ⟨by rw [HR.out]; rfl, rfl⟩
  · have HR : Hid (withinS n lo hi = lo + n.tmod (hi - lo + 1)) := Lib.hid (by unfold withinS; rw [t2 (by omega)])
    clear t1 t2
    go_enter Try.func21, Try.ntmps21
    go_wp2
    go_ret
    exact ⟨by rw [HR.out]; rfl, rfl⟩
end Go.Proofs.Ytdeedabhgfmgjaa.Within


set_option linter.unusedVariables false
set_option linter.unusedSimpArgs false
namespace Go.Proofs.Ytdeedabhgfmgjaa.FixA
open Go Go.RowKit Go.Proofs.Ytdeedabhgfmgjaa.BitLib

theorem add_ov {a b : Int} (a0 : -9223372036854775808 ≤ a) (a1 : a ≤ 9223372036854775807) (b0 : -9223372036854775808 ≤ b) (b1 : b ≤ 9223372036854775807) :
    Go.bits .and .i64 (Go.bits .xor .i64 a (wrap64 (a + b))) (Go.bits .xor .i64 b (wrap64 (a + b))) < 0 ↔ ¬ (-9223372036854775808 ≤ a + b ∧ a + b ≤ 9223372036854775807) := by
  have hs := wrap64_range (a + b)
  have hx := xor_range a (wrap64 (a + b))
  have hy := xor_range b (wrap64 (a + b))
  rw [and_neg hx.1 hx.2 hy.1 hy.2, xor_neg a0 a1 hs.1 hs.2, xor_neg b0 b1 hs.1 hs.2]
  unfold wrap64
  omega
theorem sub_ov {a b : Int} (a0 : -9223372036854775808 ≤ a) (a1 : a ≤ 9223372036854775807) (b0 : -9223372036854775808 ≤ b) (b1 : b ≤ 9223372036854775807) :
    Go.bits .and .i64 (Go.bits .xor .i64 a b) (Go.bits .xor .i64 a (wrap64 (a - b))) < 0 ↔ ¬ (-9223372036854775808 ≤ a - b ∧ a - b ≤ 9223372036854775807) := by
  have hs := wrap64_range (a - b)
  have hx := xor_range a b
  have hy := xor_range a (wrap64 (a - b))
  rw [and_neg hx.1 hx.2 hy.1 hy.2, xor_neg a0 a1 b0 b1, xor_neg a0 a1 hs.1 hs.2]
  unfold wrap64
  omega

def fits (n : Int) : Bool := decide (-9223372036854775808 ≤ n ∧ n ≤ 9223372036854775807)
/-- A number, where it is one of 64 bits; else 0. -/
def told (n : Int) : Int := if -9223372036854775808 ≤ n ∧ n ≤ 9223372036854775807 then n else 0
theorem fits_yes {n : Int} (h0 : -9223372036854775808 ≤ n) (h1 : n ≤ 9223372036854775807) : fits n = true := decide_eq_true ⟨h0, h1⟩
theorem fits_no {n : Int} (h : ¬ (-9223372036854775808 ≤ n ∧ n ≤ 9223372036854775807)) : fits n = false := decide_eq_false h
theorem told_yes {n : Int} (h0 : -9223372036854775808 ≤ n) (h1 : n ≤ 9223372036854775807) : told n = n := if_pos ⟨h0, h1⟩
theorem told_no {n : Int} (h : ¬ (-9223372036854775808 ≤ n ∧ n ≤ 9223372036854775807)) : told n = 0 := if_neg h

set_option maxHeartbeats 400000 in
theorem add_calls (a b : Int) (a0 : -9223372036854775808 ≤ a) (a1 : a ≤ 9223372036854775807) (b0 : -9223372036854775808 ≤ b) (b1 : b ≤ 9223372036854775807) (w : World) :
    Calls Try.prog 38 #[.int .i64 a, .int .i64 b] w fun e w' => e = .returned (.tuple #[.int .i64 (told (a + b)), .bool (fits (a + b))]) ∧ w = w' := by
  by_cases h : -9223372036854775808 ≤ a + b ∧ a + b ≤ 9223372036854775807
  · have ho := mt (add_ov a0 a1 b0 b1).1 (fun hn => hn h)
    rw [wrap64_id h.1 h.2] at ho
    obtain ⟨h0, h1⟩ := h
    rw [told_yes h0 h1, fits_yes h0 h1]
    go_enter Try.func38, Try.ntmps38
    go_wp2
    go_ret2
    exact ⟨rfl, rfl⟩
  · have ho := (add_ov a0 a1 b0 b1).2 h
    rw [told_no h, fits_no h]
    clear h
    go_enter Try.func38, Try.ntmps38
    go_wp2
    go_ret2
    exact ⟨rfl, rfl⟩

set_option maxHeartbeats 400000 in
theorem sub_calls (a b : Int) (a0 : -9223372036854775808 ≤ a) (a1 : a ≤ 9223372036854775807) (b0 : -9223372036854775808 ≤ b) (b1 : b ≤ 9223372036854775807) (w : World) :
    Calls Try.prog 37 #[.int .i64 a, .int .i64 b] w fun e w' => e = .returned (.tuple #[.int .i64 (told (a - b)), .bool (fits (a - b))]) ∧ w = w' := by
  by_cases h : -9223372036854775808 ≤ a - b ∧ a - b ≤ 9223372036854775807
  · have ho := mt (sub_ov a0 a1 b0 b1).1 (fun hn => hn h)
    rw [wrap64_id h.1 h.2] at ho
    obtain ⟨h0, h1⟩ := h
    rw [told_yes h0 h1, fits_yes h0 h1]
    go_enter Try.func37, Try.ntmps37
    go_wp2
    go_ret2
    exact ⟨rfl, rfl⟩
  · have ho := (sub_ov a0 a1 b0 b1).2 h
    rw [told_no h, fits_no h]
    clear h
    go_enter Try.func37, Try.ntmps37
    go_wp2
    go_ret2
    exact ⟨rfl, rfl⟩
end Go.Proofs.Ytdeedabhgfmgjaa.FixA


set_option linter.unusedVariables false
set_option linter.unusedSimpArgs false
set_option maxRecDepth 100000
namespace Go.Proofs.Ytdeedabhgfmgjaa.SpanE
open Go Go.RowKit Go.Proofs.Ytdeedabhgfmgjaa.Ev
def ofLo (lo hi : Int) : Int := bif decide (lo > hi) then 1 else lo
def ofHi (lo hi : Int) : Int := bif decide (lo > hi) then 0 else hi
def of_F : List Value → Option (Value × List Prop)
  | [.int .i64 lo, .int .i64 hi] => some (sp (ofLo lo hi) (ofHi lo hi), [])
  | _ => none
theorem of_sum : SumOK Try.prog 35 (sumOf of_F) := by
  refine sumOf_ok (en Try.func35 rfl) fun args v ob h hob => ?_
  unfold of_F at h
  split at h
  · obtain ⟨rfl, rfl⟩ := Prod.mk.inj (Option.some.inj h)
    exact calls_run0 hm (auto0_ok t_none_ok) noHint [.fork] (by kernel_rfl)
  · exact absurd h (by simp)
noncomputable def t_of : Sums := upd t_none 35 (some (sumOf of_F))
theorem t_of_ok : SumsOK Try.prog t_of := sums_cons t_none_ok of_sum
def has_F : List Value → Option (Value × List Prop)
  | [.agg ⟨[.int .i64 a, .int .i64 b]⟩, .int .i64 n] => some (.bool (decide (a ≤ n) && decide (n ≤ b)), [])
  | _ => none
theorem has_sum : SumOK Try.prog 25 (sumOf has_F) := by
  refine sumOf_ok (en Try.func25 rfl) fun args v ob h hob => ?_
  unfold has_F at h
  split at h
  · rename_i a b n
    obtain ⟨rfl, rfl⟩ := Prod.mk.inj (Option.some.inj h)
    clear h
    cases h : decide (a ≤ n)
    · exact calls_runO hm (auto0_ok t_of_ok) (hints [(1, 3, ht false)]) [] [bb (decide (a ≤ n)) false] (by kernel_rfl) ⟨bb_of h, trivial⟩
    · exact calls_runO hm (auto0_ok t_of_ok) (hints [(1, 3, ht true)]) [] [bb (decide (a ≤ n)) true] (by kernel_rfl) ⟨bb_of h, trivial⟩
  · exact absurd h (by simp)
noncomputable def t_has : Sums := upd t_of 25 (some (sumOf has_F))
theorem t_has_ok : SumsOK Try.prog t_has := sums_cons t_of_ok has_sum
def empty_F : List Value → Option (Value × List Prop)
  | [.agg ⟨[.int .i64 a, .int .i64 b]⟩] => some (.bool (decide (a > b)), [])
  | _ => none
theorem empty_sum : SumOK Try.prog 23 (sumOf empty_F) := by
  refine sumOf_ok (en Try.func23 rfl) fun args v ob h hob => ?_
  unfold empty_F at h
  split at h
  · rename_i a b
    obtain ⟨rfl, rfl⟩ := Prod.mk.inj (Option.some.inj h)
    clear h
    exact calls_run0 hm (auto0_ok t_has_ok) noHint [] (by kernel_rfl)
  · exact absurd h (by simp)
noncomputable def t_empty : Sums := upd t_has 23 (some (sumOf empty_F))
theorem t_empty_ok : SumsOK Try.prog t_empty := sums_cons t_has_ok empty_sum
def meetLo (a b c d : Int) : Int := ofLo (maxI a c) (minI b d)
def meetHi (a b c d : Int) : Int := ofHi (maxI a c) (minI b d)
def meet_F : List Value → Option (Value × List Prop)
  | [.agg ⟨[.int .i64 a, .int .i64 b]⟩, .agg ⟨[.int .i64 c, .int .i64 d]⟩] => some (sp (meetLo a b c d) (meetHi a b c d), [])
  | _ => none
theorem meet_sum : SumOK Try.prog 20 (sumOf meet_F) := by
  refine sumOf_ok (en Try.func20 rfl) fun args v ob h hob => ?_
  unfold meet_F at h
  split at h
  · obtain ⟨rfl, rfl⟩ := Prod.mk.inj (Option.some.inj h)
    exact calls_run0 hm (auto0_ok t_empty_ok) noHint [] (by kernel_rfl)
  · exact absurd h (by simp)
noncomputable def t_meet : Sums := upd t_empty 20 (some (sumOf meet_F))
theorem t_meet_ok : SumsOK Try.prog t_meet := sums_cons t_empty_ok meet_sum
def within_F : List Value → Option (Value × List Prop)
  | [.agg ⟨[.int .i64 a, .int .i64 b]⟩, .agg ⟨[.int .i64 c, .int .i64 d]⟩] => some (.bool (decide (a > b) || (decide (c ≤ a) && decide (b ≤ d))), [])
  | _ => none
theorem within_sum : SumOK Try.prog 24 (sumOf within_F) := by
  refine sumOf_ok (en Try.func24 rfl) fun args v ob h hob => ?_
  unfold within_F at h
  split at h
  · rename_i a b c d
    obtain ⟨rfl, rfl⟩ := Prod.mk.inj (Option.some.inj h)
    clear h
    cases h : decide (a > b)
    · cases h2 : decide (c ≤ a)
      · exact calls_runO hm (auto0_ok t_meet_ok) (hints [(1, 1, ht false), (1, 7, ht false)]) [] [bb (decide (c ≤ a)) false, bb (decide (a > b)) false] (by kernel_rfl) ⟨bb_of h2, bb_of h, trivial⟩
      · exact calls_runO hm (auto0_ok t_meet_ok) (hints [(1, 1, ht false), (1, 7, ht true)]) [] [bb (decide (c ≤ a)) true, bb (decide (a > b)) false] (by kernel_rfl) ⟨bb_of h2, bb_of h, trivial⟩
    · exact calls_runO hm (auto0_ok t_meet_ok) (hints [(1, 1, ht true)]) [] [bb (decide (a > b)) true] (by kernel_rfl) ⟨bb_of h, trivial⟩
  · exact absurd h (by simp)
noncomputable def t_within : Sums := upd t_meet 24 (some (sumOf within_F))
theorem t_within_ok : SumsOK Try.prog t_within := sums_cons t_meet_ok within_sum
def cutLo (a b n : Int) : Int := ofLo a (minI b n)
def cutHi (a b n : Int) : Int := ofHi a (minI b n)
def cutLo' (a b n : Int) : Int := bif decide (n ≥ b) then 1 else ofLo (maxI a (n + 1)) b
def cutHi' (a b n : Int) : Int := bif decide (n ≥ b) then 0 else ofHi (maxI a (n + 1)) b
def cut_F : List Value → Option (Value × List Prop)
  | [.agg ⟨[.int .i64 a, .int .i64 b]⟩, .int .i64 n] => some (.tuple ⟨[sp (cutLo a b n) (cutHi a b n), sp (cutLo' a b n) (cutHi' a b n)]⟩, [I64 n, b ≤ 9223372036854775807])
  | _ => none
theorem cut_sum : SumOK Try.prog 18 (sumOf cut_F) := by
  refine sumOf_ok (en Try.func18 rfl) fun args v ob h hob => ?_
  unfold cut_F at h
  split at h
  · rename_i a b n
    obtain ⟨rfl, rfl⟩ := Prod.mk.inj (Option.some.inj h)
    clear h
    cases h : decide (n ≥ b)
    · have hn := hob (I64 n) (by simp)
      have hb := hob (b ≤ 9223372036854775807) (by simp)
      have e1 : cutLo' a b n = ofLo (maxI a (n + 1)) b := by unfold cutLo'; rw [h]; rfl
      have e2 : cutHi' a b n = ofHi (maxI a (n + 1)) b := by unfold cutHi'; rw [h]; rfl
      rw [e1, e2]
      exact calls_runO hm (auto0_ok t_within_ok) (hints [(2, 3, ht false), (4, 4, { v := some (.int .i64 (n + 1)) })]) [] [Value.int .i64 (IntKind.i64.wrap (n + 1)) = .int .i64 (n + 1), bb (decide (n ≥ b)) false] (by kernel_rfl)
        ⟨int_eq (wrap_id ⟨by omega, by have := of_decide_eq_false h; omega⟩), bb_of h, trivial⟩
    · have e1 : cutLo' a b n = 1 := by unfold cutLo'; rw [h]; rfl
      have e2 : cutHi' a b n = 0 := by unfold cutHi'; rw [h]; rfl
      rw [e1, e2]
      exact calls_runO hm (auto0_ok t_within_ok) (hints [(2, 3, ht true)]) [] [bb (decide (n ≥ b)) true] (by kernel_rfl) ⟨bb_of h, trivial⟩
  · exact absurd h (by simp)
noncomputable def t_cut : Sums := upd t_within 18 (some (sumOf cut_F))
theorem t_cut_ok : SumsOK Try.prog t_cut := sums_cons t_within_ok cut_sum
end Go.Proofs.Ytdeedabhgfmgjaa.SpanE


set_option linter.unusedVariables false
set_option linter.unusedSimpArgs false
set_option maxRecDepth 100000
namespace Go.Proofs.Ytdeedabhgfmgjaa.SpanE
open Go Go.RowKit Go.Proofs.Ytdeedabhgfmgjaa.Ev Go.Proofs.Ytdeedabhgfmgjaa.Within
theorem minI_eq (x y : Int) : minI x y = min x y := by unfold minI; split <;> omega
theorem maxI_eq (x y : Int) : maxI x y = max x y := by unfold maxI; split <;> omega
theorem cut_cases (a b n : Int) : (cutLo a b n = 1 ∧ cutHi a b n = 0 ∧ cutLo' a b n = 1 ∧ cutHi' a b n = 0 ∧ b < a) ∨ (cutLo a b n = 1 ∧ cutHi a b n = 0 ∧ cutLo' a b n = a ∧ cutHi' a b n = b ∧ a ≤ b ∧ n < a) ∨
    (cutLo a b n = a ∧ cutHi a b n = n ∧ cutLo' a b n = n + 1 ∧ cutHi' a b n = b ∧ a ≤ b ∧ a ≤ n ∧ n < b) ∨ (cutLo a b n = a ∧ cutHi a b n = b ∧ cutLo' a b n = 1 ∧ cutHi' a b n = 0 ∧ a ≤ b ∧ b ≤ n) := by
  by_cases h1 : b < a
  · refine Or.inl ⟨?_, ?_, ?_, ?_, h1⟩ <;> first | omega | (simp only [cutLo, cutHi, cutLo', cutHi', ofLo, ofHi, minI_eq, maxI_eq, cond_eq_ite, decide_eq_true_eq] <;> (repeat' split) <;> omega)
  by_cases h2 : n < a
  · refine Or.inr (Or.inl ⟨?_, ?_, ?_, ?_, ?_, h2⟩) <;> first | omega | (simp only [cutLo, cutHi, cutLo', cutHi', ofLo, ofHi, minI_eq, maxI_eq, cond_eq_ite, decide_eq_true_eq] <;> (repeat' split) <;> omega)
  by_cases h3 : n < b
  · refine Or.inr (Or.inr (Or.inl ⟨?_, ?_, ?_, ?_, ?_, ?_, h3⟩)) <;> first | omega | (simp only [cutLo, cutHi, cutLo', cutHi', ofLo, ofHi, minI_eq, maxI_eq, cond_eq_ite, decide_eq_true_eq] <;> (repeat' split) <;> omega)
  · refine Or.inr (Or.inr (Or.inr ⟨?_, ?_, ?_, ?_, ?_, ?_⟩)) <;> first | omega | (simp only [cutLo, cutHi, cutLo', cutHi', ofLo, ofHi, minI_eq, maxI_eq, cond_eq_ite, decide_eq_true_eq] <;> (repeat' split) <;> omega)
def bring_F : List Value → Option (Value × List Prop)
  | [.int .i64 n, .int .i64 lo, .int .i64 hi] => some (.int .i64 (withinS n lo hi), [I64 n, -2305843009213693952 ≤ lo, lo ≤ hi, hi ≤ 2305843009213693952])
  | _ => none
theorem bring_sum : SumOK Try.prog 21 (sumOf bring_F) := by
  refine sumOf_ok (en Try.func21 rfl) fun args v ob h hob => ?_
  unfold bring_F at h
  split at h
  · rename_i n lo hi
    obtain ⟨rfl, rfl⟩ := Prod.mk.inj (Option.some.inj h)
    clear h
    have h1 := hob (I64 n) (by simp)
    have h2 := hob (-2305843009213693952 ≤ lo) (by simp)
    have h3 := hob (lo ≤ hi) (by simp)
    have h4 := hob (hi ≤ 2305843009213693952) (by simp)
    exact ⟨rfl, rfl, fun w => (within_calls n lo hi h1.1 h1.2 h2 h3 h4 w).mono fun e w' ⟨he, hw⟩ => ⟨he, hw ▸ Below.refl _ _⟩⟩
  · exact absurd h (by simp)
noncomputable def t_bring : Sums := upd t_cut 21 (some (sumOf bring_F))
theorem t_bring_ok : SumsOK Try.prog t_bring := sums_cons t_cut_ok bring_sum
def add_F : List Value → Option (Value × List Prop)
  | [.int .i64 a, .int .i64 b] => some (.tuple ⟨[.int .i64 (FixA.told (a + b)), .bool (FixA.fits (a + b))]⟩, [I64 a, I64 b])
  | _ => none
theorem add_sum : SumOK Try.prog 38 (sumOf add_F) := by
  refine sumOf_ok (en Try.func38 rfl) fun args v ob h hob => ?_
  unfold add_F at h
  split at h
  · rename_i a b
    obtain ⟨rfl, rfl⟩ := Prod.mk.inj (Option.some.inj h)
    clear h
    have h1 := hob (I64 a) (by simp)
    have h2 := hob (I64 b) (by simp)
    exact ⟨rfl, rfl, fun w => (FixA.add_calls a b h1.1 h1.2 h2.1 h2.2 w).mono fun e w' ⟨he, hw⟩ => ⟨he, hw ▸ Below.refl _ _⟩⟩
  · exact absurd h (by simp)
noncomputable def t_add : Sums := upd t_bring 38 (some (sumOf add_F))
theorem t_add_ok : SumsOK Try.prog t_add := sums_cons t_bring_ok add_sum
def fsub_F : List Value → Option (Value × List Prop)
  | [.int .i64 a, .int .i64 b] => some (.tuple ⟨[.int .i64 (FixA.told (a - b)), .bool (FixA.fits (a - b))]⟩, [I64 a, I64 b])
  | _ => none
theorem fsub_sum : SumOK Try.prog 37 (sumOf fsub_F) := by
  refine sumOf_ok (en Try.func37 rfl) fun args v ob h hob => ?_
  unfold fsub_F at h
  split at h
  · rename_i a b
    obtain ⟨rfl, rfl⟩ := Prod.mk.inj (Option.some.inj h)
    clear h
    have h1 := hob (I64 a) (by simp)
    have h2 := hob (I64 b) (by simp)
    exact ⟨rfl, rfl, fun w => (FixA.sub_calls a b h1.1 h1.2 h2.1 h2.2 w).mono fun e w' ⟨he, hw⟩ => ⟨he, hw ▸ Below.refl _ _⟩⟩
  · exact absurd h (by simp)
noncomputable def t_fsub : Sums := upd t_add 37 (some (sumOf fsub_F))
theorem t_fsub_ok : SumsOK Try.prog t_fsub := sums_cons t_add_ok fsub_sum
def sizeN (a b : Int) : Int := if a > b then 0 else FixA.told (b - a + 1)
def sizeB (a b : Int) : Bool := if a > b then true else FixA.fits (b - a + 1)
def size_F : List Value → Option (Value × List Prop)
  | [.agg ⟨[.int .i64 a, .int .i64 b]⟩] => some (.tuple ⟨[.int .i64 (sizeN a b), .bool (sizeB a b)]⟩, [I64 a, I64 b])
  | _ => none
theorem size_sum : SumOK Try.prog 19 (sumOf size_F) := by
  refine sumOf_ok (en Try.func19 rfl) fun args v ob h hob => ?_
  unfold size_F at h
  split at h
  · rename_i a b
    obtain ⟨rfl, rfl⟩ := Prod.mk.inj (Option.some.inj h)
    clear h
    have h1 := hob (I64 a) (by simp)
    have h2 := hob (I64 b) (by simp)
    cases h : decide (a > b)
    · have h' := of_decide_eq_false h
      have e1 : sizeN a b = FixA.told (b - a + 1) := if_neg h'
      have e2 : sizeB a b = FixA.fits (b - a + 1) := if_neg h'
      rw [e1, e2]
      cases hf : FixA.fits (b - a)
      · have hf' := of_decide_eq_false hf
        have e3 : FixA.told (b - a + 1) = 0 := if_neg (by omega)
        have e4 : FixA.fits (b - a + 1) = false := decide_eq_false (by omega)
        rw [e3, e4]
        exact calls_runO hm (auto0_ok t_fsub_ok) (hints [(1, 1, ht false), (4, 1, ht true)]) [] [bb (!FixA.fits (b - a)) true, I64 b, I64 a, bb (decide (a > b)) false] (by kernel_rfl) ⟨bb_of (by rw [hf]; rfl), h2, h1, bb_of h, trivial⟩
      · have hf' := of_decide_eq_true hf
        have e3 : FixA.told (b - a) = b - a := if_pos hf'
        exact calls_runO hm (auto0_ok t_fsub_ok) (hints [(1, 1, ht false), (3, 6, { v := some (.int .i64 (b - a)) }), (4, 1, ht false)]) [] [I64 (b - a), I64 1, bb (!FixA.fits (b - a)) false, i64 (FixA.told (b - a)) = i64 (b - a), I64 b, I64 a, bb (decide (a > b)) false] (by kernel_rfl)
          ⟨hf', by decide, bb_of (by rw [hf]; rfl), int_eq e3, h2, h1, bb_of h, trivial⟩
    · have h' := of_decide_eq_true h
      have e1 : sizeN a b = 0 := if_pos h'
      have e2 : sizeB a b = true := if_pos h'
      rw [e1, e2]
      exact calls_runO hm (auto0_ok t_fsub_ok) (hints [(1, 1, ht true)]) [] [bb (decide (a > b)) true] (by kernel_rfl) ⟨bb_of h, trivial⟩
  · exact absurd h (by simp)
noncomputable def t_size : Sums := upd t_fsub 19 (some (sumOf size_F))
theorem t_size_ok : SumsOK Try.prog t_size := sums_cons t_fsub_ok size_sum
end Go.Proofs.Ytdeedabhgfmgjaa.SpanE


set_option linter.unusedVariables false
set_option linter.unusedSimpArgs false
set_option maxRecDepth 100000
namespace Go.Proofs.Ytdeedabhgfmgjaa.SpanE
open Go Go.RowKit Go.Proofs.Ytdeedabhgfmgjaa.Ev Go.Proofs.Ytdeedabhgfmgjaa.Within
abbrev bx (a0 a1 a2 a3 a4 a5 a6 a7 a8 a9 : Int) : Value := .agg ⟨[i64 a0, i64 a1, i64 a2, i64 a3, i64 a4, i64 a5, i64 a6, i64 a7, i64 a8, i64 a9]⟩
abbrev pt (p0 p1 p2 p3 : Int) : Value := .agg ⟨[i64 p0, i64 p1, i64 p2, i64 p3]⟩
abbrev L10 : List (Option IntKind) := [some .i64, some .i64, some .i64, some .i64, some .i64, some .i64, some .i64, some .i64, some .i64, some .i64]
/-! ### Set.Add -/
noncomputable def add1 (key : Value) (es : List Ent) (c : Nat) : List Ent := mput key (i64 (mgetI key es + 1)) c es
noncomputable def addS : List Value → Heap → Nat → Option Res := fun args H nm =>
  match args with
  | [.map (some k), .agg ⟨[.int .i64 a0, .int .i64 a1, .int .i64 a2, .int .i64 a3, .int .i64 a4, .int .i64 a5, .int .i64 a6, .int .i64 a7, .int .i64 a8, .int .i64 a9]⟩] =>
    match H k with
    | some (.map lay true (some .i64) es c) => bif layEq lay L10 then
        some ⟨i64 (mgetI (bx a0 a1 a2 a3 a4 a5 a6 a7 a8 a9) es + 1), [(k, some (.map lay true (some .i64) (add1 (bx a0 a1 a2 a3 a4 a5 a6 a7 a8 a9) es c) (bif mhas (bx a0 a1 a2 a3 a4 a5 a6 a7 a8 a9) es then c else c + 1)))], [k], [I64 (mgetI (bx a0 a1 a2 a3 a4 a5 a6 a7 a8 a9) es + 1)]⟩
      else none
    | _ => none
  | _ => none
abbrev H1 (b : Blk) : Heap := upd (fun _ => none) 0 (some b)
theorem add_spec (a0 a1 a2 a3 a4 a5 a6 a7 a8 a9 : Int) (es : List Ent) (c : Nat) (ok : MapOK L10 true (some .i64) es c) (hr : I64 (mgetI (bx a0 a1 a2 a3 a4 a5 a6 a7 a8 a9) es + 1)) :
    ∃ H', CallSpec Try.prog 16 [.map (some 0), bx a0 a1 a2 a3 a4 a5 a6 a7 a8 a9] (H1 (.map L10 true (some .i64) es c)) 1 (i64 (mgetI (bx a0 a1 a2 a3 a4 a5 a6 a7 a8 a9) es + 1)) H' ∧
      H' 0 = some (.map L10 true (some .i64) (add1 (bx a0 a1 a2 a3 a4 a5 a6 a7 a8 a9) es c) (bif mhas (bx a0 a1 a2 a3 a4 a5 a6 a7 a8 a9) es then c else c + 1)) := by
  have hk : keyFits L10 true (bx a0 a1 a2 a3 a4 a5 a6 a7 a8 a9) = true := rfl
  generalize hn : mgetI (bx a0 a1 a2 a3 a4 a5 a6 a7 a8 a9) es + 1 = n at hr ⊢
  let ob : List Prop := [i64 (mgetI (bx a0 a1 a2 a3 a4 a5 a6 a7 a8 a9) (mput (bx a0 a1 a2 a3 a4 a5 a6 a7 a8 a9) (i64 n) c es)) = i64 n,
    some (i64 (mgetI (bx a0 a1 a2 a3 a4 a5 a6 a7 a8 a9) (mens (bx a0 a1 a2 a3 a4 a5 a6 a7 a8 a9) (zeroOf (some .i64)) c es))) = some (i64 (mgetI (bx a0 a1 a2 a3 a4 a5 a6 a7 a8 a9) es)),
    mborn ((mstamp (bx a0 a1 a2 a3 a4 a5 a6 a7 a8 a9) c es : Nat) : Int) (mens (bx a0 a1 a2 a3 a4 a5 a6 a7 a8 a9) (zeroOf (some .i64)) c es) = true,
    mset ((mstamp (bx a0 a1 a2 a3 a4 a5 a6 a7 a8 a9) c es : Nat) : Int) (i64 n) (mens (bx a0 a1 a2 a3 a4 a5 a6 a7 a8 a9) (zeroOf (some .i64)) c es) = mput (bx a0 a1 a2 a3 a4 a5 a6 a7 a8 a9) (i64 n) c es,
    i64 (IntKind.i64.wrap (mgetI (bx a0 a1 a2 a3 a4 a5 a6 a7 a8 a9) es + 1)) = i64 n]
  have hob : all ob := by
    refine ⟨?_, ?_, ?_, ?_, ?_, trivial⟩
    · rw [mgetI_put (keyEq_refl hk)]
    · rw [mgetI_ens]
    · exact mborn_ens hk es
    · exact mset_ens es ok.borns ok.clock
    · rw [hn, wrap_id hr]
  have hspec := spec_run (f := 16) (fn := Try.f16) (args := [.map (some 0), bx a0 a1 a2 a3 a4 a5 a6 a7 a8 a9]) (H0 := H1 (.map L10 true (some .i64) es c)) (nx := 1) hm sums_none
    (hint := hints [(1, 3, { v := some (i64 n) }), (1, 6, { e := some (mput (bx a0 a1 a2 a3 a4 a5 a6 a7 a8 a9) (i64 n) c es) }), (2, 2, { v := some (i64 n) })]) (ws := []) Try.func16 rfl (v := i64 n) (by kernel_rfl)
    (cast (by kernel_rfl : all ob = all (oOb (runH Try.prog t_none (hints [(1, 3, { v := some (i64 n) }), (1, 6, { e := some (mput (bx a0 a1 a2 a3 a4 a5 a6 a7 a8 a9) (i64 n) c es) }), (2, 2, { v := some (i64 n) })]) [] Try.f16 _ [.map (some 0), bx a0 a1 a2 a3 a4 a5 a6 a7 a8 a9] (H1 (.map L10 true (some .i64) es c)) 1))) hob)
  refine ⟨_, hspec, ?_⟩
  rw [add1, hn]
  kernel_rfl
theorem sadd_sum : SumOK Try.prog 16 addS := by
  refine ⟨en Try.func16 rfl, ?_, ?_⟩
  · intro args H nm r hr hob M w0 g B w hH hargs hn
    unfold addS at hr
    split at hr
    · rename_i k a0 a1 a2 a3 a4 a5 a6 a7 a8 a9
      split at hr
      · rename_i lay es c hb
        cases hl : layEq lay L10 <;> simp only [hl, cond_true, cond_false, reduceCtorEq, Option.some.injEq] at hr
        obtain rfl := layEq_spec hl
        subst hr
        have ok : MapOK L10 true (some .i64) es c := hH.scope k _ hb
        obtain ⟨H', hs, h0⟩ := add_spec a0 a1 a2 a3 a4 a5 a6 a7 a8 a9 es c ok (hob _ (by simp))
        have := spec_calls (old := [(0, k)]) (new := []) (nm := nm) hs (by simp) (by simp) (fun j k' h => by
            simp at h; obtain ⟨rfl, rfl⟩ := h
            exact ⟨by omega, _, hb, by simp [H1, upd_self], trivial⟩)
          (fun j b h => by
            by_cases e : j = 0
            · subst e; exact ⟨k, by simp⟩
            · simp [H1, upd_ne _ _ e] at h)
          (fun m k h => by simp at h)
          (fun j k' h b hb' => by
            simp at h; obtain ⟨rfl, rfl⟩ := h
            rw [h0] at hb'; simp at hb'; subst hb'
            exact ⟨trivial, fun _ => ⟨.map L10 true (some .i64) es c, by simp [H1, upd_self], rfl⟩⟩)
          (fun g1 g2 _ => rfl)
          (fun u hu g1 g2 hg => by
            rcases List.mem_cons.1 hu with rfl | hu
            · have := (hg 0 k (by simp)).1
              show Value.map (some (g1.blk 0)) = Value.map (some (g2.blk 0))
              rw [this]
            · simp at hu; subst hu
              exact (ren_gnd g1 rfl).trans (ren_gnd g2 rfl).symm)
          hH hn
        refine this.mono ?_
        rintro e w' ⟨g', h1, h2, h3, h4⟩
        refine ⟨g', h1, ?_, h3, h4⟩
        have e1 : usOf ([(0, k)] ++ []) H' = [(k, some (.map L10 true (some .i64) (add1 (bx a0 a1 a2 a3 a4 a5 a6 a7 a8 a9) es c) (bif mhas (bx a0 a1 a2 a3 a4 a5 a6 a7 a8 a9) es then c else c + 1)))] := by
          simp [usOf, h0]
        rw [e1] at h2; exact h2
      · simp at hr
    · simp at hr
  · intro args H nm r hr H' hH'
    unfold addS at hr ⊢
    split at hr
    · rename_i k a0 a1 a2 a3 a4 a5 a6 a7 a8 a9
      split at hr
      · rename_i lay es c hb
        cases hl : layEq lay L10 <;> simp only [hl, cond_true, cond_false, reduceCtorEq, Option.some.injEq] at hr
        subst hr
        have : H' k = H k := hH' k (by simp)
        simp only [this, hb, hl, cond_true]
      · simp at hr
    · simp at hr
noncomputable def t_sadd : Sums := upd t_size 16 (some addS)
theorem t_sadd_ok : SumsOK Try.prog t_sadd := sums_cons t_size_ok sadd_sum
/-! ### Empty, Has, Within, Cut, Whole -/
def e2 (a b : Int) : Bool := decide (a > b)
def h3 (a b n : Int) : Bool := decide (a ≤ n) && decide (n ≤ b)
def w4 (a b c d : Int) : Bool := decide (a > b) || (decide (c ≤ a) && decide (b ≤ d))
def emptyB (a0 a1 a2 a3 a4 a5 a6 a7 a8 a9 : Int) : Bool := bif e2 a0 a1 then true else bif e2 a2 a3 then true else bif e2 a4 a5 then true else bif e2 a6 a7 then true else bif e2 a8 a9 then true else false
def hasB (a0 a1 a2 a3 a4 a5 a6 a7 a8 a9 p0 p1 p2 p3 n : Int) : Bool := bif !h3 a0 a1 p0 then false else bif !h3 a2 a3 p1 then false else bif !h3 a4 a5 p2 then false else bif !h3 a6 a7 p3 then false else h3 a8 a9 n
def withinB (a0 a1 a2 a3 a4 a5 a6 a7 a8 a9 b0 b1 b2 b3 b4 b5 b6 b7 b8 b9 : Int) : Bool := bif emptyB a0 a1 a2 a3 a4 a5 a6 a7 a8 a9 then true else bif !w4 a0 a1 b0 b1 then false else bif !w4 a2 a3 b2 b3 then false else bif !w4 a4 a5 b4 b5 then false else bif !w4 a6 a7 b6 b7 then false else bif !w4 a8 a9 b8 b9 then false else true
def cL (i p a b n : Int) : Int := bif p == i then cutLo a b n else a
def cH (i p a b n : Int) : Int := bif p == i then cutHi a b n else b
def dL (i p a b n : Int) : Int := bif p == i then cutLo' a b n else a
def dH (i p a b n : Int) : Int := bif p == i then cutHi' a b n else b
def bempty_F : List Value → Option (Value × List Prop)
  | [.agg ⟨[.int .i64 a0, .int .i64 a1, .int .i64 a2, .int .i64 a3, .int .i64 a4, .int .i64 a5, .int .i64 a6, .int .i64 a7, .int .i64 a8, .int .i64 a9]⟩] => some (.bool (emptyB a0 a1 a2 a3 a4 a5 a6 a7 a8 a9), [])
  | _ => none
theorem bempty_sum : SumOK Try.prog 30 (sumOf bempty_F) := by
  refine sumOf_ok (en Try.func30 rfl) fun args v ob h hob => ?_
  unfold bempty_F at h
  split at h
  · obtain ⟨rfl, rfl⟩ := Prod.mk.inj (Option.some.inj h)
    exact calls_run0 hm (auto0_ok t_sadd_ok) noHint [.go,.go,.fork,.go,.fork,.go,.fork,.go,.fork,.go,.fork] (by kernel_rfl)
  · exact absurd h (by simp)
noncomputable def t_bempty : Sums := upd t_sadd 30 (some (sumOf bempty_F))
theorem t_bempty_ok : SumsOK Try.prog t_bempty := sums_cons t_sadd_ok bempty_sum
def bhas_F : List Value → Option (Value × List Prop)
  | [.agg ⟨[.int .i64 a0, .int .i64 a1, .int .i64 a2, .int .i64 a3, .int .i64 a4, .int .i64 a5, .int .i64 a6, .int .i64 a7, .int .i64 a8, .int .i64 a9]⟩, .agg ⟨[.int .i64 p0, .int .i64 p1, .int .i64 p2, .int .i64 p3]⟩, .int .i64 n] => some (.bool (hasB a0 a1 a2 a3 a4 a5 a6 a7 a8 a9 p0 p1 p2 p3 n), [])
  | _ => none
theorem bhas_sum : SumOK Try.prog 22 (sumOf bhas_F) := by
  refine sumOf_ok (en Try.func22 rfl) fun args v ob h hob => ?_
  unfold bhas_F at h
  split at h
  · obtain ⟨rfl, rfl⟩ := Prod.mk.inj (Option.some.inj h)
    exact calls_run0 hm (auto0_ok t_bempty_ok) noHint [.go,.go,.fork,.go,.fork,.go,.fork,.go,.fork] (by kernel_rfl)
  · exact absurd h (by simp)
noncomputable def t_bhas : Sums := upd t_bempty 22 (some (sumOf bhas_F))
theorem t_bhas_ok : SumsOK Try.prog t_bhas := sums_cons t_bempty_ok bhas_sum
def bwithin_F : List Value → Option (Value × List Prop)
  | [.agg ⟨[.int .i64 a0, .int .i64 a1, .int .i64 a2, .int .i64 a3, .int .i64 a4, .int .i64 a5, .int .i64 a6, .int .i64 a7, .int .i64 a8, .int .i64 a9]⟩, .agg ⟨[.int .i64 b0, .int .i64 b1, .int .i64 b2, .int .i64 b3, .int .i64 b4, .int .i64 b5, .int .i64 b6, .int .i64 b7, .int .i64 b8, .int .i64 b9]⟩] => some (.bool (withinB a0 a1 a2 a3 a4 a5 a6 a7 a8 a9 b0 b1 b2 b3 b4 b5 b6 b7 b8 b9), [])
  | _ => none
theorem bwithin_sum : SumOK Try.prog 27 (sumOf bwithin_F) := by
  refine sumOf_ok (en Try.func27 rfl) fun args v ob h hob => ?_
  unfold bwithin_F at h
  split at h
  · obtain ⟨rfl, rfl⟩ := Prod.mk.inj (Option.some.inj h)
    exact calls_run0 hm (auto0_ok t_bhas_ok) noHint [.fork,.go,.go,.fork,.go,.fork,.go,.fork,.go,.fork,.go,.fork] (by kernel_rfl)
  · exact absurd h (by simp)
noncomputable def t_bwithin : Sums := upd t_bhas 27 (some (sumOf bwithin_F))
theorem t_bwithin_ok : SumsOK Try.prog t_bwithin := sums_cons t_bhas_ok bwithin_sum
theorem cut_no {i p : Int} (h : p ≠ i) (a b n : Int) : cL i p a b n = a ∧ cH i p a b n = b ∧ dL i p a b n = a ∧ dH i p a b n = b := by
  have : (p == i) = false := by simpa using h
  simp [cL, cH, dL, dH, this]
abbrev cutPair (a0 a1 a2 a3 a4 a5 a6 a7 a8 a9 p n : Int) : Value := .tuple ⟨[bx (cL 0 p a0 a1 n) (cH 0 p a0 a1 n) (cL 1 p a2 a3 n) (cH 1 p a2 a3 n) (cL 2 p a4 a5 n) (cH 2 p a4 a5 n) (cL 3 p a6 a7 n) (cH 3 p a6 a7 n) (cL 4 p a8 a9 n) (cH 4 p a8 a9 n),
  bx (dL 0 p a0 a1 n) (dH 0 p a0 a1 n) (dL 1 p a2 a3 n) (dH 1 p a2 a3 n) (dL 2 p a4 a5 n) (dH 2 p a4 a5 n) (dL 3 p a6 a7 n) (dH 3 p a6 a7 n) (dL 4 p a8 a9 n) (dH 4 p a8 a9 n)]⟩
abbrev mx : Int := 9223372036854775807
def bcut_F : List Value → Option (Value × List Prop)
  | [.agg ⟨[.int .i64 a0, .int .i64 a1, .int .i64 a2, .int .i64 a3, .int .i64 a4, .int .i64 a5, .int .i64 a6, .int .i64 a7, .int .i64 a8, .int .i64 a9]⟩, .int .i64 p, .int .i64 n] => some (cutPair a0 a1 a2 a3 a4 a5 a6 a7 a8 a9 p n, [I64 n, a1 ≤ mx, a3 ≤ mx, a5 ≤ mx, a7 ≤ mx, a9 ≤ mx])
  | _ => none
theorem bcut_sum : SumOK Try.prog 15 (sumOf bcut_F) := by
  refine sumOf_ok (en Try.func15 rfl) fun args v ob h hob => ?_
  unfold bcut_F at h
  split at h
  · rename_i a0 a1 a2 a3 a4 a5 a6 a7 a8 a9 p n
    obtain ⟨rfl, rfl⟩ := Prod.mk.inj (Option.some.inj h)
    clear h
    have hn := hob (I64 n) (by simp)
    have k1 := hob (a1 ≤ mx) (by simp)
    have k3 := hob (a3 ≤ mx) (by simp)
    have k5 := hob (a5 ≤ mx) (by simp)
    have k7 := hob (a7 ≤ mx) (by simp)
    have k9 := hob (a9 ≤ mx) (by simp)
    by_cases c0 : p = 0
    · subst c0; exact calls_runO hm (auto0_ok t_bwithin_ok) noHint [] [I64 n, a1 ≤ mx] (by kernel_rfl) ⟨hn, k1, trivial⟩
    by_cases c1 : p = 1
    · subst c1; exact calls_runO hm (auto0_ok t_bwithin_ok) noHint [] [I64 n, a3 ≤ mx] (by kernel_rfl) ⟨hn, k3, trivial⟩
    by_cases c2 : p = 2
    · subst c2; exact calls_runO hm (auto0_ok t_bwithin_ok) noHint [] [I64 n, a5 ≤ mx] (by kernel_rfl) ⟨hn, k5, trivial⟩
    by_cases c3 : p = 3
    · subst c3; exact calls_runO hm (auto0_ok t_bwithin_ok) noHint [] [I64 n, a7 ≤ mx] (by kernel_rfl) ⟨hn, k7, trivial⟩
    by_cases c4 : p = 4
    · subst c4; exact calls_runO hm (auto0_ok t_bwithin_ok) noHint [] [I64 n, a9 ≤ mx] (by kernel_rfl) ⟨hn, k9, trivial⟩
    obtain ⟨q1, q2, q3, q4⟩ := cut_no c0 a0 a1 n
    obtain ⟨q5, q6, q7, q8⟩ := cut_no c1 a2 a3 n
    obtain ⟨r1, r2, r3, r4⟩ := cut_no c2 a4 a5 n
    obtain ⟨r5, r6, r7, r8⟩ := cut_no c3 a6 a7 n
    obtain ⟨s1, s2, s3, s4⟩ := cut_no c4 a8 a9 n
    simp only [cutPair, q1, q2, q3, q4, q5, q6, q7, q8, r1, r2, r3, r4, r5, r6, r7, r8, s1, s2, s3, s4]
    cases h : decide (p ≥ 0)
    · exact calls_runO hm (auto0_ok t_bwithin_ok) (hints [(2, 1, ht false)]) [] [bb (decide (p ≥ 0)) false] (by kernel_rfl) ⟨bb_of h, trivial⟩
    · have h' := of_decide_eq_true h
      exact calls_runO hm (auto0_ok t_bwithin_ok) (hints [(2, 1, ht true), (2, 4, ht false)]) [] [bb (decide (p < 5)) false, bb (decide (p ≥ 0)) true] (by kernel_rfl) ⟨bb_of (decide_eq_false (by omega)), bb_of h, trivial⟩
  · exact absurd h (by simp)
noncomputable def t_bcut : Sums := upd t_bwithin 15 (some (sumOf bcut_F))
theorem t_bcut_ok : SumsOK Try.prog t_bcut := sums_cons t_bwithin_ok bcut_sum
end Go.Proofs.Ytdeedabhgfmgjaa.SpanE


set_option linter.unusedVariables false
set_option linter.unusedSimpArgs false
set_option maxRecDepth 100000
namespace Go.Proofs.Ytdeedabhgfmgjaa.SpanE
open Go Go.RowKit Go.Proofs.Ytdeedabhgfmgjaa.Ev Go.Proofs.Ytdeedabhgfmgjaa.Within
def bruns_F : List Value → Option (Value × List Prop)
  | [] => some (.bool true, [])
  | _ => none
theorem bruns_sum : SumOK Try.prog 3 (sumOf bruns_F) := by
  refine sumOf_ok (en Try.func3 rfl) fun args v ob h hob => ?_
  unfold bruns_F at h
  split at h
  · obtain ⟨rfl, rfl⟩ := Prod.mk.inj (Option.some.inj h)
    exact calls_runO hm (auto0_ok t_sadd_ok) noHint [] [I64 2, I64 1, I64 4, 9 ≤ mx] (by kernel_rfl) ⟨by decide, by decide, by decide, by decide, trivial⟩
  · exact absurd h (by simp)
noncomputable def t_bruns : Sums := upd t_bcut 3 (some (sumOf bruns_F))
theorem t_bruns_ok : SumsOK Try.prog t_bruns := sums_cons t_bcut_ok bruns_sum
def clampS (n lo hi : Int) : Int := bif decide (n < lo) then lo else bif decide (n > hi) then hi else n
def clamp_F : List Value → Option (Value × List Prop)
  | [.int .i64 n, .int .i64 lo, .int .i64 hi] => some (.int .i64 (clampS n lo hi), [])
  | _ => none
theorem clamp_sum : SumOK Try.prog 17 (sumOf clamp_F) := by
  refine sumOf_ok (en Try.func17 rfl) fun args v ob h hob => ?_
  unfold clamp_F at h
  split at h
  · obtain ⟨rfl, rfl⟩ := Prod.mk.inj (Option.some.inj h)
    exact calls_run0 hm (auto0_ok t_bruns_ok) noHint [.fork,.fork] (by kernel_rfl)
  · exact absurd h (by simp)
noncomputable def t_clamp : Sums := upd t_bruns 17 (some (sumOf clamp_F))
theorem t_clamp_ok : SumsOK Try.prog t_clamp := sums_cons t_bruns_ok clamp_sum
def wS (i d x : Int) : Int := bif decide (i < d) then x else 0
theorem wS_lt {i d x : Int} (h : i < d) : wS i d x = x := by simp [wS, h]
theorem wS_ge {i d x : Int} (h : d ≤ i) : wS i d x = 0 := by have : ¬ i < d := by omega
                                                             simp [wS, this]
def whole_F : List Value → Option (Value × List Prop)
  | [.int .i64 d, .agg ⟨[.int .i64 a, .int .i64 b]⟩] => some (bx (wS 0 d a) (wS 0 d b) (wS 1 d a) (wS 1 d b) (wS 2 d a) (wS 2 d b) (wS 3 d a) (wS 3 d b) 0 0, [])
  | _ => none
theorem whole_sum : SumOK Try.prog 14 (sumOf whole_F) := by
  refine sumOf_ok (en Try.func14 rfl) fun args v ob h hob => ?_
  unfold whole_F at h
  split at h
  · rename_i d a b
    obtain ⟨rfl, rfl⟩ := Prod.mk.inj (Option.some.inj h)
    clear h
    have hmin : ∀ k : Int, (d < 4 → d = k) → (4 ≤ d → k = 4) → i64 (minI d 4) = i64 k := fun k h1 h2 => by rw [minI_eq]; exact int_eq (by omega)
    by_cases c0 : d ≤ 0
    · rw [wS_ge (i := 0) c0, wS_ge (i := 0) c0, wS_ge (i := 1) (by omega), wS_ge (i := 1) (by omega), wS_ge (i := 2) (by omega), wS_ge (i := 2) (by omega), wS_ge (i := 3) (by omega), wS_ge (i := 3) (by omega)]
      exact calls_runO hm (auto0_ok t_clamp_ok) (hints [(2, 1, { v := some (i64 d) }), (3, 0, ht false)]) [] [bb (decide (0 < d)) false, i64 (minI d 4) = i64 d] (by kernel_rfl) ⟨bb_of (decide_eq_false (by omega)), hmin d (fun _ => rfl) (by omega), trivial⟩
    by_cases c1 : d = 1
    · subst c1; exact calls_run0 hm (auto0_ok t_clamp_ok) noHint [] (by kernel_rfl)
    by_cases c2 : d = 2
    · subst c2; exact calls_run0 hm (auto0_ok t_clamp_ok) noHint [] (by kernel_rfl)
    by_cases c3 : d = 3
    · subst c3; exact calls_run0 hm (auto0_ok t_clamp_ok) noHint [] (by kernel_rfl)
    rw [wS_lt (i := 0) (by omega), wS_lt (i := 0) (by omega), wS_lt (i := 1) (by omega), wS_lt (i := 1) (by omega), wS_lt (i := 2) (by omega), wS_lt (i := 2) (by omega), wS_lt (i := 3) (by omega), wS_lt (i := 3) (by omega)]
    exact calls_runO hm (auto0_ok t_clamp_ok) (hints [(2, 1, { v := some (i64 4) })]) [] [i64 (minI d 4) = i64 4] (by kernel_rfl) ⟨hmin 4 (by omega) (fun _ => rfl), trivial⟩
  · exact absurd h (by simp)
noncomputable def t_whole : Sums := upd t_clamp 14 (some (sumOf whole_F))
theorem t_whole_ok : SumsOK Try.prog t_whole := sums_cons t_clamp_ok whole_sum
end Go.Proofs.Ytdeedabhgfmgjaa.SpanE


set_option maxRecDepth 100000
namespace Go.Proofs.Ytdeedabhgfmgjaa.WkBoxRuns
open Go Go.RowKit Go.Proofs.Ytdeedabhgfmgjaa.Ev Go.Proofs.Ytdeedabhgfmgjaa.SpanE
theorem walk (w : World) : Calls Try.prog 3 #[] w fun e w' => e = .returned (.bool true) ∧ Below w.heap.size w w' :=
  (calls_runO hm (auto0_ok t_sadd_ok) noHint [] [I64 2, I64 1, I64 4, 9 ≤ mx] (by kernel_rfl) ⟨by decide, by decide, by decide, by decide, trivial⟩).2.2 w
end Go.Proofs.Ytdeedabhgfmgjaa.WkBoxRuns


set_option linter.unusedVariables false
set_option linter.unusedSimpArgs false
set_option maxRecDepth 100000
namespace Go.Proofs.Ytdeedabhgfmgjaa.OpenBx
open Go Go.RowKit Go.ChangeShapes Go.WideShapes Go.Proofs.Ytdeedabhgfmgjaa.Ev
section
variable {H : Type} {enc : TypeId × Value → H} {P : Program} {W : World} {base : Nat} {spare : Nat → Bool} {held : Bool}
def fieldsOf (P : Program) (t : TypeId) : Array Field := match P.underlying t with
  | some (.struct fs) => fs
  | _ => #[]
theorem field_of {fs : Array Field} {i o : Nat} {c : Nat} {ty : TypeId} (h : (fs[i]?).map (fun f => (f.offset, f.type)) = some (o, ty)) :
    ∃ f, fs[i]? = some f ∧ f.offset = o ∧ f.type = ty := by
  cases hf : fs[i]? with
  | none => rw [hf] at h; simp at h
  | some f =>
    rw [hf] at h
    simp at h
    exact ⟨f, rfl, h.1, h.2⟩
theorem xs_get {α : Type} {xs : List α} {i : Nat} (h : i < xs.length) : ∃ y, xs[i]? = some y := ⟨xs[i], List.getElem?_eq_getElem h⟩
end
theorem wf64 {n : Int} (h : (Lit.int .i64 n).wf = true) : I64 n := by
  have := h
  simp [Lit.wf, IntKind.has, IntKind.min, IntKind.max, IntKind.signed, IntKind.bits] at this
  unfold I64
  omega
section
variable {H : Type} {enc : TypeId × Value → H} {W : World} {base : Nat} {spare : Nat → Bool} {held : Bool}
theorem elem_one {n : Nat} {cs : List Value} {z : DataW H × List MemPlace} (h : DataW.trod enc Try.prog W base spare held n 3 cs = some z) : ∃ m : Int, cs = [.int .i64 m] ∧ I64 m := by
  have hi : Try.prog.underlying 3 = some (.int .i64) := by kernel_rfl
  obtain ⟨m, e, _, w⟩ := DataW.trod_int hi h
  exact ⟨m, e, wf64 w⟩
theorem elem_span {n : Nat} {cs : List Value} {z : DataW H × List MemPlace} (h : DataW.trod enc Try.prog W base spare held n 23 cs = some z) : ∃ a b : Int, cs = [.int .i64 a, .int .i64 b] ∧ I64 a ∧ I64 b := by
  obtain ⟨xs, k, _, _, hl, hlen, hf⟩ := DataW.trod_struct (P := Try.prog) (fs := fieldsOf Try.prog 23) (by kernel_rfl) h
  have hl2 : cs.length = 2 := by rw [hl]; kernel_rfl
  have hx2 : xs.length = 2 := by rw [hlen]; kernel_rfl
  obtain ⟨f0, e0, o0, t0⟩ := field_of (c := 0) (fs := fieldsOf Try.prog 23) (i := 0) (o := 0) (ty := 3) (by kernel_rfl)
  obtain ⟨f1, e1, o1, t1⟩ := field_of (c := 0) (fs := fieldsOf Try.prog 23) (i := 1) (o := 1) (ty := 3) (by kernel_rfl)
  have g0 := hf 0 f0 e0
  have g1 := hf 1 f1 e1
  obtain ⟨y0, hy0⟩ := xs_get (xs := xs) (i := 0) (by omega)
  obtain ⟨y1, hy1⟩ := xs_get (xs := xs) (i := 1) (by omega)
  have c1 : Try.prog.cellsOf 3 = 1 := by kernel_rfl
  rw [o0, t0, c1, hy0] at g0
  rw [o1, t1, c1, hy1] at g1
  obtain ⟨a, q0, w0⟩ := elem_one g0
  obtain ⟨b, q1, w1⟩ := elem_one g1
  match cs, hl2 with
  | [v0, v1], _ =>
    simp at q0 q1
    subst q0
    subst q1
    exact ⟨a, b, rfl, w0, w1⟩
theorem take_eq {l : List Value} {a b c d e : List Value} (hl : l.length = 10) (h0 : (l.drop (0 * 2)).take 2 = a) (h1 : (l.drop (1 * 2)).take 2 = b) (h2 : (l.drop (2 * 2)).take 2 = c) (h3 : (l.drop (3 * 2)).take 2 = d) (h4 : (l.drop (4 * 2)).take 2 = e) : l = a ++ b ++ c ++ d ++ e := by
  subst h0 h1 h2 h3 h4
  match l, hl with
  | [_, _, _, _, _, _, _, _, _, _], _ => rfl
theorem elem_box (n : Nat) (cs : List Value) (z : DataW H × List MemPlace) (h : DataW.trod enc Try.prog W base spare held n 25 cs = some z) : ∃ x : Bx, cs = eBox.cells x ∧ (I64 x.a0 ∧ I64 x.b0 ∧ I64 x.a1 ∧ I64 x.b1 ∧ I64 x.a2 ∧ I64 x.b2 ∧ I64 x.a3 ∧ I64 x.b3 ∧ I64 x.a4 ∧ I64 x.b4) := by
  have hu : Try.prog.underlying 25 = some (.array 5 23) := by kernel_rfl
  obtain ⟨xs, k, _, _, hl, hlen, hf⟩ := DataW.trod_array hu h
  have hl10 : cs.length = 10 := by rw [hl]; kernel_rfl
  have c2 : Try.prog.cellsOf 23 = 2 := by kernel_rfl
  rw [c2] at hf
  have key : ∀ i, i < 5 → ∃ a b : Int, (cs.drop (i * 2)).take 2 = [.int .i64 a, .int .i64 b] ∧ I64 a ∧ I64 b := fun i hi => by
    obtain ⟨y, hy⟩ := xs_get (xs := xs) (i := i) (by omega)
    have := hf i hi
    rw [hy] at this
    exact elem_span this
  obtain ⟨a0, b0, q0, u0, v0⟩ := key 0 (by omega)
  obtain ⟨a1, b1, q1, u1, v1⟩ := key 1 (by omega)
  obtain ⟨a2, b2, q2, u2, v2⟩ := key 2 (by omega)
  obtain ⟨a3, b3, q3, u3, v3⟩ := key 3 (by omega)
  obtain ⟨a4, b4, q4, u4, v4⟩ := key 4 (by omega)
  exact ⟨⟨a0, b0, a1, b1, a2, b2, a3, b3, a4, b4⟩, take_eq hl10 q0 q1 q2 q3 q4, u0, v0, u1, v1, u2, v2, u3, v3, u4, v4⟩
def BxOK (x : Bx) : Prop := I64 x.a0 ∧ I64 x.b0 ∧ I64 x.a1 ∧ I64 x.b1 ∧ I64 x.a2 ∧ I64 x.b2 ∧ I64 x.a3 ∧ I64 x.b3 ∧ I64 x.a4 ∧ I64 x.b4
theorem open_boxes {r : Reach} {b0 : Nat} {v : Value} {d : DataW H} {ps : List MemPlace} (hv : Value.okWide Try.prog W r b0 43 v) (h : DataW.Trod enc Try.prog W base spare held 43 v d ps) : Opened W eBox BxOK v := by
  have hu : Try.prog.underlying 43 = some (.slice 25) := by kernel_rfl
  obtain ⟨fuel, hf⟩ := h
  simp only [Value.okWide, hu] at hv
  have hcs : v.cells.toList = [v] := by
    obtain ⟨a, l, c, rfl⟩ : ∃ a l c, v = .slice a l c := by
      simp only [Cell.okWide, hu, Cell.ok] at hv
      cases v <;> simp_all
    rfl
  rw [hcs] at hf
  exact open_row hu (by kernel_rfl) elem_box hv hf
end
end Go.Proofs.Ytdeedabhgfmgjaa.OpenBx


set_option linter.unusedVariables false
set_option linter.unusedSimpArgs false
set_option maxRecDepth 100000
namespace Go.Proofs.Ytdeedabhgfmgjaa.Bs
open Go Go.RowKit Go.Proofs.Ytdeedabhgfmgjaa.Ev Go.Proofs.Ytdeedabhgfmgjaa.Bs Go.Proofs.Ytdeedabhgfmgjaa.Within

def bring_F : List Value → Option (Value × List Prop)
  | [.int .i64 n, .int .i64 lo, .int .i64 hi] => some (.int .i64 (withinS n lo hi), [I64 n, -2305843009213693952 ≤ lo, lo ≤ hi, hi ≤ 2305843009213693952])
  | _ => none
theorem bring_sum : SumOK Try.prog 21 (sumOf bring_F) := by
  refine sumOf_ok (en Try.func21 rfl) fun args v ob h hob => ?_
  unfold bring_F at h
  split at h
  · rename_i n lo hi
    obtain ⟨rfl, rfl⟩ := Prod.mk.inj (Option.some.inj h)
    clear h
    have h1 := hob (I64 n) (by simp)
    have h2 := hob (-2305843009213693952 ≤ lo) (by simp)
    have h3 := hob (lo ≤ hi) (by simp)
    have h4 := hob (hi ≤ 2305843009213693952) (by simp)
    exact ⟨rfl, rfl, fun w => (within_calls n lo hi h1.1 h1.2 h2 h3 h4 w).mono fun e w' ⟨he, hw⟩ => ⟨he, hw ▸ Below.refl _ _⟩⟩
  · exact absurd h (by simp)
noncomputable def t_bring : Sums := upd t_none 21 (some (sumOf bring_F))
theorem t_bring_ok : SumsOK Try.prog t_bring := sums_cons t_none_ok bring_sum
def bruns_F : List Value → Option (Value × List Prop)
  | [] => some (.bool true, [])
  | _ => none
theorem bruns_sum : SumOK Try.prog 3 (sumOf bruns_F) := by
  refine sumOf_ok (en Try.func3 rfl) fun args v ob h hob => ?_
  unfold bruns_F at h
  split at h
  · obtain ⟨rfl, rfl⟩ := Prod.mk.inj (Option.some.inj h)
    exact ⟨rfl, rfl, WkBoxRuns.walk⟩
  · exact absurd h (by simp)
noncomputable def t_bruns : Sums := upd t_bring 3 (some (sumOf bruns_F))
theorem t_bruns_ok : SumsOK Try.prog t_bruns := sums_cons t_bring_ok bruns_sum
noncomputable def t_bs1 : Sums := upd t_bruns 34 (some (sumOf lah_F))
theorem t_bs1_ok : SumsOK Try.prog t_bs1 := sums_cons t_bruns_ok lah_sum
noncomputable def t_bs2 : Sums := upd t_bs1 16 (some SpanE.addS)
theorem t_bs2_ok : SumsOK Try.prog t_bs2 := sums_cons t_bs1_ok SpanE.sadd_sum
noncomputable def t_bs (l : List EB) (bx : Bx) (nn : Int) : Sums := upd t_bs2 33 (some (vcSum (largest_F l bx nn)))
theorem t_bs_ok (l : List EB) (bx : Bx) (nn : Int) : SumsOK Try.prog (t_bs l bx nn) := sums_cons t_bs2_ok (largest_sum l bx nn)
structure B1 where
  i : Nat
  ow : List Bx
def owV (z : Nat) (ow : List Bx) : Value := match z with | 0 => .slice none 0 0 | 2 => .slice none 0 0 | _ => .slice (some ⟨13, 0, none⟩) ow.length mk
def tuV (z : Nat) (tn tc : Nat) : Value := match z with | 0 => .slice none 0 0 | 1 => .slice none 0 0 | _ => .slice (some ⟨1, 0, none⟩) tn tc
abbrev M0 : Blk := .map L10 true (some .i64) (esB []) 0
def bs1 (L : List Bx) (n c : Nat) (ts : List Int) (tn tc : Nat) (Q : Nat → B1 → Prop) : LoopF B1 where
  ts _ := [0, 1, 5, 6, 7, 8]
  hs z := match z with | 0 => [0, 10, 11] | 1 => [0, 10, 11, 13] | 2 => [0, 10, 11, 1] | _ => [0, 10, 11, 13, 1]
  tv z := fun ⟨i, ow⟩ => [.slice (some ⟨0, 0, none⟩) n c, tuV z tn tc, .map (some 10), owV z ow, .map (some 11), .int .i64 (i : Int)]
  hv z := fun ⟨i, ow⟩ => match z with
    | 0 => [.ro (eBox.row L), M0, M0]
    | 1 => [.ro (eBox.row L), M0, M0, .vec (eBox.row ow) 25 10]
    | 2 => [.ro (eBox.row L), M0, M0, .ro (eInt.row ts)]
    | _ => [.ro (eBox.row L), M0, M0, .vec (eBox.row ow) 25 10, .ro (eInt.row ts)]
  inv := Q
  mu _ := fun ⟨i, ow⟩ => 15 - i
  nx := 20
theorem bs1_ok (L : List Bx) (n c : Nat) (ts : List Int) (tn tc : Nat) (Q : Nat → B1 → Prop) : (bs1 L n c ts tn tc Q).OK 2 := by
  refine ⟨(by decide : 2 ≤ 20), fun z i h k hk => ?_, fun z i h v hv k hk => ?_, fun z i h x hx => ?_⟩
  · show k < 20
    match z with
    | 0 => simp [bs1] at hk; omega
    | 1 => simp [bs1] at hk; omega
    | 2 => simp [bs1] at hk; omega
    | z + 3 => simp [bs1] at hk; omega
  · show k < 20
    match z with
    | 0 =>
      simp [bs1, owV, tuV] at hv
      repeat' (refine Or.elim hv (fun hv => ?_) (fun hv => ?_))
      all_goals (subst hv; simp [nms, nm1, nm0] at hk; try omega)
    | 1 =>
      simp [bs1, owV, tuV] at hv
      repeat' (refine Or.elim hv (fun hv => ?_) (fun hv => ?_))
      all_goals (subst hv; simp [nms, nm1, nm0] at hk; try omega)
    | 2 =>
      simp [bs1, owV, tuV] at hv
      repeat' (refine Or.elim hv (fun hv => ?_) (fun hv => ?_))
      all_goals (subst hv; simp [nms, nm1, nm0] at hk; try omega)
    | z + 3 =>
      simp [bs1, owV, tuV] at hv
      repeat' (refine Or.elim hv (fun hv => ?_) (fun hv => ?_))
      all_goals (subst hv; simp [nms, nm1, nm0] at hk; try omega)
  · have h0 : Blk.namesLt 20 (.ro (eBox.row L)) := Blk.plain.namesLt (b := .ro _) (Elt.row_pl _) _
    have h1 : Blk.namesLt 20 M0 := trivial
    have h2 : Blk.namesLt 20 (.ro (eInt.row ts)) := Blk.plain.namesLt (b := .ro _) (Elt.row_pl _) _
    have h3 : ∀ ow, Blk.namesLt 20 (.vec (eBox.row ow) 25 10) := fun ow => Blk.plain.namesLt (b := .vec _ _ _) (Elt.row_pl _) _
    match z with
    | 0 => simp only [bs1, List.mem_cons, List.not_mem_nil, or_false] at hx; rcases hx with rfl | rfl | rfl <;> first | exact h0 | exact h1
    | 1 => simp only [bs1, List.mem_cons, List.not_mem_nil, or_false] at hx; rcases hx with rfl | rfl | rfl | rfl <;> first | exact h0 | exact h1 | exact h3 _
    | 2 => simp only [bs1, List.mem_cons, List.not_mem_nil, or_false] at hx; rcases hx with rfl | rfl | rfl | rfl <;> first | exact h0 | exact h1 | exact h2
    | z + 3 => simp only [bs1, List.mem_cons, List.not_mem_nil, or_false] at hx; rcases hx with rfl | rfl | rfl | rfl | rfl <;> first | exact h0 | exact h1 | exact h2 | exact h3 _
structure B2 where
  i : Nat
  l : List EB
  c : Nat
def bs2 (ow : List Bx) (k : Nat) (ts : List Int) (tn tc : Nat) (Q : B2 → Prop) : LoopF B2 where
  ts _ := [1, 5, 6, 7, 9]
  hs _ := [1, 10, 11, 13]
  tv _ := fun ⟨i, l, c⟩ => [.slice (some ⟨1, 0, none⟩) tn tc, .map (some 10), .slice (some ⟨13, 0, none⟩) k mk, .map (some 11), .int .i64 (i : Int)]
  hv _ := fun ⟨i, l, c⟩ => [.ro (eInt.row ts), .map L10 true (some .i64) (esB l) c, .map L10 true (some .i64) (esB l) c, .vec (eBox.row ow) 25 10]
  inv _ := Q
  mu _ := fun ⟨i, l, c⟩ => 30 - i
  nx := 20
theorem bs2_ok (ow : List Bx) (k : Nat) (ts : List Int) (tn tc : Nat) (Q : B2 → Prop) : (bs2 ow k ts tn tc Q).OK 2 := by
  refine ⟨(by decide : 2 ≤ 20), fun z i h k hk => ?_, fun z i h v hv k hk => ?_, fun z i h x hx => ?_⟩
  · show k < 20
    simp [bs2] at hk; omega
  · show k < 20
    simp [bs2] at hv
    repeat' (refine Or.elim hv (fun hv => ?_) (fun hv => ?_))
    all_goals (subst hv; simp [nms, nm1, nm0] at hk; try omega)
  · simp only [bs2, List.mem_cons, List.not_mem_nil, or_false] at hx
    rcases hx with rfl | rfl | rfl | rfl
    · exact Blk.plain.namesLt (b := .ro _) (Elt.row_pl _) _
    · trivial
    · trivial
    · exact Blk.plain.namesLt (b := .vec _ _ _) (Elt.row_pl _) _
def bs3 (l : List EB) (c : Nat) (x : Bx) (n : Int) (Q : List Nat → Prop) : LoopF (List Nat) where
  ts _ := [11, 12, 108]
  hs _ := [11, 15, 16]
  tv _ seen := [.pointer (some ⟨15, 0, none⟩), .int .i64 n, .pointer (some ⟨16, 0, none⟩)]
  hv _ seen := [.map L10 true (some .i64) (esB l) c, .cells x.cs 25, .it 11 c seen c]
  inv _ := Q
  mu _ seen := l.length - seen.length
  nx := 20
theorem bs3_ok (l : List EB) (c : Nat) (x : Bx) (n : Int) (Q : List Nat → Prop) : (bs3 l c x n Q).OK 2 := by
  refine ⟨(by decide : 2 ≤ 20), fun z i h k hk => ?_, fun z i h v hv k hk => ?_, fun z i h y hx => ?_⟩
  · show k < 20
    simp [bs3] at hk; omega
  · show k < 20
    simp [bs3] at hv
    repeat' (refine Or.elim hv (fun hv => ?_) (fun hv => ?_))
    all_goals (subst hv; simp [nms, nm1, nm0] at hk; try omega)
  · simp only [bs3, List.mem_cons, List.not_mem_nil, or_false] at hx
    rcases hx with rfl | rfl | rfl
    · trivial
    · exact Blk.plain.namesLt (b := .cells _ _) (eBox.pl _) _
    · show 11 < 20; omega
end Go.Proofs.Ytdeedabhgfmgjaa.Bs


set_option linter.unusedVariables false
set_option linter.unusedSimpArgs false
set_option maxRecDepth 100000
namespace Go.Proofs.Ytdeedabhgfmgjaa.Bs
open Go Go.RowKit Go.Proofs.Ytdeedabhgfmgjaa.Ev Go.Proofs.Ytdeedabhgfmgjaa.Bs Go.Proofs.Ytdeedabhgfmgjaa.Within

theorem bs0N (u : Unit) (l : List EB) (bx : Bx) (nn : Int)  {E : Env} (hE : EnvOK E Try.prog Try.f13 2 2 (.bool true) [] []) (hob : all ([Back (Value.bool true) (Value.bool true) [] [] [], Value.bool (keyEq (Value.agg (Array.mk [Value.int IntKind.i64 bx.a0, Value.int IntKind.i64 bx.b0, Value.int IntKind.i64 bx.a1, Value.int IntKind.i64 bx.b1, Value.int IntKind.i64 bx.a2, Value.int IntKind.i64 bx.b2, Value.int IntKind.i64 bx.a3, Value.int IntKind.i64 bx.b3, Value.int IntKind.i64 bx.a4, Value.int IntKind.i64 bx.b4])) (Value.agg (Array.mk [Value.int IntKind.i64 0, Value.int IntKind.i64 0, Value.int IntKind.i64 0, Value.int IntKind.i64 0, Value.int IntKind.i64 0, Value.int IntKind.i64 0, Value.int IntKind.i64 0, Value.int IntKind.i64 0, Value.int IntKind.i64 0, Value.int IntKind.i64 0]))) = Value.bool true, Value.bool (nn == (0 : Int)) = Value.bool true, (Blk.map [some IntKind.i64, some IntKind.i64, some IntKind.i64, some IntKind.i64, some IntKind.i64, some IntKind.i64, some IntKind.i64, some IntKind.i64, some IntKind.i64, some IntKind.i64] true (some IntKind.i64) [] 0).plain, [some IntKind.i64, some IntKind.i64, some IntKind.i64, some IntKind.i64, some IntKind.i64, some IntKind.i64, some IntKind.i64, some IntKind.i64, some IntKind.i64, some IntKind.i64] = [some IntKind.i64, some IntKind.i64, some IntKind.i64, some IntKind.i64, some IntKind.i64, some IntKind.i64, some IntKind.i64, some IntKind.i64, some IntKind.i64, some IntKind.i64], [] = esB l, OKB l 0, LG l bx nn, ∀ (e : EB), e ∈ l → 1 ≤ e.n])) : Sat E [.code (bodyOf Try.f13)] (st0 Try.f13 [.slice none 0 0, .slice none 0 0] (rowsL [none, none]) 2) :=
  by_ret (T := auto0 (t_bs l bx nn)) (h := hints [(17, 2, ht true), (17, 5, ht true)]) (ws := []) (nx' := 2) hE hm (auto0_ok (t_bs_ok l bx nn)) (by omega) (by simp) (by simp) (by kernel_rfl) hob
theorem bs0F (ts : List Int) (tn tc : Nat) (l : List EB) (bx : Bx) (nn : Int)  {E : Env} (hE : EnvOK E Try.prog Try.f13 2 2 (.bool true) [] []) (hob : all ([Back (Value.bool true) (Value.bool true) [] [] [], Value.bool (keyEq (Value.agg (Array.mk [Value.int IntKind.i64 bx.a0, Value.int IntKind.i64 bx.b0, Value.int IntKind.i64 bx.a1, Value.int IntKind.i64 bx.b1, Value.int IntKind.i64 bx.a2, Value.int IntKind.i64 bx.b2, Value.int IntKind.i64 bx.a3, Value.int IntKind.i64 bx.b3, Value.int IntKind.i64 bx.a4, Value.int IntKind.i64 bx.b4])) (Value.agg (Array.mk [Value.int IntKind.i64 0, Value.int IntKind.i64 0, Value.int IntKind.i64 0, Value.int IntKind.i64 0, Value.int IntKind.i64 0, Value.int IntKind.i64 0, Value.int IntKind.i64 0, Value.int IntKind.i64 0, Value.int IntKind.i64 0, Value.int IntKind.i64 0]))) = Value.bool true, Value.bool (nn == (0 : Int)) = Value.bool true, (Blk.map [some IntKind.i64, some IntKind.i64, some IntKind.i64, some IntKind.i64, some IntKind.i64, some IntKind.i64, some IntKind.i64, some IntKind.i64, some IntKind.i64, some IntKind.i64] true (some IntKind.i64) [] 0).plain, [some IntKind.i64, some IntKind.i64, some IntKind.i64, some IntKind.i64, some IntKind.i64, some IntKind.i64, some IntKind.i64, some IntKind.i64, some IntKind.i64, some IntKind.i64] = [some IntKind.i64, some IntKind.i64, some IntKind.i64, some IntKind.i64, some IntKind.i64, some IntKind.i64, some IntKind.i64, some IntKind.i64, some IntKind.i64, some IntKind.i64], [] = esB l, OKB l 0, LG l bx nn, ∀ (e : EB), e ∈ l → 1 ≤ e.n, Value.bool (decide (0 < (↑tn : Int))) = Value.bool false])) : Sat E [.code (bodyOf Try.f13)] (st0 Try.f13 [.slice none 0 0, .slice (some ⟨1, 0, none⟩) tn tc] (rowsL [none, some (eInt.row ts)]) 2) :=
  by_ret (T := auto0 (t_bs l bx nn)) (h := hints [(9, 3, ht false), (17, 2, ht true), (17, 5, ht true)]) (ws := []) (nx' := 2) hE hm (auto0_ok (t_bs_ok l bx nn)) (by omega) (by simp) (by simp) (by kernel_rfl) hob
theorem bs0T (ts : List Int) (tn tc : Nat) (l : List EB) (bx : Bx) (nn : Int)  {E : Env} (hE : EnvOK E Try.prog Try.f13 2 2 (.bool true) [] []) (hob : all ([Back (Value.bool true) (Value.bool true) [] [] [], Value.bool (keyEq (Value.agg (Array.mk [Value.int IntKind.i64 bx.a0, Value.int IntKind.i64 bx.b0, Value.int IntKind.i64 bx.a1, Value.int IntKind.i64 bx.b1, Value.int IntKind.i64 bx.a2, Value.int IntKind.i64 bx.b2, Value.int IntKind.i64 bx.a3, Value.int IntKind.i64 bx.b3, Value.int IntKind.i64 bx.a4, Value.int IntKind.i64 bx.b4])) (Value.agg (Array.mk [Value.int IntKind.i64 0, Value.int IntKind.i64 0, Value.int IntKind.i64 0, Value.int IntKind.i64 0, Value.int IntKind.i64 0, Value.int IntKind.i64 0, Value.int IntKind.i64 0, Value.int IntKind.i64 0, Value.int IntKind.i64 0, Value.int IntKind.i64 0]))) = Value.bool true, Value.bool (nn == (0 : Int)) = Value.bool true, (Blk.map [some IntKind.i64, some IntKind.i64, some IntKind.i64, some IntKind.i64, some IntKind.i64, some IntKind.i64, some IntKind.i64, some IntKind.i64, some IntKind.i64, some IntKind.i64] true (some IntKind.i64) [] 0).plain, [some IntKind.i64, some IntKind.i64, some IntKind.i64, some IntKind.i64, some IntKind.i64, some IntKind.i64, some IntKind.i64, some IntKind.i64, some IntKind.i64, some IntKind.i64] = [some IntKind.i64, some IntKind.i64, some IntKind.i64, some IntKind.i64, some IntKind.i64, some IntKind.i64, some IntKind.i64, some IntKind.i64, some IntKind.i64, some IntKind.i64], [] = esB l, OKB l 0, LG l bx nn, ∀ (e : EB), e ∈ l → 1 ≤ e.n, Value.bool (decide (0 < (↑tn : Int))) = Value.bool true])) : Sat E [.code (bodyOf Try.f13)] (st0 Try.f13 [.slice none 0 0, .slice (some ⟨1, 0, none⟩) tn tc] (rowsL [none, some (eInt.row ts)]) 2) :=
  by_ret (T := auto0 (t_bs l bx nn)) (h := hints [(9, 3, ht true), (17, 2, ht true), (17, 5, ht true)]) (ws := []) (nx' := 2) hE hm (auto0_ok (t_bs_ok l bx nn)) (by omega) (by simp) (by simp) (by kernel_rfl) hob
theorem bsI0 (L : List Bx) (n c : Nat) (ts : List Int) (tn tc : Nat) (Q : Nat → B1 → Prop)  {E : Env} {rv : Value} {rhs : List Nat} {rhv : List Blk} (hE : EnvOK E Try.prog Try.f13 2 2 rv rhs rhv) (hL : (bs1 L n c ts tn tc Q).OK 2) (hob : all ([SameK (atLp (lp Try.f13 0)) (atLp (lp Try.f13 0)), Enter (bs1 L n c ts tn tc Q) 0 none [Value.slice (some (Addr.mk 0 0 none)) n c, Value.slice none 0 0, Value.map (some 6), Value.slice none 0 0, Value.map (some 18), Value.int IntKind.i64 ((0 : Int))] [Blk.ro (eBox.row L), Blk.map [some IntKind.i64, some IntKind.i64, some IntKind.i64, some IntKind.i64, some IntKind.i64, some IntKind.i64, some IntKind.i64, some IntKind.i64, some IntKind.i64, some IntKind.i64] true (some IntKind.i64) [] 0, Blk.map [some IntKind.i64, some IntKind.i64, some IntKind.i64, some IntKind.i64, some IntKind.i64, some IntKind.i64, some IntKind.i64, some IntKind.i64, some IntKind.i64, some IntKind.i64] true (some IntKind.i64) [] 0] [(0, 0), (10, 6), (11, 18)]])) (hK : ∀ zz, (bs1 L n c ts tn tc Q).inv 0 zz → ltO ((bs1 L n c ts tn tc Q).mu 0 zz) none → Sat E (atLp (lp Try.f13 0)) ((bs1 L n c ts tn tc Q).st 0 zz)) : Sat E [.code (bodyOf Try.f13)] (st0 Try.f13 [.slice (some ⟨0, 0, none⟩) n c, .slice none 0 0] (rowsL [some (eBox.row L), none]) 2) :=
  by_to (T := auto0 (t_bs [] Z0 0)) (h := hints []) (ws := [.stop]) (i0 := ⟨0, []⟩) hE hm (auto0_ok (t_bs_ok [] Z0 0)) hL (by kernel_rfl) hob hK
theorem bsI2 (L : List Bx) (n c : Nat) (ts : List Int) (tn tc : Nat) (Q : Nat → B1 → Prop)  {E : Env} {rv : Value} {rhs : List Nat} {rhv : List Blk} (hE : EnvOK E Try.prog Try.f13 2 2 rv rhs rhv) (hL : (bs1 L n c ts tn tc Q).OK 2) (hob : all ([SameK (atLp (lp Try.f13 0)) (atLp (lp Try.f13 0)), Enter (bs1 L n c ts tn tc Q) 2 none [Value.slice (some (Addr.mk 0 0 none)) n c, Value.slice (some (Addr.mk 1 0 none)) tn tc, Value.map (some 6), Value.slice none 0 0, Value.map (some 18), Value.int IntKind.i64 ((0 : Int))] [Blk.ro (eBox.row L), Blk.map [some IntKind.i64, some IntKind.i64, some IntKind.i64, some IntKind.i64, some IntKind.i64, some IntKind.i64, some IntKind.i64, some IntKind.i64, some IntKind.i64, some IntKind.i64] true (some IntKind.i64) [] 0, Blk.map [some IntKind.i64, some IntKind.i64, some IntKind.i64, some IntKind.i64, some IntKind.i64, some IntKind.i64, some IntKind.i64, some IntKind.i64, some IntKind.i64, some IntKind.i64] true (some IntKind.i64) [] 0, Blk.ro (eInt.row ts)] [(0, 0), (1, 1), (10, 6), (11, 18)]])) (hK : ∀ zz, (bs1 L n c ts tn tc Q).inv 2 zz → ltO ((bs1 L n c ts tn tc Q).mu 2 zz) none → Sat E (atLp (lp Try.f13 0)) ((bs1 L n c ts tn tc Q).st 2 zz)) : Sat E [.code (bodyOf Try.f13)] (st0 Try.f13 [.slice (some ⟨0, 0, none⟩) n c, .slice (some ⟨1, 0, none⟩) tn tc] (rowsL [some (eBox.row L), some (eInt.row ts)]) 2) :=
  by_to (T := auto0 (t_bs [] Z0 0)) (h := hints []) (ws := [.stop]) (i0 := ⟨0, []⟩) hE hm (auto0_ok (t_bs_ok [] Z0 0)) hL (by kernel_rfl) hob hK
theorem bsB0 (L : List Bx) (n c : Nat) (ts : List Int) (tn tc : Nat) (Q : Nat → B1 → Prop) (i : Nat) (bo : Bx) (ow2 : List Bx) (J : Act → World → Prop) {E : Env} {rv : Value} {rhs : List Nat} {rhv : List Blk} (hE : EnvOK E Try.prog Try.f13 2 2 rv rhs rhv) (hL : (bs1 L n c ts tn tc Q).OK 2) (hob : all ([SameK (mkLp (lp Try.f13 0) J) (mkLp (lp Try.f13 0) J), Enter (bs1 L n c ts tn tc Q) 1 (some (15 - i)) [Value.slice (some (Addr.mk 0 0 none)) n c, Value.slice none 0 0, Value.map (some 10), Value.slice (some (Addr.mk 76 0 none)) 1 1267650600228229401496703205376, Value.map (some 11), Value.int IntKind.i64 (Int.ofNat i.succ)] [Blk.ro (eBox.row L), Blk.map [some IntKind.i64, some IntKind.i64, some IntKind.i64, some IntKind.i64, some IntKind.i64, some IntKind.i64, some IntKind.i64, some IntKind.i64, some IntKind.i64, some IntKind.i64] true (some IntKind.i64) [] 0, Blk.map [some IntKind.i64, some IntKind.i64, some IntKind.i64, some IntKind.i64, some IntKind.i64, some IntKind.i64, some IntKind.i64, some IntKind.i64, some IntKind.i64, some IntKind.i64] true (some IntKind.i64) [] 0, Blk.vec (eBox.row ow2) 25 10] [(0, 0), (10, 10), (13, 76), (11, 11)], Value.int IntKind.i64 (IntKind.i64.wrap (Int.ofNat i.succ)) = Value.int IntKind.i64 (Int.ofNat i.succ), AppOK none 0 0 10 80 1 [Value.int IntKind.i64 bo.a0, Value.int IntKind.i64 bo.b0, Value.int IntKind.i64 bo.a1, Value.int IntKind.i64 bo.b1, Value.int IntKind.i64 bo.a2, Value.int IntKind.i64 bo.b2, Value.int IntKind.i64 bo.a3, Value.int IntKind.i64 bo.b3, Value.int IntKind.i64 bo.a4, Value.int IntKind.i64 bo.b4] 0 (eBox.row ow2), readPart Try.prog 25 (eBox.row L) (0 + ((i : Int)).toNat * 10) = some (Value.agg (Array.mk [Value.int IntKind.i64 bo.a0, Value.int IntKind.i64 bo.b0, Value.int IntKind.i64 bo.a1, Value.int IntKind.i64 bo.b1, Value.int IntKind.i64 bo.a2, Value.int IntKind.i64 bo.b2, Value.int IntKind.i64 bo.a3, Value.int IntKind.i64 bo.b3, Value.int IntKind.i64 bo.a4, Value.int IntKind.i64 bo.b4])), (0 : Int) ≤ (i : Int) ∧ (i : Int) < (n : Int), Value.bool (decide ((↑i : Int) < 15)) = Value.bool true, Value.bool (decide ((↑i : Int) < (↑n : Int))) = Value.bool true])) (hK : ∀ zz, (bs1 L n c ts tn tc Q).inv 1 zz → ltO ((bs1 L n c ts tn tc Q).mu 1 zz) (some (15 - i)) → Sat E (mkLp (lp Try.f13 0) J) ((bs1 L n c ts tn tc Q).st 1 zz)) : Sat E (inLp (lp Try.f13 0) J) ((bs1 L n c ts tn tc Q).st 0 ⟨i, []⟩) :=
  by_to (T := auto0 (t_bs [] Z0 0)) (h := hints [(5, 3, ht true), (5, 6, ht true), (7, 3, {p := true}), (7, 4, {o := some (.agg ⟨bo.cs⟩)}), (7, 6, {c := some (eBox.row ow2)}), (6, 1, {v := some (.int .i64 ((i + 1 : Nat) : Int))})]) (ws := []) (i0 := ⟨i + 1, ow2⟩) hE hm (auto0_ok (t_bs_ok [] Z0 0)) hL (by kernel_rfl) hob hK
theorem bsX0a (L : List Bx) (n c : Nat) (ts : List Int) (tn tc : Nat) (Q : Nat → B1 → Prop) (i : Nat) (l : List EB) (bx : Bx) (nn : Int) (J : Act → World → Prop) {E : Env} (hE : EnvOK E Try.prog Try.f13 2 2 (.bool true) [] []) (hob : all ([Back (Value.bool true) (Value.bool true) [] [] [], Value.bool (keyEq (Value.agg (Array.mk [Value.int IntKind.i64 bx.a0, Value.int IntKind.i64 bx.b0, Value.int IntKind.i64 bx.a1, Value.int IntKind.i64 bx.b1, Value.int IntKind.i64 bx.a2, Value.int IntKind.i64 bx.b2, Value.int IntKind.i64 bx.a3, Value.int IntKind.i64 bx.b3, Value.int IntKind.i64 bx.a4, Value.int IntKind.i64 bx.b4])) (Value.agg (Array.mk [Value.int IntKind.i64 0, Value.int IntKind.i64 0, Value.int IntKind.i64 0, Value.int IntKind.i64 0, Value.int IntKind.i64 0, Value.int IntKind.i64 0, Value.int IntKind.i64 0, Value.int IntKind.i64 0, Value.int IntKind.i64 0, Value.int IntKind.i64 0]))) = Value.bool true, Value.bool (nn == (0 : Int)) = Value.bool true, (Blk.map [some IntKind.i64, some IntKind.i64, some IntKind.i64, some IntKind.i64, some IntKind.i64, some IntKind.i64, some IntKind.i64, some IntKind.i64, some IntKind.i64, some IntKind.i64] true (some IntKind.i64) [] 0).plain, [some IntKind.i64, some IntKind.i64, some IntKind.i64, some IntKind.i64, some IntKind.i64, some IntKind.i64, some IntKind.i64, some IntKind.i64, some IntKind.i64, some IntKind.i64] = [some IntKind.i64, some IntKind.i64, some IntKind.i64, some IntKind.i64, some IntKind.i64, some IntKind.i64, some IntKind.i64, some IntKind.i64, some IntKind.i64, some IntKind.i64], [] = esB l, OKB l 0, LG l bx nn, ∀ (e : EB), e ∈ l → 1 ≤ e.n, Value.bool (decide ((↑i : Int) < (↑n : Int))) = Value.bool false])) : Sat E (inLp (lp Try.f13 0) J) ((bs1 L n c ts tn tc Q).st 0 ⟨i, []⟩) :=
  by_ret (T := auto0 (t_bs l bx nn)) (h := hints [(5, 3, ht false), (17, 2, ht true), (17, 5, ht true)]) (ws := []) (nx' := 2) hE hm (auto0_ok (t_bs_ok l bx nn)) (by omega) (by simp) (by simp) (by kernel_rfl) hob
theorem bsB1 (L : List Bx) (n c : Nat) (ts : List Int) (tn tc : Nat) (Q : Nat → B1 → Prop) (i : Nat) (ow : List Bx) (bo : Bx) (ow2 : List Bx) (J : Act → World → Prop) {E : Env} {rv : Value} {rhs : List Nat} {rhv : List Blk} (hE : EnvOK E Try.prog Try.f13 2 2 rv rhs rhv) (hL : (bs1 L n c ts tn tc Q).OK 2) (hob : all ([SameK (mkLp (lp Try.f13 0) J) (mkLp (lp Try.f13 0) J), Enter (bs1 L n c ts tn tc Q) 1 (some (15 - i)) [Value.slice (some (Addr.mk 0 0 none)) n c, Value.slice none 0 0, Value.map (some 10), Value.slice (some (Addr.mk 76 0 none)) (ow.length + 1) 1267650600228229401496703205376, Value.map (some 11), Value.int IntKind.i64 (Int.ofNat i.succ)] [Blk.ro (eBox.row L), Blk.map [some IntKind.i64, some IntKind.i64, some IntKind.i64, some IntKind.i64, some IntKind.i64, some IntKind.i64, some IntKind.i64, some IntKind.i64, some IntKind.i64, some IntKind.i64] true (some IntKind.i64) [] 0, Blk.map [some IntKind.i64, some IntKind.i64, some IntKind.i64, some IntKind.i64, some IntKind.i64, some IntKind.i64, some IntKind.i64, some IntKind.i64, some IntKind.i64, some IntKind.i64] true (some IntKind.i64) [] 0, Blk.vec (eBox.row ow2) 25 10] [(0, 0), (10, 10), (13, 76), (11, 11)], Value.int IntKind.i64 (IntKind.i64.wrap (Int.ofNat i.succ)) = Value.int IntKind.i64 (Int.ofNat i.succ), AppOK (some (Blk.vec (eBox.row ow) 25 10)) ow.length 1267650600228229401496703205376 10 80 1 [Value.int IntKind.i64 bo.a0, Value.int IntKind.i64 bo.b0, Value.int IntKind.i64 bo.a1, Value.int IntKind.i64 bo.b1, Value.int IntKind.i64 bo.a2, Value.int IntKind.i64 bo.b2, Value.int IntKind.i64 bo.a3, Value.int IntKind.i64 bo.b3, Value.int IntKind.i64 bo.a4, Value.int IntKind.i64 bo.b4] 0 (eBox.row ow2), readPart Try.prog 25 (eBox.row L) (0 + ((i : Int)).toNat * 10) = some (Value.agg (Array.mk [Value.int IntKind.i64 bo.a0, Value.int IntKind.i64 bo.b0, Value.int IntKind.i64 bo.a1, Value.int IntKind.i64 bo.b1, Value.int IntKind.i64 bo.a2, Value.int IntKind.i64 bo.b2, Value.int IntKind.i64 bo.a3, Value.int IntKind.i64 bo.b3, Value.int IntKind.i64 bo.a4, Value.int IntKind.i64 bo.b4])), (0 : Int) ≤ (i : Int) ∧ (i : Int) < (n : Int), Value.bool (decide ((↑i : Int) < 15)) = Value.bool true, Value.bool (decide ((↑i : Int) < (↑n : Int))) = Value.bool true])) (hK : ∀ zz, (bs1 L n c ts tn tc Q).inv 1 zz → ltO ((bs1 L n c ts tn tc Q).mu 1 zz) (some (15 - i)) → Sat E (mkLp (lp Try.f13 0) J) ((bs1 L n c ts tn tc Q).st 1 zz)) : Sat E (inLp (lp Try.f13 0) J) ((bs1 L n c ts tn tc Q).st 1 ⟨i, ow⟩) :=
  by_to (T := auto0 (t_bs [] Z0 0)) (h := hints [(5, 3, ht true), (5, 6, ht true), (7, 3, {p := true}), (7, 4, {o := some (.agg ⟨bo.cs⟩)}), (7, 6, {c := some (eBox.row ow2)}), (6, 1, {v := some (.int .i64 ((i + 1 : Nat) : Int))})]) (ws := []) (i0 := ⟨i + 1, ow2⟩) hE hm (auto0_ok (t_bs_ok [] Z0 0)) hL (by kernel_rfl) hob hK
theorem bsX1a (L : List Bx) (n c : Nat) (ts : List Int) (tn tc : Nat) (Q : Nat → B1 → Prop) (i : Nat) (ow : List Bx) (l : List EB) (bx : Bx) (nn : Int) (J : Act → World → Prop) {E : Env} (hE : EnvOK E Try.prog Try.f13 2 2 (.bool true) [] []) (hob : all ([Back (Value.bool true) (Value.bool true) [] [] [], Value.bool (keyEq (Value.agg (Array.mk [Value.int IntKind.i64 bx.a0, Value.int IntKind.i64 bx.b0, Value.int IntKind.i64 bx.a1, Value.int IntKind.i64 bx.b1, Value.int IntKind.i64 bx.a2, Value.int IntKind.i64 bx.b2, Value.int IntKind.i64 bx.a3, Value.int IntKind.i64 bx.b3, Value.int IntKind.i64 bx.a4, Value.int IntKind.i64 bx.b4])) (Value.agg (Array.mk [Value.int IntKind.i64 0, Value.int IntKind.i64 0, Value.int IntKind.i64 0, Value.int IntKind.i64 0, Value.int IntKind.i64 0, Value.int IntKind.i64 0, Value.int IntKind.i64 0, Value.int IntKind.i64 0, Value.int IntKind.i64 0, Value.int IntKind.i64 0]))) = Value.bool true, Value.bool (nn == (0 : Int)) = Value.bool true, (Blk.map [some IntKind.i64, some IntKind.i64, some IntKind.i64, some IntKind.i64, some IntKind.i64, some IntKind.i64, some IntKind.i64, some IntKind.i64, some IntKind.i64, some IntKind.i64] true (some IntKind.i64) [] 0).plain, [some IntKind.i64, some IntKind.i64, some IntKind.i64, some IntKind.i64, some IntKind.i64, some IntKind.i64, some IntKind.i64, some IntKind.i64, some IntKind.i64, some IntKind.i64] = [some IntKind.i64, some IntKind.i64, some IntKind.i64, some IntKind.i64, some IntKind.i64, some IntKind.i64, some IntKind.i64, some IntKind.i64, some IntKind.i64, some IntKind.i64], [] = esB l, OKB l 0, LG l bx nn, ∀ (e : EB), e ∈ l → 1 ≤ e.n, Value.bool (decide ((↑i : Int) < (↑n : Int))) = Value.bool false])) : Sat E (inLp (lp Try.f13 0) J) ((bs1 L n c ts tn tc Q).st 1 ⟨i, ow⟩) :=
  by_ret (T := auto0 (t_bs l bx nn)) (h := hints [(5, 3, ht false), (17, 2, ht true), (17, 5, ht true)]) (ws := []) (nx' := 2) hE hm (auto0_ok (t_bs_ok l bx nn)) (by omega) (by simp) (by simp) (by kernel_rfl) hob
theorem bsX1b (L : List Bx) (n c : Nat) (ts : List Int) (tn tc : Nat) (Q : Nat → B1 → Prop) (i : Nat) (ow : List Bx) (l : List EB) (bx : Bx) (nn : Int) (J : Act → World → Prop) {E : Env} (hE : EnvOK E Try.prog Try.f13 2 2 (.bool true) [] []) (hob : all ([Back (Value.bool true) (Value.bool true) [] [] [], Value.bool (keyEq (Value.agg (Array.mk [Value.int IntKind.i64 bx.a0, Value.int IntKind.i64 bx.b0, Value.int IntKind.i64 bx.a1, Value.int IntKind.i64 bx.b1, Value.int IntKind.i64 bx.a2, Value.int IntKind.i64 bx.b2, Value.int IntKind.i64 bx.a3, Value.int IntKind.i64 bx.b3, Value.int IntKind.i64 bx.a4, Value.int IntKind.i64 bx.b4])) (Value.agg (Array.mk [Value.int IntKind.i64 0, Value.int IntKind.i64 0, Value.int IntKind.i64 0, Value.int IntKind.i64 0, Value.int IntKind.i64 0, Value.int IntKind.i64 0, Value.int IntKind.i64 0, Value.int IntKind.i64 0, Value.int IntKind.i64 0, Value.int IntKind.i64 0]))) = Value.bool true, Value.bool (nn == (0 : Int)) = Value.bool true, (Blk.map [some IntKind.i64, some IntKind.i64, some IntKind.i64, some IntKind.i64, some IntKind.i64, some IntKind.i64, some IntKind.i64, some IntKind.i64, some IntKind.i64, some IntKind.i64] true (some IntKind.i64) [] 0).plain, [some IntKind.i64, some IntKind.i64, some IntKind.i64, some IntKind.i64, some IntKind.i64, some IntKind.i64, some IntKind.i64, some IntKind.i64, some IntKind.i64, some IntKind.i64] = [some IntKind.i64, some IntKind.i64, some IntKind.i64, some IntKind.i64, some IntKind.i64, some IntKind.i64, some IntKind.i64, some IntKind.i64, some IntKind.i64, some IntKind.i64], [] = esB l, OKB l 0, LG l bx nn, ∀ (e : EB), e ∈ l → 1 ≤ e.n, Value.bool (decide ((↑i : Int) < 15)) = Value.bool false, Value.bool (decide ((↑i : Int) < (↑n : Int))) = Value.bool true])) : Sat E (inLp (lp Try.f13 0) J) ((bs1 L n c ts tn tc Q).st 1 ⟨i, ow⟩) :=
  by_ret (T := auto0 (t_bs l bx nn)) (h := hints [(5, 3, ht true), (5, 6, ht false), (17, 2, ht true), (17, 5, ht true)]) (ws := []) (nx' := 2) hE hm (auto0_ok (t_bs_ok l bx nn)) (by omega) (by simp) (by simp) (by kernel_rfl) hob
theorem bsB2 (L : List Bx) (n c : Nat) (ts : List Int) (tn tc : Nat) (Q : Nat → B1 → Prop) (i : Nat) (bo : Bx) (ow2 : List Bx) (J : Act → World → Prop) {E : Env} {rv : Value} {rhs : List Nat} {rhv : List Blk} (hE : EnvOK E Try.prog Try.f13 2 2 rv rhs rhv) (hL : (bs1 L n c ts tn tc Q).OK 2) (hob : all ([SameK (mkLp (lp Try.f13 0) J) (mkLp (lp Try.f13 0) J), Enter (bs1 L n c ts tn tc Q) 3 (some (15 - i)) [Value.slice (some (Addr.mk 0 0 none)) n c, Value.slice (some (Addr.mk 1 0 none)) tn tc, Value.map (some 10), Value.slice (some (Addr.mk 76 0 none)) 1 1267650600228229401496703205376, Value.map (some 11), Value.int IntKind.i64 (Int.ofNat i.succ)] [Blk.ro (eBox.row L), Blk.map [some IntKind.i64, some IntKind.i64, some IntKind.i64, some IntKind.i64, some IntKind.i64, some IntKind.i64, some IntKind.i64, some IntKind.i64, some IntKind.i64, some IntKind.i64] true (some IntKind.i64) [] 0, Blk.map [some IntKind.i64, some IntKind.i64, some IntKind.i64, some IntKind.i64, some IntKind.i64, some IntKind.i64, some IntKind.i64, some IntKind.i64, some IntKind.i64, some IntKind.i64] true (some IntKind.i64) [] 0, Blk.vec (eBox.row ow2) 25 10, Blk.ro (eInt.row ts)] [(0, 0), (1, 1), (10, 10), (13, 76), (11, 11)], Value.int IntKind.i64 (IntKind.i64.wrap (Int.ofNat i.succ)) = Value.int IntKind.i64 (Int.ofNat i.succ), AppOK none 0 0 10 80 1 [Value.int IntKind.i64 bo.a0, Value.int IntKind.i64 bo.b0, Value.int IntKind.i64 bo.a1, Value.int IntKind.i64 bo.b1, Value.int IntKind.i64 bo.a2, Value.int IntKind.i64 bo.b2, Value.int IntKind.i64 bo.a3, Value.int IntKind.i64 bo.b3, Value.int IntKind.i64 bo.a4, Value.int IntKind.i64 bo.b4] 0 (eBox.row ow2), readPart Try.prog 25 (eBox.row L) (0 + ((i : Int)).toNat * 10) = some (Value.agg (Array.mk [Value.int IntKind.i64 bo.a0, Value.int IntKind.i64 bo.b0, Value.int IntKind.i64 bo.a1, Value.int IntKind.i64 bo.b1, Value.int IntKind.i64 bo.a2, Value.int IntKind.i64 bo.b2, Value.int IntKind.i64 bo.a3, Value.int IntKind.i64 bo.b3, Value.int IntKind.i64 bo.a4, Value.int IntKind.i64 bo.b4])), (0 : Int) ≤ (i : Int) ∧ (i : Int) < (n : Int), Value.bool (decide ((↑i : Int) < 15)) = Value.bool true, Value.bool (decide ((↑i : Int) < (↑n : Int))) = Value.bool true])) (hK : ∀ zz, (bs1 L n c ts tn tc Q).inv 3 zz → ltO ((bs1 L n c ts tn tc Q).mu 3 zz) (some (15 - i)) → Sat E (mkLp (lp Try.f13 0) J) ((bs1 L n c ts tn tc Q).st 3 zz)) : Sat E (inLp (lp Try.f13 0) J) ((bs1 L n c ts tn tc Q).st 2 ⟨i, []⟩) :=
  by_to (T := auto0 (t_bs [] Z0 0)) (h := hints [(5, 3, ht true), (5, 6, ht true), (7, 3, {p := true}), (7, 4, {o := some (.agg ⟨bo.cs⟩)}), (7, 6, {c := some (eBox.row ow2)}), (6, 1, {v := some (.int .i64 ((i + 1 : Nat) : Int))})]) (ws := []) (i0 := ⟨i + 1, ow2⟩) hE hm (auto0_ok (t_bs_ok [] Z0 0)) hL (by kernel_rfl) hob hK
theorem bsX2aF (L : List Bx) (n c : Nat) (ts : List Int) (tn tc : Nat) (Q : Nat → B1 → Prop) (i : Nat) (l : List EB) (bx : Bx) (nn : Int) (J : Act → World → Prop) {E : Env} (hE : EnvOK E Try.prog Try.f13 2 2 (.bool true) [] []) (hob : all ([Back (Value.bool true) (Value.bool true) [] [] [], Value.bool (keyEq (Value.agg (Array.mk [Value.int IntKind.i64 bx.a0, Value.int IntKind.i64 bx.b0, Value.int IntKind.i64 bx.a1, Value.int IntKind.i64 bx.b1, Value.int IntKind.i64 bx.a2, Value.int IntKind.i64 bx.b2, Value.int IntKind.i64 bx.a3, Value.int IntKind.i64 bx.b3, Value.int IntKind.i64 bx.a4, Value.int IntKind.i64 bx.b4])) (Value.agg (Array.mk [Value.int IntKind.i64 0, Value.int IntKind.i64 0, Value.int IntKind.i64 0, Value.int IntKind.i64 0, Value.int IntKind.i64 0, Value.int IntKind.i64 0, Value.int IntKind.i64 0, Value.int IntKind.i64 0, Value.int IntKind.i64 0, Value.int IntKind.i64 0]))) = Value.bool true, Value.bool (nn == (0 : Int)) = Value.bool true, (Blk.map [some IntKind.i64, some IntKind.i64, some IntKind.i64, some IntKind.i64, some IntKind.i64, some IntKind.i64, some IntKind.i64, some IntKind.i64, some IntKind.i64, some IntKind.i64] true (some IntKind.i64) [] 0).plain, [some IntKind.i64, some IntKind.i64, some IntKind.i64, some IntKind.i64, some IntKind.i64, some IntKind.i64, some IntKind.i64, some IntKind.i64, some IntKind.i64, some IntKind.i64] = [some IntKind.i64, some IntKind.i64, some IntKind.i64, some IntKind.i64, some IntKind.i64, some IntKind.i64, some IntKind.i64, some IntKind.i64, some IntKind.i64, some IntKind.i64], [] = esB l, OKB l 0, LG l bx nn, ∀ (e : EB), e ∈ l → 1 ≤ e.n, Value.bool (decide (0 < (↑tn : Int))) = Value.bool false, Value.bool (decide ((↑i : Int) < (↑n : Int))) = Value.bool false])) : Sat E (inLp (lp Try.f13 0) J) ((bs1 L n c ts tn tc Q).st 2 ⟨i, []⟩) :=
  by_ret (T := auto0 (t_bs l bx nn)) (h := hints [(5, 3, ht false), (9, 3, ht false), (17, 2, ht true), (17, 5, ht true)]) (ws := []) (nx' := 2) hE hm (auto0_ok (t_bs_ok l bx nn)) (by omega) (by simp) (by simp) (by kernel_rfl) hob
theorem bsX2aT (L : List Bx) (n c : Nat) (ts : List Int) (tn tc : Nat) (Q : Nat → B1 → Prop) (i : Nat) (l : List EB) (bx : Bx) (nn : Int) (J : Act → World → Prop) {E : Env} (hE : EnvOK E Try.prog Try.f13 2 2 (.bool true) [] []) (hob : all ([Back (Value.bool true) (Value.bool true) [] [] [], Value.bool (keyEq (Value.agg (Array.mk [Value.int IntKind.i64 bx.a0, Value.int IntKind.i64 bx.b0, Value.int IntKind.i64 bx.a1, Value.int IntKind.i64 bx.b1, Value.int IntKind.i64 bx.a2, Value.int IntKind.i64 bx.b2, Value.int IntKind.i64 bx.a3, Value.int IntKind.i64 bx.b3, Value.int IntKind.i64 bx.a4, Value.int IntKind.i64 bx.b4])) (Value.agg (Array.mk [Value.int IntKind.i64 0, Value.int IntKind.i64 0, Value.int IntKind.i64 0, Value.int IntKind.i64 0, Value.int IntKind.i64 0, Value.int IntKind.i64 0, Value.int IntKind.i64 0, Value.int IntKind.i64 0, Value.int IntKind.i64 0, Value.int IntKind.i64 0]))) = Value.bool true, Value.bool (nn == (0 : Int)) = Value.bool true, (Blk.map [some IntKind.i64, some IntKind.i64, some IntKind.i64, some IntKind.i64, some IntKind.i64, some IntKind.i64, some IntKind.i64, some IntKind.i64, some IntKind.i64, some IntKind.i64] true (some IntKind.i64) [] 0).plain, [some IntKind.i64, some IntKind.i64, some IntKind.i64, some IntKind.i64, some IntKind.i64, some IntKind.i64, some IntKind.i64, some IntKind.i64, some IntKind.i64, some IntKind.i64] = [some IntKind.i64, some IntKind.i64, some IntKind.i64, some IntKind.i64, some IntKind.i64, some IntKind.i64, some IntKind.i64, some IntKind.i64, some IntKind.i64, some IntKind.i64], [] = esB l, OKB l 0, LG l bx nn, ∀ (e : EB), e ∈ l → 1 ≤ e.n, Value.bool (decide (0 < (↑tn : Int))) = Value.bool true, Value.bool (decide ((↑i : Int) < (↑n : Int))) = Value.bool false])) : Sat E (inLp (lp Try.f13 0) J) ((bs1 L n c ts tn tc Q).st 2 ⟨i, []⟩) :=
  by_ret (T := auto0 (t_bs l bx nn)) (h := hints [(5, 3, ht false), (9, 3, ht true), (17, 2, ht true), (17, 5, ht true)]) (ws := []) (nx' := 2) hE hm (auto0_ok (t_bs_ok l bx nn)) (by omega) (by simp) (by simp) (by kernel_rfl) hob
theorem bsB3 (L : List Bx) (n c : Nat) (ts : List Int) (tn tc : Nat) (Q : Nat → B1 → Prop) (i : Nat) (ow : List Bx) (bo : Bx) (ow2 : List Bx) (J : Act → World → Prop) {E : Env} {rv : Value} {rhs : List Nat} {rhv : List Blk} (hE : EnvOK E Try.prog Try.f13 2 2 rv rhs rhv) (hL : (bs1 L n c ts tn tc Q).OK 2) (hob : all ([SameK (mkLp (lp Try.f13 0) J) (mkLp (lp Try.f13 0) J), Enter (bs1 L n c ts tn tc Q) 3 (some (15 - i)) [Value.slice (some (Addr.mk 0 0 none)) n c, Value.slice (some (Addr.mk 1 0 none)) tn tc, Value.map (some 10), Value.slice (some (Addr.mk 76 0 none)) (ow.length + 1) 1267650600228229401496703205376, Value.map (some 11), Value.int IntKind.i64 (Int.ofNat i.succ)] [Blk.ro (eBox.row L), Blk.map [some IntKind.i64, some IntKind.i64, some IntKind.i64, some IntKind.i64, some IntKind.i64, some IntKind.i64, some IntKind.i64, some IntKind.i64, some IntKind.i64, some IntKind.i64] true (some IntKind.i64) [] 0, Blk.map [some IntKind.i64, some IntKind.i64, some IntKind.i64, some IntKind.i64, some IntKind.i64, some IntKind.i64, some IntKind.i64, some IntKind.i64, some IntKind.i64, some IntKind.i64] true (some IntKind.i64) [] 0, Blk.vec (eBox.row ow2) 25 10, Blk.ro (eInt.row ts)] [(0, 0), (1, 1), (10, 10), (13, 76), (11, 11)], Value.int IntKind.i64 (IntKind.i64.wrap (Int.ofNat i.succ)) = Value.int IntKind.i64 (Int.ofNat i.succ), AppOK (some (Blk.vec (eBox.row ow) 25 10)) ow.length 1267650600228229401496703205376 10 80 1 [Value.int IntKind.i64 bo.a0, Value.int IntKind.i64 bo.b0, Value.int IntKind.i64 bo.a1, Value.int IntKind.i64 bo.b1, Value.int IntKind.i64 bo.a2, Value.int IntKind.i64 bo.b2, Value.int IntKind.i64 bo.a3, Value.int IntKind.i64 bo.b3, Value.int IntKind.i64 bo.a4, Value.int IntKind.i64 bo.b4] 0 (eBox.row ow2), readPart Try.prog 25 (eBox.row L) (0 + ((i : Int)).toNat * 10) = some (Value.agg (Array.mk [Value.int IntKind.i64 bo.a0, Value.int IntKind.i64 bo.b0, Value.int IntKind.i64 bo.a1, Value.int IntKind.i64 bo.b1, Value.int IntKind.i64 bo.a2, Value.int IntKind.i64 bo.b2, Value.int IntKind.i64 bo.a3, Value.int IntKind.i64 bo.b3, Value.int IntKind.i64 bo.a4, Value.int IntKind.i64 bo.b4])), (0 : Int) ≤ (i : Int) ∧ (i : Int) < (n : Int), Value.bool (decide ((↑i : Int) < 15)) = Value.bool true, Value.bool (decide ((↑i : Int) < (↑n : Int))) = Value.bool true])) (hK : ∀ zz, (bs1 L n c ts tn tc Q).inv 3 zz → ltO ((bs1 L n c ts tn tc Q).mu 3 zz) (some (15 - i)) → Sat E (mkLp (lp Try.f13 0) J) ((bs1 L n c ts tn tc Q).st 3 zz)) : Sat E (inLp (lp Try.f13 0) J) ((bs1 L n c ts tn tc Q).st 3 ⟨i, ow⟩) :=
  by_to (T := auto0 (t_bs [] Z0 0)) (h := hints [(5, 3, ht true), (5, 6, ht true), (7, 3, {p := true}), (7, 4, {o := some (.agg ⟨bo.cs⟩)}), (7, 6, {c := some (eBox.row ow2)}), (6, 1, {v := some (.int .i64 ((i + 1 : Nat) : Int))})]) (ws := []) (i0 := ⟨i + 1, ow2⟩) hE hm (auto0_ok (t_bs_ok [] Z0 0)) hL (by kernel_rfl) hob hK
theorem bsX3a (L : List Bx) (n c : Nat) (ts : List Int) (tn tc : Nat) (Q : Nat → B1 → Prop) (i k : Nat) (ow : List Bx) (Q2 : B2 → Prop) (J : Act → World → Prop) {E : Env} {rv : Value} {rhs : List Nat} {rhv : List Blk} (hE : EnvOK E Try.prog Try.f13 2 2 rv rhs rhv) (hL : (bs2 ow k ts tn tc Q2).OK 2) (hob : all ([SameK (atLp (lp Try.f13 1)) (atLp (lp Try.f13 1)), Enter (bs2 ow k ts tn tc Q2) 0 none [Value.slice (some (Addr.mk 1 0 none)) tn tc, Value.map (some 10), Value.slice (some (Addr.mk 13 0 none)) ow.length 1267650600228229401496703205376, Value.map (some 11), Value.int IntKind.i64 ((0 : Int))] [Blk.ro (eInt.row ts), Blk.map [some IntKind.i64, some IntKind.i64, some IntKind.i64, some IntKind.i64, some IntKind.i64, some IntKind.i64, some IntKind.i64, some IntKind.i64, some IntKind.i64, some IntKind.i64] true (some IntKind.i64) [] 0, Blk.map [some IntKind.i64, some IntKind.i64, some IntKind.i64, some IntKind.i64, some IntKind.i64, some IntKind.i64, some IntKind.i64, some IntKind.i64, some IntKind.i64, some IntKind.i64] true (some IntKind.i64) [] 0, Blk.vec (eBox.row ow) 25 10] [(1, 1), (10, 10), (13, 13), (11, 11)], Value.bool (decide ((↑i : Int) < (↑n : Int))) = Value.bool false])) (hK : ∀ zz, (bs2 ow k ts tn tc Q2).inv 0 zz → ltO ((bs2 ow k ts tn tc Q2).mu 0 zz) none → Sat E (atLp (lp Try.f13 1)) ((bs2 ow k ts tn tc Q2).st 0 zz)) : Sat E (inLp (lp Try.f13 0) J) ((bs1 L n c ts tn tc Q).st 3 ⟨i, ow⟩) :=
  by_to (T := auto0 (t_bs [] Z0 0)) (h := hints [(5, 3, ht false)]) (ws := [.go, .stop]) (i0 := ⟨0, [], 0⟩) hE hm (auto0_ok (t_bs_ok [] Z0 0)) hL (by kernel_rfl) hob hK
theorem bsX3b (L : List Bx) (n c : Nat) (ts : List Int) (tn tc : Nat) (Q : Nat → B1 → Prop) (i k : Nat) (ow : List Bx) (Q2 : B2 → Prop) (J : Act → World → Prop) {E : Env} {rv : Value} {rhs : List Nat} {rhv : List Blk} (hE : EnvOK E Try.prog Try.f13 2 2 rv rhs rhv) (hL : (bs2 ow k ts tn tc Q2).OK 2) (hob : all ([SameK (atLp (lp Try.f13 1)) (atLp (lp Try.f13 1)), Enter (bs2 ow k ts tn tc Q2) 0 none [Value.slice (some (Addr.mk 1 0 none)) tn tc, Value.map (some 10), Value.slice (some (Addr.mk 13 0 none)) ow.length 1267650600228229401496703205376, Value.map (some 11), Value.int IntKind.i64 ((0 : Int))] [Blk.ro (eInt.row ts), Blk.map [some IntKind.i64, some IntKind.i64, some IntKind.i64, some IntKind.i64, some IntKind.i64, some IntKind.i64, some IntKind.i64, some IntKind.i64, some IntKind.i64, some IntKind.i64] true (some IntKind.i64) [] 0, Blk.map [some IntKind.i64, some IntKind.i64, some IntKind.i64, some IntKind.i64, some IntKind.i64, some IntKind.i64, some IntKind.i64, some IntKind.i64, some IntKind.i64, some IntKind.i64] true (some IntKind.i64) [] 0, Blk.vec (eBox.row ow) 25 10] [(1, 1), (10, 10), (13, 13), (11, 11)], Value.bool (decide ((↑i : Int) < 15)) = Value.bool false, Value.bool (decide ((↑i : Int) < (↑n : Int))) = Value.bool true])) (hK : ∀ zz, (bs2 ow k ts tn tc Q2).inv 0 zz → ltO ((bs2 ow k ts tn tc Q2).mu 0 zz) none → Sat E (atLp (lp Try.f13 1)) ((bs2 ow k ts tn tc Q2).st 0 zz)) : Sat E (inLp (lp Try.f13 0) J) ((bs1 L n c ts tn tc Q).st 3 ⟨i, ow⟩) :=
  by_to (T := auto0 (t_bs [] Z0 0)) (h := hints [(5, 3, ht true), (5, 6, ht false)]) (ws := [.go, .stop]) (i0 := ⟨0, [], 0⟩) hE hm (auto0_ok (t_bs_ok [] Z0 0)) hL (by kernel_rfl) hob hK
theorem bsA (ow : List Bx) (k : Nat) (ts : List Int) (tn tc : Nat) (Q : B2 → Prop) (i : Nat) (l : List EB) (c : Nat) (l2 : List EB) (tv g : Int) (j : Nat) (bo : Bx) (J : Act → World → Prop) {E : Env} {rv : Value} {rhs : List Nat} {rhv : List Blk} (hE : EnvOK E Try.prog Try.f13 2 2 rv rhs rhv) (hL : (bs2 ow k ts tn tc Q).OK 2) (hob : all ([SameK (mkLp (lp Try.f13 1) J) (mkLp (lp Try.f13 1) J), Enter (bs2 ow k ts tn tc Q) 0 (some (30 - i)) [Value.slice (some (Addr.mk 1 0 none)) tn tc, Value.map (some 10), Value.slice (some (Addr.mk 13 0 none)) k 1267650600228229401496703205376, Value.map (some 11), Value.int IntKind.i64 (Int.ofNat i.succ)] [Blk.ro (eInt.row ts), Blk.map [some IntKind.i64, some IntKind.i64, some IntKind.i64, some IntKind.i64, some IntKind.i64, some IntKind.i64, some IntKind.i64, some IntKind.i64, some IntKind.i64, some IntKind.i64] true (some IntKind.i64) (Ytdeedabhgfmgjaa.SpanE.add1 (Ytdeedabhgfmgjaa.SpanE.bx bo.a0 bo.b0 bo.a1 bo.b1 bo.a2 bo.b2 bo.a3 bo.b3 bo.a4 bo.b4) (esB l) c) (bif mhas (Ytdeedabhgfmgjaa.SpanE.bx bo.a0 bo.b0 bo.a1 bo.b1 bo.a2 bo.b2 bo.a3 bo.b3 bo.a4 bo.b4) (esB l) then c else c + 1), Blk.map [some IntKind.i64, some IntKind.i64, some IntKind.i64, some IntKind.i64, some IntKind.i64, some IntKind.i64, some IntKind.i64, some IntKind.i64, some IntKind.i64, some IntKind.i64] true (some IntKind.i64) (esB l2) (bif mhas (Value.agg (Array.mk [Value.int IntKind.i64 bo.a0, Value.int IntKind.i64 bo.b0, Value.int IntKind.i64 bo.a1, Value.int IntKind.i64 bo.b1, Value.int IntKind.i64 bo.a2, Value.int IntKind.i64 bo.b2, Value.int IntKind.i64 bo.a3, Value.int IntKind.i64 bo.b3, Value.int IntKind.i64 bo.a4, Value.int IntKind.i64 bo.b4])) (esB l) then c else c + 1), Blk.vec (eBox.row ow) 25 10] [(1, 1), (10, 10), (13, 13), (11, 11)], Value.int IntKind.i64 (IntKind.i64.wrap (Int.ofNat i.succ)) = Value.int IntKind.i64 (Int.ofNat i.succ), Value.bool (Int.ofNat (Ytdeedabhgfmgjaa.SpanE.add1 (Ytdeedabhgfmgjaa.SpanE.bx bo.a0 bo.b0 bo.a1 bo.b1 bo.a2 bo.b2 bo.a3 bo.b3 bo.a4 bo.b4) (esB l) c).length != Int.ofNat (esB l2).length) = Value.bool false, Value.bool (g + (1 : Int) != g + (1 : Int)) = Value.bool false, Value.int IntKind.i64 (mgetI (Value.agg (Array.mk [Value.int IntKind.i64 bo.a0, Value.int IntKind.i64 bo.b0, Value.int IntKind.i64 bo.a1, Value.int IntKind.i64 bo.b1, Value.int IntKind.i64 bo.a2, Value.int IntKind.i64 bo.b2, Value.int IntKind.i64 bo.a3, Value.int IntKind.i64 bo.b3, Value.int IntKind.i64 bo.a4, Value.int IntKind.i64 bo.b4])) (esB l2)) = Value.int IntKind.i64 (g + (1 : Int)), Value.int IntKind.i64 (mgetI (Ytdeedabhgfmgjaa.SpanE.bx bo.a0 bo.b0 bo.a1 bo.b1 bo.a2 bo.b2 bo.a3 bo.b3 bo.a4 bo.b4) (esB l) + (1 : Int)) = Value.int IntKind.i64 (g + (1 : Int)), I64 (mgetI (Ytdeedabhgfmgjaa.SpanE.bx bo.a0 bo.b0 bo.a1 bo.b1 bo.a2 bo.b2 bo.a3 bo.b3 bo.a4 bo.b4) (esB l) + (1 : Int)), some (Value.int IntKind.i64 (mgetI (Value.agg (Array.mk [Value.int IntKind.i64 bo.a0, Value.int IntKind.i64 bo.b0, Value.int IntKind.i64 bo.a1, Value.int IntKind.i64 bo.b1, Value.int IntKind.i64 bo.a2, Value.int IntKind.i64 bo.b2, Value.int IntKind.i64 bo.a3, Value.int IntKind.i64 bo.b3, Value.int IntKind.i64 bo.a4, Value.int IntKind.i64 bo.b4])) (mens (Value.agg (Array.mk [Value.int IntKind.i64 bo.a0, Value.int IntKind.i64 bo.b0, Value.int IntKind.i64 bo.a1, Value.int IntKind.i64 bo.b1, Value.int IntKind.i64 bo.a2, Value.int IntKind.i64 bo.b2, Value.int IntKind.i64 bo.a3, Value.int IntKind.i64 bo.b3, Value.int IntKind.i64 bo.a4, Value.int IntKind.i64 bo.b4])) (zeroOf (some IntKind.i64)) c (esB l)))) = some (Value.int IntKind.i64 (mgetI (Value.agg (Array.mk [Value.int IntKind.i64 bo.a0, Value.int IntKind.i64 bo.b0, Value.int IntKind.i64 bo.a1, Value.int IntKind.i64 bo.b1, Value.int IntKind.i64 bo.a2, Value.int IntKind.i64 bo.b2, Value.int IntKind.i64 bo.a3, Value.int IntKind.i64 bo.b3, Value.int IntKind.i64 bo.a4, Value.int IntKind.i64 bo.b4])) (esB l))), mborn (Int.ofNat (mstamp (Value.agg (Array.mk [Value.int IntKind.i64 bo.a0, Value.int IntKind.i64 bo.b0, Value.int IntKind.i64 bo.a1, Value.int IntKind.i64 bo.b1, Value.int IntKind.i64 bo.a2, Value.int IntKind.i64 bo.b2, Value.int IntKind.i64 bo.a3, Value.int IntKind.i64 bo.b3, Value.int IntKind.i64 bo.a4, Value.int IntKind.i64 bo.b4])) c (esB l))) (mens (Value.agg (Array.mk [Value.int IntKind.i64 bo.a0, Value.int IntKind.i64 bo.b0, Value.int IntKind.i64 bo.a1, Value.int IntKind.i64 bo.b1, Value.int IntKind.i64 bo.a2, Value.int IntKind.i64 bo.b2, Value.int IntKind.i64 bo.a3, Value.int IntKind.i64 bo.b3, Value.int IntKind.i64 bo.a4, Value.int IntKind.i64 bo.b4])) (zeroOf (some IntKind.i64)) c (esB l)) = true, mset (Int.ofNat (mstamp (Value.agg (Array.mk [Value.int IntKind.i64 bo.a0, Value.int IntKind.i64 bo.b0, Value.int IntKind.i64 bo.a1, Value.int IntKind.i64 bo.b1, Value.int IntKind.i64 bo.a2, Value.int IntKind.i64 bo.b2, Value.int IntKind.i64 bo.a3, Value.int IntKind.i64 bo.b3, Value.int IntKind.i64 bo.a4, Value.int IntKind.i64 bo.b4])) c (esB l))) (Value.int IntKind.i64 (g + 1)) (mens (Value.agg (Array.mk [Value.int IntKind.i64 bo.a0, Value.int IntKind.i64 bo.b0, Value.int IntKind.i64 bo.a1, Value.int IntKind.i64 bo.b1, Value.int IntKind.i64 bo.a2, Value.int IntKind.i64 bo.b2, Value.int IntKind.i64 bo.a3, Value.int IntKind.i64 bo.b3, Value.int IntKind.i64 bo.a4, Value.int IntKind.i64 bo.b4])) (zeroOf (some IntKind.i64)) c (esB l)) = esB l2, Value.int IntKind.i64 (IntKind.i64.wrap (g + (1 : Int))) = Value.int IntKind.i64 (g + (1 : Int)), Value.int IntKind.i64 (mgetI (Value.agg (Array.mk [Value.int IntKind.i64 bo.a0, Value.int IntKind.i64 bo.b0, Value.int IntKind.i64 bo.a1, Value.int IntKind.i64 bo.b1, Value.int IntKind.i64 bo.a2, Value.int IntKind.i64 bo.b2, Value.int IntKind.i64 bo.a3, Value.int IntKind.i64 bo.b3, Value.int IntKind.i64 bo.a4, Value.int IntKind.i64 bo.b4])) (esB l)) = Value.int IntKind.i64 g, readPart Try.prog 25 (eBox.row ow) (0 + ((j : Int)).toNat * 10) = some (Value.agg (Array.mk [Value.int IntKind.i64 bo.a0, Value.int IntKind.i64 bo.b0, Value.int IntKind.i64 bo.a1, Value.int IntKind.i64 bo.b1, Value.int IntKind.i64 bo.a2, Value.int IntKind.i64 bo.b2, Value.int IntKind.i64 bo.a3, Value.int IntKind.i64 bo.b3, Value.int IntKind.i64 bo.a4, Value.int IntKind.i64 bo.b4])), (0 : Int) ≤ (j : Int) ∧ (j : Int) < (k : Int), Value.int IntKind.i64 (withinS tv ((0 : Int)) ((k : Int) - (1 : Int))) = Value.int IntKind.i64 ((j : Int)), I64 tv, (-2305843009213693952 : Int) ≤ (0 : Int), (0 : Int) ≤ (k : Int) - (1 : Int), (k : Int) - (1 : Int) ≤ (2305843009213693952 : Int), Value.int IntKind.i64 (IntKind.i64.wrap ((k : Int) - (1 : Int))) = Value.int IntKind.i64 ((k : Int) - (1 : Int)), readPart Try.prog 3 (eInt.row ts) (0 + ((i : Int)).toNat * 1) = some (Value.int IntKind.i64 tv), (0 : Int) ≤ (i : Int) ∧ (i : Int) < (tn : Int), Value.bool (decide ((↑k : Int) > 0)) = Value.bool true, Value.bool (decide ((↑i : Int) < 30)) = Value.bool true, Value.bool (decide ((↑i : Int) < (↑tn : Int))) = Value.bool true])) (hK : ∀ zz, (bs2 ow k ts tn tc Q).inv 0 zz → ltO ((bs2 ow k ts tn tc Q).mu 0 zz) (some (30 - i)) → Sat E (mkLp (lp Try.f13 1) J) ((bs2 ow k ts tn tc Q).st 0 zz)) : Sat E (inLp (lp Try.f13 1) J) ((bs2 ow k ts tn tc Q).st 0 ⟨i, l, c⟩) :=
  by_to (T := auto0 (t_bs [] Z0 0)) (h := hints [(9, 3, ht true), (9, 6, ht true), (9, 11, ht true), (11, 3, {p := true}), (11, 4, {o := some (.int .i64 tv)}), (11, 7, {v := some (.int .i64 ((k : Int) - 1))}), (11, 8, {v := some (.int .i64 (j : Int))}), (11, 9, {p := true}), (11, 10, {o := some (.agg ⟨bo.cs⟩)}), (12, 2, {v := some (.int .i64 g)}), (12, 3, {v := some (.int .i64 (g + 1))}), (12, 6, {e := some (esB l2)}), (13, 2, {v := some (.int .i64 (g + 1))}), (13, 5, {v := some (.int .i64 (g + 1))}), (13, 6, ht false), (13, 12, ht false), (10, 1, {v := some (.int .i64 ((i + 1 : Nat) : Int))})]) (ws := []) (i0 := ⟨i + 1, l2, c⟩) hE hm (auto0_ok (t_bs_ok [] Z0 0)) hL (by kernel_rfl) hob hK
theorem bsZ (ow : List Bx) (k : Nat) (ts : List Int) (tn tc : Nat) (Q : B2 → Prop) (i : Nat) (l : List EB) (c : Nat) (bx : Bx) (nn : Int) (J : Act → World → Prop) {E : Env} (hE : EnvOK E Try.prog Try.f13 2 2 (.bool true) [] []) (hob : all ([Back (Value.bool true) (Value.bool true) [] [] [], Value.bool (keyEq (Value.agg (Array.mk [Value.int IntKind.i64 bx.a0, Value.int IntKind.i64 bx.b0, Value.int IntKind.i64 bx.a1, Value.int IntKind.i64 bx.b1, Value.int IntKind.i64 bx.a2, Value.int IntKind.i64 bx.b2, Value.int IntKind.i64 bx.a3, Value.int IntKind.i64 bx.b3, Value.int IntKind.i64 bx.a4, Value.int IntKind.i64 bx.b4])) (Value.agg (Array.mk [Value.int IntKind.i64 0, Value.int IntKind.i64 0, Value.int IntKind.i64 0, Value.int IntKind.i64 0, Value.int IntKind.i64 0, Value.int IntKind.i64 0, Value.int IntKind.i64 0, Value.int IntKind.i64 0, Value.int IntKind.i64 0, Value.int IntKind.i64 0]))) = Value.bool true, Value.bool (nn == (0 : Int)) = Value.bool true, Value.bool (Int.ofNat (esB l).length == (0 : Int)) = Value.bool true, (Blk.map [some IntKind.i64, some IntKind.i64, some IntKind.i64, some IntKind.i64, some IntKind.i64, some IntKind.i64, some IntKind.i64, some IntKind.i64, some IntKind.i64, some IntKind.i64] true (some IntKind.i64) (esB l) c).plain, [some IntKind.i64, some IntKind.i64, some IntKind.i64, some IntKind.i64, some IntKind.i64, some IntKind.i64, some IntKind.i64, some IntKind.i64, some IntKind.i64, some IntKind.i64] = [some IntKind.i64, some IntKind.i64, some IntKind.i64, some IntKind.i64, some IntKind.i64, some IntKind.i64, some IntKind.i64, some IntKind.i64, some IntKind.i64, some IntKind.i64], esB l = esB l, OKB l c, LG l bx nn, ∀ (e : EB), e ∈ l → 1 ≤ e.n, Value.bool (decide ((↑i : Int) < (↑tn : Int))) = Value.bool false])) : Sat E (inLp (lp Try.f13 1) J) ((bs2 ow k ts tn tc Q).st 0 ⟨i, l, c⟩) :=
  by_ret (T := auto0 (t_bs l bx nn)) (h := hints [(9, 3, ht false), (16, 2, ht true), (17, 2, ht true), (17, 5, ht true)]) (ws := []) (nx' := 2) hE hm (auto0_ok (t_bs_ok l bx nn)) (by omega) (by simp) (by simp) (by kernel_rfl) hob
theorem bsYa (ow : List Bx) (k : Nat) (ts : List Int) (tn tc : Nat) (Q : B2 → Prop) (i : Nat) (l : List EB) (c : Nat) (bx : Bx) (nn : Int) (Q3 : List Nat → Prop) (J : Act → World → Prop) {E : Env} {rv : Value} {rhs : List Nat} {rhv : List Blk} (hE : EnvOK E Try.prog Try.f13 2 2 rv rhs rhv) (hL : (bs3 l c bx nn Q3).OK 2) (hob : all ([SameK (atLp (lp Try.f13 2)) (atLp (lp Try.f13 2)), Enter (bs3 l c bx nn Q3) 0 none [Value.pointer (some (Addr.mk 92 0 none)), Value.int IntKind.i64 nn, Value.pointer (some (Addr.mk 156 0 none))] [Blk.map [some IntKind.i64, some IntKind.i64, some IntKind.i64, some IntKind.i64, some IntKind.i64, some IntKind.i64, some IntKind.i64, some IntKind.i64, some IntKind.i64, some IntKind.i64] true (some IntKind.i64) (esB l) c, Blk.cells [Value.int IntKind.i64 bx.a0, Value.int IntKind.i64 bx.b0, Value.int IntKind.i64 bx.a1, Value.int IntKind.i64 bx.b1, Value.int IntKind.i64 bx.a2, Value.int IntKind.i64 bx.b2, Value.int IntKind.i64 bx.a3, Value.int IntKind.i64 bx.b3, Value.int IntKind.i64 bx.a4, Value.int IntKind.i64 bx.b4] 25, Blk.it 11 c [] c] [(15, 92), (16, 156)], Value.bool (decide (nn < 1)) = Value.bool false, Value.bool (nn != nn) = Value.bool false, Value.int IntKind.i64 (mgetI (Value.agg (Array.mk [Value.int IntKind.i64 bx.a0, Value.int IntKind.i64 bx.b0, Value.int IntKind.i64 bx.a1, Value.int IntKind.i64 bx.b1, Value.int IntKind.i64 bx.a2, Value.int IntKind.i64 bx.b2, Value.int IntKind.i64 bx.a3, Value.int IntKind.i64 bx.b3, Value.int IntKind.i64 bx.a4, Value.int IntKind.i64 bx.b4])) (esB l)) = Value.int IntKind.i64 nn, Value.bool (Int.ofNat (esB l).length == (0 : Int)) = Value.bool false, (Blk.map [some IntKind.i64, some IntKind.i64, some IntKind.i64, some IntKind.i64, some IntKind.i64, some IntKind.i64, some IntKind.i64, some IntKind.i64, some IntKind.i64, some IntKind.i64] true (some IntKind.i64) (esB l) c).plain, [some IntKind.i64, some IntKind.i64, some IntKind.i64, some IntKind.i64, some IntKind.i64, some IntKind.i64, some IntKind.i64, some IntKind.i64, some IntKind.i64, some IntKind.i64] = [some IntKind.i64, some IntKind.i64, some IntKind.i64, some IntKind.i64, some IntKind.i64, some IntKind.i64, some IntKind.i64, some IntKind.i64, some IntKind.i64, some IntKind.i64], esB l = esB l, OKB l c, LG l bx nn, ∀ (e : EB), e ∈ l → 1 ≤ e.n, Value.bool (decide ((↑i : Int) < (↑tn : Int))) = Value.bool false])) (hK : ∀ zz, (bs3 l c bx nn Q3).inv 0 zz → ltO ((bs3 l c bx nn Q3).mu 0 zz) none → Sat E (atLp (lp Try.f13 2)) ((bs3 l c bx nn Q3).st 0 zz)) : Sat E (inLp (lp Try.f13 1) J) ((bs2 ow k ts tn tc Q).st 0 ⟨i, l, c⟩) :=
  by_to (T := auto0 (t_bs l bx nn)) (h := hints [(9, 3, ht false), (16, 2, ht false), (18, 2, {v := some (.int .i64 nn)}), (18, 4, ht false), (18, 7, ht false)]) (ws := [.go, .go, .go, .stop]) (i0 := []) hE hm (auto0_ok (t_bs_ok l bx nn)) hL (by kernel_rfl) hob hK
theorem bsYb (ow : List Bx) (k : Nat) (ts : List Int) (tn tc : Nat) (Q : B2 → Prop) (i : Nat) (l : List EB) (c : Nat) (bx : Bx) (nn : Int) (Q3 : List Nat → Prop) (J : Act → World → Prop) {E : Env} {rv : Value} {rhs : List Nat} {rhv : List Blk} (hE : EnvOK E Try.prog Try.f13 2 2 rv rhs rhv) (hL : (bs3 l c bx nn Q3).OK 2) (hob : all ([SameK (atLp (lp Try.f13 2)) (atLp (lp Try.f13 2)), Enter (bs3 l c bx nn Q3) 0 none [Value.pointer (some (Addr.mk 92 0 none)), Value.int IntKind.i64 nn, Value.pointer (some (Addr.mk 156 0 none))] [Blk.map [some IntKind.i64, some IntKind.i64, some IntKind.i64, some IntKind.i64, some IntKind.i64, some IntKind.i64, some IntKind.i64, some IntKind.i64, some IntKind.i64, some IntKind.i64] true (some IntKind.i64) (esB l) c, Blk.cells [Value.int IntKind.i64 bx.a0, Value.int IntKind.i64 bx.b0, Value.int IntKind.i64 bx.a1, Value.int IntKind.i64 bx.b1, Value.int IntKind.i64 bx.a2, Value.int IntKind.i64 bx.b2, Value.int IntKind.i64 bx.a3, Value.int IntKind.i64 bx.b3, Value.int IntKind.i64 bx.a4, Value.int IntKind.i64 bx.b4] 25, Blk.it 11 c [] c] [(15, 92), (16, 156)], Value.bool (decide (nn < 1)) = Value.bool false, Value.bool (nn != nn) = Value.bool false, Value.int IntKind.i64 (mgetI (Value.agg (Array.mk [Value.int IntKind.i64 bx.a0, Value.int IntKind.i64 bx.b0, Value.int IntKind.i64 bx.a1, Value.int IntKind.i64 bx.b1, Value.int IntKind.i64 bx.a2, Value.int IntKind.i64 bx.b2, Value.int IntKind.i64 bx.a3, Value.int IntKind.i64 bx.b3, Value.int IntKind.i64 bx.a4, Value.int IntKind.i64 bx.b4])) (esB l)) = Value.int IntKind.i64 nn, Value.bool (Int.ofNat (esB l).length == (0 : Int)) = Value.bool false, (Blk.map [some IntKind.i64, some IntKind.i64, some IntKind.i64, some IntKind.i64, some IntKind.i64, some IntKind.i64, some IntKind.i64, some IntKind.i64, some IntKind.i64, some IntKind.i64] true (some IntKind.i64) (esB l) c).plain, [some IntKind.i64, some IntKind.i64, some IntKind.i64, some IntKind.i64, some IntKind.i64, some IntKind.i64, some IntKind.i64, some IntKind.i64, some IntKind.i64, some IntKind.i64] = [some IntKind.i64, some IntKind.i64, some IntKind.i64, some IntKind.i64, some IntKind.i64, some IntKind.i64, some IntKind.i64, some IntKind.i64, some IntKind.i64, some IntKind.i64], esB l = esB l, OKB l c, LG l bx nn, ∀ (e : EB), e ∈ l → 1 ≤ e.n, Value.bool (decide ((↑i : Int) < 30)) = Value.bool false, Value.bool (decide ((↑i : Int) < (↑tn : Int))) = Value.bool true])) (hK : ∀ zz, (bs3 l c bx nn Q3).inv 0 zz → ltO ((bs3 l c bx nn Q3).mu 0 zz) none → Sat E (atLp (lp Try.f13 2)) ((bs3 l c bx nn Q3).st 0 zz)) : Sat E (inLp (lp Try.f13 1) J) ((bs2 ow k ts tn tc Q).st 0 ⟨i, l, c⟩) :=
  by_to (T := auto0 (t_bs l bx nn)) (h := hints [(9, 3, ht true), (9, 6, ht false), (16, 2, ht false), (18, 2, {v := some (.int .i64 nn)}), (18, 4, ht false), (18, 7, ht false)]) (ws := [.go, .go, .go, .stop]) (i0 := []) hE hm (auto0_ok (t_bs_ok l bx nn)) hL (by kernel_rfl) hob hK
theorem bs3A (l : List EB) (c : Nat) (x : Bx) (n : Int) (Q : List Nat → Prop) (seen : List Nat) (b : Bx) (k : Int) (s : Nat) (J : Act → World → Prop) {E : Env} {rv : Value} {rhs : List Nat} {rhv : List Blk} (hE : EnvOK E Try.prog Try.f13 2 2 rv rhs rhv) (hL : (bs3 l c x n Q).OK 2) (hob : all ([SameK (mkLp (lp Try.f13 2) J) (mkLp (lp Try.f13 2) J), Enter (bs3 l c x n Q) 0 (some (l.length - seen.length)) [Value.pointer (some (Addr.mk 15 0 none)), Value.int IntKind.i64 n, Value.pointer (some (Addr.mk 16 0 none))] [Blk.map [some IntKind.i64, some IntKind.i64, some IntKind.i64, some IntKind.i64, some IntKind.i64, some IntKind.i64, some IntKind.i64, some IntKind.i64, some IntKind.i64, some IntKind.i64] true (some IntKind.i64) (esB l) c, Blk.cells [Value.int IntKind.i64 x.a0, Value.int IntKind.i64 x.b0, Value.int IntKind.i64 x.a1, Value.int IntKind.i64 x.b1, Value.int IntKind.i64 x.a2, Value.int IntKind.i64 x.b2, Value.int IntKind.i64 x.a3, Value.int IntKind.i64 x.b3, Value.int IntKind.i64 x.a4, Value.int IntKind.i64 x.b4] 25, Blk.it 11 c (seen ++ [(EB.mk b k s).ent.snd.snd]) c] [(15, 15), (16, 16)], Value.bool (k == n) = Value.bool false, Value.bool (decide (k > n)) = Value.bool false, EntryOK (esB l) (seen ++ [(EB.mk b k s).ent.snd.snd]) c c (Value.tuple (Array.mk [Value.agg (Array.mk [Value.int IntKind.i64 b.a0, Value.int IntKind.i64 b.b0, Value.int IntKind.i64 b.a1, Value.int IntKind.i64 b.b1, Value.int IntKind.i64 b.a2, Value.int IntKind.i64 b.b2, Value.int IntKind.i64 b.a3, Value.int IntKind.i64 b.b3, Value.int IntKind.i64 b.a4, Value.int IntKind.i64 b.b4]), Value.int IntKind.i64 k]))])) (hK : ∀ zz, (bs3 l c x n Q).inv 0 zz → ltO ((bs3 l c x n Q).mu 0 zz) (some (l.length - seen.length)) → Sat E (mkLp (lp Try.f13 2) J) ((bs3 l c x n Q).st 0 zz)) : Sat E (afterN (inLp (lp Try.f13 2) J)) (stYes ((bs3 l c x n Q).st 0 seen) 109 110 16 11 c seen c (EB.ent ⟨b, k, s⟩)) :=
  by_to (T := auto0 (t_bs [] Z0 0)) (h := hints [(22, 0, {o := some (.tuple ⟨[kB b, .int .i64 k]⟩)}), (23, 2, ht false), (23, 6, ht false)]) (ws := []) (i0 := (seen ++ [s])) hE hm (auto0_ok (t_bs_ok [] Z0 0)) hL (by kernel_rfl) hob hK
theorem bs3B (l : List EB) (c : Nat) (x : Bx) (n : Int) (Q : List Nat → Prop) (seen : List Nat) (b : Bx) (k : Int) (s : Nat) (J : Act → World → Prop) {E : Env} {rv : Value} {rhs : List Nat} {rhv : List Blk} (hE : EnvOK E Try.prog Try.f13 2 2 rv rhs rhv) (hL : (bs3 l c x n Q).OK 2) (hob : all ([SameK (mkLp (lp Try.f13 2) J) (mkLp (lp Try.f13 2) J), Enter (bs3 l c x n Q) 0 (some (l.length - seen.length)) [Value.pointer (some (Addr.mk 15 0 none)), Value.int IntKind.i64 n, Value.pointer (some (Addr.mk 16 0 none))] [Blk.map [some IntKind.i64, some IntKind.i64, some IntKind.i64, some IntKind.i64, some IntKind.i64, some IntKind.i64, some IntKind.i64, some IntKind.i64, some IntKind.i64, some IntKind.i64] true (some IntKind.i64) (esB l) c, Blk.cells [Value.int IntKind.i64 x.a0, Value.int IntKind.i64 x.b0, Value.int IntKind.i64 x.a1, Value.int IntKind.i64 x.b1, Value.int IntKind.i64 x.a2, Value.int IntKind.i64 x.b2, Value.int IntKind.i64 x.a3, Value.int IntKind.i64 x.b3, Value.int IntKind.i64 x.a4, Value.int IntKind.i64 x.b4] 25, Blk.it 11 c (seen ++ [(EB.mk b k s).ent.snd.snd]) c] [(15, 15), (16, 16)], (Value.bool !keyEq (Value.agg (Array.mk [Value.int IntKind.i64 b.a0, Value.int IntKind.i64 b.b0, Value.int IntKind.i64 b.a1, Value.int IntKind.i64 b.b1, Value.int IntKind.i64 b.a2, Value.int IntKind.i64 b.b2, Value.int IntKind.i64 b.a3, Value.int IntKind.i64 b.b3, Value.int IntKind.i64 b.a4, Value.int IntKind.i64 b.b4])) (Value.agg (Array.mk [Value.int IntKind.i64 x.a0, Value.int IntKind.i64 x.b0, Value.int IntKind.i64 x.a1, Value.int IntKind.i64 x.b1, Value.int IntKind.i64 x.a2, Value.int IntKind.i64 x.b2, Value.int IntKind.i64 x.a3, Value.int IntKind.i64 x.b3, Value.int IntKind.i64 x.a4, Value.int IntKind.i64 x.b4]))) = Value.bool false, Value.bool (k == n) = Value.bool true, Value.bool (decide (k > n)) = Value.bool false, EntryOK (esB l) (seen ++ [(EB.mk b k s).ent.snd.snd]) c c (Value.tuple (Array.mk [Value.agg (Array.mk [Value.int IntKind.i64 b.a0, Value.int IntKind.i64 b.b0, Value.int IntKind.i64 b.a1, Value.int IntKind.i64 b.b1, Value.int IntKind.i64 b.a2, Value.int IntKind.i64 b.b2, Value.int IntKind.i64 b.a3, Value.int IntKind.i64 b.b3, Value.int IntKind.i64 b.a4, Value.int IntKind.i64 b.b4]), Value.int IntKind.i64 k]))])) (hK : ∀ zz, (bs3 l c x n Q).inv 0 zz → ltO ((bs3 l c x n Q).mu 0 zz) (some (l.length - seen.length)) → Sat E (mkLp (lp Try.f13 2) J) ((bs3 l c x n Q).st 0 zz)) : Sat E (afterN (inLp (lp Try.f13 2) J)) (stYes ((bs3 l c x n Q).st 0 seen) 109 110 16 11 c seen c (EB.ent ⟨b, k, s⟩)) :=
  by_to (T := auto0 (t_bs [] Z0 0)) (h := hints [(22, 0, {o := some (.tuple ⟨[kB b, .int .i64 k]⟩)}), (23, 2, ht false), (23, 6, ht true), (23, 10, ht false)]) (ws := []) (i0 := (seen ++ [s])) hE hm (auto0_ok (t_bs_ok [] Z0 0)) hL (by kernel_rfl) hob hK
theorem bs3C (l : List EB) (c : Nat) (x : Bx) (n : Int) (Q : List Nat → Prop) (seen : List Nat) (b : Bx) (k : Int) (s : Nat) (J : Act → World → Prop) {E : Env} {rv : Value} {rhs : List Nat} {rhv : List Blk} (hE : EnvOK E Try.prog Try.f13 2 2 rv rhs rhv) (hL : (bs3 l c x n Q).OK 2) (hob : all ([SameK (mkLp (lp Try.f13 2) J) (mkLp (lp Try.f13 2) J), Enter (bs3 l c x n Q) 0 (some (l.length - seen.length)) [Value.pointer (some (Addr.mk 15 0 none)), Value.int IntKind.i64 n, Value.pointer (some (Addr.mk 16 0 none))] [Blk.map [some IntKind.i64, some IntKind.i64, some IntKind.i64, some IntKind.i64, some IntKind.i64, some IntKind.i64, some IntKind.i64, some IntKind.i64, some IntKind.i64, some IntKind.i64] true (some IntKind.i64) (esB l) c, Blk.cells [Value.int IntKind.i64 x.a0, Value.int IntKind.i64 x.b0, Value.int IntKind.i64 x.a1, Value.int IntKind.i64 x.b1, Value.int IntKind.i64 x.a2, Value.int IntKind.i64 x.b2, Value.int IntKind.i64 x.a3, Value.int IntKind.i64 x.b3, Value.int IntKind.i64 x.a4, Value.int IntKind.i64 x.b4] 25, Blk.it 11 c (seen ++ [(EB.mk b k s).ent.snd.snd]) c] [(15, 15), (16, 16)], Value.bool (lAhead (Bx.mk b.a0 b.b0 b.a1 b.b1 b.a2 b.b2 b.a3 b.b3 b.a4 b.b4) (Bx.mk x.a0 x.b0 x.a1 x.b1 x.a2 x.b2 x.a3 x.b3 x.a4 x.b4)) = Value.bool false, (Value.bool !keyEq (Value.agg (Array.mk [Value.int IntKind.i64 b.a0, Value.int IntKind.i64 b.b0, Value.int IntKind.i64 b.a1, Value.int IntKind.i64 b.b1, Value.int IntKind.i64 b.a2, Value.int IntKind.i64 b.b2, Value.int IntKind.i64 b.a3, Value.int IntKind.i64 b.b3, Value.int IntKind.i64 b.a4, Value.int IntKind.i64 b.b4])) (Value.agg (Array.mk [Value.int IntKind.i64 x.a0, Value.int IntKind.i64 x.b0, Value.int IntKind.i64 x.a1, Value.int IntKind.i64 x.b1, Value.int IntKind.i64 x.a2, Value.int IntKind.i64 x.b2, Value.int IntKind.i64 x.a3, Value.int IntKind.i64 x.b3, Value.int IntKind.i64 x.a4, Value.int IntKind.i64 x.b4]))) = Value.bool true, Value.bool (k == n) = Value.bool true, Value.bool (decide (k > n)) = Value.bool false, EntryOK (esB l) (seen ++ [(EB.mk b k s).ent.snd.snd]) c c (Value.tuple (Array.mk [Value.agg (Array.mk [Value.int IntKind.i64 b.a0, Value.int IntKind.i64 b.b0, Value.int IntKind.i64 b.a1, Value.int IntKind.i64 b.b1, Value.int IntKind.i64 b.a2, Value.int IntKind.i64 b.b2, Value.int IntKind.i64 b.a3, Value.int IntKind.i64 b.b3, Value.int IntKind.i64 b.a4, Value.int IntKind.i64 b.b4]), Value.int IntKind.i64 k]))])) (hK : ∀ zz, (bs3 l c x n Q).inv 0 zz → ltO ((bs3 l c x n Q).mu 0 zz) (some (l.length - seen.length)) → Sat E (mkLp (lp Try.f13 2) J) ((bs3 l c x n Q).st 0 zz)) : Sat E (afterN (inLp (lp Try.f13 2) J)) (stYes ((bs3 l c x n Q).st 0 seen) 109 110 16 11 c seen c (EB.ent ⟨b, k, s⟩)) :=
  by_to (T := auto0 (t_bs [] Z0 0)) (h := hints [(22, 0, {o := some (.tuple ⟨[kB b, .int .i64 k]⟩)}), (23, 2, ht false), (23, 6, ht true), (23, 10, ht true), (23, 15, {v := some (.bool false)})]) (ws := []) (i0 := (seen ++ [s])) hE hm (auto0_ok (t_bs_ok [] Z0 0)) hL (by kernel_rfl) hob hK
theorem bs3X (l : List EB) (c : Nat) (x : Bx) (n : Int) (Q : List Nat → Prop) (seen : List Nat) (J : Act → World → Prop) {E : Env} (hE : EnvOK E Try.prog Try.f13 2 2 (.bool true) [] []) (hob : all ([Back (Value.bool true) (Value.bool true) [] [] []])) : Sat E (afterN (inLp (lp Try.f13 2) J)) (stNo ((bs3 l c x n Q).st 0 seen) 109 110) :=
  by_ret (T := auto0 (t_bs [] Z0 0)) (h := hints []) (ws := []) (nx' := 2) hE hm (auto0_ok (t_bs_ok [] Z0 0)) (by omega) (by simp) (by simp) (by kernel_rfl) hob
end Go.Proofs.Ytdeedabhgfmgjaa.Bs

