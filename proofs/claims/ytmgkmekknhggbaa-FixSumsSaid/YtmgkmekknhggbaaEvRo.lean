/-
  Summaries of functions that only read the rows that they are given, and hand back numbers or new rows. No condition.
-/
import Derived.Test.YtmgkmekknhggbaaEvLoop
set_option linter.unusedVariables false
set_option linter.unusedSimpArgs false
namespace Go.Proofs.Ytmgkmekknhggbaa.Ev
open Go Go.RowKit
def can0 : Value → Nat → Option (Value × List Nat)
  | .slice (some ⟨k, off, none⟩) n c, i => some (.slice (some ⟨i, off, none⟩) n c, [k])
  | v, _ => bif leafG v then some (v, []) else none
def canL (f : Value → Nat → Option (Value × List Nat)) : List Value → Nat → Option (List Value × List Nat)
  | [], _ => some ([], [])
  | v :: l, i => match f v i with
    | some (u, ks) => match canL f l (i + ks.length) with
      | some (us, ks') => some (u :: us, ks ++ ks')
      | none => none
    | none => none
def can1 : Value → Nat → Option (Value × List Nat)
  | .agg ⟨cs⟩, i => match canL can0 cs i with
    | some (us, ks) => some (.agg ⟨us⟩, ks)
    | none => none
  | v, i => can0 v i
def At (f : Nat → Nat) (i : Nat) (ks : List Nat) : Prop := ∀ j k, ks[j]? = some k → f (i + j) = k
theorem At.app {f : Nat → Nat} {i : Nat} {ks ks' : List Nat} (h : At f i (ks ++ ks')) : At f i ks ∧ At f (i + ks.length) ks' := by
  refine ⟨fun j k hj => ?_, fun j k hj => ?_⟩
  · have hlt := (List.getElem?_eq_some_iff.1 hj).1
    exact h j k (by rw [List.getElem?_append_left hlt]; exact hj)
  · have := h (ks.length + j) k (by rw [List.getElem?_append_right (by omega)]; simpa using hj)
    rw [← this]; congr 1; omega
def CanOK (r : (Nat → Nat) → Value → Value) (nn : Value → List Nat) (can : Value → Nat → Option (Value × List Nat)) : Prop :=
  ∀ v i u ks, can v i = some (u, ks) → (∀ f, At f i ks → r f u = v) ∧ ∀ m ∈ nn u, i ≤ m ∧ m < i + ks.length
theorem can0_ok : CanOK rn0 nm0 can0 := by
  intro v i u ks h
  unfold can0 at h
  split at h
  · rename_i k off n c
    simp at h; obtain ⟨rfl, rfl⟩ := h
    refine ⟨fun f hf => ?_, fun m hm => ?_⟩
    · have := hf 0 k rfl
      simp only [rn0, rnA]
      rw [show f i = k by simpa using this]
    · simp [nm0] at hm; subst hm; simp
  · rename_i hne
    cases hl : leafG v <;> rw [hl] at h <;> simp at h
    obtain ⟨rfl, rfl⟩ := h
    exact ⟨fun f _ => rn0_leafG f hl, fun m hm => by rw [nm0_leafG hl] at hm; simp at hm⟩
theorem canL_ok {r : (Nat → Nat) → Value → Value} {nn : Value → List Nat} {can : Value → Nat → Option (Value × List Nat)} (hc : CanOK r nn can) : ∀ {l : List Value} {i : Nat} {us : List Value} {ks : List Nat}, canL can l i = some (us, ks) →
    (∀ f, At f i ks → us.map (r f) = l) ∧ ∀ u ∈ us, ∀ m ∈ nn u, i ≤ m ∧ m < i + ks.length
  | [], i, us, ks, h => by simp [canL] at h; obtain ⟨rfl, rfl⟩ := h; simp
  | v :: l, i, us, ks, h => by
    simp only [canL] at h
    split at h
    · rename_i u ks1 hu
      split at h
      · rename_i us' ks2 hus
        simp at h; obtain ⟨rfl, rfl⟩ := h
        obtain ⟨h1, h2⟩ := hc v i u ks1 hu
        obtain ⟨h3, h4⟩ := canL_ok hc hus
        refine ⟨fun f hf => ?_, fun x hx m hm => ?_⟩
        · rw [List.map_cons, h1 f hf.app.1, h3 f hf.app.2]
        · rw [List.length_append]
          rcases List.mem_cons.1 hx with rfl | hx
          · have := h2 m hm; omega
          · have := h4 x hx m hm; omega
      · simp at h
    · simp at h
theorem mem_nmL' {f : Value → List Nat} {k : Nat} : ∀ {l : List Value}, k ∈ nmL f l → ∃ v ∈ l, k ∈ f v
  | [], h => by simp [nmL] at h
  | v :: l, h => by
    simp only [nmL, List.mem_append] at h
    rcases h with h | h
    · exact ⟨v, by simp, h⟩
    · obtain ⟨u, hu, hk⟩ := mem_nmL' h; exact ⟨u, by simp [hu], hk⟩
theorem can0_nt {v u : Value} {i : Nat} {ks : List Nat} (h : can0 v i = some (u, ks)) : leaf u = true := by
  unfold can0 at h
  split at h
  · simp at h; obtain ⟨rfl, rfl⟩ := h; rfl
  · rename_i hne
    cases hl : leafG v <;> rw [hl] at h <;> simp at h
    obtain ⟨rfl, rfl⟩ := h
    exact leaf_of_leafG hl
theorem can1_ok : CanOK rn nms can1 := by
  intro v i u ks h
  unfold can1 at h
  split at h
  · rename_i cs
    split at h
    · rename_i us ks' hus
      simp at h; obtain ⟨rfl, rfl⟩ := h
      obtain ⟨h1, h2⟩ := canL_ok can0_ok hus
      refine ⟨fun f hf => ?_, fun m hm => ?_⟩
      · simp only [rn, rn1, mapL_eq]
        rw [h1 f hf]
      · obtain ⟨x, hx, hm⟩ := mem_nmL' (f := nm0) hm
        exact h2 x hx m hm
    · simp at h
  · have hl := can0_nt h
    obtain ⟨h1, h2⟩ := can0_ok v i u ks h
    refine ⟨fun f hf => ?_, fun m hm => ?_⟩
    · rw [← h1 f hf]
      cases u <;> first | rfl | simp [leaf] at hl
    · refine h2 m ?_
      cases u <;> first | exact hm | simp [leaf] at hl
def num : List Nat → Nat → List (Nat × Nat)
  | [], _ => []
  | k :: ks, i => (i, k) :: num ks (i + 1)
theorem num_fst : ∀ (ks : List Nat) (i : Nat), (num ks i).map (·.1) = List.range' i ks.length
  | [], _ => rfl
  | k :: ks, i => by simp [num, num_fst ks (i + 1), List.range'_succ]
theorem num_mem : ∀ {ks : List Nat} {i j k : Nat}, (j, k) ∈ num ks i ↔ ∃ m, ks[m]? = some k ∧ j = i + m
  | [], i, j, k => by simp [num]
  | a :: ks, i, j, k => by
    simp only [num, List.mem_cons, Prod.mk.injEq, num_mem (ks := ks)]
    constructor
    · rintro (⟨rfl, rfl⟩ | ⟨m, h1, rfl⟩)
      · exact ⟨0, by simp, rfl⟩
      · exact ⟨m + 1, by simpa using h1, by omega⟩
    · rintro ⟨m, h1, rfl⟩
      cases m with
      | zero => simp at h1; exact Or.inl ⟨rfl, h1.symm⟩
      | succ m => exact Or.inr ⟨m, by simpa using h1, by omega⟩
theorem look_num {ks : List Nat} {more : List (Nat × Nat)} : At (look (num ks 0 ++ more)) 0 ks := by
  have key : ∀ (ks : List Nat) (i : Nat), At (look (num ks i ++ more)) i ks := by
    intro ks
    induction ks with
    | nil => intro i j k h; simp at h
    | cons a ks ih =>
      intro i j k h
      cases j with
      | zero => simp at h; subst h; simp [num, look]
      | succ j =>
        have := ih (i + 1) j k (by simpa using h)
        simp only [num, List.cons_append, look]
        have hne : Nat.beq (i + (j + 1)) i = false := by
          cases e : Nat.beq (i + (j + 1)) i with
          | false => rfl
          | true => have := Nat.eq_of_beq_eq_true e; omega
        rw [hne]
        simp only [cond_false]
        rw [← this]
        congr 1; omega
  exact key ks 0
def rowsOf (H : Heap) : List Nat → Option (List (List Value))
  | [] => some []
  | k :: ks => match H k with
    | some b => match b.row with
      | some cs => match rowsOf H ks with
        | some css => some (cs :: css)
        | none => none
      | none => none
    | none => none
theorem rowsOf_spec {H : Heap} : ∀ {ks : List Nat} {css : List (List Value)}, rowsOf H ks = some css → ks.length = css.length ∧ ∀ (m : Nat) (k : Nat), ks[m]? = some k → ∃ b cs, H k = some b ∧ b.row = some cs ∧ css[m]? = some cs
  | [], css, h => by simp [rowsOf] at h; subst h; simp
  | k :: ks, css, h => by
    simp only [rowsOf] at h
    split at h
    · rename_i b hb
      split at h
      · rename_i cs hcs
        split at h
        · rename_i css' hc
          simp at h; subst h
          obtain ⟨h1, h2⟩ := rowsOf_spec hc
          refine ⟨by simp [h1], fun m k' hk => ?_⟩
          cases m with
          | zero => simp at hk; subst hk; exact ⟨b, cs, hb, hcs, by simp⟩
          | succ m => simpa using h2 m k' (by simpa using hk)
        · simp at h
      · simp at h
    · simp at h
theorem rowsOf_congr {H H' : Heap} : ∀ {ks : List Nat}, (∀ k ∈ ks, H' k = H k) → rowsOf H' ks = rowsOf H ks
  | [], _ => rfl
  | k :: ks, h => by simp only [rowsOf]; rw [h k (by simp), rowsOf_congr fun j hj => h j (by simp [hj])]
def plainR (css : List (List Value)) : Prop := ∀ cs ∈ css, ∀ c ∈ cs, leafG c = true
def roRows (css : List (List Value)) : Heap := fun j => match css[j]? with
  | some cs => some (.ro cs)
  | none => none
/-- Names of the new blocks: 100 on. -/
def newNs : List Blk → Nat → List Nat
  | [], _ => []
  | _ :: l, i => i :: newNs l (i + 1)
theorem newNs_mem : ∀ {l : List Blk} {i j : Nat}, j ∈ newNs l i ↔ i ≤ j ∧ j < i + l.length
  | [], i, j => by simp [newNs]
  | b :: l, i, j => by simp [newNs, newNs_mem (l := l)]; omega
theorem newNs_nodup : ∀ (l : List Blk) (i : Nat), (newNs l i).Nodup
  | [], _ => List.nodup_nil
  | b :: l, i => List.nodup_cons.2 ⟨fun h => by have := newNs_mem.1 h; omega, newNs_nodup l (i + 1)⟩
theorem newNs_len : ∀ (l : List Blk) (i : Nat), (newNs l i).length = l.length
  | [], _ => rfl
  | b :: l, i => by simp [newNs, newNs_len l]
theorem assoc_new : ∀ {l : List Blk} {i j : Nat}, i ≤ j → j < i + l.length → ∃ x ∈ l, assocN (newNs l i) l j = some x
  | [], i, j, h1, h2 => by simp at h2; omega
  | b :: l, i, j, h1, h2 => by
    simp only [newNs, assocN]
    cases e : Nat.beq j i
    · have hne : j ≠ i := fun h => by subst h; simp at e
      obtain ⟨x, hx, hy⟩ := assoc_new (l := l) (i := i + 1) (j := j) (by omega) (by simp at h2; omega)
      exact ⟨x, by simp [hx], hy⟩
    · exact ⟨b, by simp, rfl⟩
abbrev RoF := List Value → List (List Value) → Option (Value × List Blk × List Prop)
noncomputable def roSum (F : RoF) : List Value → Heap → Nat → Option Res := fun args H nm =>
  match canL can1 args 0 with
  | some (as, ks) => match rowsOf H ks with
    | some css => match F as css with
      | some (v, blks, ob) => some ⟨rn (look (num ks 0 ++ toP (newNs blks 100) nm)) v, usOf (toP (newNs blks 100) nm) (assocN (newNs blks 100) blks), ks, plainR css :: ob⟩
      | none => none
    | none => none
  | none => none
theorem roSum_ok {P : Program} {f : FuncId} (he : Enters P f) {F : RoF}
    (h : ∀ as css v blks ob, F as css = some (v, blks, ob) → (∀ p ∈ ob, p) → plainR css → css.length ≤ 100 →
      blks.length ≤ 4 ∧ (∀ x ∈ blks, x.plain ∧ x.wr = true) ∧ (∀ j ∈ nms v, j < css.length ∨ (100 ≤ j ∧ j < 100 + blks.length)) ∧ CallSpec P f as (roRows css) css.length v (assocN (newNs blks 100) blks))
    (hlen : ∀ as css r, F as css = some r → css.length ≤ 100) : SumOK P f (roSum F) := by
  refine ⟨he, ?_, ?_⟩
  · intro args H nm r hr hob M w0 g B w hH hargs hn
    unfold roSum at hr
    split at hr
    · rename_i as ks hc
      split at hr
      · rename_i css hcss
        split at hr
        · rename_i v blks ob hF
          simp only [Option.some.injEq] at hr
          subst hr
          have hpl : plainR css := hob _ (List.mem_cons_self ..)
          have hl100 := hlen as css _ hF
          obtain ⟨h1, h2, h3, h4⟩ := h as css v blks ob hF (fun p hp => hob p (List.mem_cons_of_mem _ hp)) hpl hl100
          obtain ⟨c1, c2⟩ := canL_ok can1_ok hc
          obtain ⟨r1, r2⟩ := rowsOf_spec hcss
          have hnd : ((num ks 0 ++ toP (newNs blks 100) nm).map (·.1)).Nodup := by
            rw [List.map_append, num_fst, toP_fst]
            refine List.nodup_append.2 ⟨List.nodup_range', newNs_nodup _ _, fun a ha b hb => ?_⟩
            have e1 := List.mem_range'.1 ha
            have e2 := newNs_mem.1 hb
            obtain ⟨m, hm1, hm2⟩ := e1
            omega
          have hall : ∀ j, (j < css.length ∨ (100 ≤ j ∧ j < 100 + blks.length)) → ∃ k, (j, k) ∈ num ks 0 ++ toP (newNs blks 100) nm := by
            rintro j (hj | hj)
            · have hj' : j < ks.length := by omega
              exact ⟨ks[j], List.mem_append_left _ (num_mem.2 ⟨j, List.getElem?_eq_getElem hj', by omega⟩)⟩
            · have h' : j ∈ (toP (newNs blks 100) nm).map (·.1) := by rw [toP_fst]; exact newNs_mem.2 hj
              obtain ⟨⟨m, k'⟩, hm', he⟩ := List.mem_map.1 h'
              simp only at he; subst he
              exact ⟨k', List.mem_append_right _ hm'⟩
          have := ro_calls (old := num ks 0) (new := toP (newNs blks 100) nm) (nm := nm) h4 hnd (toP_snd _ nm)
            (fun j k hjk => by
              obtain ⟨m, hm1, rfl⟩ := num_mem.1 hjk
              obtain ⟨b, cs, hb, hr, hcs⟩ := r2 m k hm1
              have hlt := (List.getElem?_eq_some_iff.1 hcs).1
              refine ⟨by omega, b, hb, fun b0 hb0 => ⟨cs, hr, ?_, hpl cs (List.mem_of_getElem? hcs)⟩⟩
              unfold roRows at hb0
              rw [Nat.zero_add, hcs] at hb0
              simp at hb0
              exact hb0.symm)
            (fun j b hb => by
              unfold roRows at hb
              split at hb
              · rename_i cs hcs
                have hlt := (List.getElem?_eq_some_iff.1 hcs).1
                have hj' : j < ks.length := by omega
                exact ⟨ks[j], num_mem.2 ⟨j, List.getElem?_eq_getElem hj', by omega⟩⟩
              · simp at hb)
            (fun m k hmk => by
              obtain ⟨e1, e2, e3⟩ := toP_mem hmk
              rw [newNs_len] at e3
              have e4 := newNs_mem.1 e1
              obtain ⟨x, hx, hy⟩ := assoc_new e4.1 e4.2
              refine ⟨⟨e2, by omega⟩, x, hy, (h2 x hx).2, fun cs hcs c hcc j hj => ?_⟩
              have hp := (h2 x hx).1
              have : leafG c = true := by
                cases x <;> simp only [Blk.row, Option.some.injEq, reduceCtorEq] at hcs <;> subst hcs <;> exact hp c hcc
              rw [nm0_leafG this] at hj; simp at hj)
            (fun j hj => hall j (h3 j hj))
            (fun u hu j hj => by
              have := c2 u hu j hj
              have hj' : j < ks.length := by omega
              exact ⟨ks[j], num_mem.2 ⟨j, List.getElem?_eq_getElem hj', by omega⟩⟩)
            hH hn
          have hl0 : At (look (num ks 0)) 0 ks := by have := look_num (ks := ks) (more := []); rwa [List.append_nil] at this
          rw [c1 _ hl0] at this
          have hus : ∀ f, usR f (toP (newNs blks 100) nm) (assocN (newNs blks 100) blks) = usOf (toP (newNs blks 100) nm) (assocN (newNs blks 100) blks) := by
            intro f
            unfold usR usOf
            refine List.map_congr_left fun p hp => ?_
            congr 1
            simp only
            cases ha : assocN (newNs blks 100) blks p.1 with
            | none => rfl
            | some x =>
              obtain ⟨i, _, hi⟩ := assocN_mem ha
              have := (h2 x (List.mem_of_getElem? hi)).1
              simp only [this.rnB]
          rw [hus] at this
          exact this
        · simp at hr
      · simp at hr
    · simp at hr
  · intro args H nm r hr H' hH'
    unfold roSum at hr ⊢
    split at hr
    · rename_i as ks hc
      split at hr
      · rename_i css hcss
        split at hr
        · rename_i v blks ob hF
          simp only [Option.some.injEq] at hr
          have : rowsOf H' ks = rowsOf H ks := rowsOf_congr fun k hk => hH' k (by rw [← hr]; exact hk)
          rw [this, hcss]
          simp only [hF]
          rw [hr]
        · simp at hr
      · simp at hr
    · simp at hr
end Go.Proofs.Ytmgkmekknhggbaa.Ev
