/-
  A region of operations: in the order in which they stand, or in whatever order the tape draws: the machine comes to what the evaluator computes. No condition.
-/
import Derived.Test.YtmgkmekknhggbaaEvStep
set_option linter.unusedVariables false
set_option linter.unusedSimpArgs false
namespace Go.Proofs.Ytmgkmekknhggbaa.Ev
open Go Go.RowKit
/-- A frame and a world, as the evaluator tells them. -/
structure RC (An : Nm × (Nat → Prop)) (M : Nat → Prop) (w0 : World) (n : Nat) (g : Nm) (B : Nat → Prop) (T : Tm) (H : Heap) (a : Act) (w : World) : Prop where
  hc : HC M w0 g B H w
  size : a.tmps.size = n
  defers : a.defers = []
  tm : ∀ i v, T i = some v → a.tmps[i]? = some (ren g v) ∧ InB B v
  anch : Agree An.2 An.1 g
  sub : ∀ k, An.2 k → B k
section
variable {An : Nm × (Nat → Prop)} {P : Program} {M : Nat → Prop} {w0 w : World} {n : Nat} {g : Nm} {B : Nat → Prop} {T : Tm} {H : Heap} {a : Act} {sums : Sums} {hint : Nat → Hint} {ops : Array Oper} {base i : Nat} {S S' : RS} {K : Act → World → Prop} {Q : Exit → Act → World → Prop}
theorem RC.stands (h : RC An M w0 n g B T H a w) : Stands g B (ev T) a.eval := by
  intro x v hv
  cases x with
  | tmp t =>
    obtain ⟨h1, h2⟩ := h.tm t v hv
    refine ⟨?_, h2⟩
    obtain ⟨hlt, he⟩ := Array.getElem?_eq_some_iff.1 h1
    simp [Act.eval, Array.getD, hlt, he]
  | const c =>
    unfold ev at hv
    cases hg : gnd c <;> simp only [hg, cond_true, cond_false, reduceCtorEq, Option.some.injEq] at hv
    subst hv
    exact ⟨(ren_gnd g hg).symm, InB.gnd hg⟩
  | func f =>
    simp only [ev, Option.some.injEq] at hv
    subst hv
    exact ⟨by simp [Act.eval, ren, ren1], InB.gnd rfl⟩
  | global x => simp [ev] at hv
theorem wantedA_ok (h : RC An M w0 n g B T H a w) {o : Oper} {hh : Hint} {b : Bool} {ob : List Prop} (hw : wantedA hh ops.toList o T = some (b, ob)) (hob : ∀ p ∈ ob, p) : Region.wanted o (yielded ops a.tmps) = b := by
  unfold wantedA at hw
  unfold Region.wanted
  split at hw
  · rename_i hg
    simp at hw; simp only [hg]; exact hw.1.symm
  · rename_i j want hg
    rw [hg]
    simp only
    split at hw
    · rename_i og hog
      split at hw
      · rename_i t ht
        split at hw
        · rename_i c hc
          have hy : yielded ops a.tmps j = some c := by
            obtain ⟨h1, _⟩ := h.tm t _ hc
            have hog' : ops[j]? = some og := by simpa using hog
            simp [yielded, hog', ht, h1, ren, ren1, ren0]
          rw [hy]
          split at hw
          · rename_i d hd
            simp at hw
            obtain ⟨rfl, rfl⟩ := hw
            have := hob _ (List.mem_singleton.2 rfl)
            simpa using this
          · split at hw
            · rename_i he
              simp at hw
              obtain ⟨rfl, -⟩ := hw
              simpa using he
            · rename_i he
              simp at hw
              obtain ⟨rfl, -⟩ := hw
              simpa using he
        · rename_i vs hc
          have hy : yielded ops a.tmps j = none := by
            obtain ⟨h1, _⟩ := h.tm t _ hc
            have hog' : ops[j]? = some og := by simpa using hog
            simp [yielded, hog', ht, h1, ren]
          rw [hy]
          simp at hw
          obtain ⟨rfl, -⟩ := hw
          simp
        · simp at hw
      · simp at hw
    · simp at hw
theorem putT_spec {v : Value} {d : Option Tmp} (h : RC An M w0 n g B T H a w) {g' : Nm} {B' : Nat → Prop} {H' : Heap} {w' : World} (hag : Agree B g g') (hb : ∀ k, B k → B' k) (hc : HC M w0 g' B' H' w') (hv : InB B' v) {o : Oper} (hod : o.dst = d) (hd : dstOK o n = true) :
    RC An M w0 n g' B' (putT T d v) H' (a.put d (ren g' v)) w' := by
  have old : ∀ i u, T i = some u → a.tmps[i]? = some (ren g' u) ∧ InB B' u := fun i u hu => by
    obtain ⟨h1, h2⟩ := h.tm i u hu
    exact ⟨by rw [h1, h2 g g' hag], h2.mono hb⟩
  have anch : Agree An.2 An.1 g' := fun k hk => by
    obtain ⟨h1, h2, h3⟩ := h.anch k hk
    obtain ⟨h4, h5, h6⟩ := hag k (h.sub k hk)
    exact ⟨h1.trans h4, h2.trans h5, h3.trans h6⟩
  have sub : ∀ k, An.2 k → B' k := fun k hk => hb k (h.sub k hk)
  cases d with
  | none => exact ⟨hc, h.size, h.defers, old, anch, sub⟩
  | some d =>
    have hlt : d < n := by simpa [dstOK, hod, Nat.blt_eq] using hd
    refine ⟨hc, by simp [Act.put, h.size], h.defers, fun i u hu => ?_, anch, sub⟩
    simp only [putT] at hu
    by_cases e : i = d
    · subst e
      rw [upd_self] at hu
      simp at hu; subst hu
      exact ⟨by simp [Act.put, h.size, hlt], hv⟩
    · rw [upd_ne _ _ e] at hu
      obtain ⟨h1, h2⟩ := old i u hu
      exact ⟨by simp [Act.put, Array.getElem?_setIfInBounds_ne (Ne.symm e), h1], h2⟩
theorem astep_inv (h : astep P sums hint ops.toList n base i S = some S') : ∃ o r, ops[i]? = some o ∧ estep P sums hint ops.toList base i o S.T S.H = some r ∧ dstOK o n = true ∧
    S' = ⟨putT S.T o.dst r.v, apU r.us S.H, upd S.L i (some ⟨r.us, r.rs, r.ob, lrStep P (hint i) ops.toList o S.T S.H, bvStep P sums hint ops.toList base i o S.T S.H⟩)⟩ := by
  unfold astep at h
  split at h
  · simp at h
  · rename_i o ho
    split at h
    · simp at h
    · rename_i r hr
      rw [forceV_eq] at h
      cases hd : dstOK o n <;> rw [hd] at h
      · exact absurd h (by simp)
      · simp only [cond_true, Option.some.injEq] at h
        exact ⟨o, r, by simpa using ho, hr, hd, h.symm⟩
theorem astep_of {o : Oper} {r : Res} (h1 : ops[i]? = some o) (h2 : estep P sums hint ops.toList base i o S.T S.H = some r) (h3 : dstOK o n = true) :
    astep P sums hint ops.toList n base i S = some ⟨putT S.T o.dst r.v, apU r.us S.H, upd S.L i (some ⟨r.us, r.rs, r.ob, lrStep P (hint i) ops.toList o S.T S.H, bvStep P sums hint ops.toList base i o S.T S.H⟩)⟩ := by
  have h1' : ops.toList[i]? = some o := by simpa using h1
  unfold astep
  simp only [h1', h2, h3, cond_true, forceV_eq]
theorem astep_wp (hS : SumsOK P sums) (hr : astep P sums hint ops.toList n base i S = some S') (hob : ∀ f, S'.L i = some f → ∀ p ∈ f.ob, p) (hR : RC An M w0 n g B S.T S.H a w) (hn : ∀ k, B k → ¬ Fresh (base + 4 * i) k)
    (hK : ∀ g' a' w', RC An M w0 n g' (Plus B (base + 4 * i)) S'.T S'.H a' w' → K a' w') : wpOp P ops Q i K a w := by
  obtain ⟨o, r, ho, hs, hd, rfl⟩ := astep_inv hr
  simp only [upd_self, Option.some.injEq] at hob
  have hob := hob _ rfl
  unfold estep at hs
  unfold wpOp
  simp only [ho]
  split at hs
  · rename_i ob hw
    split at hs
    · rename_i r' hr'
      obtain ⟨hv, hu, hob⟩ : r'.v = r.v ∧ r'.us = r.us ∧ (∀ p, p ∈ ob ∨ p ∈ r'.ob → p) := by
        split at hs
        · simp at hs; subst hs
          exact ⟨rfl, rfl, fun p hp => hob p (List.mem_append.2 hp)⟩
        · simp at hs; subst hs
          exact ⟨hob _ (List.mem_cons_self ..), rfl, fun p hp => hob p (List.mem_cons_of_mem _ (List.mem_append.2 hp))⟩
      rw [← hv, ← hu] at hK
      rw [if_pos (wantedA_ok hR hw fun p hp => hob p (Or.inl hp))]
      refine .inl (eff_wp hS hR.hc hR.stands hn hr' (fun p hp => hob p (Or.inr hp)) fun g' w' hag hc hv => ?_)
      exact hK g' _ w' (putT_spec hR hag plus_mono hc hv rfl hd)
    · simp at hs
  · rename_i ob hw
    simp at hs; subst hs
    rw [wantedA_ok hR hw hob, if_neg (by simp)]
    refine hK g _ w (?_ : RC An M w0 n g (Plus B (base + 4 * i)) _ _ _ _)
    have := putT_spec (v := undef) (d := o.dst) (B' := Plus B (base + 4 * i)) hR (Agree.refl _ _) plus_mono (hR.hc.mono plus_mono) (InB.gnd rfl) rfl hd
    rw [ren_gnd g (v := undef) rfl] at this
    exact this
  · simp at hs
/-! ### In the order in which they stand -/
theorem runOps_L : ∀ {l : List Nat} {S Sf : RS}, runOps P sums hint ops.toList n base l S = some Sf → ∀ k, k ∉ l → Sf.L k = S.L k
  | [], S, Sf, h, k, _ => by simp [runOps] at h; rw [h]
  | i :: l, S, Sf, h, k, hk => by
    simp only [runOps] at h
    split at h
    · rename_i S1 h1
      obtain ⟨o, r, _, _, _, rfl⟩ := astep_inv h1
      rw [runOps_L h k (fun hm => hk (by simp [hm]))]
      exact upd_ne _ _ (fun e => hk (by simp [e]))
    · simp at h
theorem run_wpOps (hS : SumsOK P sums) : ∀ {l : List Nat} {S Sf : RS} {g : Nm} {B : Nat → Prop} {a : Act} {w : World}, runOps P sums hint ops.toList n base l S = some Sf → (∀ i ∈ l, ∀ f, Sf.L i = some f → ∀ p ∈ f.ob, p) → l.Nodup →
    RC An M w0 n g B S.T S.H a w → (∀ i ∈ l, ∀ k, B k → ¬ Fresh (base + 4 * i) k) → (∀ g' B' a' w', (∀ k, B' k → B k ∨ ∃ i ∈ l, Fresh (base + 4 * i) k) → RC An M w0 n g' B' Sf.T Sf.H a' w' → Q .normal a' w') → wpOps P ops Q l a w
  | [], S, Sf, g, B, a, w, h, _, _, hR, _, hQ => by
    simp [runOps] at h; subst h
    exact hQ g B a w (fun k hk => Or.inl hk) hR
  | i :: l, S, Sf, g, B, a, w, h, hob, hnd, hR, hn, hQ => by
    simp only [runOps] at h
    split at h
    · rename_i S1 h1
      obtain ⟨hni, hnd'⟩ := List.nodup_cons.1 hnd
      rw [wpOps_cons]
      have hL := runOps_L h i hni
      refine astep_wp hS h1 (fun f hf => hob i (by simp) f (by rw [hL, hf])) hR (hn i (by simp)) fun g' a' w' hR' => ?_
      refine run_wpOps hS h (fun j hj => hob j (by simp [hj])) hnd' hR' (fun j hj k hk => ?_) fun g2 B2 a2 w2 hB2 hR2 => hQ g2 B2 a2 w2 (fun k hk => ?_) hR2
      · rcases hk with hk | hk
        · exact hn j (by simp [hj]) k hk
        · intro hk'
          have hne : j ≠ i := fun e => hni (e ▸ hj)
          obtain ⟨h1, h2⟩ := hk
          obtain ⟨h3, h4⟩ := hk'
          omega
      · rcases hB2 k hk with hk | ⟨j, hj, hk⟩
        · rcases hk with hk | hk
          · exact Or.inl hk
          · exact Or.inr ⟨i, by simp, hk⟩
        · exact Or.inr ⟨j, by simp [hj], hk⟩
    · simp at h
/-! ### In any order -/
theorem upd_comm {α : Type} (f : Nat → α) {i j : Nat} (x y : α) (h : i ≠ j) : upd (upd f i x) j y = upd (upd f j y) i x := by
  funext k
  by_cases h1 : k = j
  · subst h1; rw [upd_self, upd_ne _ _ (Ne.symm h), upd_self]
  · rw [upd_ne _ _ h1]
    by_cases h2 : k = i
    · subst h2; rw [upd_self, upd_self]
    · rw [upd_ne _ _ h2, upd_ne _ _ h2, upd_ne _ _ h1]
theorem putT_comm (T : Tm) {d e : Option Tmp} (v u : Value) (h : ∀ x, d = some x → e ≠ some x) : putT (putT T d v) e u = putT (putT T e u) d v := by
  cases d with
  | none => rfl
  | some d => cases e with
    | none => rfl
    | some e => exact upd_comm T _ _ (fun he => h d rfl (by rw [he]))
theorem apU_ne : ∀ {us : List (Nat × Option Blk)} {H : Heap} {k : Nat}, k ∉ us.map (·.1) → apU us H k = H k
  | [], H, k, _ => rfl
  | (j, b) :: us, H, k, h => by
    simp only [List.map_cons, List.mem_cons, not_or] at h
    simp only [apU]
    rw [apU_ne h.2, upd_ne _ _ h.1]
theorem apU_upd : ∀ {us : List (Nat × Option Blk)} {H : Heap} {k : Nat} (b : Option Blk), k ∉ us.map (·.1) → apU us (upd H k b) = upd (apU us H) k b
  | [], H, k, b, _ => rfl
  | (j, c) :: us, H, k, b, h => by
    simp only [List.map_cons, List.mem_cons, not_or] at h
    simp only [apU]
    rw [upd_comm _ _ _ h.1, apU_upd b h.2]
theorem apU_comm : ∀ {us vs : List (Nat × Option Blk)} {H : Heap}, (∀ k ∈ us.map (·.1), k ∉ vs.map (·.1)) → apU vs (apU us H) = apU us (apU vs H)
  | [], vs, H, _ => rfl
  | (j, b) :: us, vs, H, h => by
    simp only [apU]
    rw [apU_comm (us := us) (fun k hk => h k (by simp [hk])), apU_upd b (h j (by simp))]
theorem disj_spec {x y : List Nat} (h : disj x y = true) : ∀ k ∈ x, k ∉ y := fun k hk hk' => by
  have := allB_iff.1 (allB_iff.1 h k hk) k hk'
  simp at this
theorem lrStep_some {hh : Hint} {o : Oper} {k : Nat} {f : Blk → Option Value} {v : Value} (h : lrStep P hh ops.toList o T H = some (k, f, v)) : ∃ b, H k = some b ∧ f b = some v := by
  unfold lrStep at h
  split at h
  · unfold lrOf at h
    split at h
    · split at h
      · split at h
        · rename_i b hb
          split at h
          · rename_i u hu
            simp only [Option.some.injEq, Prod.mk.injEq] at h
            obtain ⟨rfl, rfl, rfl⟩ := h
            exact ⟨b, hb, hu⟩
          · simp at h
        · simp at h
      · simp at h
    · simp at h
  · simp at h
theorem lrOf_congr {hh : Hint} {o : Oper} {nm : Nat} {r : Res} {ρ ρ' : Operand → Option Value} {H' : Heap} (hr : eff P sums hh o ρ H nm = some r) (hρ : ∀ x ∈ o.op.operands, ρ' x = ρ x) (hL : ∀ k f v, lrOf P o ρ H = some (k, f, v) → ∃ b, H' k = some b ∧ f b = some v) : lrOf P o ρ' H' = lrOf P o ρ H := by
  cases ho : o.op with
  | lookup t x key ok =>
    cases ok with
    | true => simp only [lrOf, ho]
    | false =>
      have e1 : ρ' x = ρ x := hρ x (by simp [ho, Op.operands])
      have e2 : ρ' key = ρ key := hρ key (by simp [ho, Op.operands])
      unfold eff at hr
      simp only [ho] at hr
      unfold lookupOp at hr
      split at hr
      · rename_i k key' hx hkey
        split at hr
        · rename_i b hb
          split at hr
          · rename_i v hv
            have hl : lrOf P o ρ H = some (k, lookVal P t key', v) := by
              simp only [lrOf, ho, hx, hkey, hb, hv]
            obtain ⟨b', hb', hf⟩ := hL _ _ _ hl
            rw [hl]
            simp only [lrOf, ho, e1, e2, hx, hkey, hb', hf]
          · simp at hr
        · simp at hr
      · simp at hr
  | _ => simp only [lrOf, ho]
theorem estep_congr (hS : SumsOK P sums) {o : Oper} {r : Res} {T' : Tm} {H' : Heap} (h : estep P sums hint ops.toList base i o T H = some r) (hT : ∀ t ∈ o.looksAt ops, T' t = T t) (hH : ∀ k ∈ r.rs, H' k = H k)
    (hL : ∀ k f v, lrStep P (hint i) ops.toList o T H = some (k, f, v) → ∃ b, H' k = some b ∧ f b = some v) :
    estep P sums hint ops.toList base i o T' H' = some r ∧ lrStep P (hint i) ops.toList o T' H' = lrStep P (hint i) ops.toList o T H ∧ bvStep P sums hint ops.toList base i o T' H' = bvStep P sums hint ops.toList base i o T H := by
  have hw : wantedA (hint i) ops.toList o T' = wantedA (hint i) ops.toList o T := by
    unfold wantedA
    cases hg : o.guard with
    | none => rfl
    | some jw =>
      obtain ⟨j, want⟩ := jw
      simp only
      cases hj : ops.toList[j]? with
      | none => rfl
      | some og =>
        simp only
        cases ht : og.dst with
        | none => rfl
        | some t =>
          simp only
          rw [hT t]
          unfold Oper.looksAt
          refine List.mem_append_right _ ?_
          rw [hg]
          have hj' : ops[j]? = some og := by simpa using hj
          simp [hj', ht]
  have hev : ∀ x ∈ o.op.operands, ev T' x = ev T x := fun x hx => by
    cases x with
    | tmp t => exact hT t (List.mem_append_left _ (List.mem_filterMap.2 ⟨.tmp t, by simpa using hx, rfl⟩))
    | _ => rfl
  unfold estep at h ⊢
  unfold lrStep at hL ⊢
  unfold bvStep
  rw [hw]
  split at h
  · rename_i ob hwt
    split at h
    · rename_i r' hr'
      have hrs : r'.rs = r.rs := by
        split at h <;> simp at h <;> subst h <;> rfl
      simp only [hwt] at hL ⊢
      have := eff_congr (ρ' := ev T') hS hr' hev (H' := H') (fun k hk => hH k (hrs ▸ hk)) hL
      refine ⟨?_, lrOf_congr hr' hev hL, ?_⟩
      · simp only [this]
        exact h
      · simp only [this, hr']
    · simp at h
  · rename_i ob hwt
    simp only [hwt]
    exact ⟨h, trivial, trivial⟩
  · simp at h
theorem lrObs_ob {k : Nat} {f : Blk → Option Value} {v : Value} : ∀ {us : List (Nat × Option Blk)} {ob : List Prop}, (∀ p ∈ lrObs us k f v ob, p) → (∀ p ∈ lrObs us k f v [], p) ∧ ∀ p ∈ ob, p
  | [], ob, h => ⟨by simp [lrObs], h⟩
  | (k', b) :: us, ob, h => by
    simp only [lrObs] at h ⊢
    cases hk : Nat.beq k' k <;> simp only [hk, cond_true, cond_false] at h ⊢
    · exact lrObs_ob h
    · cases b with
      | none => exact (h False (by simp)).elim
      | some b =>
        obtain ⟨h1, h2⟩ := lrObs_ob (us := us) (fun p hp => h p (List.mem_cons_of_mem _ hp))
        refine ⟨fun p hp => ?_, h2⟩
        rcases List.mem_cons.1 hp with rfl | hp
        · exact h _ (List.mem_cons_self ..)
        · exact h1 p hp
theorem apU_lr {k : Nat} {f : Blk → Option Value} {v : Value} : ∀ {us : List (Nat × Option Blk)} {H : Heap}, (∀ p ∈ lrObs us k f v [], p) → (∃ b, H k = some b ∧ f b = some v) → ∃ b, apU us H k = some b ∧ f b = some v
  | [], H, _, h => h
  | (k', b) :: us, H, h, hk => by
    simp only [lrObs] at h
    simp only [apU]
    cases hb : Nat.beq k' k <;> simp only [hb, cond_true, cond_false] at h
    · refine apU_lr h ?_
      rw [upd_ne _ _ (fun e => by subst e; simp at hb)]
      exact hk
    · have e := Nat.eq_of_beq_eq_true hb
      subst e
      cases b with
      | none => exact (h False (by simp)).elim
      | some b =>
        refine apU_lr (fun p hp => h p (List.mem_cons_of_mem _ hp)) ⟨b, by rw [upd_self], h _ (List.mem_cons_self ..)⟩
theorem comm2 (hS : SumsOK P sums) {j : Nat} {S1 S2 : RS} (hij : i ≠ j) (h1 : astep P sums hint ops.toList n base i S = some S1) (h2 : astep P sums hint ops.toList n base j S1 = some S2) (hind : indep ops.toList S2.L i j = true) (hob : ∀ p ∈ indepObs S2.L i j [], p) :
    ∃ S1', astep P sums hint ops.toList n base j S = some S1' ∧ astep P sums hint ops.toList n base i S1' = some S2 := by
  obtain ⟨o, r, ho, hs, hd, rfl⟩ := astep_inv h1
  obtain ⟨o', r', ho', hs', hd', rfl⟩ := astep_inv h2
  have ho1 : ops.toList[i]? = some o := by simpa using ho
  have ho2 : ops.toList[j]? = some o' := by simpa using ho'
  unfold indep at hind
  simp only [ho1, ho2, upd_self, upd_ne _ _ hij, Foot.ws] at hind
  cases c1 : Oper.apart ops.toList.toArray o o' <;> rw [c1] at hind
  · exact absurd hind (by simp)
  cases c2 : disj (r.us.map (·.1)) (r'.us.map (·.1)) <;> rw [c2] at hind
  · exact absurd hind (by simp)
  cases c3 : disj (r.us.map (·.1)) r'.rs <;> rw [c3] at hind
  · exact absurd hind (by simp)
  cases c4 : disj (r'.us.map (·.1)) r.rs <;> rw [c4] at hind
  · exact absurd hind (by simp)
  simp only [cond_true] at hind
  simp only [indepObs, upd_self, upd_ne _ _ hij] at hob
  obtain ⟨a1, a2, a3⟩ := Oper.apart_spec c1
  simp only [Array.toArray_toList] at a1 a3
  have keepT : ∀ (T : Tm) (d : Option Tmp) (v : Value) (o : Oper), (∀ x, d = some x → x ∉ o.looksAt ops) → ∀ t ∈ o.looksAt ops, putT T d v t = T t := by
    intro T d v o hx t ht
    cases d with
    | none => rfl
    | some d => exact upd_ne _ _ (fun e => hx d rfl (e ▸ ht))
  obtain ⟨e1, l1, b1⟩ := estep_congr (T' := S.T) (H' := S.H) hS hs' (fun t ht => (keepT S.T o.dst r.v o' a1 t ht).symm) (fun k hk => (apU_ne (fun hk' => disj_spec c3 k hk' hk)).symm) (fun k f v hl => by
    obtain ⟨b, hb, hf⟩ := lrStep_some hl
    rw [hl] at hind
    simp only at hind
    exact ⟨b, by rw [← hb]; exact (apU_ne (fun hk' => disj_spec hind k hk' (by simp))).symm, hf⟩)
  obtain ⟨e2, l2, b2⟩ := estep_congr (T' := putT S.T o'.dst r'.v) (H' := apU r'.us S.H) hS hs (keepT S.T o'.dst r'.v o a3) (fun k hk => apU_ne (fun hk' => disj_spec c4 k hk' hk)) (fun k f v hl => by
    rw [hl] at hob
    exact apU_lr hob (lrStep_some hl))
  refine ⟨_, astep_of ho' e1 hd', ?_⟩
  rw [astep_of (S := ⟨putT S.T o'.dst r'.v, apU r'.us S.H, _⟩) ho e2 hd]
  simp only [Option.some.injEq, RS.mk.injEq]
  refine ⟨(putT_comm _ _ _ a2).symm, (apU_comm (disj_spec c2)).symm, ?_⟩
  rw [l1, l2, b1, b2]
  exact (upd_comm _ _ _ hij).symm
theorem indep_congr {L L' : Nat → Option Foot} {ops : List Oper} {i j : Nat} (hi : L i = L' i) (hj : L j = L' j) : indep ops L i j = indep ops L' i j := by
  unfold indep; rw [hi, hj]
theorem indepObs_congr {L L' : Nat → Option Foot} {i j : Nat} (hi : L i = L' i) (hj : L j = L' j) (ob : List Prop) : indepObs L i j ob = indepObs L' i j ob := by
  unfold indepObs; rw [hi, hj]
theorem run_front (hS : SumsOK P sums) : ∀ {A C : List Nat} {S Sf : RS}, runOps P sums hint ops.toList n base (A ++ i :: C) S = some Sf → (A ++ i :: C).Nodup → (∀ x ∈ A, indep ops.toList Sf.L x i = true ∧ ∀ p ∈ indepObs Sf.L x i [], p) →
    ∃ S1, astep P sums hint ops.toList n base i S = some S1 ∧ runOps P sums hint ops.toList n base (A ++ C) S1 = some Sf
  | [], C, S, Sf, h, _, _ => by
    simp only [List.nil_append, runOps] at h
    split at h
    · rename_i S1 h1
      exact ⟨S1, h1, h⟩
    · simp at h
  | x :: A, C, S, Sf, h, hnd, hA => by
    simp only [List.cons_append, runOps] at h
    split at h
    · rename_i Sx hx
      rw [List.cons_append, List.nodup_cons] at hnd
      obtain ⟨S1, h1, h2⟩ := run_front hS h hnd.2 (fun y hy => hA y (by simp [hy]))
      have hxi : x ≠ i := fun e => hnd.1 (by simp [e])
      have hxl : x ∉ A ++ C := fun hm => hnd.1 (by simp only [List.mem_append, List.mem_cons] at hm ⊢; rcases hm with hm | hm <;> simp [hm])
      have hil : i ∉ A ++ C := by
        have := hnd.2
        intro hm
        rw [List.nodup_append] at this
        simp only [List.mem_append] at hm
        rcases hm with hm | hm
        · exact this.2.2 i hm i (by simp) rfl
        · exact (List.nodup_cons.1 this.2.1).1 hm
      have hind : indep ops.toList S1.L x i = true := by
        rw [indep_congr (runOps_L h2 x hxl).symm (runOps_L h2 i hil).symm]
        exact (hA x (by simp)).1
      have hobs : ∀ p ∈ indepObs S1.L x i [], p := by
        rw [indepObs_congr (runOps_L h2 x hxl).symm (runOps_L h2 i hil).symm]
        exact (hA x (by simp)).2
      obtain ⟨S1', h3, h4⟩ := comm2 hS hxi hx h1 hind hobs
      refine ⟨S1', h3, ?_⟩
      simp only [List.cons_append, runOps, h4, h2]
    · simp at h
theorem upTo_eq : ∀ n, upTo n = List.range n
  | 0 => rfl
  | n + 1 => by simp [upTo, upTo_eq n, List.range_succ]
theorem testBit_fold {α : Type} (p : α → Bool) (m : α → Nat) : ∀ (es : List α) (s x : Nat), (es.foldl (fun s e => bif p e then s ||| m e else s) s).testBit x = true → s.testBit x = true ∨ ∃ e ∈ es, p e = true ∧ (m e).testBit x = true
  | [], s, x, h => Or.inl h
  | e :: es, s, x, h => by
    simp only [List.foldl_cons] at h
    rcases testBit_fold p m es _ x h with h | ⟨e', he', hh⟩
    · cases hp : p e <;> rw [hp] at h
      · exact Or.inl h
      · simp only [cond_true, Nat.testBit_or, Bool.or_eq_true] at h
        rcases h with h | h
        · exact Or.inl h
        · exact Or.inr ⟨e, by simp, hp, h⟩
    · exact Or.inr ⟨e', by simp [he'], hh⟩
/-- Are all that it waits for listed? -/
def Waits (ops : Array Oper) (listed : Array Bool) (i : Nat) : Prop := ∀ o, ops[i]? = some o → ∀ e ∈ o.after, Region.binds .any e = true → listed.getD e.on false = true
theorem bef_closed {listed : Array Bool} (hcl : ∀ i, listed.getD i false = true → Waits ops listed i) : ∀ (l : List Oper) (acc : List Nat), (∀ j, l[j]? = ops[acc.length + j]?) →
    (∀ i m, acc[i]? = some m → Waits ops listed i → ∀ x, m.testBit x = true → listed.getD x false = true) →
    ∀ i m, (befAcc l acc)[i]? = some m → Waits ops listed i → ∀ x, m.testBit x = true → listed.getD x false = true
  | [], acc, _, h => h
  | o :: l, acc, hl, h => by
    simp only [befAcc]
    refine bef_closed hcl l _ (fun j => ?_) fun i m hm hW x hx => ?_
    · have := hl (j + 1)
      simp only [List.getElem?_cons_succ] at this
      rw [this]; simp [Nat.add_assoc, Nat.add_comm 1 j]
    · rw [List.getElem?_append] at hm
      split at hm
      · exact h i m hm hW x hx
      · rename_i hge
        have hi : i = acc.length := by
          have := (List.getElem?_eq_some_iff.1 hm).1
          simp at this; omega
        subst hi
        simp only [Nat.sub_self, List.getElem?_cons_zero, Option.some.injEq] at hm
        subst hm
        have ho : ops[acc.length]? = some o := by simpa using (hl 0).symm
        rcases testBit_fold (fun e => Region.binds .any e) (fun e => 2 ^ e.on ||| acc.getD e.on 0) _ _ _ hx with h0 | ⟨e, he, hb, hx'⟩
        · simp at h0
        · have he' : e ∈ o.after := by simpa using he
          have hlist := hW o ho e he' hb
          simp only [Nat.testBit_or, Bool.or_eq_true] at hx'
          rcases hx' with h1 | h1
          · rw [Nat.testBit_two_pow] at h1
            simp at h1; rw [← h1]; exact hlist
          · cases hg : acc[e.on]? with
            | none => simp [List.getD, hg] at h1
            | some m' =>
              simp only [List.getD, hg, Option.getD_some] at h1
              exact h e.on m' hg (hcl e.on hlist) x h1
def unl (N : Nat) (listed : Array Bool) : List Nat := (List.range N).filter fun i => !listed.getD i true
theorem unl_sorted (N : Nat) (listed : Array Bool) : (unl N listed).Pairwise (· < ·) := List.Pairwise.filter _ List.pairwise_lt_range
theorem mem_unl {N : Nat} {listed : Array Bool} {i : Nat} : i ∈ unl N listed ↔ i < N ∧ listed.getD i true = false := by
  simp [unl]
theorem unl_set {N : Nat} {listed : Array Bool} (hs : listed.size = N) {i : Nat} {A C : List Nat} (h : unl N listed = A ++ i :: C) : unl N (listed.setIfInBounds i true) = A ++ C := by
  have hi : i < N ∧ listed.getD i true = false := mem_unl.1 (by rw [h]; simp)
  have hs' := unl_sorted N listed
  have key : unl N (listed.setIfInBounds i true) = (unl N listed).filter (fun j => decide (j ≠ i)) := by
    unfold unl
    rw [List.filter_filter]
    refine List.filter_congr fun j hj => ?_
    by_cases e : j = i
    · subst e
      have : j < listed.size := by rw [hs]; exact hi.1
      simp [this]
    · rw [getD_set_ne true (Ne.symm e)]; simp [e]
  rw [key, h]
  rw [h] at hs'
  have hs1 := List.pairwise_append.1 hs'
  have hA : ∀ x ∈ A, x < i := fun x hx => hs1.2.2 x hx i (by simp)
  have hC : ∀ x ∈ C, i < x := (List.pairwise_cons.1 hs1.2.1).1
  rw [List.filter_append, List.filter_cons]
  simp only [ne_eq, not_true_eq_false, decide_false, Bool.false_eq_true, if_false]
  rw [List.filter_eq_self.2 fun x hx => by have := hA x hx; simp; omega, List.filter_eq_self.2 fun x hx => by have := hC x hx; simp; omega]
theorem getD_tf {listed : Array Bool} {i : Nat} (h : listed.getD i true = false) : listed.getD i false = false := by
  cases hh : listed[i]? with
  | none => simp [hh] at h
  | some b => simp [hh] at h ⊢; exact h
theorem getD_ft {listed : Array Bool} {i : Nat} (hi : i < listed.size) (h : ¬ listed.getD i true = false) : listed.getD i false = true := by
  have : listed[i]? = some listed[i] := Array.getElem?_eq_getElem hi
  simp [this] at h ⊢; exact h
theorem region_any (hS : SumsOK P sums) {Sf : RS} (hfree : freeB ops.toList Sf.L = true) (hob : ∀ i, i < ops.size → ∀ f, Sf.L i = some f → ∀ p ∈ f.ob, p) (hpair : ∀ j, j < ops.size → ∀ i, i < j → ((befAcc ops.toList []).getD j 0).testBit i = false → ∀ p ∈ indepObs Sf.L i j [], p) (B0 : Nat → Prop)
    (hQ : ∀ g' B' a' w', (∀ k, B' k → B0 k ∨ ∃ i, i < ops.size ∧ Fresh (base + 4 * i) k) → RC An M w0 n g' B' Sf.T Sf.H a' w' → Q .normal a' w')
    (hB0 : ∀ i, i < ops.size → ∀ k, B0 k → ¬ Fresh (base + 4 * i) k) :
    ∀ (fuel : Nat) (listed : Array Bool) (S : RS) (g : Nm) (B : Nat → Prop) (a : Act) (w : World), listed.size = ops.size → (∀ i, listed.getD i false = true → Waits ops listed i) →
      runOps P sums hint ops.toList n base (unl ops.size listed) S = some Sf → RC An M w0 n g B S.T S.H a w → (∀ k, B k → B0 k ∨ ∃ i, i < ops.size ∧ listed.getD i false = true ∧ Fresh (base + 4 * i) k) →
      (unl ops.size listed).length ≤ fuel → wpAny P .any ops Q fuel listed a w := by
  unfold freeB at hfree
  cases hlow : lowerB ops.toList <;> simp only [hlow, cond_false, cond_true, Bool.false_eq_true] at hfree
  rw [allB_iff] at hfree
  have hlow' : ∀ (i : Nat) o, ops[i]? = some o → ∀ e ∈ o.after, Region.binds .any e = true → e.on < i := by
    intro i o ho e he hb
    have hi : i < ops.size := (Array.getElem?_eq_some_iff.1 ho).1
    have := allB_iff.1 hlow i (by rw [upTo_eq]; simpa using hi)
    simp only [Array.getElem?_toList, ho, allB_iff] at this
    have := this e (by simpa using he)
    rw [hb] at this
    simpa [Nat.blt_eq] using this
  have done : ∀ (listed : Array Bool) (S : RS) (g : Nm) (B : Nat → Prop) (a : Act) (w : World), unl ops.size listed = [] → runOps P sums hint ops.toList n base (unl ops.size listed) S = some Sf → RC An M w0 n g B S.T S.H a w → (∀ k, B k → B0 k ∨ ∃ i, i < ops.size ∧ listed.getD i false = true ∧ Fresh (base + 4 * i) k) → Q .normal a w := by
    intro listed S g B a w he hrun hR hB
    rw [he] at hrun
    simp [runOps] at hrun
    subst hrun
    exact hQ g B a w (fun k hk => (hB k hk).imp id fun ⟨i, h1, _, h2⟩ => ⟨i, h1, h2⟩) hR
  have readyU : ∀ (listed : Array Bool) i, i ∈ Region.ready .any ops listed → i ∈ unl ops.size listed := by
    intro listed i hi
    obtain ⟨h0, o, ho, _⟩ := mem_ready.1 hi
    exact mem_unl.2 ⟨(Array.getElem?_eq_some_iff.1 ho).1, h0⟩
  have first : ∀ (listed : Array Bool), listed.size = ops.size → Region.ready .any ops listed = [] → unl ops.size listed = [] := by
    intro listed hsz hr
    cases hu : unl ops.size listed with
    | nil => rfl
    | cons m l =>
      have hm := mem_unl.1 (show m ∈ unl ops.size listed by rw [hu]; simp)
      have ho : ops[m]? = some ops[m] := Array.getElem?_eq_getElem hm.1
      have : m ∈ Region.ready .any ops listed := by
        rw [mem_ready]
        refine ⟨hm.2, _, ho, fun e he hb => ?_⟩
        have hlt := hlow' m _ ho e he hb
        refine getD_ft (by rw [hsz]; omega) fun hf => ?_
        have hmem := mem_unl.2 ⟨(by omega : e.on < ops.size), hf⟩
        have hs := unl_sorted ops.size listed
        rw [hu] at hmem hs
        rcases List.mem_cons.1 hmem with h1 | h1
        · omega
        · have := (List.pairwise_cons.1 hs).1 e.on h1; omega
      rw [hr] at this
      cases this
  intro fuel
  induction fuel with
  | zero =>
    intro listed S g B a w hsz hcl hrun hR hB hfu
    have hu : unl ops.size listed = [] := List.eq_nil_of_length_eq_zero (by omega)
    refine ⟨?_, done listed S g B a w hu hrun hR hB⟩
    cases hr : Region.ready .any ops listed with
    | nil => rfl
    | cons x l =>
      have := readyU listed x (by rw [hr]; simp)
      rw [hu] at this; cases this
  | succ fuel ih =>
    intro listed S g B a w hsz hcl hrun hR hB hfu
    refine ⟨fun hr => done listed S g B a w (first listed hsz hr) hrun hR hB, fun i hi => ?_⟩
    have hiu := readyU listed i hi
    obtain ⟨h0, o, ho, hall⟩ := mem_ready.1 hi
    have hiN : i < ops.size := (Array.getElem?_eq_some_iff.1 ho).1
    obtain ⟨A, C, hAC⟩ := List.append_of_mem hiu
    have hs := unl_sorted ops.size listed
    have hnd : (A ++ i :: C).Nodup := by rw [← hAC]; exact hs.imp (fun h => Nat.ne_of_lt h)
    have hW : Waits ops listed i := fun o' ho' e he hb => by
      rw [ho] at ho'; simp at ho'; subst ho'
      exact hall e he hb
    have hA : ∀ x ∈ A, indep ops.toList Sf.L x i = true ∧ ∀ p ∈ indepObs Sf.L x i [], p := by
      intro x hx
      have hxi : x < i := by
        rw [hAC] at hs
        exact (List.pairwise_append.1 hs).2.2 x hx i (by simp)
      have hxu := mem_unl.1 (show x ∈ unl ops.size listed by rw [hAC]; simp [hx])
      have := allB_iff.1 (hfree i (by rw [upTo_eq]; simpa using hiN)) x (by rw [upTo_eq]; simpa using hxi)
      cases hb : ((befAcc ops.toList []).getD i 0).testBit x <;> rw [hb] at this
      · exact ⟨this, hpair i hiN x hxi hb⟩
      · exfalso
        cases hg : (befAcc ops.toList [])[i]? with
        | none => simp [List.getD, hg] at hb
        | some m =>
          simp only [List.getD, hg, Option.getD_some] at hb
          have := bef_closed hcl ops.toList [] (by simp) (by simp) i m hg hW x hb
          rw [getD_tf hxu.2] at this
          cases this
    rw [hAC] at hrun
    obtain ⟨S1, h1, h2⟩ := run_front hS hrun hnd hA
    have hiAC : i ∉ A ++ C := by
      intro hm
      rw [List.nodup_append] at hnd
      simp only [List.mem_append] at hm
      rcases hm with hm | hm
      · exact hnd.2.2 i hm i (by simp) rfl
      · exact (List.nodup_cons.1 hnd.2.1).1 hm
    have hu' := unl_set hsz hAC
    refine astep_wp hS h1 (fun f hf => hob i hiN f (by rw [runOps_L h2 i hiAC, hf])) hR (fun k hk hf => ?_) fun g' a' w' hR' => ?_
    · rcases hB k hk with hk | ⟨j, hj, hl, hk⟩
      · exact hB0 i hiN k hk hf
      · have hne : j ≠ i := fun e => by subst e; rw [getD_tf h0] at hl; cases hl
        obtain ⟨h3, h4⟩ := hk
        obtain ⟨h5, h6⟩ := hf
        omega
    · refine ih (listed.setIfInBounds i true) S1 g' _ a' w' (by simpa using hsz) (fun j hj => ?_) (by rw [hu']; exact h2) hR' (fun k hk => ?_) ?_
      · by_cases e : j = i
        · subst e
          exact fun o' ho' e' he' hb' => getD_set_true (hW o' ho' e' he' hb')
        · rw [getD_set_ne false (Ne.symm e)] at hj
          exact fun o' ho' e' he' hb' => getD_set_true (hcl j hj o' ho' e' he' hb')
      · rcases hk with hk | hk
        · rcases hB k hk with hk | ⟨j, hj, hl, hk⟩
          · exact Or.inl hk
          · exact Or.inr ⟨j, hj, getD_set_true hl, hk⟩
        · exact Or.inr ⟨i, hiN, by simp [hsz, hiN], hk⟩
      · rw [hu']
        rw [hAC] at hfu
        simp at hfu ⊢; omega
end
/-- What the evaluator tells of a frame and a world between regions. -/
def Conc (An : Nm × (Nat → Prop)) (M : Nat → Prop) (w0 : World) (n : Nat) (S : St) (g : Nm) (a : Act) (w : World) : Prop := ∃ B : Nat → Prop, (∀ k, B k → k < S.nx) ∧ RC An M w0 n g B S.T S.H a w
theorem obsOf_spec {L : Nat → Option Foot} : ∀ {l : List Nat} {ob : List Prop}, (∀ p ∈ obsOf L l ob, p) → (∀ p ∈ ob, p) ∧ ∀ i ∈ l, ∀ f, L i = some f → ∀ p ∈ f.ob, p
  | [], ob, h => ⟨h, by simp⟩
  | i :: l, ob, h => by
    simp only [obsOf] at h
    split at h
    · rename_i f hf
      obtain ⟨h1, h2⟩ := obsOf_spec h
      refine ⟨fun p hp => h1 p (by simp [hp]), fun j hj f' hf' => ?_⟩
      rcases List.mem_cons.1 hj with rfl | hj
      · rw [hf] at hf'; simp at hf'; subst hf'
        exact fun p hp => h1 p (by simp [hp])
      · exact h2 j hj f' hf'
    · rename_i hf
      obtain ⟨h1, h2⟩ := obsOf_spec h
      refine ⟨h1, fun j hj f' hf' => ?_⟩
      rcases List.mem_cons.1 hj with rfl | hj
      · rw [hf] at hf'; cases hf'
      · exact h2 j hj f' hf'
theorem indepObs_ob {L : Nat → Option Foot} {i j : Nat} {ob : List Prop} (h : ∀ p ∈ indepObs L i j ob, p) : (∀ p ∈ indepObs L i j [], p) ∧ ∀ p ∈ ob, p := by
  unfold indepObs at h ⊢
  cases hi : L i with
  | none => rw [hi] at h; exact ⟨by simp, h⟩
  | some f =>
    rw [hi] at h
    cases hj : L j with
    | none => rw [hj] at h; exact ⟨by simp, h⟩
    | some g =>
      rw [hj] at h
      cases hl : f.lr with
      | none => simp only [hl] at h ⊢; exact ⟨by simp, h⟩
      | some x => obtain ⟨k, u, v⟩ := x; simp only [hl] at h ⊢; exact lrObs_ob h
theorem rowObs_spec {bef : List Nat} {L : Nat → Option Foot} {j : Nat} : ∀ {is : List Nat} {ob : List Prop}, (∀ p ∈ rowObs bef L j is ob, p) → (∀ p ∈ ob, p) ∧ ∀ i ∈ is, (bef.getD j 0).testBit i = false → ∀ p ∈ indepObs L i j [], p
  | [], ob, h => ⟨h, by simp⟩
  | i :: is, ob, h => by
    simp only [rowObs] at h
    cases hb : (bef.getD j 0).testBit i <;> rw [hb] at h
    · obtain ⟨h1, h2⟩ := rowObs_spec h
      obtain ⟨h3, h4⟩ := indepObs_ob h1
      refine ⟨h4, fun x hx hbx => ?_⟩
      rcases List.mem_cons.1 hx with rfl | hx
      · exact h3
      · exact h2 x hx hbx
    · obtain ⟨h1, h2⟩ := rowObs_spec h
      refine ⟨h1, fun x hx hbx => ?_⟩
      rcases List.mem_cons.1 hx with rfl | hx
      · rw [hb] at hbx; simp at hbx
      · exact h2 x hx hbx
theorem pairObs_spec {bef : List Nat} {L : Nat → Option Foot} : ∀ {js : List Nat} {ob : List Prop}, (∀ p ∈ pairObs bef L js ob, p) → (∀ p ∈ ob, p) ∧ ∀ j ∈ js, ∀ i, i < j → (bef.getD j 0).testBit i = false → ∀ p ∈ indepObs L i j [], p
  | [], ob, h => ⟨h, by simp⟩
  | j :: js, ob, h => by
    simp only [pairObs] at h
    obtain ⟨h1, h2⟩ := pairObs_spec h
    obtain ⟨h3, h4⟩ := rowObs_spec h1
    refine ⟨h3, fun x hx i hi => ?_⟩
    rcases List.mem_cons.1 hx with rfl | hx
    · exact h4 i (by rw [upTo_eq]; simpa using hi)
    · exact h2 x hx i hi
theorem RC.drew {An : Nm × (Nat → Prop)} {M : Nat → Prop} {w0 w : World} {n : Nat} {g : Nm} {B : Nat → Prop} {T : Tm} {H : Heap} {a : Act} (h : RC An M w0 n g B T H a w) : RC An M w0 n g B T H a { w with drawn := w.drawn + 1 } :=
  ⟨⟨⟨h.hc.below.os, h.hc.below.tape, h.hc.below.output, h.hc.below.size, h.hc.below.block⟩, h.hc.dom, h.hc.scope, h.hc.holds, h.hc.own, h.hc.inj⟩, h.size, h.defers, h.tm, h.anch, h.sub⟩
theorem region_wp {An : Nm × (Nat → Prop)} {P : Program} {M : Nat → Prop} {w0 w : World} {n : Nat} {g : Nm} {a : Act} {sums : Sums} {hint : Nat → Hint} {ops : Array Oper} {draw : Bool} {S S' : St} {Q : Exit → Act → World → Prop} {id : Nat}
    (hm : P.follows .mixedOrders = true) (hS : SumsOK P sums) (hr : runRegion P sums hint n ops.toList draw S = some S') (hob : ∀ p ∈ S'.ob, p) (hc : Conc An M w0 n S g a w) (hQ : ∀ g' a' w', Conc An M w0 n S' g' a' w' → Q .normal a' w') :
    (Code.region id ops draw).wp P Q a w := by
  unfold runRegion at hr
  simp only at hr
  split at hr
  · simp at hr
  · rename_i R hR
    rw [upTo_eq, Array.length_toList] at hR
    obtain ⟨B, hB, hrc⟩ := hc
    have freshB : ∀ i, ∀ k, B k → ¬ Fresh (S.nx + 4 * i) k := fun i k hk hf => by
      have := hB k hk
      obtain ⟨h1, _⟩ := hf
      omega
    have post : ∀ ob, S' = ⟨R.T, R.H, S.nx + 4 * ops.size, S.c + 1, ob⟩ → ∀ g' B' a' w', (∀ k, B' k → B k ∨ ∃ i, i < ops.size ∧ Fresh (S.nx + 4 * i) k) → RC An M w0 n g' B' R.T R.H a' w' → Q .normal a' w' := by
      intro ob he g' B' a' w' hB' hrc'
      refine hQ g' a' w' ⟨B', fun k hk => ?_, ?_⟩
      · rw [he]
        simp only
        rcases hB' k hk with hk | ⟨i, hi, _, hk⟩
        · have := hB k hk; omega
        · omega
      · rw [he]; exact hrc'
    cases draw with
    | false =>
      simp only [cond_false, cond_true, Option.some.injEq, upTo_eq, Array.length_toList] at hr
      rw [← hr] at hob
      obtain ⟨_, hob'⟩ := obsOf_spec hob
      refine wp_region (run_wpOps hS hR hob' List.nodup_range hrc (fun i _ => freshB i) fun g' B' a' w' hB' hrc' => ?_)
      exact post _ hr.symm g' B' a' w' (fun k hk => (hB' k hk).imp (fun x => x) fun ⟨i, hi, hf⟩ => ⟨i, by simpa using hi, hf⟩) hrc'
    | true =>
      simp only [cond_true] at hr
      cases hf : freeB ops.toList R.L <;> rw [hf] at hr
      · exact absurd hr (by simp)
      · simp only [cond_true, Option.some.injEq, upTo_eq, Array.length_toList] at hr
        rw [← hr] at hob
        obtain ⟨hob1, hpair⟩ := pairObs_spec hob
        obtain ⟨_, hob'⟩ := obsOf_spec hob1
        have hunl : unl ops.size (Array.replicate ops.size false) = List.range ops.size := by
          unfold unl
          rw [List.filter_eq_self]
          intro i hi
          have hi' : i < ops.size := by simpa using hi
          simp [hi']
        refine wp_region_any hm (region_any hS hf (fun i hi => hob' i (by simpa using hi)) (fun j hj i hi hb => hpair j (by simpa using hj) i hi hb) B (post _ hr.symm) (fun i _ => freshB i) ops.size (Array.replicate ops.size false) ⟨S.T, S.H, fun _ => none⟩ g B a _ (by simp) (fun i hi => ?_) (by rw [hunl]; exact hR) hrc.drew (fun k hk => Or.inl hk) (by rw [hunl]; simp))
        exfalso
        by_cases h : i < ops.size
        · simp [h] at hi
        · simp [h] at hi
end Go.Proofs.Ytmgkmekknhggbaa.Ev
