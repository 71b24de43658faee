/-
  The evaluator's run of a piece of code, and of a whole function: the machine does the same. No condition.
-/
import Derived.Test.YtmgkmekknhggbaaEvRegion
set_option linter.unusedVariables false
set_option linter.unusedSimpArgs false
namespace Go.Proofs.Ytmgkmekknhggbaa.Ev
open Go Go.RowKit
def wpK (P : Program) (R : Exit → Act → World → Prop) : List Ctl → Exit → Act → World → Prop
  | [] => R
  | .code c :: k => Exit.then (fun a w => c.wp P (wpK P R k) a w) (wpK P R k)
  | .inBlock id :: k => Exit.inBlock id (wpK P R k)
  | .again c n :: k => Exit.then (Code.rounds P c (wpK P R k) n) (wpK P R k)
  | .mark J :: k => Exit.then J (wpK P R k)
structure Env where
  P : Program
  An : Nm × (Nat → Prop)
  M : Nat → Prop
  w0 : World
  n : Nat
  R : Exit → Act → World → Prop
/-- From such frames and worlds all goes well. -/
def Sat (E : Env) (k : List Ctl) (S : St) : Prop := ∀ g a w, Conc E.An E.M E.w0 E.n S g a w → wpK E.P E.R k .normal a w
def SatRet (E : Env) (S : St) : Prop := ∀ g a w, Conc E.An E.M E.w0 E.n S g a w → E.R .ret a w ∧ E.R .normal a w
def AllOb (S : St) : Prop := ∀ p ∈ S.ob, p
def Fin (E : Env) : Out → Prop
  | .fork t x y ob => (∀ p ∈ ob, p) ∧ (t = true → Fin E x) ∧ (t = false → Fin E y)
  | .fail => False
  | .atK k S => AllOb S ∧ Sat E k S
  | .ret S => AllOb S ∧ SatRet E S
theorem again_ok {P : Program} {c : Code} {Q : Exit → Act → World → Prop} {a : Act} {w : World} (n : Nat) (h : c.wp P (Exit.then (Code.rounds P c Q n) Q) a w) : (Code.loop c).wp P Q a w := wp_loop_rounds (n + 1) h
theorem rounds_of {P : Program} {c : Code} {Q : Exit → Act → World → Prop} {a : Act} {w : World} (n : Nat) (h : c.wp P (Exit.then (Code.rounds P c Q n) Q) a w) : Code.rounds P c Q (n + 1) a w := h
section
variable {E : Env}
theorem wpK_ret {a : Act} {w : World} (h : E.R .ret a w) : ∀ k, wpK E.P E.R k .ret a w
  | [] => h
  | .code c :: k => wpK_ret h k
  | .inBlock id :: k => wpK_ret h k
  | .again c n :: k => wpK_ret h k
  | .mark J :: k => wpK_ret h k
theorem wpK_exit {a : Act} {w : World} {id : Nat} : ∀ {k k' : List Ctl}, outOf id k = some k' → wpK E.P E.R k' .normal a w → wpK E.P E.R k (.exit id) a w
  | [], k', h, _ => by simp [outOf] at h
  | .code c :: k, k', h, hk => wpK_exit (k := k) (by simpa [outOf] using h) hk
  | .again c n :: k, k', h, hk => wpK_exit (k := k) (by simpa [outOf] using h) hk
  | .mark J :: k, k', h, hk => wpK_exit (k := k) (by simpa [outOf] using h) hk
  | .inBlock j :: k, k', h, hk => by
    simp only [outOf] at h
    show (if id = j then wpK E.P E.R k .normal a w else wpK E.P E.R k (.exit id) a w)
    cases hb : Nat.beq j id <;> rw [hb] at h
    · rw [if_neg (fun e => by subst e; simp at hb)]
      exact wpK_exit h hk
    · simp only [cond_true, Option.some.injEq] at h
      subst h
      rw [if_pos (Nat.eq_of_beq_eq_true hb).symm]; exact hk
theorem run_sound {C : Ctx} (hP : C.P = E.P) (hn : C.n = E.n) (hm : E.P.follows .mixedOrders = true) (hS : SumsOK E.P C.sums) : ∀ (m : Nat) (ws : List W) (k : List Ctl) (S : St), Fin E (run C m ws k S) → AllOb S ∧ Sat E k S := by
  intro m
  induction m with
  | zero => intro ws k S h; exact h.elim
  | succ m ih =>
    intro ws k S h
    unfold run at h
    split at h
    · -- done
      obtain ⟨h1, h2⟩ := h
      exact ⟨h1, fun g a w hc => (h2 g a w hc).2⟩
    · rename_i k
      obtain ⟨h1, h2⟩ := ih _ _ _ h
      exact ⟨h1, fun g a w hc => wp_skip (h2 g a w hc)⟩
    · rename_i x y k
      obtain ⟨h1, h2⟩ := ih _ _ _ h
      exact ⟨h1, fun g a w hc => wp_seq (h2 g a w hc)⟩
    · rename_i id ops draw k
      have one : ∀ (hh : Nat → Hint) (S0 S' : St), S0.T = S.T → S0.H = S.H → S0.nx = S.nx → runRegion E.P C.sums hh E.n ops.toList draw S0 = some S' → (∀ p ∈ S'.ob, p) → Sat E k S' → (∀ p ∈ S0.ob, p) ∧ Sat E (.code (.region id ops draw) :: k) S := by
        intro hh S0 S' e1 e2 e3 hS' h1 h2
        have hob : ∀ p ∈ S0.ob, p := by
          have hS'' := hS'
          unfold runRegion at hS''
          simp only at hS''
          split at hS''
          · simp at hS''
          · rename_i R hR
            cases hb : (bif draw then freeB ops.toList R.L else true) <;> rw [hb] at hS''
            · exact absurd hS'' (by simp)
            · simp only [cond_true, Option.some.injEq] at hS''
              subst hS''
              cases draw with
              | true => exact (obsOf_spec (pairObs_spec h1).1).1
              | false => exact (obsOf_spec h1).1
        refine ⟨hob, fun g a w hc => ?_⟩
        obtain ⟨B, hB, hrc⟩ := hc
        have hc0 : Conc E.An E.M E.w0 E.n S0 g a w := ⟨B, by rw [e3]; exact hB, by rw [e1, e2]; exact hrc⟩
        exact region_wp hm hS hS' h1 hc0 (fun g' a' w' hc' => h2 g' a' w' hc')
      split at h
      · exact h
      · split at h
        · rename_i js hjs
          rw [hP, hn] at h
          have key : ∀ (js : List Nat) (hh : Nat → Hint) (ob : List Prop), Fin E (forkRegion E.P C.sums E.n ops.toList draw S (run C m (tailW ws) k) js hh ob) → (∀ p ∈ ob, p) ∧ Sat E (.code (.region id ops draw) :: k) S := by
            intro js
            induction js with
            | nil =>
              intro hh ob hf
              simp only [forkRegion] at hf
              split at hf
              · rename_i S' hS'
                obtain ⟨h1, h2⟩ := ih _ _ _ hf
                exact one hh { S with ob := ob } S' rfl rfl rfl hS' h1 h2
              · exact hf.elim
            | cons j js ihj =>
              intro hh ob hf
              simp only [forkRegion] at hf
              split at hf
              · split at hf
                · split at hf
                  · rename_i b hb
                    obtain ⟨h1, h2, h3⟩ := hf
                    refine ⟨h1, ?_⟩
                    cases b with
                    | true => exact (ihj _ _ (h2 rfl)).2
                    | false => exact (ihj _ _ (h3 rfl)).2
                  · exact ihj _ _ hf
                · exact hf.elim
              · exact hf.elim
          exact key js _ _ h
        · split at h
          · rename_i S' hS'
            obtain ⟨h1, h2⟩ := ih _ _ _ h
            rw [hP, hn] at hS'
            exact one _ S S' rfl rfl rfl hS' h1 h2
          · exact h.elim
    · rename_i c x y k
      split at h
      · rename_i t ht
        have key : ∀ g a w, Conc E.An E.M E.w0 E.n S g a w → a.eval c = .bool t := fun g a w ⟨B, _, hrc⟩ => (hrc.stands c _ ht).1
        split at h
        · rename_i d ws'
          obtain ⟨h1, h2⟩ := ih _ _ _ h
          have htd : t = d := h1 _ (List.mem_cons_self ..)
          refine ⟨fun p hp => h1 p (List.mem_cons_of_mem _ hp), fun g a w hc => wp_cond (key g a w hc) ?_⟩
          subst htd
          have := h2 g a w hc
          cases t <;> exact this
        · exact h
        · obtain ⟨h1, h2, h3⟩ := h
          refine ⟨h1, fun g a w hc => wp_cond (key g a w hc) ?_⟩
          cases t
          · exact (ih _ _ _ (h3 rfl)).2 g a w hc
          · exact (ih _ _ _ (h2 rfl)).2 g a w hc
        · split at h
          · obtain ⟨h1, h2⟩ := ih _ _ _ h
            exact ⟨h1, fun g a w hc => wp_cond_true (key g a w hc) (h2 g a w hc)⟩
          · obtain ⟨h1, h2⟩ := ih _ _ _ h
            exact ⟨h1, fun g a w hc => wp_cond_false (key g a w hc) (h2 g a w hc)⟩
        · split at h
          · obtain ⟨h1, h2⟩ := ih _ _ _ h
            exact ⟨h1, fun g a w hc => wp_cond_true (key g a w hc) (h2 g a w hc)⟩
          · obtain ⟨h1, h2⟩ := ih _ _ _ h
            exact ⟨h1, fun g a w hc => wp_cond_false (key g a w hc) (h2 g a w hc)⟩
        · split at h
          · obtain ⟨h1, h2⟩ := ih _ _ _ h
            exact ⟨h1, fun g a w hc => wp_cond_true (key g a w hc) (h2 g a w hc)⟩
          · obtain ⟨h1, h2⟩ := ih _ _ _ h
            exact ⟨h1, fun g a w hc => wp_cond_false (key g a w hc) (h2 g a w hc)⟩
        · split at h
          · obtain ⟨h1, h2⟩ := ih _ _ _ h
            exact ⟨h1, fun g a w hc => wp_cond_true (key g a w hc) (h2 g a w hc)⟩
          · obtain ⟨h1, h2⟩ := ih _ _ _ h
            exact ⟨h1, fun g a w hc => wp_cond_false (key g a w hc) (h2 g a w hc)⟩
      · exact h.elim
    · rename_i id c k
      obtain ⟨h1, h2⟩ := ih _ _ _ h
      exact ⟨h1, fun g a w hc => wp_block (h2 g a w hc)⟩
    · rename_i id k
      obtain ⟨h1, h2⟩ := ih _ _ _ h
      exact ⟨h1, fun g a w hc => h2 g a w hc⟩
    · rename_i c k
      split at h
      · exact h
      · obtain ⟨h1, h2⟩ := ih _ _ _ h
        exact ⟨h1, fun g a w hc => again_ok 100000 (h2 g a w hc)⟩
      · exact h.elim
      · exact h.elim
      · obtain ⟨h1, h2⟩ := ih _ _ _ h
        exact ⟨h1, fun g a w hc => again_ok 100000 (h2 g a w hc)⟩
      · obtain ⟨h1, h2⟩ := ih _ _ _ h
        exact ⟨h1, fun g a w hc => again_ok 100000 (h2 g a w hc)⟩
      · obtain ⟨h1, h2⟩ := ih _ _ _ h
        exact ⟨h1, fun g a w hc => again_ok 100000 (h2 g a w hc)⟩
    · rename_i c j k
      obtain ⟨h1, h2⟩ := ih _ _ _ h
      exact ⟨h1, fun g a w hc => rounds_of j (h2 g a w hc)⟩
    · exact h.elim
    · rename_i id k
      split at h
      · rename_i k' hk'
        obtain ⟨h1, h2⟩ := ih _ _ _ h
        exact ⟨h1, fun g a w hc => wp_exit (wpK_exit hk' (h2 g a w hc))⟩
      · exact h.elim
    · rename_i k
      obtain ⟨h1, h2⟩ := h
      exact ⟨h1, fun g a w hc => wp_ret (wpK_ret (h2 g a w hc).1 _)⟩
    · exact h
    · exact h.elim
end
/-! ### What a function hands back -/
def rvSem (tmps : Array Value) : ResultVar → Sem Value
  | .tmp t => pure (tmps.getD t undef)
  | .cell p t => do loadVar t (← asAddr (tmps.getD p undef))
theorem results_eq (fn : Func) (tmps : Array Value) : results fn tmps = (do let vs ← fn.results.mapM (rvSem tmps); pure (if h : vs.size = 1 then vs[0] else .tuple vs)) := by
  unfold results
  congr 1
section
variable {P : Program} {An : Nm × (Nat → Prop)} {M : Nat → Prop} {w0 w : World} {n : Nat} {S : St} {g : Nm} {B : Nat → Prop} {a : Act}
theorem getD_of {t : Nat} {v : Value} (h : a.tmps[t]? = some v) : a.tmps.getD t undef = v := by
  obtain ⟨hlt, he⟩ := Array.getElem?_eq_some_iff.1 h
  simp [Array.getD, hlt, he]
theorem resOne_ok (h : RC An M w0 n g B S.T S.H a w) {r : ResultVar} {v : Value} (hr : resOne P S r = some v) : (rvSem a.tmps r).run P w = .ok (ren g v) w ∧ InB B v ∧ notTuple v = true := by
  unfold resOne at hr
  split at hr
  · rename_i t
    split at hr
    · rename_i u hu
      cases hn : notTuple u <;> simp only [hn, cond_true, cond_false, reduceCtorEq, Option.some.injEq] at hr
      subst hr
      obtain ⟨h1, h2⟩ := h.tm t u hu
      exact ⟨by simp only [rvSem, getD_of h1, Sem.run_pure], h2, hn⟩
    · simp at hr
  · rename_i p ty
    split at hr
    · rename_i k off hp
      obtain ⟨h1, h2⟩ := h.tm p _ hp
      split at hr
      · rename_i b hb
        split at hr
        · rename_i cs hcs
          refine ⟨?_, readPart_in hr (row_in h.hc hb hcs), readPart_nt hr⟩
          simp only [rvSem, getD_of h1, ren_ptr, renA_none, asAddr, Sem.run_bind, Sem.run_pure, Result.andThen_ok, run_load h.hc hb hcs hr]
        · simp at hr
      · simp at hr
    · simp at hr
theorem resAll_ok (h : RC An M w0 n g B S.T S.H a w) : ∀ {rs : List ResultVar} {vs : List Value}, resAll P S rs = some vs → (rs.mapM (rvSem a.tmps)).run P w = .ok (vs.map (ren g)) w ∧ ∀ v ∈ vs, InB B v ∧ notTuple v = true
  | [], vs, hr => by
    simp [resAll] at hr; subst hr; simp
  | r :: rs, vs, hr => by
    simp only [resAll] at hr
    split at hr
    · rename_i v hv
      rw [forceV_eq] at hr
      split at hr
      · rename_i us hu
        simp at hr; subst hr
        obtain ⟨h1, h2, h3⟩ := resOne_ok (P := P) h hv
        obtain ⟨h4, h5⟩ := resAll_ok h hu
        refine ⟨?_, by simp [h2, h3]; exact h5⟩
        rw [List.mapM_cons]
        simp only [Sem.run_bind, h1, Result.andThen_ok, h4, Sem.run_pure, List.map_cons]
      · simp at hr
    · simp at hr
theorem resOf_ok (h : RC An M w0 n g B S.T S.H a w) {fn : Func} {v : Value} (hr : resOf P fn S = some v) : (results fn a.tmps).run P w = .ok (ren g v) w ∧ InB B v := by
  unfold resOf at hr
  have hmm : ∀ vs : List Value, resAll P S fn.results.toList = some vs → (fn.results.mapM (rvSem a.tmps)).run P w = .ok (vs.map (ren g)).toArray w ∧ ∀ v ∈ vs, InB B v ∧ notTuple v = true := by
    intro vs hvs
    obtain ⟨h1, h2⟩ := resAll_ok (P := P) h hvs
    refine ⟨?_, h2⟩
    rw [Array.mapM_eq_mapM_toList, Sem.run_map, h1]; rfl
  rw [results_eq]
  split at hr
  · rename_i u hu
    simp at hr; subst hr
    obtain ⟨h1, h2⟩ := hmm _ hu
    exact ⟨by simp [h1], (h2 u (by simp)).1⟩
  · rename_i vs hvs hne
    simp at hr; subst hr
    obtain ⟨h1, h2⟩ := hmm _ hne
    refine ⟨?_, (InB.tuple fun v hv => (h2 v hv).2).2 fun v hv => (h2 v hv).1⟩
    have hl : vs.length ≠ 1 := by
      intro hl
      obtain ⟨x, rfl⟩ := List.length_eq_one_iff.1 hl
      exact hvs x rfl
    have e : vs.map (ren1 g) = vs.map (ren g) := List.map_congr_left fun v hv => (ren_ren1 g (h2 v hv).2).symm
    simp [h1, hl, ren, e]
  · simp at hr
/-- A function's call, by what its body does. -/
theorem calls_of_sat {f : FuncId} {fn : Func} {c : Code} (hf : P.funcs[f]? = some fn) (hb : fn.body = some c) {args : List Value} {H : Heap} {nx : Nat} {R : Ending → World → Prop}
    (hH : HC M w0 g B H w) (hB : ∀ k, B k → k < nx) (hargs : ∀ v ∈ args, InB B v)
    (hs : Sat ⟨P, (g, B), M, w0, args.length + (fn.ntmps - args.length), bodyPost P fn R⟩ [.code c] ⟨startT args (args.length + (fn.ntmps - args.length)), H, nx, 0, []⟩) :
    Calls P f (args.map (ren g)).toArray w R := by
  refine calls_of_wp hf hb ?_
  have := hs g { tmps := (args.map (ren g)).toArray ++ Array.replicate (fn.ntmps - (args.map (ren g)).toArray.size) undef, defers := [] } w ⟨B, hB, hH, by simp, rfl, fun i v hv => ?_, Agree.refl _ _, fun _ h => h⟩
  · exact this
  · simp only [startT] at hv
    rw [nth_eq] at hv
    cases hi : args[i]? with
    | some u =>
      rw [hi] at hv
      simp at hv; subst hv
      have hlt := (List.getElem?_eq_some_iff.1 hi).1
      refine ⟨?_, hargs u (List.mem_of_getElem? hi)⟩
      rw [Array.getElem?_append_left (by simpa using hlt)]
      simp [hi]
    | none =>
      rw [hi] at hv
      simp only at hv
      have hge : args.length ≤ i := List.getElem?_eq_none_iff.1 hi
      cases hb : Nat.blt i (args.length + (fn.ntmps - args.length)) <;> rw [hb] at hv
      · exact absurd hv (by simp)
      · simp only [cond_true, Option.some.injEq] at hv
        subst hv
        have hlt : i < args.length + (fn.ntmps - args.length) := by simpa [Nat.blt_eq] using hb
        refine ⟨?_, InB.gnd rfl⟩
        rw [Array.getElem?_append_right (by simpa using hge), ren_gnd g (v := undef) rfl]
        have h1 : i - args.length < fn.ntmps - args.length := by omega
        simp [h1]
theorem satRet_of {fn : Func} {R : Ending → World → Prop} {M : Nat → Prop} (h : ∀ g B a w, (∀ k, B k → k < S.nx) → RC An M w0 n g B S.T S.H a w → ∃ v, (results fn a.tmps).run P w = .ok v w ∧ R (.returned v) w) : SatRet ⟨P, An, M, w0, n, bodyPost P fn R⟩ S := by
  rintro g a w ⟨B, hB, hrc⟩
  obtain ⟨v, h1, h2⟩ := h g B a w hB hrc
  exact ⟨⟨hrc.defers, v, h1, h2⟩, ⟨hrc.defers, v, h1, h2⟩⟩
end
/-! ### Summaries -/
theorem hc_none (w : World) : HC (fun _ => False) w ⟨id, id, id⟩ (fun _ => False) (fun _ => none) w :=
  ⟨BelowBut.refl _ _, fun _ _ h => by simp at h, fun _ _ h => by simp at h, fun _ _ h => by simp at h, fun _ _ h => by simp at h, fun _ _ _ _ h => by simp at h⟩
theorem map_ren_gnd (g : Nm) {vs : List Value} (h : allB gnd vs = true) : vs.map (ren g) = vs := by
  rw [allB_iff] at h
  conv => rhs; rw [← List.map_id vs]
  exact List.map_congr_left fun x hx => ren_gnd g (h x hx)
theorem kEq_spec {k k' : IntKind} (h : kEq k k' = true) : k = k' := by
  cases k <;> cases k' <;> first | rfl | simp [kEq] at h
theorem merge0_spec {t : Bool} {x y v : Value} (h : merge0 t x y = some v) : v = bif t then x else y := by
  unfold merge0 at h
  split at h
  · rename_i k x k' y
    cases hk : kEq k k' <;> simp only [hk, cond_true, cond_false, reduceCtorEq, Option.some.injEq] at h
    obtain rfl := kEq_spec hk
    subst h
    cases t <;> rfl
  · simp at h; subst h; cases t <;> rfl
  · simp at h
theorem mergeL_spec {t : Bool} {f : Value → Value → Option Value} (hf : ∀ x y v, f x y = some v → v = bif t then x else y) : ∀ {xs ys vs : List Value}, mergeL f xs ys = some vs → vs = bif t then xs else ys
  | [], [], vs, h => by simp [mergeL] at h; subst h; cases t <;> rfl
  | x :: xs, y :: ys, vs, h => by
    simp only [mergeL] at h
    split at h
    · rename_i v hv
      split at h
      · rename_i us hu
        simp at h; subst h
        have h1 := hf _ _ _ hv
        have h2 := mergeL_spec hf hu
        subst h1 h2
        cases t <;> rfl
      · simp at h
    · simp at h
  | [], _ :: _, vs, h => by simp [mergeL] at h
  | _ :: _, [], vs, h => by simp [mergeL] at h
theorem merge1_spec {t : Bool} {x y v : Value} (h : merge1 t x y = some v) : v = bif t then x else y := by
  unfold merge1 at h
  split at h
  · split at h
    · rename_i vs hvs
      simp at h; subst h
      have := mergeL_spec (fun x y v => merge0_spec) hvs
      subst this
      cases t <;> rfl
    · simp at h
  · exact merge0_spec h
theorem mergeV_spec {t : Bool} {x y v : Value} (h : mergeV t x y = some v) : v = bif t then x else y := by
  unfold mergeV at h
  split at h
  · split at h
    · rename_i vs hvs
      simp at h; subst h
      have := mergeL_spec (fun x y v => merge1_spec) hvs
      subst this
      cases t <;> rfl
    · simp at h
  · exact merge1_spec h
theorem impl_spec {t : Bool} : ∀ {ps ob : List Prop}, (∀ p ∈ impl t ps ob, p) → (∀ p ∈ ob, p) ∧ (t = true → ∀ p ∈ ps, p)
  | [], ob, h => ⟨h, fun _ p hp => by simp at hp⟩
  | q :: ps, ob, h => by
    obtain ⟨h1, h2⟩ := impl_spec (t := t) (ps := ps) (ob := ob) (fun p hp => h p (List.mem_cons_of_mem _ hp))
    refine ⟨h1, fun ht p hp => ?_⟩
    rcases List.mem_cons.1 hp with rfl | hp
    · exact (h (t = true → p) (List.mem_cons_self ..)) ht
    · exact h2 ht p hp
theorem fin_of_outVal {P : Program} {An : Nm × (Nat → Prop)} {fn : Func} {M : Nat → Prop} {w0 : World} {n : Nat} {R : Ending → World → Prop} : ∀ {o : Out} {v : Value} {ob : List Prop}, outVal P fn o = some (v, ob) → (∀ p ∈ ob, p) →
    (∀ g B w', HC M w0 g B (fun _ => none) w' → R (.returned (ren g v)) w') → Fin ⟨P, An, M, w0, n, bodyPost P fn R⟩ o
  | .ret S, v, ob, h, hob, hR => by
    simp only [outVal] at h
    split at h
    · rename_i u hu
      simp only [Option.some.injEq, Prod.mk.injEq] at h
      obtain ⟨rfl, rfl⟩ := h
      refine ⟨hob, satRet_of fun g B a w' hB hrc => ⟨ren g u, (resOf_ok hrc hu).1, hR g B w' ?_⟩⟩
      exact ⟨hrc.hc.below, fun _ _ h => by simp at h, fun _ _ h => by simp at h, fun _ _ h => by simp at h, fun _ _ h => by simp at h, fun _ _ _ _ h => by simp at h⟩
    · simp at h
  | .fork t x y ob0, v, ob, h, hob, hR => by
    simp only [outVal] at h
    split at h
    · rename_i v1 p u q hx hy
      split at h
      · rename_i z hz
        simp only [Option.some.injEq, Prod.mk.injEq] at h
        obtain ⟨rfl, rfl⟩ := h
        have hv := mergeV_spec hz
        obtain ⟨h1, h2⟩ := impl_spec hob
        obtain ⟨h3, h4⟩ := impl_spec h1
        refine ⟨h3, fun ht => ?_, fun ht => ?_⟩
        · subst ht
          simp only [cond_true] at hv
          subst hv
          exact fin_of_outVal hx (h2 rfl) hR
        · subst ht
          simp only [cond_false] at hv
          subst hv
          exact fin_of_outVal hy (h4 rfl) hR
      · simp at h
    · simp at h
  | .fail, v, ob, h, _, _ => by simp [outVal] at h
  | .atK _ _, v, ob, h, _, _ => by simp [outVal] at h
/-- A function of numbers, by its run. -/
theorem callRun_calls {P : Program} (hm : P.follows .mixedOrders = true) {sums : Sums} (hS : SumsOK P sums) {hint : Nat → Nat → Nat → Hint} {ws : List W} {f : FuncId} {args : List Value} {r : Res} (h : callRun P sums hint ws f args = some r) (hob : ∀ p ∈ r.ob, p) :
    r.us = [] ∧ r.rs = [] ∧ gnd r.v = true ∧ allB gnd args = true ∧ ∀ w, Calls P f args.toArray w fun e w' => e = .returned r.v ∧ Below w.heap.size w w' := by
  unfold callRun at h
  split at h
  · rename_i fn hfn
    split at h
    · rename_i c hc
      cases hg : allB gnd args <;> simp only [hg, cond_true, cond_false, reduceCtorEq] at h
      split at h
      · rename_i v ob hov
        cases hgv : gnd v <;> simp only [hgv, cond_true, cond_false, reduceCtorEq, Option.some.injEq] at h
        subst h
        refine ⟨rfl, rfl, hgv, rfl, fun w => ?_⟩
        have hfn' : P.funcs[f]? = some fn := by simpa using hfn
        have hargs : ∀ v ∈ args, InB (fun _ => False) v := fun v hv => InB.gnd (allB_iff.1 hg v hv)
        have hsat := run_sound (C := ⟨P, sums, args.length + (fn.ntmps - args.length), hint⟩) (E := ⟨P, (⟨id, id, id⟩, fun _ => False), fun _ => False, w, args.length + (fn.ntmps - args.length), bodyPost P fn fun e w' => e = .returned v ∧ Below w.heap.size w w'⟩) rfl rfl hm hS 1000000 ws [.code c]
          ⟨startT args (args.length + (fn.ntmps - args.length)), fun _ => none, 0, 0, []⟩ (fin_of_outVal hov hob fun g B w' hc => ⟨by rw [ren_gnd g hgv], hc.below.below⟩)
        have := calls_of_sat (g := ⟨id, id, id⟩) (M := fun _ => False) (nx := 0) hfn' hc (hc_none w) (fun _ hk => hk.elim) hargs hsat.2
        rwa [map_ren_gnd _ hg] at this
      · simp at h
    · simp at h
  · simp at h
theorem sum_of_pure {P : Program} {f : FuncId} (he : Enters P f) {s : List Value → Option Res}
    (h : ∀ args r, s args = some r → (∀ p ∈ r.ob, p) → r.us = [] ∧ gnd r.v = true ∧ allB gnd args = true ∧ ∀ w, Calls P f args.toArray w fun e w' => e = .returned r.v ∧ Below w.heap.size w w') : SumOK P f (fun args _ _ => s args) := by
  refine ⟨he, fun args H nm r hr hob M w0 g B w hH hargs hn => ?_, fun args H nm r hr H' _ => hr⟩
  obtain ⟨h1, h2, h3, h4⟩ := h args r hr hob
  rw [map_ren_gnd g h3]
  refine (h4 w).mono ?_
  rintro e w' ⟨rfl, hb⟩
  refine ⟨g, Agree.refl _ _, ?_, InB.gnd h2, by rw [ren_gnd g h2]⟩
  rw [h1]
  exact (hH.grow hb).mono plus_mono
theorem sums_none {P : Program} : SumsOK P (fun _ => none) := fun f s h => by simp at h
theorem sums_cons {P : Program} {sums : Sums} (h : SumsOK P sums) {f : FuncId} {s : List Value → Heap → Nat → Option Res} (hs : SumOK P f s) : SumsOK P (upd sums f (some s)) := fun f' s' h' => by
  by_cases e : f' = f
  · subst e; rw [upd_self] at h'; simp at h'; subst h'; exact hs
  · rw [upd_ne _ _ e] at h'; exact h f' s' h'
def namesB (P : Program) : Bool := allB (fun fn : Func => !(fn.name == "runtime.NumGoroutine")) P.funcs.toList
theorem enters_of {P : Program} (hN : namesB P = true) {f : FuncId} {fn : Func} {c : Code} (hf : P.funcs[f]? = some fn) (hb : fn.body = some c) : Enters P f := by
  refine Enters.of hf ?_ (by simp [hb])
  have := allB_iff.1 hN fn (by rw [Array.mem_toList_iff]; exact Array.mem_of_getElem? hf)
  simpa using this
theorem auto_ok {P : Program} (hm : P.follows .mixedOrders = true) (hN : namesB P = true) {given : Sums} (hg : SumsOK P given) (ways : FuncId → List W) (hints : FuncId → Nat → Nat → Nat → Hint) : ∀ d, SumsOK P (auto P given ways hints d)
  | 0 => hg
  | d + 1 => by
    intro f s hs
    simp only [auto] at hs
    split at hs
    · rename_i s' hs'
      simp at hs; subst hs
      exact hg f s' hs'
    · split at hs
      · rename_i fn hfn
        split at hs
        · rename_i c hc
          simp at hs; subst hs
          have hfn' : P.funcs[f]? = some fn := by simpa using hfn
          refine sum_of_pure (enters_of hN hfn' hc) fun args r hr hob => ?_
          obtain ⟨h1, h2, h3, h4, h5⟩ := callRun_calls hm (auto_ok hm hN hg ways hints d) hr hob
          exact ⟨h1, h3, h4, h5⟩
        · simp at hs
      · simp at hs
end Go.Proofs.Ytmgkmekknhggbaa.Ev
