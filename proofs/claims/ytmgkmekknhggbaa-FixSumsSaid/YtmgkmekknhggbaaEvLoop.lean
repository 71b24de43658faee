/-
  Loops, by frames that are told: runs of their bodies are enough. No condition.
-/
import Derived.Test.YtmgkmekknhggbaaEvAuto
set_option linter.unusedVariables false
set_option linter.unusedSimpArgs false
namespace Go.Proofs.Ytmgkmekknhggbaa.Ev
open Go Go.RowKit
def assocN {α : Type} : List Nat → List α → Nat → Option α
  | t :: ts, v :: vs, j => bif Nat.beq j t then some v else assocN ts vs j
  | _, _, _ => none
theorem assocN_mem {α : Type} : ∀ {ts : List Nat} {vs : List α} {j : Nat} {v : α}, assocN ts vs j = some v → ∃ i : Nat, ts[i]? = some j ∧ vs[i]? = some v
  | [], vs, j, v, h => by simp [assocN] at h
  | t :: ts, [], j, v, h => by simp [assocN] at h
  | t :: ts, u :: vs, j, v, h => by
    simp only [assocN] at h
    cases hb : Nat.beq j t <;> rw [hb] at h
    · obtain ⟨i, h1, h2⟩ := assocN_mem h
      exact ⟨i + 1, by simpa using h1, by simpa using h2⟩
    · simp at h; subst h
      exact ⟨0, by simp [Nat.eq_of_beq_eq_true hb], by simp⟩
/-- Names of a block told anew. -/
def Blk.rnB (f : Nat → Nat) : Blk → Blk
  | .cells cs ty => .cells (mapL (rn0 f) cs) ty
  | .vec cs ty s => .vec (mapL (rn0 f) cs) ty s
  | .ro cs => .ro (mapL (rn0 f) cs)
  | .map lay agg ek es clock => .map lay agg ek es clock
def Blk.namesLt (nx : Nat) : Blk → Prop
  | .cells cs _ | .vec cs _ _ | .ro cs => ∀ c ∈ cs, ∀ k ∈ nm0 c, k < nx
  | .map _ _ _ _ _ => True
theorem nm0_leafG {v : Value} (h : leafG v = true) : nm0 v = [] := by
  cases v with
  | pointer a => cases a <;> first | rfl | simp [leafG] at h
  | slice a l c => cases a <;> first | rfl | simp [leafG] at h
  | map r => cases r <;> first | rfl | simp [leafG] at h
  | _ => rfl
theorem rn0_leafG (f : Nat → Nat) {v : Value} (h : leafG v = true) : rn0 f v = v := rn0_names (by rw [nm0_leafG h]; simp)
theorem Blk.plain.namesLt {b : Blk} (h : b.plain) (nx : Nat) : b.namesLt nx := by
  cases b with
  | map => trivial
  | _ => exact fun c hc k hk => by rw [nm0_leafG (h c hc)] at hk; simp at hk
theorem Blk.plain.rnB {b : Blk} (h : b.plain) (f : Nat → Nat) : b.rnB f = b := by
  cases b with
  | map => rfl
  | _ =>
    simp only [Blk.rnB]
    rw [mapL_id fun c hc => rn0_leafG f (h c hc)]
theorem wr_rnB (f : Nat → Nat) (b : Blk) : (b.rnB f).wr = b.wr := by cases b <;> rfl
theorem holds_rnB {b : Blk} {g : Nm} {f : Nat → Nat} {k : Nat} {o : Option Obj} (h : (b.rnB f).Holds g (f k) o) : b.Holds (g.comp f) k o := by
  have e : ∀ cs : List Value, (mapL (rn0 f) cs).map (ren0 g) = cs.map (ren0 (g.comp f)) := fun cs => by
    rw [mapL_eq, List.map_map]
    exact List.map_congr_left fun c _ => ren0_rn0 g f c
  cases b with
  | cells cs ty => simp only [Blk.rnB, Blk.Holds, e] at h ⊢; exact h
  | vec cs ty s =>
    simp only [Blk.rnB, Blk.Holds, e] at h ⊢
    rw [mapL_eq, List.length_map] at h
    exact h
  | ro cs =>
    simp only [Blk.rnB, Blk.Holds] at h ⊢
    obtain ⟨c, ty, fz, ho, hc⟩ := h
    refine ⟨c, ty, fz, ho, fun i v hv => ?_⟩
    have := hc i (rn0 f v) (by rw [mapL_eq, List.getElem?_map, hv]; rfl)
    rw [ren0_rn0] at this
    exact this
  | map => exact h
theorem in0_lt {nx : Nat} {v : Value} (h : ∀ k ∈ nm0 v, k < nx) : In0 (· < nx) v := fun g g' a => ren0_names fun k hk => a k (h k hk)
theorem inB_lt {nx : Nat} {v : Value} (h : ∀ k ∈ nms v, k < nx) : InB (· < nx) v := fun g g' a => ren_names fun k hk => a k (h k hk)
section
variable {M : Nat → Prop} {w0 w : World} {g : Nm} {B : Nat → Prop} {H : Heap}
/-- Memory, with names told anew. -/
theorem hc_move (h : HC M w0 g B H w) {hs : List Nat} {hv : List Blk} {f : Nat → Nat} {nx : Nat}
    (hk : ∀ k b, assocN hs hv k = some b → k < nx ∧ b.namesLt nx ∧ H (f k) = some (b.rnB f))
    (hinj : ∀ k l b c, assocN hs hv k = some b → assocN hs hv l = some c → f k = f l → k = l) : HC M w0 (g.comp f) (· < nx) (assocN hs hv) w := by
  refine ⟨h.below, fun k b hb => (hk k b hb).1, fun k b hb => ?_, fun k b hb => ?_, fun k b hb hw => ?_, fun k l b c hb hc hw he => ?_⟩
  · obtain ⟨_, h2, h3⟩ := hk k b hb
    cases b with
    | map lay agg ek es clock => exact h.scope _ _ h3
    | _ => exact fun v hv => in0_lt (h2 v hv)
  · obtain ⟨_, _, h3⟩ := hk k b hb
    exact holds_rnB (h.holds _ _ h3)
  · obtain ⟨_, _, h3⟩ := hk k b hb
    exact h.own _ _ h3 (by rw [wr_rnB]; exact hw)
  · obtain ⟨_, _, h3⟩ := hk k b hb
    obtain ⟨_, _, h4⟩ := hk l c hc
    exact hinj k l b c hb hc (h.inj _ _ _ _ h3 h4 (by rw [wr_rnB]; exact hw) he)
end
/-! ### Frames -/
def getTs (T : Tm) : List Nat → Option (List Value)
  | [] => some []
  | t :: ts => match T t with
    | some v => forceV v fun v => match getTs T ts with
      | some vs => some (v :: vs)
      | none => none
    | none => none
def getHs (H : Heap) (f : Nat → Nat) : List Nat → Option (List Blk)
  | [] => some []
  | k :: ks => match H (f k) with
    | some b => match getHs H f ks with
      | some bs => some (b :: bs)
      | none => none
    | none => none
theorem getTs_spec {T : Tm} : ∀ {ts : List Nat} {vs : List Value}, getTs T ts = some vs → ts.length = vs.length ∧ ∀ (i t : Nat), ts[i]? = some t → ∃ v, vs[i]? = some v ∧ T t = some v
  | [], vs, h => by simp [getTs] at h; subst h; simp
  | t :: ts, vs, h => by
    simp only [getTs] at h
    split at h
    · rename_i v hv
      rw [forceV_eq] at h
      split at h
      · rename_i us hu
        simp at h; subst h
        obtain ⟨h1, h2⟩ := getTs_spec hu
        refine ⟨by simp [h1], fun i t' hi => ?_⟩
        cases i with
        | zero => simp at hi; subst hi; exact ⟨v, by simp, hv⟩
        | succ i => simpa using h2 i t' (by simpa using hi)
      · simp at h
    · simp at h
theorem getHs_spec {H : Heap} {f : Nat → Nat} : ∀ {ts : List Nat} {vs : List Blk}, getHs H f ts = some vs → ts.length = vs.length ∧ ∀ (i t : Nat), ts[i]? = some t → ∃ v, vs[i]? = some v ∧ H (f t) = some v
  | [], vs, h => by simp [getHs] at h; subst h; simp
  | t :: ts, vs, h => by
    simp only [getHs] at h
    split at h
    · rename_i v hv
      split at h
      · rename_i us hu
        simp at h; subst h
        obtain ⟨h1, h2⟩ := getHs_spec hu
        refine ⟨by simp [h1], fun i t' hi => ?_⟩
        cases i with
        | zero => simp at hi; subst hi; exact ⟨v, by simp, hv⟩
        | succ i => simpa using h2 i t' (by simpa using hi)
      · simp at h
    · simp at h
/-- The pairs of names that two values of one shape have. -/
def uni1 : Value → Value → List (Nat × Nat) → List (Nat × Nat)
  | .pointer (some a), .pointer (some b), r => (a.block, b.block) :: r
  | .slice (some a) _ _, .slice (some b) _ _, r => (a.block, b.block) :: r
  | .map (some a), .map (some b), r => (a, b) :: r
  | _, _, r => r
def uniL : List Value → List Value → List (Nat × Nat)
  | x :: xs, y :: ys => uni1 x y (uniL xs ys)
  | _, _ => []
def uniV : Value → Value → List (Nat × Nat)
  | .tuple ⟨xs⟩, .tuple ⟨ys⟩ => uniL xs ys
  | x, y => uni1 x y []
def mapN (f : Nat → Nat) : List Nat → List Nat
  | [] => []
  | k :: ks => f k :: mapN f ks
theorem mapN_eq (f : Nat → Nat) : ∀ l, mapN f l = l.map f
  | [] => rfl
  | k :: ks => by simp [mapN, mapN_eq f ks]
theorem nodup_inj {f : Nat → Nat} {l : List Nat} (h : nodupB (mapN f l) = true) : ∀ k ∈ l, ∀ j ∈ l, f k = f j → k = j := by
  have h := nodupB_ok h
  rw [mapN_eq] at h
  intro k hk j hj he
  obtain ⟨a, ha, rfl⟩ := List.getElem_of_mem hk
  obtain ⟨b, hb, rfl⟩ := List.getElem_of_mem hj
  have hp := List.pairwise_iff_getElem.1 h
  rcases Nat.lt_trichotomy a b with hlt | rfl | hlt
  · exact absurd (by rw [List.getElem_map, List.getElem_map]; exact he) (hp a b (by simpa using ha) (by simpa using hb) hlt)
  · rfl
  · exact absurd (by rw [List.getElem_map, List.getElem_map]; exact he.symm) (hp b a (by simpa using hb) (by simpa using ha) hlt)
/-- Below that number each name is kept. -/
def keepsB (nx0 : Nat) : List (Nat × Nat) → Bool
  | [] => true
  | (x, y) :: r => bif Nat.blt x nx0 then bif Nat.beq x y then keepsB nx0 r else false else keepsB nx0 r
theorem keepsB_ok {nx0 : Nat} : ∀ {r : List (Nat × Nat)}, keepsB nx0 r = true → ∀ k, k < nx0 → look r k = k
  | [], _, k, _ => rfl
  | (x, y) :: r, h, k, hk => by
    simp only [keepsB] at h
    simp only [look]
    cases hb : Nat.blt x nx0 <;> rw [hb] at h
    · have hr := keepsB_ok (r := r) (by simpa using h) k hk
      have : Nat.beq k x = false := by
        cases e : Nat.beq k x with
        | false => rfl
        | true =>
          have := Nat.eq_of_beq_eq_true e
          subst this
          have hx : Nat.blt k nx0 = true := by simpa [Nat.blt_eq] using hk
          rw [hx] at hb; simp at hb
      rw [this]; exact hr
    · simp only [cond_true] at h
      cases he : Nat.beq x y <;> rw [he] at h
      · simp at h
      · have hr := keepsB_ok (r := r) (by simpa using h) k hk
        have := Nat.eq_of_beq_eq_true he
        subst this
        cases e : Nat.beq k x with
        | false => simpa [e] using hr
        | true => simpa [e] using (Nat.eq_of_beq_eq_true e).symm
def SameK (k k' : List Ctl) : Prop := k = k'
/-- A family of frames: which temporaries and blocks are kept, what they hold; b: of several shapes. -/
structure LoopF (ι : Type) where
  ts : Nat → List Nat
  hs : Nat → List Nat
  tv : Nat → ι → List Value
  hv : Nat → ι → List Blk
  inv : Nat → ι → Prop
  mu : Nat → ι → Nat
  nx : Nat
def LoopF.st {ι : Type} (L : LoopF ι) (b : Nat) (i : ι) : St := ⟨assocN (L.ts b) (L.tv b i), assocN (L.hs b) (L.hv b i), L.nx, 0, []⟩
structure LoopF.OK {ι : Type} (L : LoopF ι) (nx0 : Nat) : Prop where
  nx : nx0 ≤ L.nx
  hs : ∀ b i, L.inv b i → ∀ k ∈ L.hs b, k < L.nx
  tv : ∀ b i, L.inv b i → ∀ v ∈ L.tv b i, ∀ k ∈ nms v, k < L.nx
  hv : ∀ b i, L.inv b i → ∀ x ∈ L.hv b i, x.namesLt L.nx
def ltO (n : Nat) : Option Nat → Prop
  | none => True
  | some m => n < m
def Enter {ι : Type} (L : LoopF ι) (b : Nat) (m : Option Nat) (vals : List Value) (blks : List Blk) (r : List (Nat × Nat)) : Prop :=
  ∃ i, L.inv b i ∧ ltO (L.mu b i) m ∧ vals = (L.tv b i).map (rn (look r)) ∧ blks = (L.hv b i).map (Blk.rnB (look r))
noncomputable def pathTo {ι : Type} (C : Ctx) (ws : List W) (k : List Ctl) (S : St) (K : List Ctl) (nx0 : Nat) (L : LoopF ι) (b : Nat) (m : Option Nat) (i0 : ι) : Option (List Prop) :=
  match run C 1000000 ws k S with
  | .atK k' S' => match getTs S'.T (L.ts b) with
    | some vals =>
      match uniL (L.tv b i0) vals with
      | r => match getHs S'.H (look r) (L.hs b) with
        | some blks => bif nodupB (mapN (look r) (L.hs b)) then bif keepsB nx0 r then some (SameK k' K :: Enter L b m vals blks r :: S'.ob) else none else none
        | none => none
    | none => none
  | _ => none
def Back (u : Value) (v : Value) (blks : List Blk) (hv : List Blk) (r : List (Nat × Nat)) : Prop := u = rn (look r) v ∧ blks = hv.map (Blk.rnB (look r))
noncomputable def pathRet (C : Ctx) (fn : Func) (ws : List W) (k : List Ctl) (S : St) (nx0 : Nat) (v : Value) (hs : List Nat) (hv : List Blk) : Option (List Prop) :=
  match run C 1000000 ws k S with
  | .ret S' => match resOf C.P fn S' with
    | some u => forceV u fun u =>
      match uniV v u with
      | r => match getHs S'.H (look r) hs with
        | some blks => bif nodupB (mapN (look r) hs) then bif keepsB nx0 r then some (Back u v blks hv r :: S'.ob) else none else none
        | none => none
    | none => none
  | _ => none
section
variable {E : Env} {C : Ctx} {ws : List W} {k K : List Ctl} {S : St} {nx0 : Nat} {obs : List Prop}
theorem conc_move {ts hs : List Nat} {tv : List Value} {hv : List Blk} {nx c : Nat} {ob : List Prop} {f : Nat → Nat} {g : Nm} {a : Act} {w : World}
    (h : Conc E.An E.M E.w0 E.n S g a w) (hT : ∀ t v, assocN ts tv t = some v → S.T t = some (rn f v) ∧ ∀ k ∈ nms v, k < nx)
    (hk : ∀ k b, assocN hs hv k = some b → k < nx ∧ b.namesLt nx ∧ S.H (f k) = some (b.rnB f))
    (hinj : ∀ k l b c, assocN hs hv k = some b → assocN hs hv l = some c → f k = f l → k = l)
    (hA : ∀ k, E.An.2 k → f k = k ∧ k < nx) : Conc E.An E.M E.w0 E.n ⟨assocN ts tv, assocN hs hv, nx, c, ob⟩ (g.comp f) a w := by
  obtain ⟨B, hB, hrc⟩ := h
  refine ⟨(· < nx), fun _ h => h, hc_move hrc.hc hk hinj, hrc.size, hrc.defers, fun t v hv => ?_, fun k hk => ?_, fun k hk => (hA k hk).2⟩
  · obtain ⟨h1, h2⟩ := hT t v hv
    obtain ⟨h3, h4⟩ := hrc.tm t _ h1
    exact ⟨by rw [h3, ren_rn], inB_lt h2⟩
  · obtain ⟨h1, h2, h3⟩ := hrc.anch k hk
    have := (hA k hk).1
    simp only [Nm.comp, this]
    exact ⟨h1, h2, h3⟩
theorem path_to {ι : Type} {L : LoopF ι} {b : Nat} {m : Option Nat} {i0 : ι} (hm : E.P.follows .mixedOrders = true) (hS : SumsOK E.P C.sums) (hP : C.P = E.P) (hn : C.n = E.n) (hA : ∀ k, E.An.2 k → k < nx0) (hL : L.OK nx0)
    (h : pathTo C ws k S K nx0 L b m i0 = some obs) (hob : all obs) (hK : ∀ i, L.inv b i → ltO (L.mu b i) m → Sat E K (L.st b i)) : Sat E k S := by
  unfold pathTo at h
  split at h
  · rename_i k' S' hrun
    split at h
    · rename_i vals hvals
      simp only at h
      split at h
      · rename_i blks hblks
        have p1 := bifB h
        have p2 := bifB p1.2
        have hr := p2.2
        simp only [Option.some.injEq] at hr
        subst hr
        obtain ⟨hk, ⟨i, hi, hlt, hv1, hb1⟩, hobs⟩ := hob
        have hk : k' = K := hk
        subst hk
        have := run_sound (C := C) (E := E) hP hn hm hS 1000000 ws k S (by
          rw [hrun]
          refine ⟨all_iff.1 hobs, fun g a w hc => ?_⟩
          refine hK i hi hlt (g.comp (look (uniL (L.tv b i0) vals))) a w ?_
          obtain ⟨l1, h1⟩ := getTs_spec hvals
          obtain ⟨l2, h2⟩ := getHs_spec hblks
          refine conc_move hc (fun t v hv => ?_) (fun k x hx => ?_) (fun j l x y hx hy he => ?_) (fun j hj => ?_)
          · obtain ⟨j, hj1, hj2⟩ := assocN_mem hv
            obtain ⟨u, hu1, hu2⟩ := h1 j t hj1
            refine ⟨?_, hL.tv b i hi v (List.mem_of_getElem? hj2)⟩
            rw [hu2]
            rw [hv1, List.getElem?_map, hj2] at hu1
            simpa using hu1.symm
          · obtain ⟨j, hj1, hj2⟩ := assocN_mem hx
            obtain ⟨u, hu1, hu2⟩ := h2 j k hj1
            refine ⟨hL.hs b i hi k (List.mem_of_getElem? hj1), hL.hv b i hi x (List.mem_of_getElem? hj2), ?_⟩
            rw [hu2]
            rw [hb1, List.getElem?_map, hj2] at hu1
            simpa using hu1.symm
          · obtain ⟨a1, ha1, _⟩ := assocN_mem hx
            obtain ⟨a2, ha2, _⟩ := assocN_mem hy
            exact nodup_inj p1.1 j (List.mem_of_getElem? ha1) l (List.mem_of_getElem? ha2) he
          · exact ⟨keepsB_ok p2.1 j (hA j hj), Nat.lt_of_lt_of_le (hA j hj) hL.nx⟩)
        exact this.2
      · simp at h
    · simp at h
  · simp at h
theorem path_ret {fn : Func} {v : Value} {hs : List Nat} {hv : List Blk} {nx : Nat} (hm : E.P.follows .mixedOrders = true) (hS : SumsOK E.P C.sums) (hP : C.P = E.P) (hn : C.n = E.n) (hA : ∀ k, E.An.2 k → k < nx0) (hnx : nx0 ≤ nx)
    (hR : E.R = bodyPost E.P fn fun e w' => ∃ g' B', Agree E.An.2 E.An.1 g' ∧ HC E.M E.w0 g' B' (assocN hs hv) w' ∧ e = .returned (ren g' v)) (hhs : ∀ k ∈ hs, k < nx) (hhv : ∀ x ∈ hv, x.namesLt nx)
    (h : pathRet C fn ws k S nx0 v hs hv = some obs) (hob : all obs) : Sat E k S := by
  unfold pathRet at h
  split at h
  · rename_i S' hrun
    split at h
    · rename_i u hu
      rw [forceV_eq] at h
      simp only at h
      split at h
      · rename_i blks hblks
        have p1 := bifB h
        have p2 := bifB p1.2
        have hr := p2.2
        simp only [Option.some.injEq] at hr
        subst hr
        obtain ⟨⟨hu1, hb1⟩, hobs⟩ := hob
        obtain ⟨P, An, M, w0, n, R⟩ := E
        simp only at hP hn hA hR hm hS
        subst hP
        subst hn
        subst hR
        have := run_sound (C := C) (E := ⟨C.P, An, M, w0, C.n, _⟩) rfl rfl hm hS 1000000 ws k S (by
          rw [hrun]
          refine ⟨all_iff.1 hobs, satRet_of (fn := fn) (M := M) (R := fun e w' => ∃ g' B', Agree An.2 An.1 g' ∧ HC M w0 g' B' (assocN hs hv) w' ∧ e = .returned (ren g' v)) fun g B a w hB hrc => ?_⟩
          refine ⟨ren g u, (resOf_ok hrc hu).1, g.comp (look (uniV v u)), (· < nx), fun j hj => ?_, ?_, by conv => lhs; rw [hu1]
                                                                                                           rw [ren_rn]⟩
          · obtain ⟨h1, h2, h3⟩ := hrc.anch j hj
            simp only [Nm.comp, keepsB_ok p2.1 j (hA j hj)]
            exact ⟨h1, h2, h3⟩
          · obtain ⟨l2, h2⟩ := getHs_spec hblks
            refine hc_move hrc.hc (fun k x hx => ?_) (fun j l x y hx hy he => ?_)
            · obtain ⟨j, hj1, hj2⟩ := assocN_mem hx
              obtain ⟨u', hu1', hu2⟩ := h2 j k hj1
              refine ⟨hhs k (List.mem_of_getElem? hj1), hhv x (List.mem_of_getElem? hj2), ?_⟩
              rw [hu2]
              rw [hb1, List.getElem?_map, hj2] at hu1'
              simpa using hu1'.symm
            · obtain ⟨a1, ha1, _⟩ := assocN_mem hx
              obtain ⟨a2, ha2, _⟩ := assocN_mem hy
              exact nodup_inj p1.1 j (List.mem_of_getElem? ha1) l (List.mem_of_getElem? ha2) he)
        exact this.2
      · simp at h
    · simp at h
  · simp at h
/-- A loop, by its body's runs. -/
theorem loop_sat {ι : Type} (L : LoopF ι) {c : Code} (body : ∀ b i, L.inv b i → ∀ J : Act → World → Prop, (∀ b' i', L.inv b' i' → L.mu b' i' < L.mu b i → Sat E (.mark J :: k) (L.st b' i')) → Sat E (.code c :: .mark J :: k) (L.st b i)) :
    ∀ b i, L.inv b i → Sat E (.code (.loop c) :: k) (L.st b i) := by
  have key : ∀ m b i, L.inv b i → L.mu b i < m → ∀ g a w, Conc E.An E.M E.w0 E.n (L.st b i) g a w → Code.rounds E.P c (wpK E.P E.R k) m a w := by
    intro m
    induction m with
    | zero => intro b i _ h; omega
    | succ m ih =>
      intro b i hi hlt g a w hc
      exact body b i hi (Code.rounds E.P c (wpK E.P E.R k) m) (fun b' i' hi' hlt' g' a' w' hc' => ih b' i' hi' (by omega) g' a' w' hc') g a w hc
  intro b i hi g a w hc
  exact wp_loop_rounds _ (key (L.mu b i + 1) b i hi (Nat.lt_succ_self _) g a w hc)
end
/-- Of the environment of a function's run. -/
structure EnvOK (E : Env) (P : Program) (fn : Func) (na nx : Nat) (v : Value) (hs : List Nat) (hv : List Blk) : Prop where
  P : E.P = P
  n : E.n = na + (fn.ntmps - na)
  A : ∀ k, E.An.2 k → k < nx
  R : E.R = bodyPost E.P fn fun e w' => ∃ g' B', Agree E.An.2 E.An.1 g' ∧ HC E.M E.w0 g' B' (assocN hs hv) w' ∧ e = .returned (ren g' v)
def bodyOf (fn : Func) : Code := match fn.body with
  | some c => c
  | none => .skip
def st0 (fn : Func) (args : List Value) (H : Heap) (nx : Nat) : St := ⟨startT args (args.length + (fn.ntmps - args.length)), H, nx, 0, []⟩
theorem spec_of_sat {P : Program} {f : FuncId} {fn : Func} {c : Code} (hf : P.funcs[f]? = some fn) (hb : fn.body = some c) {args : List Value} {H0 : Heap} {nx : Nat} {v : Value} {hs : List Nat} {hv : List Blk}
    (h : ∀ E : Env, EnvOK E P fn args.length nx v hs hv → Sat E [.code (bodyOf fn)] (st0 fn args H0 nx)) : CallSpec P f args H0 nx v (assocN hs hv) := by
  intro g B w hB hH hargs
  have := h ⟨P, (g, B), Wr g H0, w, args.length + (fn.ntmps - args.length), bodyPost P fn fun e w' => ∃ g' B', Agree B g g' ∧ HC (Wr g H0) w g' B' (assocN hs hv) w' ∧ e = .returned (ren g' v)⟩ ⟨rfl, rfl, hB, rfl⟩
  have hbo : bodyOf fn = c := by unfold bodyOf; rw [hb]
  rw [hbo] at this
  exact calls_of_sat hf hb hH hB hargs this
/-- The loops of a piece of code, each with what follows. -/
def loopsIn : Code → List Ctl → List (Code × List Ctl)
  | .seq x y, k => loopsIn x (.code y :: k) ++ loopsIn y k
  | .cond _ x y, k => loopsIn x k ++ loopsIn y k
  | .block id c, k => loopsIn c (.inBlock id :: k)
  | .loop c, k => [(c, k)]
  | _, _ => []
/-- The regions of a piece of code, each with what follows. -/
def regsIn : Code → List Ctl → List (Nat × Code × List Ctl)
  | .seq x y, k => regsIn x (.code y :: k) ++ regsIn y k
  | .cond _ x y, k => regsIn x k ++ regsIn y k
  | .block id c, k => regsIn c (.inBlock id :: k)
  | .region id ops d, k => [(id, .region id ops d, k)]
  | _, _ => []
def findR (id : Nat) : List (Nat × Code × List Ctl) → List Ctl
  | [] => []
  | (j, c, k) :: l => bif Nat.beq j id then .code c :: k else findR id l
/-- From a region of a function on (outside of loops). -/
def fromR (fn : Func) (id : Nat) : List Ctl := findR id (regsIn (bodyOf fn) [])
def nthL : List (Code × List Ctl) → Nat → Code × List Ctl
  | [], _ => (.skip, [])
  | x :: _, 0 => x
  | _ :: l, n + 1 => nthL l n
/-- The n-th loop of a function: its body, what follows it. -/
def lp (fn : Func) (n : Nat) : Code × List Ctl := nthL (loopsIn (bodyOf fn) []) n
/-- The n-th loop within a loop's body. -/
def lpIn (x : Code × List Ctl) (J : Act → World → Prop) (n : Nat) : Code × List Ctl := nthL (loopsIn x.1 (.mark J :: x.2)) n
def atLp (x : Code × List Ctl) : List Ctl := .code (.loop x.1) :: x.2
def inLp (x : Code × List Ctl) (J : Act → World → Prop) : List Ctl := .code x.1 :: .mark J :: x.2
def mkLp (x : Code × List Ctl) (J : Act → World → Prop) : List Ctl := .mark J :: x.2
section
variable {E : Env} {P : Program} {fn : Func} {na nx : Nat} {v : Value} {hs : List Nat} {hv : List Blk} {T : Sums} {h : Nat → Nat → Nat → Hint} {ws : List W} {k K : List Ctl} {S : St} {obs : List Prop}
def cx (P : Program) (fn : Func) (na : Nat) (T : Sums) (h : Nat → Nat → Nat → Hint) : Ctx := ⟨P, T, na + (fn.ntmps - na), h⟩
theorem by_ret (hE : EnvOK E P fn na nx v hs hv) (hm : P.follows .mixedOrders = true) (hT : SumsOK P T) {nx' : Nat} (hnx : nx ≤ nx') (hhs : ∀ k ∈ hs, k < nx') (hhv : ∀ x ∈ hv, x.namesLt nx')
    (h0 : pathRet (cx P fn na T h) fn ws k S nx v hs hv = some obs) (hob : all obs) : Sat E k S :=
  path_ret (C := cx P fn na T h) (by rw [hE.P]; exact hm) (by rw [hE.P]; exact hT) hE.P.symm hE.n.symm hE.A hnx hE.R hhs hhv h0 hob
theorem by_to {ι : Type} {L : LoopF ι} {b : Nat} {m : Option Nat} {i0 : ι} (hE : EnvOK E P fn na nx v hs hv) (hm : P.follows .mixedOrders = true) (hT : SumsOK P T) (hL : L.OK nx)
    (h0 : pathTo (cx P fn na T h) ws k S K nx L b m i0 = some obs) (hob : all obs) (hK : ∀ i, L.inv b i → ltO (L.mu b i) m → Sat E K (L.st b i)) : Sat E k S :=
  path_to (C := cx P fn na T h) (by rw [hE.P]; exact hm) (by rw [hE.P]; exact hT) hE.P.symm hE.n.symm hE.A hL h0 hob hK
theorem by_loop {ι : Type} (L : LoopF ι) (x : Code × List Ctl) (body : ∀ b i, L.inv b i → ∀ J : Act → World → Prop, (∀ b' i', L.inv b' i' → L.mu b' i' < L.mu b i → Sat E (mkLp x J) (L.st b' i')) → Sat E (inLp x J) (L.st b i)) :
    ∀ b i, L.inv b i → Sat E (atLp x) (L.st b i) := loop_sat L body
end
/-! ### Calls that only read what they are given -/
theorem ro_of_row {g : Nm} {k : Nat} {b : Blk} {o : Option Obj} {cs : List Value} (h : b.Holds g k o) (hr : b.row = some cs) : (Blk.ro cs).Holds g k o := by
  cases b <;> simp only [Blk.row, Option.some.injEq, reduceCtorEq] at hr <;> subst hr <;> simp only [Blk.Holds] at h ⊢
  case cells cs ty => exact ⟨_, ty, (0, 0), h.2, fun i v hv => by simp [h.1, hv]⟩
  case vec cs ty s =>
    obtain ⟨h0, rest, ho, _⟩ := h
    refine ⟨_, ty, (0, 0), ho, fun i v hv => ?_⟩
    have hi : i < cs.length := (List.getElem?_eq_some_iff.1 hv).1
    have he : cs[i] = v := (List.getElem?_eq_some_iff.1 hv).2
    simp [h0, List.getElem?_append, hi, he]
  case ro => exact h
theorem ro_own {P : Program} {f : FuncId} {args : List Value} {H0 H1 : Heap} {nx : Nat} {v : Value} (hs : CallSpec P f args H0 nx v H1) (hro : ∀ j b, H0 j = some b → b.wr = false)
    {g : Nm} {B : Nat → Prop} {w : World} (hB : ∀ k, B k → k < nx) (hH : HC (fun _ => False) w g B H0 w) (hargs : ∀ v ∈ args, InB B v) :
    Calls P f (args.map (ren g)).toArray w fun e w' => ∃ g' B', Agree B g g' ∧ HC (fun _ => False) w g' B' H1 w' ∧ e = .returned (ren g' v) := by
  have he : ∀ i, ¬ Wr g H0 i := fun i ⟨k, b, h1, h2, _⟩ => by rw [hro k b h1] at h2; simp at h2
  have mv : ∀ {g' : Nm} {B' : Nat → Prop} {H : Heap} {w' : World}, HC (Wr g H0) w g' B' H w' → HC (fun _ => False) w g' B' H w' := fun h =>
    ⟨⟨h.below.os, h.below.tape, h.below.output, h.below.size, fun i hi _ => h.below.block i hi (he i)⟩, h.dom, h.scope, h.holds, fun k b hk hw => (h.own k b hk hw).imp id fun hx => he _ hx, h.inj⟩
  have mv' : HC (Wr g H0) w g B H0 w := ⟨BelowBut.refl _ _, hH.dom, hH.scope, hH.holds, fun k b hk hw => by rw [hro k b hk] at hw; simp at hw, hH.inj⟩
  refine (hs g B w hB mv' hargs).mono ?_
  rintro e w' ⟨g', B', h1, h2, h3⟩
  exact ⟨g', B', h1, mv h2, h3⟩
/-- New blocks, with names told anew. -/
def usR (f : Nat → Nat) (new : List (Nat × Nat)) (H1 : Heap) : List (Nat × Option Blk) := usOf new (fun j => match H1 j with
  | some b => some (b.rnB f)
  | none => none)
theorem rnB_inB {g : Nm} {B' : Nat → Prop} {f : Nat → Nat} {b : Blk} (hm : b.InB B') {B : Nat → Prop} (h : ∀ cs, b.row = some cs → ∀ c ∈ cs, ∀ k ∈ nm0 c, B (f k)) : (b.rnB f).InB B := by
  have key : ∀ cs : List Value, (∀ c ∈ cs, ∀ k ∈ nm0 c, B (f k)) → ∀ v ∈ mapL (rn0 f) cs, In0 B v := by
    intro cs h v hv
    rw [mapL_eq] at hv
    obtain ⟨c, hc, rfl⟩ := List.mem_map.1 hv
    intro g1 g2 ag
    rw [ren0_rn0, ren0_rn0]
    exact ren0_names fun k hk => ag (f k) (h c hc k hk)
  cases b with
  | map => exact hm
  | cells cs ty => exact key cs (h cs rfl)
  | vec cs ty s => exact key cs (h cs rfl)
  | ro cs => exact key cs (h cs rfl)
theorem rnB_holds {g g' : Nm} {f : Nat → Nat} {j : Nat} {b : Blk} {o : Option Obj} (h : b.Holds g j o) (hj : AgreeAt g (g'.comp f) j) (hn : ∀ cs, b.row = some cs → ∀ c ∈ cs, ∀ k ∈ nm0 c, AgreeAt g (g'.comp f) k) : (b.rnB f).Holds g' (f j) o := by
  have key : ∀ cs : List Value, (∀ c ∈ cs, ∀ k ∈ nm0 c, AgreeAt g (g'.comp f) k) → (mapL (rn0 f) cs).map (ren0 g') = cs.map (ren0 g) := by
    intro cs h
    rw [mapL_eq, List.map_map]
    refine List.map_congr_left fun c hc => ?_
    show ren0 g' (rn0 f c) = _
    rw [ren0_rn0]
    exact (ren0_names fun k hk => h c hc k hk).symm
  obtain ⟨_, e2, e3⟩ := hj
  simp only [Nm.comp] at e2 e3
  cases b with
  | map => exact h
  | cells cs ty => simp only [Blk.rnB, Blk.Holds, key cs (hn cs rfl)] at h ⊢; rw [← e2]; exact h
  | vec cs ty s =>
    simp only [Blk.rnB, Blk.Holds, key cs (hn cs rfl)] at h ⊢
    rw [← e2, ← e3, mapL_eq, List.length_map]
    exact h
  | ro cs =>
    simp only [Blk.rnB, Blk.Holds] at h ⊢
    obtain ⟨c, ty, fz, ho, hc⟩ := h
    refine ⟨c, ty, fz, ho, fun i v hv => ?_⟩
    rw [mapL_eq, List.getElem?_map] at hv
    cases hi : cs[i]? with
    | none => rw [hi] at hv; simp at hv
    | some u =>
      rw [hi] at hv
      simp at hv; subst hv
      rw [← e2, hc i u hi, ren0_rn0]
      exact congrArg some (ren0_names fun k hk => hn cs rfl u (List.mem_of_getElem? hi) k hk)
section
open Classical
variable {P : Program} {f : FuncId} {args : List Value} {H H0 H1 : Heap} {nm nx : Nat} {v : Value} {old new : List (Nat × Nat)}
/-- From what a call does that only reads its rows to what a caller sees. -/
theorem ro_calls (hs : CallSpec P f args H0 nx v H1) (hn1 : ((old ++ new).map (·.1)).Nodup) (hn2 : (new.map (·.2)).Nodup)
    (hold : ∀ j k, (j, k) ∈ old → j < nx ∧ ∃ b, H k = some b ∧ ∀ b0, H0 j = some b0 → ∃ cs, b.row = some cs ∧ b0 = .ro cs ∧ ∀ c ∈ cs, leafG c = true) (h0 : ∀ j b, H0 j = some b → ∃ k, (j, k) ∈ old)
    (hnew : ∀ m k, (m, k) ∈ new → Fresh nm k ∧ ∃ b, H1 m = some b ∧ b.wr = true ∧ ∀ cs, b.row = some cs → ∀ c ∈ cs, ∀ j ∈ nm0 c, ∃ k, (j, k) ∈ old ++ new)
    (hv : ∀ j ∈ nms v, ∃ k, (j, k) ∈ old ++ new) (hargs : ∀ u ∈ args, ∀ j ∈ nms u, ∃ k, (j, k) ∈ old)
    {M : Nat → Prop} {w0 w : World} {g : Nm} {B : Nat → Prop} (hH : HC M w0 g B H w) (hn : ∀ k, B k → ¬ Fresh nm k) :
    Calls P f ((args.map (rn (look old))).map (ren g)).toArray w fun e w' => ∃ g', Agree B g g' ∧ HC M w0 g' (Plus B nm) (apU (usR (look (old ++ new)) new H1) H) w' ∧ InB (Plus B nm) (rn (look (old ++ new)) v) ∧ e = .returned (ren g' (rn (look (old ++ new)) v)) := by
  have hn1o : (old.map (·.1)).Nodup := by rw [List.map_append] at hn1; exact (List.nodup_append.1 hn1).1
  have hn1n : (new.map (·.1)).Nodup := by rw [List.map_append] at hn1; exact (List.nodup_append.1 hn1).2.1
  have hkB : ∀ j k, (j, k) ∈ old → B k := fun j k hjk => let ⟨_, b, hb, _⟩ := hold j k hjk; hH.dom k b hb
  let g0 : Nm := g.comp (look old)
  have hg0 : ∀ j k, (j, k) ∈ old → g0.blk j = g.blk k ∧ g0.base j = g.base k ∧ g0.cap j = g.cap k := fun j k hjk => by
    simp [g0, Nm.comp, look_spec hn1o hjk]
  have hro : ∀ j b, H0 j = some b → b.wr = false := fun j b hb => by
    obtain ⟨k, hk⟩ := h0 j b hb
    obtain ⟨_, b', _, hx⟩ := hold j k hk
    obtain ⟨cs, _, rfl, _⟩ := hx b hb
    rfl
  have hc0 : HC (fun _ => False) w g0 (fun j => ∃ k, (j, k) ∈ old) H0 w := by
    refine ⟨BelowBut.refl _ _, fun j b hb => h0 j b hb, fun j b hb => ?_, fun j b hb => ?_, fun j b hb hw => by rw [hro j b hb] at hw; simp at hw, fun i j b c hb hc hw he => by rw [hro i b hb] at hw; simp at hw⟩
    · obtain ⟨k, hk⟩ := h0 j b hb
      obtain ⟨_, b', hb1, hx⟩ := hold j k hk
      obtain ⟨cs, hr, rfl, hpl⟩ := hx b hb
      exact fun c hc => In0.leafG (hpl c hc)
    · obtain ⟨k, hk⟩ := h0 j b hb
      obtain ⟨_, b', hb1, hx⟩ := hold j k hk
      obtain ⟨cs, hr, rfl, hpl⟩ := hx b hb
      obtain ⟨e1, e2, e3⟩ := hg0 j k hk
      rw [e1]
      exact Blk.plain.holds (b := .ro cs) hpl e2.symm e3.symm (ro_of_row (hH.holds k b' hb1) hr)
  have hcall := ro_own hs hro (g := g0) (B := fun j => ∃ k, (j, k) ∈ old) (w := w) (fun j ⟨k, hk⟩ => (hold j k hk).1) hc0 (fun u hu g1 g2 ag => ren_names fun j hj => ag j (hargs u hu j hj))
  have hargs' : (args.map (rn (look old))).map (ren g) = args.map (ren g0) := by
    rw [List.map_map]
    exact List.map_congr_left fun u _ => ren_rn g (look old) u
  rw [hargs']
  refine hcall.mono ?_
  rintro e w' ⟨g1, B1, hag, hc, rfl⟩
  have hg1 : ∀ j k, (j, k) ∈ old → g1.blk j = g.blk k ∧ g1.base j = g.base k ∧ g1.cap j = g.cap k := fun j k hjk => by
    obtain ⟨h1, h2, h3⟩ := hag j ⟨k, hjk⟩
    obtain ⟨h4, h5, h6⟩ := hg0 j k hjk
    exact ⟨h1.symm.trans h4, h2.symm.trans h5, h3.symm.trans h6⟩
  have hH' : HC M w0 g B H w' := hH.grow hc.below.below
  have hnewB : ∀ m k, (m, k) ∈ new → ¬ B k := fun m k hmk hb => hn k hb (hnew m k hmk).1
  let pick : Nat → Option Nat := fun k => if h : ∃ m, (m, k) ∈ new then some (Classical.choose h) else none
  have hpick : ∀ m k, (m, k) ∈ new → pick k = some m := fun m k hmk => by
    have h : ∃ m, (m, k) ∈ new := ⟨m, hmk⟩
    simp only [pick, dif_pos h]
    have := Classical.choose_spec h
    rw [pair_snd hn2 this hmk]
  have hpickn : ∀ k, (∀ m, (m, k) ∉ new) → pick k = none := fun k hk => by
    simp only [pick]
    rw [dif_neg fun ⟨m, hm⟩ => hk m hm]
  let g2 : Nm := ⟨fun k => match pick k with | some m => g1.blk m | none => g.blk k, fun k => match pick k with | some m => g1.base m | none => g.base k, fun k => match pick k with | some m => g1.cap m | none => g.cap k⟩
  have hg2B : ∀ k, B k → g2.blk k = g.blk k ∧ g2.base k = g.base k ∧ g2.cap k = g.cap k := fun k hb => by
    have := hpickn k fun m hm => hnewB m k hm hb
    simp [g2, this]
  have hg2n : ∀ m k, (m, k) ∈ new → g2.blk k = g1.blk m ∧ g2.base k = g1.base m ∧ g2.cap k = g1.cap m := fun m k hmk => by
    simp [g2, hpick m k hmk]
  have hagree : Agree B g g2 := fun k hb => by obtain ⟨h1, h2, h3⟩ := hg2B k hb; exact ⟨h1.symm, h2.symm, h3.symm⟩
  have hg2 : ∀ j k, (j, k) ∈ old ++ new → g2.blk k = g1.blk j ∧ g2.base k = g1.base j ∧ g2.cap k = g1.cap j := fun j k hjk => by
    rcases List.mem_append.1 hjk with h | h
    · obtain ⟨h1, h2, h3⟩ := hg2B k (hkB j k h)
      obtain ⟨h4, h5, h6⟩ := hg1 j k h
      exact ⟨h1.trans h4.symm, h2.trans h5.symm, h3.trans h6.symm⟩
    · exact hg2n j k h
  have hat : ∀ j k, (j, k) ∈ old ++ new → AgreeAt g1 (g2.comp (look (old ++ new))) j := fun j k hjk => by
    obtain ⟨h1, h2, h3⟩ := hg2 j k hjk
    show g1.blk j = (g2.comp _).blk j ∧ _
    simp only [Nm.comp, look_spec hn1 hjk]
    exact ⟨h1.symm, h2.symm, h3.symm⟩
  have hPB : ∀ j k, (j, k) ∈ old ++ new → Plus B nm k := fun j k hjk => by
    rcases List.mem_append.1 hjk with h | h
    · exact Or.inl (hkB j k h)
    · exact Or.inr (hnew j k h).1
  have hget : ∀ k b, apU (usR (look (old ++ new)) new H1) H k = some b → (∃ j b1, (j, k) ∈ new ∧ H1 j = some b1 ∧ b = b1.rnB (look (old ++ new))) ∨ ((∀ j, (j, k) ∉ new) ∧ H k = some b) := by
    intro k b hb
    unfold usR at hb
    obtain ⟨h1, h2⟩ := apU_usOf (H1 := fun j => match H1 j with | some b => some (b.rnB (look (old ++ new))) | none => none) (H := H) (k := k) hn2
    rcases find_caller new k with ⟨j, hj⟩ | hno
    · rw [h1 j hj] at hb
      split at hb
      · rename_i b1 hb1
        simp at hb
        exact Or.inl ⟨j, b1, hj, hb1, hb.symm⟩
      · simp at hb
    · exact Or.inr ⟨hno, by rw [← h2 hno]; exact hb⟩
  have hpl : ∀ j k b, (j, k) ∈ new → H1 j = some b → b.wr = true ∧ ∀ cs, b.row = some cs → ∀ c ∈ cs, ∀ i ∈ nm0 c, ∃ k, (i, k) ∈ old ++ new := fun j k b hjk hb => by
    obtain ⟨_, b', hb', hw, hns⟩ := hnew j k hjk
    rw [hb] at hb'; simp at hb'; subst hb'
    exact ⟨hw, hns⟩
  have hge : ∀ j k b, (j, k) ∈ new → H1 j = some b → w.heap.size ≤ g1.blk j := fun j k b hjk hb => by
    rcases hc.own j b hb (hpl j k b hjk hb).1 with h | h
    · exact h
    · exact h.elim
  have hlk : ∀ j k, (j, k) ∈ new → look (old ++ new) j = k := fun j k hjk => look_spec hn1 (List.mem_append_right _ hjk)
  refine ⟨g2, hagree, ⟨hH'.below, fun k b hb => ?_, fun k b hb => ?_, fun k b hb => ?_, fun k b hb hw => ?_, fun k l b c hb hcl hw he => ?_⟩, ?_, ?_⟩
  · rcases hget k b hb with ⟨j, b1, hjk, _⟩ | ⟨_, hHk⟩
    · exact Or.inr (hnew j k hjk).1
    · exact Or.inl (hH.dom k b hHk)
  · rcases hget k b hb with ⟨j, b1, hjk, hb1, rfl⟩ | ⟨hno, hHk⟩
    · refine rnB_inB (g := g1) (hc.scope j b1 hb1) fun cs hcs c hcc i hi => ?_
      obtain ⟨k', hk'⟩ := (hpl j k b1 hjk hb1).2 cs hcs c hcc i hi
      rw [look_spec hn1 hk']
      exact hPB i k' hk'
    · exact (hH.scope k b hHk).mono plus_mono
  · rcases hget k b hb with ⟨j, b1, hjk, hb1, rfl⟩ | ⟨hno, hHk⟩
    · obtain ⟨e1, e2, e3⟩ := hg2n j k hjk
      rw [e1]
      have := rnB_holds (g' := g2) (f := look (old ++ new)) (hc.holds j b1 hb1) (hat j k (List.mem_append_right _ hjk)) (fun cs hcs c hcc i hi => by
        obtain ⟨k', hk'⟩ := (hpl j k b1 hjk hb1).2 cs hcs c hcc i hi
        exact hat i k' hk')
      rw [hlk j k hjk] at this
      exact this
    · rw [(hg2B k (hH.dom k b hHk)).1]
      exact (hH'.holds k b hHk).congr hagree (hH.dom k b hHk) (hH.scope k b hHk)
  · rcases hget k b hb with ⟨j, b1, hjk, hb1, rfl⟩ | ⟨hno, hHk⟩
    · rw [(hg2n j k hjk).1]
      exact Or.inl (Nat.le_trans hH.below.size (hge j k b1 hjk hb1))
    · rw [(hg2B k (hH.dom k b hHk)).1]
      exact hH.own k b hHk hw
  · rcases hget k b hb with ⟨j, b1, hjk, hb1, rfl⟩ | ⟨hno, hHk⟩
    · rcases hget l c hcl with ⟨j', c1, hjl, hc1, rfl⟩ | ⟨hno', hHl⟩
      · rw [(hg2n j k hjk).1, (hg2n j' l hjl).1] at he
        have := hc.inj j j' b1 c1 hb1 hc1 (by rw [wr_rnB] at hw; exact hw) he
        subst this
        exact pair_fst hn1n hjk hjl
      · rw [(hg2n j k hjk).1, (hg2B l (hH.dom l c hHl)).1] at he
        have h1 := hge j k b1 hjk hb1
        have h2 := hH.lt hHl
        omega
    · rcases hget l c hcl with ⟨j', c1, hjl, hc1, rfl⟩ | ⟨hno', hHl⟩
      · rw [(hg2n j' l hjl).1, (hg2B k (hH.dom k b hHk)).1] at he
        have h1 := hge j' l c1 hjl hc1
        have h2 := hH.lt hHk
        omega
      · rw [(hg2B k (hH.dom k b hHk)).1, (hg2B l (hH.dom l c hHl)).1] at he
        exact hH.inj k l b c hHk hHl hw he
  · intro g3 g4 ag
    rw [ren_rn, ren_rn]
    refine ren_names fun j hj => ?_
    obtain ⟨k, hjk⟩ := hv j hj
    show (g3.comp _).blk j = (g4.comp _).blk j ∧ _
    simp only [Nm.comp, look_spec hn1 hjk]
    exact ag k (hPB j k hjk)
  · rw [ren_rn]
    refine congrArg Ending.returned (ren_names fun j hj => ?_)
    obtain ⟨k, hjk⟩ := hv j hj
    exact hat j k hjk
end
/-! ### Runs of functions that only read what they are given -/
def roOf (H : Heap) (ks : List Nat) : Heap := fun k => bif memN k ks then (match H k with
  | some b => (match b.row with
    | some cs => bif allB leafG cs then some (.ro cs) else none
    | none => none)
  | none => none) else none
def hasB (H : Heap) (k : Nat) : Bool := match H k with
  | some _ => true
  | none => false
def blkNames : Option Blk → List Nat
  | some (.cells cs _) | some (.vec cs _ _) | some (.ro cs) => nmL nm0 cs
  | _ => []
def catL (f : Nat → List Nat) : List Nat → List Nat
  | [] => []
  | k :: ks => f k ++ catL f ks
theorem mem_catL {f : Nat → List Nat} {j : Nat} : ∀ {l : List Nat} {k : Nat}, k ∈ l → j ∈ f k → j ∈ catL f l
  | a :: l, k, h, hj => by
    simp only [catL, List.mem_append]
    rcases List.mem_cons.1 h with rfl | h
    · exact Or.inl hj
    · exact Or.inr (mem_catL h hj)
/-- All names that are come to from these, so deep. -/
def reach (H : Heap) : Nat → List Nat → List Nat
  | 0, ks => dedup ks
  | n + 1, ks => reach H n (dedup (ks ++ catL (fun k => blkNames (H k)) ks))
def wrB (H : Heap) (k : Nat) : Bool := match H k with
  | some b => b.wr
  | none => false
noncomputable def roCore (P : Program) (fn : Func) (args : List Value) (ks : List Nat) (H : Heap) (nm : Nat) : Out → Option Res
  | .ret S => match resOf P fn S with
    | some v =>
      match without ks (reach S.H 3 (nms v)) with
      | ms =>
      bif subB (nmL nms args) ks then bif nodupB (ks ++ ms) then bif allB (hasB H) ks then bif Nat.ble ms.length 4 then
      bif allB (wrB S.H) ms then bif subB (catL (fun k => blkNames (S.H k)) ms) (ks ++ ms) then bif subB (nms v) (ks ++ ms) then
        some ⟨rn (look (idP ks ++ toP ms nm)) v, usR (look (idP ks ++ toP ms nm)) (toP ms nm) S.H, ks, S.ob⟩
      else none else none else none else none else none else none else none
    | none => none
  | _ => none
noncomputable def roRun (P : Program) (sums : Sums) (hint : Nat → Nat → Nat → Hint) (ws : List W) (f : FuncId) : List Value → Heap → Nat → Option Res := fun args H nm =>
  match P.funcs.toList[f]? with
  | some fn => match fn.body with
    | some c => roCore P fn args (dedup (nmL nms args)) H nm (runH P sums hint ws fn c args (roOf H (dedup (nmL nms args))) (maxL (dedup (nmL nms args)) + 1))
    | none => none
  | none => none
theorem toP_snd : ∀ (ks : List Nat) (n : Nat), ((toP ks n).map (·.2)).Nodup
  | [], _ => List.nodup_nil
  | a :: ks, n => by
    simp only [toP, List.map_cons]
    refine List.nodup_cons.2 ⟨fun h => ?_, toP_snd ks (n + 1)⟩
    obtain ⟨⟨m, k⟩, h1, h2⟩ := List.mem_map.1 h
    have := (toP_mem h1).2.1
    simp at h2
    omega
theorem roRun_ok {P : Program} (hm : P.follows .mixedOrders = true) (hN : namesB P = true) {sums : Sums} (hS : SumsOK P sums) {f : FuncId} {fn : Func} {c : Code} (hf : P.funcs[f]? = some fn) (hb : fn.body = some c) (hint : Nat → Nat → Nat → Hint) (ws : List W) : SumOK P f (roRun P sums hint ws f) := by
  have hf' : P.funcs.toList[f]? = some fn := by rw [Array.getElem?_toList]; exact hf
  refine ⟨enters_of hN hf hb, ?_, ?_⟩
  · intro args H nm r hr hob M w0 g B w hH hargs hn
    simp only [roRun, hf', hb] at hr
    generalize hks : dedup (nmL nms args) = ks at hr
    cases hrun : runH P sums hint ws fn c args (roOf H ks) (maxL ks + 1) with
    | ret S =>
      rw [hrun] at hr
      simp only [roCore] at hr
      split at hr
      · rename_i v hv
        generalize hms : without ks (reach S.H 3 (nms v)) = ms at hr
        have p1 := bifB hr
        have p2 := bifB p1.2
        have p3 := bifB p2.2
        have p4 := bifL p3.2
        have p5 := bifB p4.2
        have p6 := bifB p5.2
        have p7 := bifB p6.2
        have hr9 := p7.2
        simp only [Option.some.injEq] at hr9
        subst hr9
        have hspec := spec_run (f := f) hm hS hf hb (args := args) (H0 := roOf H ks) (nx := maxL ks + 1) (hint := hint) (ws := ws) (v := v) (by rw [hrun]; exact hv) (by rw [hrun]; exact all_iff.2 hob)
        rw [hrun] at hspec
        have hin : ∀ u ∈ args, ∀ k ∈ nms u, k ∈ ks := fun u hu k hk => subB_ok p1.1 k (mem_nmL hu hk)
        have hnd := nodupB_ok p2.1
        have hlook : ∀ k ∈ ks, look (idP ks) k = k := fun k hk => look_spec (by rw [idP_fst]; exact (List.nodup_append.1 hnd).1) (idP_mem.2 ⟨rfl, hk⟩)
        have hof : ∀ j b, roOf H ks j = some b → j ∈ ks ∧ ∃ b' cs, H j = some b' ∧ b'.row = some cs ∧ b = .ro cs ∧ ∀ c ∈ cs, leafG c = true := by
          intro j b hb'
          unfold roOf at hb'
          cases hmm : memN j ks <;> rw [hmm] at hb'
          · simp at hb'
          · refine ⟨memN_iff.1 hmm, ?_⟩
            simp only [cond_true] at hb'
            split at hb'
            · rename_i b1 hb1
              split at hb'
              · rename_i cs hcs
                cases hl : allB leafG cs <;> rw [hl] at hb'
                · simp at hb'
                · simp at hb'
                  exact ⟨b1, cs, hb1, hcs, hb'.symm, allB_iff.1 hl⟩
              · simp at hb'
            · simp at hb'
        have hall : ∀ j, j ∈ ks ++ ms → ∃ k, (j, k) ∈ idP ks ++ toP ms nm := fun j hj => by
          rcases List.mem_append.1 hj with h | h
          · exact ⟨j, List.mem_append_left _ (idP_mem.2 ⟨rfl, h⟩)⟩
          · have h' : j ∈ (toP ms nm).map (·.1) := by rw [toP_fst]; exact h
            obtain ⟨⟨m, k'⟩, hm', he⟩ := List.mem_map.1 h'
            simp only at he; subst he
            exact ⟨k', List.mem_append_right _ hm'⟩
        have := ro_calls (old := idP ks) (new := toP ms nm) (nm := nm) hspec (by rw [List.map_append, idP_fst, toP_fst]; exact hnd) (toP_snd ms nm)
          (fun j k h => by
            obtain ⟨rfl, hk⟩ := idP_mem.1 h
            refine ⟨by have := maxL_ge hk; omega, ?_⟩
            have h3 := allB_iff.1 p3.1 j hk
            unfold hasB at h3
            split at h3
            · rename_i b hb'
              refine ⟨b, hb', fun b0 hb0 => ?_⟩
              obtain ⟨_, b', cs, h4, h5, h6, h7⟩ := hof j b0 hb0
              rw [hb'] at h4; simp at h4; subst h4
              exact ⟨cs, h5, h6, h7⟩
            · simp at h3)
          (fun j b h => ⟨j, idP_mem.2 ⟨rfl, (hof j b h).1⟩⟩)
          (fun m k h => by
            obtain ⟨h1, h2, h3⟩ := toP_mem h
            have h4 := p4.1
            refine ⟨⟨h2, by omega⟩, ?_⟩
            have h5 := allB_iff.1 p5.1 m h1
            unfold wrB at h5
            split at h5
            · rename_i b hb'
              refine ⟨b, hb', h5, fun cs hcs c hc j hj => hall j ?_⟩
              refine subB_ok p6.1 j (mem_catL h1 ?_)
              have : S.H m = some b := hb'
              rw [this]
              cases b <;> simp only [Blk.row, Option.some.injEq, reduceCtorEq] at hcs <;> subst hcs <;> exact mem_nmL hc hj
            · simp at h5)
          (fun j hj => hall j (subB_ok p7.1 j hj))
          (fun u hu j hj => ⟨j, idP_mem.2 ⟨rfl, hin u hu j hj⟩⟩)
          hH hn
        have hid : args.map (rn (look (idP ks))) = args := by
          conv => rhs; rw [← List.map_id args]
          exact List.map_congr_left fun u hu => rn_names fun k hk => hlook k (hin u hu k hk)
        rw [hid] at this
        exact this
      · simp at hr
    | fork t x y ob => rw [hrun] at hr; simp [roCore] at hr
    | fail => rw [hrun] at hr; simp [roCore] at hr
    | atK k S => rw [hrun] at hr; simp [roCore] at hr
  · intro args H nm r hr H' hH'
    simp only [roRun, hf', hb] at hr ⊢
    generalize hks : dedup (nmL nms args) = ks at hr ⊢
    have hrs : r.rs = ks ∧ allB (hasB H) ks = true := by
      unfold roCore at hr
      split at hr
      · split at hr
        · have p1 := bifB hr
          have p2 := bifB p1.2
          have p3 := bifB p2.2
          have p4 := bifL p3.2
          have p5 := bifB p4.2
          have p6 := bifB p5.2
          have p7 := bifB p6.2
          have hr9 := p7.2
          simp only [Option.some.injEq] at hr9
          exact ⟨by rw [← hr9], p3.1⟩
        · simp at hr
      · simp at hr
    have h1 : ∀ k ∈ ks, H' k = H k := fun k hk => hH' k (by rw [hrs.1]; exact hk)
    have e1 : roOf H' ks = roOf H ks := by
      funext k
      unfold roOf
      cases hm' : memN k ks
      · rfl
      · simp only [cond_true]; rw [h1 k (memN_iff.1 hm')]
    have e2 : allB (hasB H') ks = allB (hasB H) ks := by
      rw [hrs.2]
      refine allB_iff.2 fun k hk => ?_
      have := allB_iff.1 hrs.2 k hk
      unfold hasB at this ⊢
      rw [h1 k hk]; exact this
    rw [e1]
    unfold roCore at hr ⊢
    rw [e2]
    exact hr
/-- Summaries that are given, and for all other functions their runs, so deep: of numbers alone, or such as only read what they are given, or such as write there. -/
noncomputable def autoR (P : Program) (given : Sums) (ways : FuncId → List W) (hints : FuncId → Nat → Nat → Nat → Hint) : Nat → Sums
  | 0 => given
  | d + 1 => fun f => match given f with
    | some s => some s
    | none => match P.funcs.toList[f]? with
      | some fn => match fn.body with
        | some _ => some fun args H nm => match callRun P (autoR P given ways hints d) (hints f) (ways f) f args with
          | some r => some r
          | none => match roRun P (autoR P given ways hints d) (hints f) (ways f) f args H nm with
            | some r => some r
            | none => heapRun P (autoR P given ways hints d) (hints f) (ways f) f args H nm
        | none => none
      | none => none
theorem or_ok2 {P : Program} {f : FuncId} {s1 s2 : List Value → Heap → Nat → Option Res} (h1 : SumOK P f s1) (h2 : SumOK P f s2) (hx : ∀ args H nm, s1 args H nm = none → ∀ r, s2 args H nm = some r → ∀ H', (∀ k ∈ r.rs, H' k = H k) → s1 args H' nm = none) :
    SumOK P f (fun args H nm => match s1 args H nm with
      | some r => some r
      | none => s2 args H nm) := by
  refine ⟨h1.1, ?_, ?_⟩
  · intro args H nm r hr hob
    simp only at hr
    cases h : s1 args H nm with
    | some r1 =>
      rw [h] at hr
      simp only [Option.some.injEq] at hr
      subst hr
      exact h1.2.1 args H nm r1 h hob
    | none =>
      rw [h] at hr
      exact h2.2.1 args H nm r hr hob
  · intro args H nm r hr H' hH'
    simp only at hr ⊢
    cases h : s1 args H nm with
    | some r1 =>
      rw [h] at hr
      simp only [Option.some.injEq] at hr
      subst hr
      rw [h1.2.2 args H nm r1 h H' hH']
    | none =>
      rw [h] at hr
      rw [hx args H nm h r hr H' hH']
      exact h2.2.2 args H nm r hr H' hH'
theorem allB_congr {f g : Nat → Bool} : ∀ {l : List Nat}, (∀ k ∈ l, f k = g k) → allB f l = allB g l
  | [], _ => rfl
  | k :: l, h => by
    simp only [allB]
    rw [h k (by simp), allB_congr fun j hj => h j (by simp [hj])]
theorem roRun_congr {P : Program} {sums : Sums} {hint : Nat → Nat → Nat → Hint} {ws : List W} {f : FuncId} {args : List Value} {H H' : Heap} {nm : Nat} (h : ∀ k ∈ dedup (nmL nms args), H' k = H k) : roRun P sums hint ws f args H' nm = roRun P sums hint ws f args H nm := by
  unfold roRun
  have e1 : roOf H' (dedup (nmL nms args)) = roOf H (dedup (nmL nms args)) := by
    funext k
    unfold roOf
    cases hm' : memN k (dedup (nmL nms args))
    · rfl
    · simp only [cond_true]; rw [h k (memN_iff.1 hm')]
  have e2 : allB (hasB H') (dedup (nmL nms args)) = allB (hasB H) (dedup (nmL nms args)) := allB_congr fun k hk => by unfold hasB; rw [h k hk]
  split
  · split
    · rw [e1]
      unfold roCore
      rw [e2]
    · rfl
  · rfl
theorem heapRun_rs {P : Program} {sums : Sums} {hint : Nat → Nat → Nat → Hint} {ws : List W} {f : FuncId} {args : List Value} {H : Heap} {nm : Nat} {r : Res} (hr : heapRun P sums hint ws f args H nm = some r) : r.rs = dedup (nmL nms args) := by
  unfold heapRun at hr
  split at hr
  · split at hr
    · unfold heapCore at hr
      split at hr
      · split at hr
        · have p1 := bifB hr
          have p2 := bifB p1.2
          have p3 := bifB p2.2
          have p4 := bifB p3.2
          have p5 := bifB p4.2
          have p6 := bifL p5.2
          have p7 := bifB p6.2
          have p8 := bifB p7.2
          have p9 := bifB p8.2
          have hr9 := p9.2
          simp only [Option.some.injEq] at hr9
          rw [← hr9]
        · simp at hr
      · simp at hr
    · simp at hr
  · simp at hr
theorem autoR_ok {P : Program} (hm : P.follows .mixedOrders = true) (hN : namesB P = true) {given : Sums} (hg : SumsOK P given) (ways : FuncId → List W) (hints : FuncId → Nat → Nat → Nat → Hint) : ∀ d, SumsOK P (autoR P given ways hints d)
  | 0 => hg
  | d + 1 => by
    intro f s hs
    simp only [autoR] at hs
    split at hs
    · rename_i s' hs'
      simp at hs; subst hs
      exact hg f s' hs'
    · split at hs
      · rename_i fn hfn
        split at hs
        · rename_i c hc
          have hfn' : P.funcs[f]? = some fn := by simpa using hfn
          have hd := autoR_ok hm hN hg ways hints d
          have h1 : SumOK P f (fun args _ _ => callRun P (autoR P given ways hints d) (hints f) (ways f) f args) := by
            refine sum_of_pure (enters_of hN hfn' hc) fun args r hr hob => ?_
            obtain ⟨h1, h2, h3, h4, h5⟩ := callRun_calls hm hd hr hob
            exact ⟨h1, h3, h4, h5⟩
          have h2 := or_ok2 (roRun_ok hm hN hd hfn' hc (hints f) (ways f)) (heapRun_ok hm hN hd hfn' hc (hints f) (ways f)) (fun args H nm h r hr H' hH' => by
            rw [heapRun_rs hr] at hH'
            rw [roRun_congr hH', h])
          have := or_ok h1 h2
          simp only [Option.some.injEq] at hs
          rw [← hs]
          exact this
        · simp at hs
      · simp at hs
end Go.Proofs.Ytmgkmekknhggbaa.Ev
