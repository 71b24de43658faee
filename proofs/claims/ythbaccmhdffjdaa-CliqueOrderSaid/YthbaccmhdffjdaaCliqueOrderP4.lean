/-
  CliqueOrder: the table, the frames. No condition.
-/
import Derived.SizedLaws
import Derived.Laws.IdiomRangeMap
import Derived.Test.YthbaccmhdffjdaaCliqueOrderP3
set_option linter.unusedVariables false
set_option linter.unusedSimpArgs false
set_option maxRecDepth 100000
namespace Go.Proofs.Ythbaccmhdffjdaa.Tr
open Go Go.RowKit Ev NodeE Tr BoxF
theorem ls_nil (cs : List Value) (o n c : Nat) (b : Bx) (hr : eWord.Row cs o n) (hpl : ∀ x ∈ cs, leafG x = true) (hU : ∀ w ∈ eWord.list cs o n, U64 w) (hn : n ≤ 65536) (hb : b.I64s) (hp : listP (eWord.list cs o n) b = []) :
  CallSpec Try.prog 23 [.slice (some ⟨0, o, none⟩) n c, .agg ⟨b.cs⟩] (roRows [cs]) 1 (.slice none 0 0) (assocN [] []) := by
 refine spec_of_sat Try.func23 rfl fun E hE => ?_
 cases hR : rightI (eWord.list cs o n) 4
 ·exact lsNo cs o n c b hE ⟨⟨rfl, rfl⟩, (congrArg Value.bool hR), plain1 hpl, hr, hU, hn, trivial⟩
 cases hem : b.emp
 ·have hP : pcsI (eWord.list cs o n) b = [] := by simpa only [listP, hR, hem, Bool.true_and, Bool.not_false, Bool.not_true, Bool.and_true, Bool.and_false, cond_true, cond_false] using hp
  exact ls_loop hr hpl hU hn hR hb hem hE (fun _ r J => lsX0 cs o n c (lsQ n (eWord.list cs o n) b) n r J hE ⟨⟨rfl, rfl⟩, decide_eq_false (by omega), trivial⟩) fun h => absurd hP h
 ·exact lsEm cs o n c b hE ⟨⟨rfl, rfl⟩, (congrArg Value.bool hem), (congrArg Value.bool hR), plain1 hpl, hr, hU, hn, trivial⟩
theorem ls_row (cs : List Value) (o n c : Nat) (b : Bx) (hr : eWord.Row cs o n) (hpl : ∀ x ∈ cs, leafG x = true) (hU : ∀ w ∈ eWord.list cs o n, U64 w) (hn : n ≤ 65536) (hb : b.I64s) (hp : listP (eWord.list cs o n) b ≠ []) :
  CallSpec Try.prog 23 [.slice (some ⟨0, o, none⟩) n c, .agg ⟨b.cs⟩] (roRows [cs]) 1 (.slice (some ⟨100, 0, none⟩) (listP (eWord.list cs o n) b).length mk) (assocN [100] [.vec (ePc.row (listP (eWord.list cs o n) b)) 27 11]) := by
 refine spec_of_sat Try.func23 rfl fun E hE => ?_
 have hRe : rightI (eWord.list cs o n) 4 = true ∧ b.emp = false := by
  cases hR : rightI (eWord.list cs o n) 4
  ·exact absurd (by simp only [listP, hR, Bool.false_and, cond_false]) hp
  ·cases hem : b.emp
   ·exact ⟨rfl, rfl⟩
   ·exact absurd (by simp only [listP, hem, Bool.not_true, Bool.and_false, cond_false]) hp
 obtain ⟨hR, hem⟩ := hRe
 have hP : listP (eWord.list cs o n) b = pcsI (eWord.list cs o n) b := by simp only [listP, hR, hem, Bool.true_and, Bool.not_false, Bool.not_true, Bool.and_true, Bool.and_false, cond_true, cond_false]
 rw [hP] at hE hp
 exact ls_loop hr hpl hU hn hR hb hem hE (fun h => absurd h hp) fun _ r J => lsX1 cs o n c (lsQ n (eWord.list cs o n) b) n r (pcsI (eWord.list cs o n) b) J hE ⟨⟨rfl, by simp only [List.map_cons, List.map_nil]; exact congrArg (· :: []) (Blk.plain.rnB (b := .vec (ePc.row (pcsI (eWord.list cs o n) b)) 27 11) (Elt.row_pl _) _).symm⟩, decide_eq_false (by omega), trivial⟩
def ls_F (K : Bool) (PL : List Int → Bx → List Pc) : RoF := fun xs css => match xs, css with
 | [.slice (some ⟨0, o, none⟩) n c, .agg ⟨[.int .i64 a0, .int .i64 b0, .int .i64 a1, .int .i64 b1, .int .i64 a2, .int .i64 b2, .int .i64 a3, .int .i64 b3, .int .i64 a4, .int .i64 b4]⟩], [cs] => match K with
  | true => some (.slice (some ⟨100, 0, none⟩) (PL (eWord.list cs o n) ⟨a0, b0, a1, b1, a2, b2, a3, b3, a4, b4⟩).length mk, [.vec (ePc.row (PL (eWord.list cs o n) ⟨a0, b0, a1, b1, a2, b2, a3, b3, a4, b4⟩)) 27 11], [PL = listP, PL (eWord.list cs o n) ⟨a0, b0, a1, b1, a2, b2, a3, b3, a4, b4⟩ ≠ [], eWord.Row cs o n, ∀ w ∈ eWord.list cs o n, U64 w, n ≤ 65536, Bx.I64s ⟨a0, b0, a1, b1, a2, b2, a3, b3, a4, b4⟩])
  | false => some (.slice none 0 0, [], [PL = listP, PL (eWord.list cs o n) ⟨a0, b0, a1, b1, a2, b2, a3, b3, a4, b4⟩ = [], eWord.Row cs o n, ∀ w ∈ eWord.list cs o n, U64 w, n ≤ 65536, Bx.I64s ⟨a0, b0, a1, b1, a2, b2, a3, b3, a4, b4⟩])
 | [.slice none 0 0, .agg ⟨[.int .i64 a0, .int .i64 b0, .int .i64 a1, .int .i64 b1, .int .i64 a2, .int .i64 b2, .int .i64 a3, .int .i64 b3, .int .i64 a4, .int .i64 b4]⟩], [] => some (.slice none 0 0, [], [])
 | _, _ => none
theorem ls_sum (K : Bool) (PL : List Int → Bx → List Pc) : SumOK Try.prog 23 (roSum (ls_F K PL)) := by
 refine roSum_ok (en Try.func23 rfl) ?_ (fun xs css r h => ?_)
 ·intro xs css v blks ob h hob hpl hl
  unfold ls_F at h
  split at h
  ·rename_i o n c a0 b0 a1 b1 a2 b2 a3 b3 a4 b4 cs
   cases K
   ·simp only [Option.some.injEq, Prod.mk.injEq] at h
    obtain ⟨rfl, rfl, rfl⟩ := h
    obtain rfl : PL = listP := hob _ (List.mem_cons_self ..)
    refine ⟨by simp, by simp, fun j hj => by simp [nms, nm1, nmL, nm0] at hj, ?_⟩
    exact ls_nil cs o n c ⟨a0, b0, a1, b1, a2, b2, a3, b3, a4, b4⟩ (hob _ (by simp)) (hpl cs (by simp)) (hob _ (List.mem_cons_of_mem _ (List.mem_cons_of_mem _ (List.mem_cons_of_mem _ (List.mem_cons_self ..))))) (hob _ (by simp)) (hob _ (by simp)) (hob _ (List.mem_cons_of_mem _ (List.mem_cons_self ..)))
   ·simp only [Option.some.injEq, Prod.mk.injEq] at h
    obtain ⟨rfl, rfl, rfl⟩ := h
    obtain rfl : PL = listP := hob _ (List.mem_cons_self ..)
    refine ⟨by simp, fun x hx => by simp at hx; subst hx; exact ⟨Elt.row_pl _, rfl⟩, fun j hj => by simp [nms, nm1, nm0] at hj; subst hj; simp, ?_⟩
    exact ls_row cs o n c ⟨a0, b0, a1, b1, a2, b2, a3, b3, a4, b4⟩ (hob _ (by simp)) (hpl cs (by simp)) (hob _ (List.mem_cons_of_mem _ (List.mem_cons_of_mem _ (List.mem_cons_of_mem _ (List.mem_cons_self ..))))) (hob _ (by simp)) (hob _ (by simp)) (hob _ (List.mem_cons_of_mem _ (List.mem_cons_self ..)))
  ·rename_i a0 b0 a1 b1 a2 b2 a3 b3 a4 b4
   simp only [Option.some.injEq, Prod.mk.injEq] at h
   obtain ⟨rfl, rfl, rfl⟩ := h
   refine ⟨by simp, by simp, fun j hj => by simp [nms, nm1, nmL, nm0] at hj, ?_⟩
   exact spec_of_sat Try.func23 rfl fun E hE => lsNil ⟨a0, b0, a1, b1, a2, b2, a3, b3, a4, b4⟩ hE ⟨⟨rfl, rfl⟩, (fun x hx => by simp at hx), trivial⟩
  ·simp at h
 ·unfold ls_F at h
  split at h
  ·cases K <;> simp at h <;> simp
  all_goals (simp at h <;> simp)
end Go.Proofs.Ythbaccmhdffjdaa.Tr
namespace Go.Proofs.Ythbaccmhdffjdaa.Ev
end Go.Proofs.Ythbaccmhdffjdaa.Ev
namespace Go.Proofs.Ythbaccmhdffjdaa.Lv
open Go Go.RowKit Ev NodeE Tr BoxF Lv
def fHl (cs : List Value) (ty : TypeId) (m : Nat) (Q : Nat × Bx → Prop) : LoopF (Nat × Bx) where
 ts _ := [2, 3, 17, 18, 19]
 hs _ := [0, 10, 11]
 tv _ := fun ⟨i, x⟩ => [.pointer (some ⟨10, 0, none⟩), .pointer (some ⟨11, 0, none⟩), .slice (some ⟨0, 11, none⟩) m (mk + 1), .int .i64 (m : Int), .int .i64 (i : Int)]
 hv _ := fun ⟨i, x⟩ => [.vec cs ty 11, .cells Bx.zero.cs 25, .cells x.cs 25]
 inv _ := Q
 mu _ := fun ⟨i, x⟩ => m - i
 nx := 12
end Go.Proofs.Ythbaccmhdffjdaa.Lv
namespace Go.Proofs.Ythbaccmhdffjdaa.Lv
open Go Go.RowKit Ev NodeE Tr BoxF Lv
theorem hlB (cs : List Value) (ty : TypeId) (m : Nat) (Q : Nat × Bx → Prop) (i : Nat) (x bo : Bx) (v : Int) (J : _) {E rv rhs rhv} (hE : EnvOK E Try.prog Try.f37 1 1 rv rhs rhv) (hL : (fHl cs ty m Q).OK 1) (hob : all ([SameK (mkLp (lp Try.f37 0) J) (mkLp (lp Try.f37 0) J), Enter (fHl cs ty m Q) 0 (some (m - i)) [.pointer (some (Addr.mk 10 0 none)), .pointer (some (Addr.mk 11 0 none)), .slice (some (Addr.mk 0 11 none)) m 1267650600228229401496703205377, .int .i64 ((m : Int)), .int .i64 (Int.ofNat i.succ)] [Blk.vec cs ty 11, Blk.cells [.int .i64 ((0 : Int)), .int .i64 ((0 : Int)), .int .i64 ((0 : Int)), .int .i64 ((0 : Int)), .int .i64 ((0 : Int)), .int .i64 ((0 : Int)), .int .i64 ((0 : Int)), .int .i64 ((0 : Int)), .int .i64 ((0 : Int)), .int .i64 ((0 : Int))] 25, Blk.cells [.int .i64 (minI x.a0 bo.a0), .int .i64 (maxI x.b0 bo.b0), .int .i64 (minI x.a1 bo.a1), .int .i64 (maxI x.b1 bo.b1), .int .i64 (minI x.a2 bo.a2), .int .i64 (maxI x.b2 bo.b2), .int .i64 (minI x.a3 bo.a3), .int .i64 (maxI x.b3 bo.b3), .int .i64 (minI x.a4 bo.a4), .int .i64 (maxI x.b4 bo.b4)] 25] [(10, 10), (11, 11), (0, 0)], Value.int IntKind.i64 (IntKind.i64.wrap (Int.ofNat i.succ)) = .int .i64 (Int.ofNat i.succ), readPart Try.prog 27 cs (11 + ((i : Int)).toNat * 11) = some (Value.agg (Array.mk [.int .i64 bo.a0, .int .i64 bo.b0, .int .i64 bo.a1, .int .i64 bo.b1, .int .i64 bo.a2, .int .i64 bo.b2, .int .i64 bo.a3, .int .i64 bo.b3, .int .i64 bo.a4, .int .i64 bo.b4, .int .i64 v])), (0 : Int) ≤ (i : Int) ∧ (i : Int) < (m : Int), decide ((↑i : Int) < (↑m : Int)) = true])) (hK : ∀ zz, (fHl cs ty m Q).inv 0 zz → ltO ((fHl cs ty m Q).mu 0 zz) (some (m - i)) → Sat E (mkLp (lp Try.f37 0) J) ((fHl cs ty m Q).st 0 zz)) : Sat E (inLp (lp Try.f37 0) J) ((fHl cs ty m Q).st 0 (i, x)) :=
 by_to (T := auto0 t_bcut) (h := hints [(6, 0, {p := true}), (6, 1, {o := some (.agg ⟨bo.cs ++ [.int .i64 v]⟩)}), (12, 0, {v := some (.int .i64 ((i + 1 : Nat) : Int))})]) (ws := [.b true]) (i0 := (i + 1, x.join bo)) hE hm (auto0_ok t_bcut_ok) hL (by kernel_rfl) hob hK
end Go.Proofs.Ythbaccmhdffjdaa.Lv
namespace Go.Proofs.Ythbaccmhdffjdaa.Lv
end Go.Proofs.Ythbaccmhdffjdaa.Lv
namespace Go.Proofs.Ythbaccmhdffjdaa.WkLeavesRuns
open Go Go.RowKit Ev
theorem walk (w : World) : Calls Try.prog 6 #[] w fun e w' => e = .returned (.bool true) ∧ Below w.heap.size w w' :=
 (calls_runO hm (autoM_ok t_none_ok) noHint [] [] (by kernel_rfl) trivial).2.2 w
end Go.Proofs.Ythbaccmhdffjdaa.WkLeavesRuns
namespace Go.Proofs.Ythbaccmhdffjdaa.Lp
open Go Go.RowKit Ev NodeE BoxF Lv Tr Within PickE Tn Fo
def zfc (d cl : Int) : List Value := [.int .i64 d, .int .i64 cl, .slice none 0 0, .slice none 0 0]
end Go.Proofs.Ythbaccmhdffjdaa.Lp
namespace Go.Proofs.Ythbaccmhdffjdaa.Lp
end Go.Proofs.Ythbaccmhdffjdaa.Lp
namespace Go.Proofs.Ythbaccmhdffjdaa.Ev
open Go Go.RowKit
open Classical in
theorem sat_dummy {E : Env} {K : List Ctl} {T : Tm} {H : Heap} {nx c c' : Nat} {ob ob' : List Prop} {D : Nat → Prop} {k0 : Nat} {cs0 : List Value} (h0 : H k0 = some (.ro cs0)) (hD : ∀ k, D k → k < nx) (hA : ∀ k, E.An.2 k → ¬ D k)
  (hT : ∀ i v, T i = some v → ∀ k ∈ nms v, ¬ D k) (hH : ∀ k b, H k = some b → ¬ D k ∧ ∀ j ∈ b.nmB, ¬ D j)
  (h : Sat E K ⟨T, fun k => if D k then some (.ro []) else H k, nx, c', ob'⟩) : Sat E K ⟨T, H, nx, c, ob⟩ := by
 intro g a w hc
 obtain ⟨B, hB, hrc⟩ := hc
 let g' : Nm := ⟨fun k => if D k then g.blk k0 else g.blk k, g.base, g.cap⟩
 have hg : ∀ k, ¬ D k → g.blk k = g'.blk k ∧ g.base k = g'.base k ∧ g.cap k = g'.cap k := fun k hk => ⟨by simp [g', hk], rfl, rfl⟩
 have hag : Agree (fun k => B k ∧ ¬ D k) g g' := fun k hk => hg k hk.2
 refine h g' a w ⟨fun k => (B k ∧ ¬ D k) ∨ D k, fun k hk => hk.elim (fun h => hB k h.1) (hD k), ⟨⟨hrc.hc.below, fun k b hb => ?_, fun k b hb => ?_, fun k b hb => ?_, fun k b hb hw => ?_, fun k l b x hb hx hw he => ?_⟩, hrc.size, hrc.defers, fun t v hv => ?_, fun k hk => ?_, fun k hk => ?_⟩⟩
 ·simp only at hb
  by_cases hk : D k
  ·exact Or.inr hk
  ·rw [if_neg hk] at hb
   exact Or.inl ⟨hrc.hc.dom k b hb, hk⟩
 ·simp only at hb
  by_cases hk : D k
  ·rw [if_pos hk] at hb
   obtain rfl := Option.some.inj hb
   exact fun c hc => by simp at hc
  ·rw [if_neg hk] at hb
   exact blk_inB (hrc.hc.scope k b hb) fun j hj => Or.inl ⟨blk_names (hrc.hc.scope k b hb) j hj, (hH k b hb).2 j hj⟩
 ·simp only at hb
  by_cases hk : D k
  ·rw [if_pos hk] at hb
   obtain rfl := Option.some.inj hb
   obtain ⟨cc, ty, fz, ho, _⟩ := hrc.hc.holds k0 _ h0
   have e : g'.blk k = g.blk k0 := by simp [g', hk]
   rw [e]
   exact ⟨cc, ty, fz, ho, fun i v hv => by simp at hv⟩
  ·rw [if_neg hk] at hb
   have e := (hg k hk).1
   rw [← e]
   exact (hrc.hc.holds k b hb).congr hag ⟨hrc.hc.dom k b hb, hk⟩ (blk_inB (hrc.hc.scope k b hb) fun j hj => ⟨blk_names (hrc.hc.scope k b hb) j hj, (hH k b hb).2 j hj⟩)
 ·simp only at hb
  by_cases hk : D k
  ·rw [if_pos hk] at hb
   obtain rfl := Option.some.inj hb
   simp [Blk.wr] at hw
  ·rw [if_neg hk] at hb
   rw [← (hg k hk).1]
   exact hrc.hc.own k b hb hw
 ·simp only at hb hx
  by_cases hk : D k
  ·rw [if_pos hk] at hb
   obtain rfl := Option.some.inj hb
   simp [Blk.wr] at hw
  ·rw [if_neg hk] at hb
   by_cases hl : D l
   ·rw [← (hg k hk).1] at he
    have : g'.blk l = g.blk k0 := by simp [g', hl]
    rw [this] at he
    have := hrc.hc.inj k k0 b _ hb h0 hw he
    subst this
    rw [hb] at h0
    obtain rfl := Option.some.inj h0
    simp [Blk.wr] at hw
   ·rw [if_neg hl] at hx
    rw [← (hg k hk).1, ← (hg l hl).1] at he
    exact hrc.hc.inj k l b x hb hx hw he
 ·obtain ⟨h1, h2⟩ := hrc.tm t v hv
  refine ⟨?_, inB_of fun k hk => Or.inl ⟨inB_names h2 k hk, hT t v hv k hk⟩⟩
  rw [h1]
  exact congrArg some (ren_names fun k hk => hg k (hT t v hv k hk))
 ·obtain ⟨h1, h2, h3⟩ := hrc.anch k hk
  have := hg k (hA k hk)
  exact ⟨h1.trans this.1, h2.trans this.2.1, h3.trans this.2.2⟩
 ·exact Or.inl ⟨hrc.sub k hk, hA k hk⟩
theorem EnvOK.mono {E : Env} {P : Program} {fn : Func} {na n m : Nat} {v : Value} {hs : List Nat} {hv : List Blk} (h : EnvOK E P fn na n v hs hv) (hnm : n ≤ m) : EnvOK E P fn na m v hs hv :=
 ⟨h.P, h.n, fun k hk => Nat.lt_of_lt_of_le (h.A k hk) hnm, h.R⟩
theorem calls_ro2 {P : Program} {f : FuncId} {args : List Value} {H0 : Heap} {nx : Nat} {v : Value} (hs : CallSpec P f args H0 nx v (assocN [] [])) (hv : gnd v = true) (hro : ∀ j b, H0 j = some b → j < nx ∧ ∃ cs, b = .ro cs ∧ ∀ c ∈ cs, ∀ k ∈ nm0 c, k < nx)
  (hnm : ∀ u ∈ args, ∀ j ∈ nms u, j < nx) {W : World} {l : List (Nat × Nat)} (hat : ∀ j cs, H0 j = some (.ro cs) → (Blk.ro cs).Holds (Nm.at l) j W.heap[(Nm.at l).blk j]?) :
  Calls P f (args.map (ren (Nm.at l))).toArray W fun e w' => e = .returned v ∧ Below W.heap.size W w' := by
 have hwr : ∀ j b, H0 j = some b → b.wr = false := fun j b hb => by obtain ⟨_, cs, rfl, _⟩ := hro j b hb; rfl
 have hH : HC (fun _ => False) W (Nm.at l) (· < nx) H0 W := by
  refine ⟨BelowBut.refl _ _, fun j b hb => (hro j b hb).1, fun j b hb => ?_, fun j b hb => ?_, fun j b hb hw => by rw [hwr j b hb] at hw; simp at hw, fun i j b c hb hc hw he => by rw [hwr i b hb] at hw; simp at hw⟩
  ·obtain ⟨_, cs, rfl, hp⟩ := hro j b hb
   exact fun c hc => in0_of (hp c hc)
  ·obtain ⟨_, cs, rfl, _⟩ := hro j b hb
   exact hat j cs hb
 refine (ro_own hs hwr (fun _ h => h) hH (fun u hu => inB_lt (hnm u hu))).mono ?_
 rintro e w' ⟨g', B', _, hc, rfl⟩
 exact ⟨by rw [ren_gnd g' hv], hc.below.below⟩
end Go.Proofs.Ythbaccmhdffjdaa.Ev
namespace Go.Proofs.Ythbaccmhdffjdaa.Ev
open Go Go.RowKit Go.ChangeShapes Go.WideShapes
theorem elem_i64 {H : Type} {enc : TypeId × Value → H} {W : World} {base : Nat} {spare : Nat → Bool} {held : Bool} (n : Nat) (cs : List Value) (z : DataW H × List MemPlace) (h : DataW.trod enc Try.prog W base spare held n 3 cs = some z) : ∃ x : Int, cs = eInt.cells x ∧ I64 x := by
 obtain ⟨x, h1, h2⟩ := elem_int (P := Try.prog) (k := .i64) (by kernel_rfl) n cs z h
 exact ⟨x, h1, wf64 h2⟩
theorem open_ints64 {H : Type} {enc : TypeId × Value → H} {W : World} {base : Nat} {spare : Nat → Bool} {held : Bool} {r : Reach} {b0 : Nat} {v : Value} {d : DataW H} {ps : List MemPlace} (hv : Value.okWide Try.prog W r b0 43 v) (h : DataW.Trod enc Try.prog W base spare held 43 v d ps) : Opened W eInt I64 v := by
 have hu : Try.prog.underlying 43 = some (.slice 3) := by kernel_rfl
 obtain ⟨fuel, hf⟩ := h
 simp only [Value.okWide, hu] at hv
 have hcs : v.cells.toList = [v] := by
  obtain ⟨a, l, c, rfl⟩ : ∃ a l c, v = .slice a l c := by
   simp only [Cell.okWide, hu, Cell.ok] at hv
   cases v <;> simp_all
  rfl
 rw [hcs] at hf
 exact open_row hu (by kernel_rfl) elem_i64 hv hf
end Go.Proofs.Ythbaccmhdffjdaa.Ev
namespace Go.Proofs.Ythbaccmhdffjdaa.Ev
open Go Go.RowKit Go.ChangeShapes Go.WideShapes
def fieldsOf (P : Program) (t : TypeId) : Array Field := match P.underlying t with
 | some (.struct fs) => fs
 | _ => #[]
section
variable {H : Type} {enc : TypeId × Value → H} {P : Program} {W : World} {base : Nat} {spare : Nat → Bool} {held : Bool}
theorem field_of {fs : Array Field} {i o c : Nat} {d : TypeDesc} (h : (fs[i]?).map (fun f => (f.offset, P.cellsOf f.type)) = some (o, c)) (hd : (fs[i]?).bind (fun f => P.underlying f.type) = some d) :
  ∃ f, fs[i]? = some f ∧ f.offset = o ∧ P.cellsOf f.type = c ∧ P.underlying f.type = some d := by
 cases hf : fs[i]? with
 | none => rw [hf] at h; simp at h
 | some f =>
  rw [hf] at h hd
  simp at h hd
  exact ⟨f, rfl, h.1, h.2, hd⟩
theorem xs_get {α : Type} {xs : List α} {i : Nat} (h : i < xs.length) : ∃ y, xs[i]? = some y := ⟨xs[i], List.getElem?_eq_getElem h⟩
end
end Go.Proofs.Ythbaccmhdffjdaa.Ev
namespace Go.Proofs.Ythbaccmhdffjdaa.Ev
open Go Go.RowKit Go.ChangeShapes Go.WideShapes Go.Deep
def OpenedH (W : World) (v : Value) : Prop := Opened W eInt I64 v ∨ ∃ a, v = .slice (some a) 0 0
section
variable {H : Type} {enc : TypeId × Value → H} {P : Program} {W : World} {base : Nat} {held : Bool}
theorem open_rowH {t et : TypeId} {fuel : Nat} {v : Value} {y : DataW H × List MemPlace} (ht : P.underlying t = some (.slice et)) (hc : P.cellsOf et = eInt.s)
  (elem : ∀ n cs z, DataW.trod enc P W base (fun _ => true) held n et cs = some z → ∃ x, cs = eInt.cells x ∧ I64 x) (h : DataW.trod enc P W base (fun _ => true) held fuel t [v] = some y) : OpenedH W v := by
 rcases open_slice ht h with ⟨h0, _⟩ | ⟨a, len, cap, m, n, D, Pl, hcs, _, hl, hm, hmm, _, hx⟩
 ·left; left; simpa using h0
 have hcs : v = .slice (some a) len cap := by simpa using hcs
 subst hcs
 have hmm : m = cap := by simpa using hmm
 subst hmm
 by_cases h0 : m = 0
 ·right
  subst h0
  obtain rfl : len = 0 := by omega
  exact ⟨a, rfl⟩
 left; right
 obtain ⟨blk, off, spot⟩ := a
 obtain ⟨c, ty, fz, hblk, hsp⟩ : ∃ c ty fz, W.heap[blk]? = some (.cells c ty fz) ∧ spot = none := by
  obtain ⟨cs', h1, h2⟩ := hx 0 (by omega)
  obtain ⟨x, rfl, _⟩ := elem _ _ _ h2
  obtain ⟨_, hlen, hcell⟩ := World.cells?_some h1
  have := hcell 0 (by rw [hc]; decide)
  have hx0 : (eInt.cells x)[0]? = some (.int .i64 x) := rfl
  rw [add_add, hx0] at this
  have he : Addr.add ⟨blk, off, spot⟩ (0 * P.cellsOf et + 0) = ⟨blk, off, spot⟩ := by simp [Addr.add]
  rw [he] at this
  simp only [World.cell?] at this
  split at this
  ·rename_i c ty fz hb'
   split at this
   ·exact absurd this (by simp)
   ·rename_i hs
    refine ⟨c, ty, fz, hb', ?_⟩
    cases spot with
    | none => rfl
    | some s => simp at hs
  ·exact absurd this (by simp)
 subst hsp
 obtain ⟨l, hl1, hl2⟩ := choose_list (fun i x => I64 x ∧ ∀ (j : Nat) (u : Value), (eInt.cells x)[j]? = some u → c[off + (i * eInt.s + j)]? = some u) len (fun i hi => by
  obtain ⟨cs', h1, h2⟩ := hx i (by omega)
  obtain ⟨x, rfl, hg⟩ := elem _ _ _ h2
  obtain ⟨_, hlen, hcell⟩ := World.cells?_some h1
  refine ⟨x, hg, fun j u hj => ?_⟩
  have hjl : j < P.cellsOf et := by
   have := (List.getElem?_eq_some_iff.1 hj).1
   omega
  have := hcell j hjl
  rw [add_add, hj, plain_add, hc] at this
  simpa [World.cell?, hblk] using this)
 refine ⟨blk, off, m, l, by rw [hl1], by rw [hl1]; exact hl, hm, fun x hx' => ?_, c, ty, fz, hblk, fun i u hu => ?_⟩
 ·obtain ⟨j, hj⟩ := List.getElem?_of_mem hx'
  exact (hl2 j x hj).1
 ·obtain ⟨j, q, x, h1, h2, h3, _⟩ := row_get eInt l i u hu
  rw [h3]
  exact (hl2 j x h1).2 q u h2
end
structure TV where
 cl : Int
 v0 : Value
 v1 : Value
 v2 : Value
 v3 : Value
def TV.cells (t : TV) : List Value := [.int .i64 t.cl, t.v0, t.v1, t.v2, t.v3]
def TV.OK (W : World) (t : TV) : Prop := I64 t.cl ∧ OpenedH W t.v0 ∧ OpenedH W t.v1 ∧ OpenedH W t.v2 ∧ OpenedH W t.v3
def OpenedT (W : World) (v : Value) : Prop :=
 v = .slice none 0 0 ∨ ∃ (b off cap : Nat) (l : List TV), v = .slice (some ⟨b, off, none⟩) l.length cap ∧ l.length ≤ cap ∧ cap ≤ maxLen ∧ (∀ t ∈ l, t.OK W) ∧ ∃ c ty fz, W.heap[b]? = some (.cells c ty fz) ∧ ∀ i t, l[i]? = some t → ∀ j u, t.cells[j]? = some u → c[off + 5 * i + j]? = some u
section
variable {H : Type} {enc : TypeId × Value → H} {W : World} {base : Nat} {held : Bool} {r : Reach} {b0 : Nat}
theorem open_treeC {n : Nat} {cs : List Value} {z : DataW H × List MemPlace} (h : DataW.trod enc Try.prog W base (fun _ => true) held n 55 cs = some z) : ∃ t : TV, cs = t.cells ∧ t.OK W := by
 have hu : Try.prog.underlying 55 = some (.struct (fieldsOf Try.prog 55)) := by kernel_rfl
 obtain ⟨xs, k, _, _, hl, hlen, hf⟩ := DataW.trod_struct (P := Try.prog) hu h
 have hl5 : cs.length = 5 := by rw [hl]; kernel_rfl
 have hx5 : xs.length = 5 := by rw [hlen]; kernel_rfl
 have hsl : Try.prog.underlying 43 = some (.slice 3) := by kernel_rfl
 obtain ⟨f0, e0, o0, c0, u0⟩ := field_of (P := Try.prog) (fs := fieldsOf Try.prog 55) (i := 0) (o := 0) (c := 1) (d := .int .i64) (by kernel_rfl) (by kernel_rfl)
 obtain ⟨f1, e1, o1, c1, u1⟩ := field_of (P := Try.prog) (fs := fieldsOf Try.prog 55) (i := 1) (o := 1) (c := 1) (d := .slice 3) (by kernel_rfl) (by kernel_rfl)
 obtain ⟨f2, e2, o2, c2, u2⟩ := field_of (P := Try.prog) (fs := fieldsOf Try.prog 55) (i := 2) (o := 2) (c := 1) (d := .slice 3) (by kernel_rfl) (by kernel_rfl)
 obtain ⟨f3, e3, o3, c3, u3⟩ := field_of (P := Try.prog) (fs := fieldsOf Try.prog 55) (i := 3) (o := 3) (c := 1) (d := .slice 3) (by kernel_rfl) (by kernel_rfl)
 obtain ⟨f4, e4, o4, c4, u4⟩ := field_of (P := Try.prog) (fs := fieldsOf Try.prog 55) (i := 4) (o := 4) (c := 1) (d := .slice 3) (by kernel_rfl) (by kernel_rfl)
 have g0 := hf 0 f0 e0
 have g1 := hf 1 f1 e1
 have g2 := hf 2 f2 e2
 have g3 := hf 3 f3 e3
 have g4 := hf 4 f4 e4
 obtain ⟨y0, hy0⟩ := xs_get (xs := xs) (i := 0) (by omega)
 obtain ⟨y1, hy1⟩ := xs_get (xs := xs) (i := 1) (by omega)
 obtain ⟨y2, hy2⟩ := xs_get (xs := xs) (i := 2) (by omega)
 obtain ⟨y3, hy3⟩ := xs_get (xs := xs) (i := 3) (by omega)
 obtain ⟨y4, hy4⟩ := xs_get (xs := xs) (i := 4) (by omega)
 rw [o0, c0, hy0] at g0
 rw [o1, c1, hy1] at g1
 rw [o2, c2, hy2] at g2
 rw [o3, c3, hy3] at g3
 rw [o4, c4, hy4] at g4
 match cs, hl5 with
 | [p0, p1, p2, p3, p4], _ =>
  obtain ⟨cl, q0, _, w0⟩ := DataW.trod_int u0 g0
  have q1 : [p0] = [Value.int .i64 cl] := q0
  injection q1 with q1 _
  subst q1
  exact ⟨⟨cl, p1, p2, p3, p4⟩, rfl, wf64 w0, open_rowH u1 (by kernel_rfl) elem_i64 g1, open_rowH u2 (by kernel_rfl) elem_i64 g2, open_rowH u3 (by kernel_rfl) elem_i64 g3, open_rowH u4 (by kernel_rfl) elem_i64 g4⟩
theorem open_trees {t : TypeId} {fuel : Nat} {v : Value} {y : DataW H × List MemPlace} (ht : Try.prog.underlying t = some (.slice 55)) (hv : Cell.okWide Try.prog W r b0 t v) (h : DataW.trod enc Try.prog W base (fun _ => true) held fuel t [v] = some y) : OpenedT W v := by
 rcases open_slice ht h with ⟨h0, _⟩ | ⟨a, len, cap, m, n, D, Pl, hcs, hbase, hl, hm, hmm, _, hx⟩
 ·left; simpa using h0
 right
 have hcs : v = .slice (some a) len cap := by simpa using hcs
 subst hcs
 have hok : W.has Try.prog r b0 a 55 cap := by
  simp only [Cell.okWide, ht, Cell.ok] at hv
  exact hv.2.2
 obtain ⟨_, hsp, row, cells, hsh, hlies⟩ := hok
 obtain ⟨blk, off, spot⟩ := a
 simp only at hsp hsh hlies hbase
 subst hsp
 have hlm : len ≤ m := by rw [hmm]; split <;> omega
 obtain ⟨c, fz, hblk⟩ : ∃ c fz, W.heap[blk]? = some (.cells c row fz) := by
  unfold World.shape? at hsh
  split at hsh
  ·rename_i c ty fz hb
   simp only [Option.some.injEq, Prod.mk.injEq] at hsh
   rw [hsh.1] at hb
   exact ⟨c, fz, hb⟩
  ·simp at hsh
 have hsz : Try.prog.cellsOf 55 = 5 := by kernel_rfl
 rw [hsz] at hx
 obtain ⟨l, hl1, hl2⟩ := choose_list (fun i t => TV.OK W t ∧ ∀ j u, t.cells[j]? = some u → c[off + 5 * i + j]? = some u) len (fun i hi => by
  obtain ⟨cs', h1, h2⟩ := hx i (by omega)
  obtain ⟨_, hlen, hcell⟩ := World.cells?_some h1
  have hget : ∀ j u, cs'[j]? = some u → c[off + 5 * i + j]? = some u := fun j u hj => by
   have hjl := (List.getElem?_eq_some_iff.1 hj).1
   have := hcell j (by omega)
   rw [add_add, hj, plain_add] at this
   have := this
   simp only [World.cell?, hblk] at this
   rw [show off + 5 * i + j = off + (i * 5 + j) by omega]
   simpa using this
  obtain ⟨t, rfl, ht⟩ := open_treeC h2
  exact ⟨t, ht, hget⟩)
 refine ⟨blk, off, cap, l, by rw [hl1], by rw [hl1]; exact hl, hm, fun x hx' => ?_, c, row, fz, hblk, fun i t hi => (hl2 i t hi).2⟩
 obtain ⟨j, hj⟩ := List.getElem?_of_mem hx'
 exact (hl2 j x hj).1
theorem open_forest {v : Value} {d : DataW H} {ps : List MemPlace} (hv : Value.okWide Try.prog W r b0 61 v) (h : DataW.Trod enc Try.prog W base (fun _ => true) held 61 v d ps) :
  ∃ (dm cl : Int) (vb vt : Value), v = .agg #[.int .i64 dm, .int .i64 cl, vb, vt] ∧ I64 dm ∧ I64 cl ∧ Opened W eInt I64 vb ∧ OpenedT W vt := by
 have hu : Try.prog.underlying 61 = some (.struct (fieldsOf Try.prog 61)) := by kernel_rfl
 obtain ⟨fuel, hf⟩ := h
 simp only [Value.okWide, hu] at hv
 obtain ⟨⟨l⟩, rfl, hs, ts, ht1, _, ht2⟩ := hv
 have hl4 : l.length = 4 := by
  have : Try.prog.cellsOf 61 = 4 := by kernel_rfl
  rw [this] at hs
  simpa using hs
 have hct : Try.prog.cellTypes Try.prog.depth 61 = some [3, 3, 43, 59] := by kernel_rfl
 rw [hct] at ht1
 injection ht1 with ht1
 subst ht1
 obtain ⟨xs, k, _, _, hl, hlen, hf⟩ := DataW.trod_struct (P := Try.prog) hu hf
 have hx4 : xs.length = 4 := by rw [hlen]; kernel_rfl
 have hsl : Try.prog.underlying 43 = some (.slice 3) := by kernel_rfl
 have hst : Try.prog.underlying 59 = some (.slice 55) := by kernel_rfl
 obtain ⟨f0, e0, o0, c0, u0⟩ := field_of (P := Try.prog) (fs := fieldsOf Try.prog 61) (i := 0) (o := 0) (c := 1) (d := .int .i64) (by kernel_rfl) (by kernel_rfl)
 obtain ⟨f1, e1, o1, c1, u1⟩ := field_of (P := Try.prog) (fs := fieldsOf Try.prog 61) (i := 1) (o := 1) (c := 1) (d := .int .i64) (by kernel_rfl) (by kernel_rfl)
 obtain ⟨f2, e2, o2, c2, u2⟩ := field_of (P := Try.prog) (fs := fieldsOf Try.prog 61) (i := 2) (o := 2) (c := 1) (d := .slice 3) (by kernel_rfl) (by kernel_rfl)
 obtain ⟨f3, e3, o3, c3, u3⟩ := field_of (P := Try.prog) (fs := fieldsOf Try.prog 61) (i := 3) (o := 3) (c := 1) (d := .slice 55) (by kernel_rfl) (by kernel_rfl)
 have g0 := hf 0 f0 e0
 have g1 := hf 1 f1 e1
 have g2 := hf 2 f2 e2
 have g3 := hf 3 f3 e3
 obtain ⟨y0, hy0⟩ := xs_get (xs := xs) (i := 0) (by omega)
 obtain ⟨y1, hy1⟩ := xs_get (xs := xs) (i := 1) (by omega)
 obtain ⟨y2, hy2⟩ := xs_get (xs := xs) (i := 2) (by omega)
 obtain ⟨y3, hy3⟩ := xs_get (xs := xs) (i := 3) (by omega)
 rw [o0, c0, hy0] at g0
 rw [o1, c1, hy1] at g1
 rw [o2, c2, hy2] at g2
 rw [o3, c3, hy3] at g3
 match l, hl4 with
 | [p0, p1, p2, p3], _ =>
  obtain ⟨d0, q0, _, w0⟩ := DataW.trod_int u0 g0
  have q0' : [p0] = [Value.int .i64 d0] := q0
  injection q0' with q0' _
  subst q0'
  obtain ⟨d1, q1, _, w1⟩ := DataW.trod_int u1 g1
  have q1' : [p1] = [Value.int .i64 d1] := q1
  injection q1' with q1' _
  subst q1'
  obtain ⟨t2, hq2, w2⟩ := ht2 2 p2 rfl
  simp at hq2
  subst hq2
  obtain ⟨t3, hq3, w3⟩ := ht2 3 p3 rfl
  simp at hq3
  subst hq3
  have hc2 : Cell.okWide Try.prog W r b0 f2.type p2 := by
   simp only [Cell.okWide, hsl, u2, Cell.ok] at w2 ⊢
   exact w2
  have hc3 : Cell.okWide Try.prog W r b0 f3.type p3 := by
   simp only [Cell.okWide, hst, u3, Cell.ok] at w3 ⊢
   exact w3
  exact ⟨d0, d1, p2, p3, rfl, wf64 w0, wf64 w1, open_row u2 (by kernel_rfl) elem_i64 hc2 g2, open_trees u3 hc3 g3⟩
end
end Go.Proofs.Ythbaccmhdffjdaa.Ev
namespace Go.Proofs.Ythbaccmhdffjdaa.Fo
open Go Go.RowKit Ev NodeE Tr Within PickE Tn Fo
theorem opened_rw {W : World} {v : Value} (h : OpenedH W v) {db : Nat} {dc : Array Value} {dt : TypeId} {df : Nat × Nat} (hdb : W.heap[db]? = some (.cells dc dt df)) (k : Nat) :
  ∃ (r : Rw) (x : Option Addr) (ad hd : Nat × Nat), r.good ∧ (r.z = false → r.cs = []) ∧ hat x (40 + k) ∧ (r.z = true → x = none) ∧ (Opened W eInt I64 v → x = none) ∧ (∀ l : List (Nat × Nat), l[k]? = some ad → l[40 + k]? = some hd → ren0 (Nm.at l) (r.w x k) = v) ∧ (∀ l : List (Nat × Nat), l[k]? = some ad → x = none → ren0 (Nm.at l) (r.v k) = v) ∧ ∀ l : List (Nat × Nat), l[k]? = some ad → (Blk.ro r.cs).Holds (Nm.at l) k W.heap[(Nm.at l).blk k]? := by
 have hd0 : ∀ l : List (Nat × Nat), l[k]? = some (db, 0) → (Blk.ro []).Holds (Nm.at l) k W.heap[(Nm.at l).blk k]? := fun l hl => by
  have e1 : (Nm.at l).blk k = db := by simp [Nm.at, hl]
  rw [e1, hdb]
  exact ⟨dc, dt, df, rfl, fun i v hv => by simp at hv⟩
 by_cases ho : Opened W eInt I64 v
 ·rcases ho with rfl | ho
  ·exact ⟨⟨false, [], 0, 0⟩, none, (db, 0), (0, 0), fun h => absurd h (by simp), fun _ => rfl, Or.inl rfl, fun _ => rfl, fun _ => rfl, fun l hl _ => rfl, fun l hl _ => rfl, hd0⟩
  ·obtain ⟨b, off, cap, ls, rfl, hl, hm, hg, c, ty, fz, hb, hc⟩ := ho
   have hpl := Elt.row_pl (e := eInt) ls
   have hv : ∀ l : List (Nat × Nat), l[k]? = some (b, off) → ren0 (Nm.at l) (.slice (some ⟨k, 0, none⟩) ls.length cap) = .slice (some ⟨b, off, none⟩) ls.length cap := fun l hl => by
    simp only [ren0, renA, Nm.at, hl, capOf, small_cap hm, cond_false, Nat.add_zero]
   refine ⟨⟨true, eInt.row ls, ls.length, cap⟩, none, (b, off), (0, 0), fun _ => ⟨(int_row hg).1, (int_row hg).2, hpl⟩, fun h => by simp at h, Or.inl rfl, fun _ => rfl, fun _ => rfl, fun l hl _ => hv l hl, fun l hl _ => hv l hl, fun l hl => ?_⟩
   have e1 : (Nm.at l).blk k = b := by simp [Nm.at, hl]
   have e2 : (Nm.at l).base k = off := by simp [Nm.at, hl]
   rw [e1]
   refine ⟨c, ty, fz, hb, fun i v hv => ?_⟩
   rw [e2, hc i v hv, ren0_leafG _ (hpl v (List.mem_of_getElem? hv))]
 ·rcases h with h | ⟨⟨blk, off, sp⟩, rfl⟩
  ·exact absurd h ho
  ·refine ⟨⟨false, [], 0, 0⟩, some ⟨40 + k, 0, sp⟩, (db, 0), (blk, off), fun h => absurd h (by simp), fun _ => rfl, Or.inr ⟨sp, rfl⟩, fun h => absurd h (by simp), fun h => absurd h ho, fun l _ hl => ?_, fun l _ h => by simp at h, hd0⟩
   show ren0 (Nm.at l) (.slice (some ⟨40 + k, 0, sp⟩) 0 0) = _
   simp only [ren0, renA, Nm.at, hl, capOf, small_cap (Nat.zero_le _), cond_false, Nat.add_zero]
def NoMem (W : World) : Prop := ∀ (b : Nat) (c : Array Value) (ty : TypeId) (fz : Nat × Nat), W.heap[b]? ≠ some (.cells c ty fz)
theorem opened_nil {W : World} {v : Value} (hn : NoMem W) (h : Opened W eInt I64 v) : v = .slice none 0 0 := by
 rcases h with h | ⟨b, off, cap, ls, _, _, _, _, c, ty, fz, hb, _⟩
 ·exact h
 ·exact absurd hb (hn b c ty fz)
theorem openedT_nil {W : World} {v : Value} (hn : NoMem W) (h : OpenedT W v) : v = .slice none 0 0 := by
 rcases h with h | ⟨b, off, cap, ls, _, _, _, _, c, ty, fz, hb, _⟩
 ·exact h
 ·exact absurd hb (hn b c ty fz)
theorem mem_or (W : World) : NoMem W ∨ ∃ (b : Nat) (c : Array Value) (ty : TypeId) (fz : Nat × Nat), W.heap[b]? = some (.cells c ty fz) := by
 by_cases h : ∃ (b : Nat) (c : Array Value) (ty : TypeId) (fz : Nat × Nat), W.heap[b]? = some (.cells c ty fz)
 ·exact Or.inr h
 ·exact Or.inl fun b c ty fz hb => h ⟨b, c, ty, fz, hb⟩
def TV.vs (t : TV) : Nat → Value
 | 0 => t.v0
 | 1 => t.v1
 | 2 => t.v2
 | _ => t.v3
def valOf (vb : Value) (T : List TV) (X : Nat → Value) (k : Nat) : Value :=
 if k = 1 then vb else if 2 ≤ k ∧ k < 18 then (match T[(k - 2) / 4]? with | some t => TV.vs t ((k - 2) % 4) | none => .slice none 0 0) else if 18 ≤ k then X k else .slice none 0 0
theorem valOf_opened {W : World} {vb : Value} {T : List TV} {X : Nat → Value} (hb : Opened W eInt I64 vb) (hT : ∀ t ∈ T, TV.OK W t) (hX : ∀ k, Opened W eInt I64 (X k)) (k : Nat) : OpenedH W (valOf vb T X k) := by
 unfold valOf
 split
 ·exact Or.inl hb
 ·split
  ·split
   ·rename_i t ht
    obtain ⟨_, h0, h1, h2, h3⟩ := hT t (List.mem_of_getElem? ht)
    unfold TV.vs
    split <;> assumption
   ·exact Or.inl (Or.inl rfl)
  ·split
   ·exact Or.inl (hX k)
   ·exact Or.inl (Or.inl rfl)
theorem valOf_tree {vb : Value} {T : List TV} {X : Nat → Value} {i : Nat} {t : TV} (ht : T[i]? = some t) (hi : i < 4) :
  valOf vb T X (2 + 4 * i) = t.v0 ∧ valOf vb T X (3 + 4 * i) = t.v1 ∧ valOf vb T X (4 + 4 * i) = t.v2 ∧ valOf vb T X (5 + 4 * i) = t.v3 := by
 have h : ∀ j, j < 4 → valOf vb T X (2 + j + 4 * i) = TV.vs t j := fun j hj => by
  unfold valOf
  rw [if_neg (by omega), if_pos (by omega), show (2 + j + 4 * i - 2) / 4 = i by omega, show (2 + j + 4 * i - 2) % 4 = j by omega, ht]
 exact ⟨h 0 (by omega), h 1 (by omega), h 2 (by omega), h 3 (by omega)⟩
structure ForIn (W : World) (N : Nat) (d cl : Int) (vb vt : Value) (X : Nat → Value) (D : FD) (zt : Option Addr) (l : List (Nat × Nat)) : Prop where
 ok : D.OK
 z : ztOK D zt
 hd : D.d = d
 hcl : D.cl = cl
 none : ∀ k, (D.rw k).z = false → (D.rw k).cs = []
 len : l.length = N
 val : ren (Nm.at l) (.agg ⟨D.fp.fcs zt⟩) = .agg #[.int .i64 d, .int .i64 cl, vb, vt]
 more : ∀ k, 18 ≤ k → k < 24 → ren0 (Nm.at l) ((D.rw k).v k) = X k
 holds : ∀ k, k < 24 → (Blk.ro (D.rowc k)).Holds (Nm.at l) k W.heap[(Nm.at l).blk k]?
theorem forest_in {W : World} {N : Nat} (hN : 64 ≤ N) {d cl : Int} (hd : I64 d) (hcl : I64 cl) {vb vt : Value} (hb : Opened W eInt I64 vb) (ht : OpenedT W vt) {X : Nat → Value} (hX : ∀ k, Opened W eInt I64 (X k))
  (hmem : ∃ (b : Nat) (c : Array Value) (ty : TypeId) (fz : Nat × Nat), W.heap[b]? = some (.cells c ty fz)) : ∃ D zt l, ForIn W N d cl vb vt X D zt l := by
 obtain ⟨db, dc, dt, df, hdb⟩ := hmem
 have hT : ∃ (T : List TV) (zt : Option Addr) (ct : Nat) (ad0 : Nat × Nat), (zt = some ⟨0, 0, none⟩ ∨ (zt = none ∧ T.length = 0)) ∧ (∀ t ∈ T, TV.OK W t) ∧ (∀ l : List (Nat × Nat), l[0]? = some ad0 → ren0 (Nm.at l) (.slice zt T.length ct) = vt) ∧
   ∃ c ty fz, W.heap[ad0.1]? = some (.cells c ty fz) ∧ ∀ i t, T[i]? = some t → ∀ j u, t.cells[j]? = some u → c[ad0.2 + 5 * i + j]? = some u := by
  rcases ht with rfl | ⟨b, off, cap, T, rfl, hl, hm, hok, c, ty, fz, hbk, hc⟩
  ·exact ⟨[], none, 0, (db, 0), Or.inr ⟨rfl, rfl⟩, fun t h => by simp at h, fun l _ => rfl, dc, dt, df, hdb, fun i t h => by simp at h⟩
  ·refine ⟨T, some ⟨0, 0, none⟩, cap, (b, off), Or.inl rfl, hok, fun l hl => ?_, c, ty, fz, hbk, hc⟩
   simp only [ren0, renA, Nm.at, hl, capOf, small_cap hm, cond_false, Nat.add_zero]
 obtain ⟨T, zt, ct, ad0, hz, hTok, hvt, c0, ty0, fz0, hc0, hcells⟩ := hT
 have hV := valOf_opened (X := X) hb hTok hX
 have hch := fun k => opened_rw (hV k) hdb k
 obtain ⟨rw', hrw⟩ := Classical.axiomOfChoice hch
 obtain ⟨xa, hxa⟩ := Classical.axiomOfChoice hrw
 obtain ⟨ad, hadd⟩ := Classical.axiomOfChoice hxa
 obtain ⟨hd', had⟩ := Classical.axiomOfChoice hadd
 have hI0 : I64 0 := by decide
 let D : FD := ⟨d, cl, T.length, ct, rw', fun i => match T[i]? with | some t => t.cl | none => 0, fun k => if k < 18 then xa k else none⟩
 let l : List (Nat × Nat) := (List.range N).map fun k => if k = 0 then ad0 else if k < 24 then ad k else hd' (k - 40)
 have hl0 : l[0]? = some ad0 := by
  show ((List.range N).map _)[0]? = _
  rw [List.getElem?_map, List.getElem?_range (by omega)]
  rfl
 have hlk : ∀ k, 1 ≤ k → k < 24 → l[k]? = some (ad k) := fun k h1 h2 => by
  show ((List.range N).map _)[k]? = _
  rw [List.getElem?_map, List.getElem?_range (by omega)]
  show some (if k = 0 then ad0 else if k < 24 then ad k else hd' (k - 40)) = _
  rw [if_neg (by omega), if_pos h2]
 have hlh : ∀ k, 1 ≤ k → k < 24 → l[40 + k]? = some (hd' k) := fun k h1 h2 => by
  show ((List.range N).map _)[40 + k]? = _
  rw [List.getElem?_map, List.getElem?_range (by omega)]
  show some (if 40 + k = 0 then ad0 else if 40 + k < 24 then ad (40 + k) else hd' (40 + k - 40)) = _
  rw [if_neg (by omega), if_neg (by omega), show 40 + k - 40 = k by omega]
 have hren : ∀ k, 1 ≤ k → k < 18 → ren0 (Nm.at l) ((rw' k).w (if k < 18 then xa k else none) k) = valOf vb T X k := fun k h1 h2 => by
  rw [if_pos h2]
  exact (had k).2.2.2.2.2.1 l (hlk k h1 (by omega)) (hlh k h1 (by omega))
 have hrs : ∀ k, 1 ≤ k → k < 18 → ren0 (Nm.at l) (.slice (D.z k) (D.m k) (D.c k)) = valOf vb T X k := fun k h1 h2 => by
  rw [FD.sv D k]
  exact hren k h1 h2
 have hts : ∀ i t, T[i]? = some t → i < 4 → (D.ts i).map (ren0 (Nm.at l)) = t.cells := by
  intro i t ht hi
  obtain ⟨h0, h1, h2, h3⟩ := valOf_tree (vb := vb) (X := X) ht hi
  have e0 : D.tc i = t.cl := by show (match T[i]? with | some t => t.cl | none => 0) = _; rw [ht]
  simp only [FD.ts, List.map_cons, List.map_nil, hrs _ (show 1 ≤ 2 + 4 * i by omega) (by omega), hrs _ (show 1 ≤ 3 + 4 * i by omega) (by omega), hrs _ (show 1 ≤ 4 + 4 * i by omega) (by omega), hrs _ (show 1 ≤ 5 + 4 * i by omega) (by omega), h0, h1, h2, h3, e0]
  rfl
 have x1 : xa 1 = none := (had 1).2.2.2.2.1 (by
  show Opened W eInt I64 (valOf vb T X 1)
  unfold valOf
  rw [if_pos rfl]
  exact hb)
 refine ⟨D, zt, l, ⟨⟨hd, hcl, fun k => (had k).1, fun k => (had k).2.1, fun i => ?_, fun k => ?_, fun k hk => ?_, (by show (if 1 < 18 then xa 1 else none) = none; rw [if_pos (show (1 : Nat) < 18 by decide)]; exact x1), fun k hk => if_neg (by omega)⟩, hz, rfl, rfl, fun k => (had k).2.1, ?_, ?_, ?_, ?_⟩⟩
 ·show I64 (match T[i]? with | some t => t.cl | none => 0)
  cases h : T[i]? with
  | none => exact hI0
  | some t => exact (hTok t (List.mem_of_getElem? h)).1
 ·show hat (if k < 18 then xa k else none) (40 + k)
  split
  ·exact (had k).2.2.1
  ·exact Or.inl rfl
 ·show (if k < 18 then xa k else none) = none
  split
  ·exact (had k).2.2.2.1 hk
  ·rfl
 ·show ((List.range N).map _).length = N
  simp
 ·show Value.agg (Array.map (ren0 (Nm.at l)) ⟨D.fp.fcs zt⟩) = _
  have h1 := hrs 1 (by omega) (by omega)
  have h2 : valOf vb T X 1 = vb := by unfold valOf; rw [if_pos rfl]
  rw [h2] at h1
  simp only [FP.fcs, List.map_toArray, List.map_cons, List.map_nil]
  show Value.agg (List.toArray [_, _, ren0 (Nm.at l) (.slice (D.z 1) (D.m 1) (D.c 1)), ren0 (Nm.at l) (.slice zt T.length ct)]) = _
  rw [h1, hvt l hl0]
  rfl
 ·intro k h1 h2
  have hv : valOf vb T X k = X k := by
   unfold valOf
   rw [if_neg (by omega), if_neg (by omega), if_pos h1]
  have hx : xa k = none := (had k).2.2.2.2.1 (by
   show Opened W eInt I64 (valOf vb T X k)
   rw [hv]
   exact hX k)
  have := (had k).2.2.2.2.2.2.1 l (hlk k (by omega) h2) hx
  rw [show (D.rw k) = rw' k from rfl, this, hv]
 ·intro k hk
  cases k with
  | succ k => exact (had (k + 1)).2.2.2.2.2.2.2 l (hlk (k + 1) (by omega) hk)
  | zero =>
   have e1 : (Nm.at l).blk 0 = ad0.1 := by simp [Nm.at, hl0]
   have e2 : (Nm.at l).base 0 = ad0.2 := by simp [Nm.at, hl0]
   rw [e1]
   refine ⟨c0, ty0, fz0, hc0, ?_⟩
   rw [e2]
   have key : ∀ b, b ≤ min T.length 4 → ∀ i v, (D.cs b)[i]? = some v → c0[ad0.2 + i]? = some (ren0 (Nm.at l) v) := by
    intro b
    induction b with
    | zero => intro _ i v h; simp [FD.cs] at h
    | succ b ih =>
     intro hb i v h
     simp only [FD.cs] at h
     by_cases hi : i < (D.cs b).length
     ·rw [List.getElem?_append_left hi] at h
      exact ih (by omega) i v h
     ·rw [List.getElem?_append_right (by omega)] at h
      have hlen := FD.cs_len D b
      obtain ⟨t, ht⟩ : ∃ t, T[b]? = some t := ⟨_, List.getElem?_eq_getElem (by omega)⟩
      have hm := hts b t ht (by omega)
      have hu : t.cells[i - (D.cs b).length]? = some (ren0 (Nm.at l) v) := by
       rw [← hm, List.getElem?_map, h]
       rfl
      have := hcells b t ht _ _ hu
      rw [hlen] at this
      rw [show ad0.2 + i = ad0.2 + 5 * b + (i - 5 * b) by omega]
      exact this
   exact key (min T.length 4) (Nat.le_refl _)
theorem rows24 (D : FD) {k : Nat} {b : Blk} (h : roRows [D.fp.cs0, D.fp.R 1, D.fp.R 2, D.fp.R 3, D.fp.R 4, D.fp.R 5, D.fp.R 6, D.fp.R 7, D.fp.R 8, D.fp.R 9, D.fp.R 10, D.fp.R 11, D.fp.R 12, D.fp.R 13, D.fp.R 14, D.fp.R 15, D.fp.R 16, D.fp.R 17, D.fp.R 18, D.fp.R 19, D.fp.R 20, D.fp.R 21, D.fp.R 22, D.fp.R 23] k = some b) : k < 24 ∧ b = .ro (D.rowc k) := by
 have hk : k < 24 := by
  apply Classical.byContradiction
  intro hk
  have : ([D.fp.cs0, D.fp.R 1, D.fp.R 2, D.fp.R 3, D.fp.R 4, D.fp.R 5, D.fp.R 6, D.fp.R 7, D.fp.R 8, D.fp.R 9, D.fp.R 10, D.fp.R 11, D.fp.R 12, D.fp.R 13, D.fp.R 14, D.fp.R 15, D.fp.R 16, D.fp.R 17, D.fp.R 18, D.fp.R 19, D.fp.R 20, D.fp.R 21, D.fp.R 22, D.fp.R 23] : List (List Value))[k]? = none := List.getElem?_eq_none (by simpa using hk)
  unfold roRows at h
  rw [this] at h
  simp at h
 refine ⟨hk, ?_⟩
 have : roRows [D.fp.cs0, D.fp.R 1, D.fp.R 2, D.fp.R 3, D.fp.R 4, D.fp.R 5, D.fp.R 6, D.fp.R 7, D.fp.R 8, D.fp.R 9, D.fp.R 10, D.fp.R 11, D.fp.R 12, D.fp.R 13, D.fp.R 14, D.fp.R 15, D.fp.R 16, D.fp.R 17, D.fp.R 18, D.fp.R 19, D.fp.R 20, D.fp.R 21, D.fp.R 22, D.fp.R 23] k = some (.ro (D.rowc k)) := by
  match k, hk with
  | 0, _ | 1, _ | 2, _ | 3, _ | 4, _ | 5, _ | 6, _ | 7, _ | 8, _ | 9, _ | 10, _ | 11, _ | 12, _ | 13, _ | 14, _ | 15, _ | 16, _ | 17, _ | 18, _ | 19, _ | 20, _ | 21, _ | 22, _ | 23, _ => rfl
  | k + 24, h => omega
 rw [this] at h
 exact (Option.some.inj h).symm
theorem forest_calls {f : FuncId} {args : List Value} {W : World} {d cl : Int} {vb vt : Value} {X : Nat → Value} {D : FD} {zt : Option Addr} {l : List (Nat × Nat)} (F : ForIn W 64 d cl vb vt X D zt l) (hs : CallSpec Try.prog f args (roRows [D.fp.cs0, D.fp.R 1, D.fp.R 2, D.fp.R 3, D.fp.R 4, D.fp.R 5, D.fp.R 6, D.fp.R 7, D.fp.R 8, D.fp.R 9, D.fp.R 10, D.fp.R 11, D.fp.R 12, D.fp.R 13, D.fp.R 14, D.fp.R 15, D.fp.R 16, D.fp.R 17, D.fp.R 18, D.fp.R 19, D.fp.R 20, D.fp.R 21, D.fp.R 22, D.fp.R 23]) 64 (.bool true) (assocN [] [])) (hnm : ∀ u ∈ args, ∀ j ∈ nms u, j < 64) :
  Calls Try.prog f (args.map (ren (Nm.at l))).toArray W fun e w' => e = .returned (.bool true) ∧ Below W.heap.size W w' := by
 refine calls_ro2 hs rfl (fun j b hb => ?_) hnm (fun j cs hj => ?_)
 ·obtain ⟨hk, rfl⟩ := rows24 D hb
  exact ⟨by omega, _, rfl, fun c hc k hk => (rowc_nm F.ok j c hc k hk).2⟩
 ·obtain ⟨hk, e⟩ := rows24 D hj
  injection e with e
  rw [e]
  exact F.holds j hk
theorem rwvF_ren (r : Rw) (k : Nat) (g : Nm) : ren g (r.v k) = ren0 g (r.v k) := by
 unfold Rw.v
 cases r.z <;> rfl
theorem rwv_nms (r : Rw) (k : Nat) : ∀ j ∈ nms (r.v k), j = k := by
 intro j hj
 refine Rw.v_nm r k j ?_
 unfold Rw.v at hj ⊢
 cases hz : r.z <;> rw [hz] at hj <;> exact hj
theorem fcs_nms {D : FD} (ok : D.OK) {zt : Option Addr} (hz : ztOK D zt) : ∀ j ∈ nms (.agg ⟨D.fp.fcs zt⟩), j < 18 := by
 intro j hj
 obtain ⟨c, hc, hj⟩ := mem_nmL' (f := nm0) (show j ∈ nmL nm0 (D.fp.fcs zt) from hj)
 exact fcs_nm ok hz c hc j hj
theorem rwOn {D : FD} (ok : D.OK) (hn : ∀ k, (D.rw k).z = false → (D.rw k).cs = []) (k : Nat) : RwOn (D.rw k) (some (.ro (D.fp.R k))) := ⟨ok.good k, hn k, _, rfl, rfl⟩
end Go.Proofs.Ythbaccmhdffjdaa.Fo
namespace Go.Proofs.Ythbaccmhdffjdaa.Lp
open Go Go.RowKit Ev NodeE BoxF Lv Tr Within PickE Tn Fo Lp
theorem bxGo_len5 : ∀ (ws : List Int) (i : Nat) (s : List Bx × List Pc), (bxGo i ws s).2.length ≤ s.2.length + ws.length
 | [], i, s => Nat.le_refl _
 | w :: ws, i, s => by
  have := bxGo_len5 ws (i + 1) (bxS i w s)
  have h1 : (bxS i w s).2.length ≤ s.2.length + 1 := by
   simp only [bxS]
   cases lfB w
   ·exact Nat.le_succ _
   ·cases (s.1.getD i Bx.zero).emp <;> simp
  simp only [bxGo, List.length_cons]
  omega
theorem pcs_len5 (ws : List Int) (b : Bx) : (pcsI ws b).length ≤ ws.length := by
 have := bxGo_len5 ws 0 (bx0 ws.length b)
 simp only [bx0, List.length_nil, Nat.zero_add] at this
 exact this
theorem list_len5 (ws : List Int) (b : Bx) : (listP ws b).length ≤ ws.length := by
 unfold listP
 cases rightI ws 4 && !b.emp
 ·exact Nat.zero_le _
 ·exact pcs_len5 ws b
theorem goodW_mono {dim e : Int} {n i : Nat} {w : Int} (h : goodW dim n i w = true) (hd : dim ≤ e) : goodW e n i w = true := by
 unfold goodW at h ⊢
 simp only [Bool.and_eq_true, Bool.or_eq_true, Bool.not_eq_true', Bool.or_eq_false_iff, decide_eq_false_iff_not] at h ⊢
 refine ⟨h.1, h.2.imp id fun g => ⟨by omega, g.2⟩⟩
theorem rightI_mono {ws : List Int} {dim e : Int} (h : rightI ws dim = true) (hd : dim ≤ e) : rightI ws e = true := by
 unfold rightI at h ⊢
 simp only [Bool.and_eq_true] at h ⊢
 exact ⟨h.1, h.2.1, allGood_of fun j w hw => goodW_mono (allGood_get h.2.2.1 j w hw) hd, h.2.2.2⟩
theorem reg_I64s (l : List Int) (dim : Int) : (regI l dim).I64s := by
 obtain ⟨⟨_, h0, _⟩, ⟨_, h1, _⟩, ⟨_, h2, _⟩, ⟨_, h3, _⟩, _, h4, _⟩ := reg_in l dim
 unfold Bx.I64s I64
 omega
theorem ins_in (m l : List Int) (dim : Int) : (regI m dim).In (insI l (regI m dim)) 0 := by
 obtain ⟨⟨_, h0, _⟩, ⟨_, h1, _⟩, ⟨_, h2, _⟩, ⟨_, h3, _⟩, _⟩ := reg_in m dim
 have key : ∀ (i a b : Int), a ≤ b → a ≤ insX l i a b ∧ insX l i a b ≤ b := fun i a b h => by
  have hm : maxI a b = b := by unfold maxI; split <;> omega
  unfold insX
  rw [hm]
  exact within_range _ h
 exact ⟨key _ _ _ h0, key _ _ _ h1, key _ _ _ h2, key _ _ _ h3, (by show (0 : Int) ≤ 0; decide), (by show (0 : Int) ≤ 0; decide)⟩
theorem nodes4 (r0 r1 r2 r3 : List Int) {dim : Int} (h1 : 1 ≤ dim) (h3 : dim ≤ 3) : rightI ((nodesI r0 r1 r2 r3 dim).map packN) 4 = true ∧ (∀ w ∈ (nodesI r0 r1 r2 r3 dim).map packN, U64 w) ∧ (nodesI r0 r1 r2 r3 dim).length ≤ 15 := by
 obtain ⟨x1, x2, x3⟩ := nodes_right r0 r1 r2 r3 (dim := dim) ⟨h1, by omega⟩
 exact ⟨rightI_mono x1 (by omega), x2, by simpa [wordsI] using x3⟩
theorem modOK {D : FD} (ok : D.OK) {zt : Option Addr} (hz : ztOK D zt) {K : Nat} (hK : K = min D.n 4) {xs : List Value} (hx : xs = [.agg ⟨D.fp.fcs zt⟩]) : ModOK D.fp K xs [some (.ro D.fp.cs0), some (.ro (D.fp.R 1)), some (.ro (D.fp.R 2)), some (.ro (D.fp.R 3)), some (.ro (D.fp.R 4)), some (.ro (D.fp.R 5)), some (.ro (D.fp.R 6)), some (.ro (D.fp.R 7)), some (.ro (D.fp.R 8)), some (.ro (D.fp.R 9)), some (.ro (D.fp.R 10)), some (.ro (D.fp.R 11)), some (.ro (D.fp.R 12)), some (.ro (D.fp.R 13)), some (.ro (D.fp.R 14)), some (.ro (D.fp.R 15)), some (.ro (D.fp.R 16)), some (.ro (D.fp.R 17))] := by
 refine ⟨D, zt, ok, hz, hx, rfl, hK, fun k hk => ⟨.ro (D.rowc k), ?_, rfl⟩⟩
 exact vw18_get (fun j => some (.ro (D.rowc j))) hk
theorem FD.sv18 {D : FD} (ok : D.OK) {k : Nat} (h : 18 ≤ k) : Value.slice (D.z k) (D.m k) (D.c k) = (D.rw k).v k := by
 rw [FD.sv, ok.a18 k h, Rw.w_none]
theorem regOK {D : FD} (ok : D.OK) {dim c0 b0 b1 b2 : Int} (h1 : 1 ≤ dim) (h3 : dim ≤ 3) {zm : Option Addr} (hz : zm = none ∨ ∃ j, zm = some ⟨j, 0, none⟩) (lm cm : Nat) {q : Nat} (hq : 18 ≤ q) : RegOK (regI (D.rw q).l dim) q [.agg ⟨[.int .i64 dim, .int .i64 c0, .int .i64 b0, .int .i64 b1, .int .i64 b2, .slice zm lm cm]⟩, .slice (D.fp.z q) (D.fp.m q) (D.fp.c q)] (some (.ro (D.fp.R q))) := by
 have hv : Value.slice (D.fp.z q) (D.fp.m q) (D.fp.c q) = (D.rw q).v q := FD.sv18 ok hq
 rw [hv]
 rcases hz with rfl | ⟨j, rfl⟩
 ·exact ⟨dim, c0, b0, b1, b2, none, lm, cm, D.rw q, rfl, h1, h3, rwOn ok ok.none q, rfl⟩
 ·exact ⟨dim, c0, b0, b1, b2, some j, lm, cm, D.rw q, rfl, h1, h3, rwOn ok ok.none q, rfl⟩
end Go.Proofs.Ythbaccmhdffjdaa.Lp
namespace Go.Proofs.Ythbaccmhdffjdaa.Mm
open Go Go.RowKit Ev Within BoxF
def mLo (a b c d : Int) : Int := ofLo (maxI a c) (minI b d)
def mHi (a b c d : Int) : Int := ofHi (maxI a c) (minI b d)
def rempty_F : List Value → Option (Value × List Prop)
 | [.agg ⟨[.int .i64 a0, .int .i64 a1, .int .i64 a2, .int .i64 a3, .int .i64 a4, .int .i64 a5, .int .i64 a6, .int .i64 a7, .int .i64 a8, .int .i64 a9]⟩] => some (.bool (emptyB a0 a1 a2 a3 a4 a5 a6 a7 a8 a9), [])
 | _ => none
theorem rempty_sum : SumOK Try.prog 25 (sumOf rempty_F) := by
 refine sumOf_ok (en Try.func25 rfl) fun args v ob h hob => ?_
 unfold rempty_F at h
 split at h
 ·obtain ⟨rfl, rfl⟩ := Prod.mk.inj (Option.some.inj h)
  exact calls_run0 hm (auto0_ok t_bcut_ok) noHint [.go,.go,.fork,.go,.fork,.go,.fork,.go,.fork,.go,.fork] (by kernel_rfl)
 ·exact absurd h (by simp)
noncomputable def t_rempty : Sums := upd t_bcut 25 (some (sumOf rempty_F))
theorem t_rempty_ok : SumsOK Try.prog t_rempty := sums_cons t_bcut_ok rempty_sum
def rmeet_F : List Value → Option (Value × List Prop)
 | [.agg ⟨[.int .i64 a, .int .i64 b]⟩, .agg ⟨[.int .i64 c, .int .i64 d]⟩] => some (.agg ⟨[.int .i64 (mLo a b c d), .int .i64 (mHi a b c d)]⟩, [])
 | _ => none
theorem rmeet_sum : SumOK Try.prog 47 (sumOf rmeet_F) := by
 refine sumOf_ok (en Try.func47 rfl) fun args v ob h hob => ?_
 unfold rmeet_F at h
 split at h
 ·obtain ⟨rfl, rfl⟩ := Prod.mk.inj (Option.some.inj h)
  exact calls_run0 hm (auto0_ok t_rempty_ok) noHint [.fork] (by kernel_rfl)
 ·exact absurd h (by simp)
noncomputable def t_rmeet : Sums := upd t_rempty 47 (some (sumOf rmeet_F))
theorem t_rmeet_ok : SumsOK Try.prog t_rmeet := sums_cons t_rempty_ok rmeet_sum
def smeet_F : List Value → Option (Value × List Prop)
 | [.agg ⟨[.int .i64 a, .int .i64 b]⟩, .agg ⟨[.int .i64 c, .int .i64 d]⟩] => some (.agg ⟨[.int .i64 (mLo a b c d), .int .i64 (mHi a b c d)]⟩, [])
 | _ => none
theorem smeet_sum : SumOK Try.prog 54 (sumOf smeet_F) := by
 refine sumOf_ok (en Try.func54 rfl) fun args v ob h hob => ?_
 unfold smeet_F at h
 split at h
 ·obtain ⟨rfl, rfl⟩ := Prod.mk.inj (Option.some.inj h)
  exact calls_run0 hm (auto0_ok t_rmeet_ok) noHint [] (by kernel_rfl)
 ·exact absurd h (by simp)
noncomputable def t_smeet : Sums := upd t_rmeet 54 (some (sumOf smeet_F))
theorem t_smeet_ok : SumsOK Try.prog t_smeet := sums_cons t_rmeet_ok smeet_sum
def bmeet_F : List Value → Option (Value × List Prop)
 | [.agg ⟨[.int .i64 a0, .int .i64 a1, .int .i64 a2, .int .i64 a3, .int .i64 a4, .int .i64 a5, .int .i64 a6, .int .i64 a7, .int .i64 a8, .int .i64 a9]⟩, .agg ⟨[.int .i64 b0, .int .i64 b1, .int .i64 b2, .int .i64 b3, .int .i64 b4, .int .i64 b5, .int .i64 b6, .int .i64 b7, .int .i64 b8, .int .i64 b9]⟩] => some (.agg ⟨[.int .i64 (mLo a0 a1 b0 b1), .int .i64 (mHi a0 a1 b0 b1), .int .i64 (mLo a2 a3 b2 b3), .int .i64 (mHi a2 a3 b2 b3), .int .i64 (mLo a4 a5 b4 b5), .int .i64 (mHi a4 a5 b4 b5), .int .i64 (mLo a6 a7 b6 b7), .int .i64 (mHi a6 a7 b6 b7), .int .i64 (mLo a8 a9 b8 b9), .int .i64 (mHi a8 a9 b8 b9)]⟩, [])
 | _ => none
theorem bmeet_sum : SumOK Try.prog 39 (sumOf bmeet_F) := by
 refine sumOf_ok (en Try.func39 rfl) fun args v ob h hob => ?_
 unfold bmeet_F at h
 split at h
 ·obtain ⟨rfl, rfl⟩ := Prod.mk.inj (Option.some.inj h)
  exact calls_run0 hm (auto0_ok t_smeet_ok) noHint [] (by kernel_rfl)
 ·exact absurd h (by simp)
noncomputable def t_bmeet : Sums := upd t_smeet 39 (some (sumOf bmeet_F))
theorem t_bmeet_ok : SumsOK Try.prog t_bmeet := sums_cons t_smeet_ok bmeet_sum
def rmeetbox_F : List Value → Option (Value × List Prop)
 | [.agg ⟨[.int .i64 a0, .int .i64 a1, .int .i64 a2, .int .i64 a3, .int .i64 a4, .int .i64 a5, .int .i64 a6, .int .i64 a7, .int .i64 a8, .int .i64 a9]⟩, .agg ⟨[.int .i64 b0, .int .i64 b1, .int .i64 b2, .int .i64 b3, .int .i64 b4, .int .i64 b5, .int .i64 b6, .int .i64 b7, .int .i64 b8, .int .i64 b9]⟩] => some (.agg ⟨[.int .i64 (mLo a0 a1 b0 b1), .int .i64 (mHi a0 a1 b0 b1), .int .i64 (mLo a2 a3 b2 b3), .int .i64 (mHi a2 a3 b2 b3), .int .i64 (mLo a4 a5 b4 b5), .int .i64 (mHi a4 a5 b4 b5), .int .i64 (mLo a6 a7 b6 b7), .int .i64 (mHi a6 a7 b6 b7), .int .i64 (mLo a8 a9 b8 b9), .int .i64 (mHi a8 a9 b8 b9)]⟩, [])
 | _ => none
theorem rmeetbox_sum : SumOK Try.prog 40 (sumOf rmeetbox_F) := by
 refine sumOf_ok (en Try.func40 rfl) fun args v ob h hob => ?_
 unfold rmeetbox_F at h
 split at h
 ·obtain ⟨rfl, rfl⟩ := Prod.mk.inj (Option.some.inj h)
  exact calls_run0 hm (auto0_ok t_bmeet_ok) noHint [] (by kernel_rfl)
 ·exact absurd h (by simp)
noncomputable def t_rmeetbox : Sums := upd t_bmeet 40 (some (sumOf rmeetbox_F))
theorem t_rmeetbox_ok : SumsOK Try.prog t_rmeetbox := sums_cons t_bmeet_ok rmeetbox_sum
end Go.Proofs.Ythbaccmhdffjdaa.Mm
namespace Go.Proofs.Ythbaccmhdffjdaa.Mt
open Go Go.RowKit Ev Within BoxF Mm
def mBx (x y : Bx) : Bx := ⟨mLo x.a0 x.b0 y.a0 y.b0, mHi x.a0 x.b0 y.a0 y.b0, mLo x.a1 x.b1 y.a1 y.b1, mHi x.a1 x.b1 y.a1 y.b1, mLo x.a2 x.b2 y.a2 y.b2, mHi x.a2 x.b2 y.a2 y.b2, mLo x.a3 x.b3 y.a3 y.b3, mHi x.a3 x.b3 y.a3 y.b3, mLo x.a4 x.b4 y.a4 y.b4, mHi x.a4 x.b4 y.a4 y.b4⟩
def bxE (x : Bx) : Bool := emptyB x.a0 x.b0 x.a1 x.b1 x.a2 x.b2 x.a3 x.b3 x.a4 x.b4
def mPc (x y : Pc) : Pc := ⟨mBx x.box y.box, IntKind.i64.wrap (x.val + y.val)⟩
def mtI (most : Int) (x : Pc) : List Pc → List Pc → Option (List Pc)
 | out, [] => some out
 | out, y :: ys => if bxE (mBx x.box y.box) = true then mtI most x out ys else if (out.length : Int) ≥ most then none else mtI most x (out ++ [mPc x y]) ys
def mtO (most : Int) (b : List Pc) : List Pc → List Pc → Option (List Pc)
 | out, [] => some out
 | out, x :: xs => (mtI most x out b).bind fun o => mtO most b o xs
def meetL (a b : List Pc) (most : Int) : Option (List Pc) := mtO most b [] a
theorem mtI_len {most : Int} {x : Pc} : ∀ {ys out o : List Pc}, mtI most x out ys = some o → (o.length : Int) ≤ max (out.length : Int) most := by
 intro ys
 induction ys with
 | nil => intro out o h; simp only [mtI, Option.some.injEq] at h; subst h; omega
 | cons y ys ih =>
  intro out o h
  simp only [mtI] at h
  split at h
  ·exact ih h
  ·split at h
   ·exact absurd h (by simp)
   ·have := ih h
    simp at this
    omega
theorem mtO_len {most : Int} {b : List Pc} : ∀ {xs out o : List Pc}, mtO most b out xs = some o → (o.length : Int) ≤ max (out.length : Int) most := by
 intro xs
 induction xs with
 | nil => intro out o h; simp only [mtO, Option.some.injEq] at h; subst h; omega
 | cons x xs ih =>
  intro out o h
  simp only [mtO] at h
  cases e : mtI most x out b with
  | none => rw [e] at h; exact absurd h (by simp)
  | some o1 =>
   rw [e] at h
   have h1 := mtI_len e
   have h2 := ih h
   omega
end Go.Proofs.Ythbaccmhdffjdaa.Mt
namespace Go.Proofs.Ythbaccmhdffjdaa.Cl
open Go Go.RowKit Ev NodeE Tr BoxF Lv Mm Mt
theorem span_meet (a b c d v : Int) : (mLo a b c d ≤ v ∧ v ≤ mHi a b c d) ↔ (a ≤ v ∧ v ≤ b) ∧ (c ≤ v ∧ v ≤ d) := by
 have hmax : maxI a c = max a c := by unfold maxI; split <;> omega
 have hmin : minI b d = min b d := by unfold minI; split <;> omega
 unfold mLo mHi ofLo ofHi
 rw [hmax, hmin]
 simp only [cond_eq_ite, decide_eq_true_eq]
 split <;> omega
theorem in_meet (x y : Bx) (p : Pt) (t : Int) : (mBx x y).In p t ↔ x.In p t ∧ y.In p t := by
 unfold Bx.In mBx
 simp only [span_meet]
 constructor
 ·rintro ⟨⟨a, b⟩, ⟨c, d⟩, ⟨e, f⟩, ⟨g, h⟩, i, j⟩
  exact ⟨⟨a, c, e, g, i⟩, b, d, f, h, j⟩
 ·rintro ⟨⟨a, c, e, g, i⟩, b, d, f, h, j⟩
  exact ⟨⟨a, b⟩, ⟨c, d⟩, ⟨e, f⟩, ⟨g, h⟩, i, j⟩
theorem le_of_in {x y : Bx} (he : x.emp = false) (h : ∀ p t, x.In p t → y.In p t) : x.Le y := by
 obtain ⟨h1, h2⟩ := pt_in he
 have g1 := h _ _ h1
 have g2 := h _ _ h2
 unfold Bx.In Bx.pt at g1
 unfold Bx.In Bx.top at g2
 unfold Bx.Le
 simp only at g1 g2
 omega
structure Part (b : Bx) (ps : List Pc) (g : Pt → Int) : Prop where
 ne : ∀ y ∈ ps, y.box.emp = false
 le : ∀ y ∈ ps, y.box.Le b
 val : ∀ y ∈ ps, ∀ p t, y.box.In p t → y.val = g p
 one : ∀ p t, b.In p t → ps.countP (fun y => y.box.hs p t) = 1
theorem list_part {ws : List Int} {b : Bx} (h : rightI ws 4 = true) (he : b.emp = false) : Part b (listP ws b) (endV ws) :=
 ⟨fun y hy => (list_in h he y hy).1, fun y hy => (list_in h he y hy).2, fun y hy p t hp => list_val h he y hy hp, fun p t hb => list_one h hb⟩
def keepM (x : Pc) (ys : List Pc) : List Pc := (ys.filter fun y => !bxE (mBx x.box y.box)).map (mPc x)
theorem mtI_is {most : Int} {x : Pc} : ∀ {ys out o : List Pc}, mtI most x out ys = some o → o = out ++ keepM x ys := by
 intro ys
 induction ys with
 | nil => intro out o h; simp only [mtI, Option.some.injEq] at h; simp [keepM, h]
 | cons y ys ih =>
  intro out o h
  simp only [mtI] at h
  split at h
  ·rename_i he
   rw [ih h]
   simp [keepM, he]
  ·rename_i he
   split at h
   ·exact absurd h (by simp)
   ·rw [ih h]
    have he : bxE (mBx x.box y.box) = false := by simpa using he
    simp [keepM, he]
theorem mtO_is {most : Int} {b : List Pc} : ∀ {xs out o : List Pc}, mtO most b out xs = some o → o = out ++ xs.flatMap fun x => keepM x b := by
 intro xs
 induction xs with
 | nil => intro out o h; simp only [mtO, Option.some.injEq] at h; simp [h]
 | cons x xs ih =>
  intro out o h
  simp only [mtO] at h
  cases e : mtI most x out b with
  | none => rw [e] at h; exact absurd h (by simp)
  | some o1 =>
   rw [e] at h
   rw [ih h, mtI_is e]
   simp
theorem keepM_count {x : Pc} {p : Pt} {t : Int} : ∀ {ys : List Pc}, (keepM x ys).countP (fun y => y.box.hs p t) = if x.box.hs p t = true then ys.countP (fun y => y.box.hs p t) else 0 := by
 intro ys
 induction ys with
 | nil => simp [keepM]
 | cons y ys ih =>
  have hm : ((mPc x y).box.hs p t = true) ↔ (x.box.hs p t = true ∧ y.box.hs p t = true) := by
   rw [hs_iff, hs_iff, hs_iff]
   exact in_meet _ _ _ _
  have hk : keepM x (y :: ys) = (if bxE (mBx x.box y.box) = true then [] else [mPc x y]) ++ keepM x ys := by
   unfold keepM
   cases h : bxE (mBx x.box y.box) <;> simp [h]
  rw [hk, List.countP_append, ih, List.countP_cons]
  by_cases he : bxE (mBx x.box y.box) = true
  ·rw [if_pos he]
   have hn : ¬ (x.box.hs p t = true ∧ y.box.hs p t = true) := fun h => by
    have := in_emp (hs_iff.1 (hm.2 h))
    have he : (mBx x.box y.box).emp = true := he
    rw [show (mPc x y).box = mBx x.box y.box from rfl, he] at this
    exact absurd this (by simp)
   by_cases hx : x.box.hs p t = true
   ·have : ¬ y.box.hs p t = true := fun h => hn ⟨hx, h⟩
    simp [hx, this]
   ·simp [hx]
  ·rw [if_neg he]
   by_cases hx : x.box.hs p t = true
   ·by_cases hy : y.box.hs p t = true
    ·have := hm.2 ⟨hx, hy⟩
     simp [hx, hy, this]
     omega
    ·have : ¬ (mPc x y).box.hs p t = true := fun h => hy (hm.1 h).2
     simp [hx, hy, this]
   ·have : ¬ (mPc x y).box.hs p t = true := fun h => hx (hm.1 h).1
    simp [hx, this]
theorem meet_part {b : Bx} {A B C : List Pc} {g h : Pt → Int} {most : Int} (hA : Part b A g) (hB : Part b B h) (hC : meetL A B most = some C) : Part b C (fun p => IntKind.i64.wrap (g p + h p)) := by
 have hC' := mtO_is hC
 clear hC
 have hC := hC'
 clear hC'
 rw [List.nil_append] at hC
 have hmem : ∀ z ∈ C, ∃ x ∈ A, ∃ y ∈ B, z = mPc x y ∧ (mBx x.box y.box).emp = false := by
  intro z hz
  rw [hC] at hz
  obtain ⟨x, hx, hz⟩ := List.mem_flatMap.1 hz
  obtain ⟨y, hy, rfl⟩ := List.mem_map.1 hz
  obtain ⟨hy, he⟩ := List.mem_filter.1 hy
  exact ⟨x, hx, y, hy, rfl, by show bxE (mBx x.box y.box) = false; simpa using he⟩
 refine ⟨fun z hz => ?_, fun z hz => ?_, fun z hz p t hp => ?_, fun p t hb => ?_⟩
 ·obtain ⟨x, hx, y, hy, rfl, he⟩ := hmem z hz
  exact he
 ·obtain ⟨x, hx, y, hy, rfl, he⟩ := hmem z hz
  exact le_trans (le_of_in he fun p t hp => ((in_meet _ _ _ _).1 hp).1) (hA.le x hx)
 ·obtain ⟨x, hx, y, hy, rfl, he⟩ := hmem z hz
  have := (in_meet _ _ _ _).1 hp
  show IntKind.i64.wrap (x.val + y.val) = _
  rw [hA.val x hx p t this.1, hB.val y hy p t this.2]
 ·have h1 := hB.one p t hb
  have h2 := hA.one p t hb
  rw [hC]
  rw [← h2]
  clear hC hA h2 hmem
  induction A with
  | nil => rfl
  | cons x A ih =>
   rw [List.flatMap_cons, List.countP_append, List.countP_cons, ih, keepM_count, h1]
   omega
theorem part_ne {b : Bx} {ps : List Pc} {g : Pt → Int} (h : Part b ps g) (he : b.emp = false) : ps ≠ [] := by
 rintro rfl
 have := h.one _ _ (pt_in he).1
 simp at this
end Go.Proofs.Ythbaccmhdffjdaa.Cl
namespace Go.Proofs.Ythbaccmhdffjdaa.Cl
end Go.Proofs.Ythbaccmhdffjdaa.Cl
namespace Go.Proofs.Ythbaccmhdffjdaa.Cl
end Go.Proofs.Ythbaccmhdffjdaa.Cl
namespace Go.Proofs.Ythbaccmhdffjdaa.Cl
end Go.Proofs.Ythbaccmhdffjdaa.Cl
namespace Go.Proofs.Ythbaccmhdffjdaa.Mt
open Go Go.RowKit Ev Within BoxF Mm
structure MO where
 i : Nat
 out : List Pc
structure MI where
 j : Nat
 out : List Pc
def muV (z : Nat) (out : List Pc) : Value := match z with | 0 => .slice none 0 0 | _ => .slice (some ⟨13, 0, none⟩) out.length mk
def moL (cs ds : List Value) (o n c p m d : Nat) (k : Int) (Q : Nat → MO → Prop) : LoopF MO where
 ts _ := [1, 2, 8, 14, 15, 16]
 hs z := match z with | 0 => [0, 1] | _ => [0, 1, 13]
 tv z := fun ⟨i, out⟩ => [.slice (some ⟨1, p, none⟩) m d, .int .i64 k, muV z out, .slice (some ⟨0, o, none⟩) n c, .int .i64 (n : Int), .int .i64 (i : Int)]
 hv z := fun ⟨i, out⟩ => match z with | 0 => [.ro cs, .ro ds] | _ => [.ro cs, .ro ds, .vec (ePc.row out) 27 11]
 inv := Q
 mu _ := fun ⟨i, out⟩ => n - i
 nx := 14
def miL (cs ds : List Value) (o n c p m d : Nat) (k : Int) (i : Nat) (bo : Bx) (v : Int) (Q : Nat → MI → Prop) : LoopF MI where
 ts _ := [1, 2, 8, 10, 14, 15, 16, 20, 21, 22]
 hs z := match z with | 0 => [0, 1, 10] | _ => [0, 1, 10, 13]
 tv z := fun ⟨j, out⟩ => [.slice (some ⟨1, p, none⟩) m d, .int .i64 k, muV z out, .pointer (some ⟨10, 0, none⟩), .slice (some ⟨0, o, none⟩) n c, .int .i64 (n : Int), .int .i64 (i : Int), .slice (some ⟨1, p, none⟩) m d, .int .i64 (m : Int), .int .i64 (j : Int)]
 hv z := fun ⟨j, out⟩ => match z with | 0 => [.ro cs, .ro ds, .cells (bo.cs ++ [.int .i64 v]) 27] | _ => [.ro cs, .ro ds, .cells (bo.cs ++ [.int .i64 v]) 27, .vec (ePc.row out) 27 11]
 inv := Q
 mu _ := fun ⟨j, out⟩ => m - j
 nx := 14
theorem moL_ok (cs ds : List Value) (o n c p m d : Nat) (k : Int) (Q : Nat → MO → Prop) (h1 : ∀ x ∈ cs, leafG x = true) (h2 : ∀ x ∈ ds, leafG x = true) : (moL cs ds o n c p m d k Q).OK 2 := by
 refine ⟨(by decide : 2 ≤ 14), fun z i h k hk => ?_, fun z i h v hv k hk => ?_, fun z i h x hx => ?_⟩
 ·show k < 14
  match z with
  | 0 => simp [moL] at hk; omega
  | z + 1 => simp [moL] at hk; omega
 ·show k < 14
  match z with
  | 0 =>
   simp [moL, muV] at hv
   repeat' (refine Or.elim hv (fun hv => ?_) (fun hv => ?_))
   all_goals (subst hv; simp [nms, nm1, nm0] at hk; try omega)
  | z + 1 =>
   simp [moL, muV] at hv
   repeat' (refine Or.elim hv (fun hv => ?_) (fun hv => ?_))
   all_goals (subst hv; simp [nms, nm1, nm0] at hk; try omega)
 ·match z with
  | 0 =>
   simp [moL] at hx
   rcases hx with rfl | rfl
   ·exact Blk.plain.namesLt (b := .ro _) h1 _
   ·exact Blk.plain.namesLt (b := .ro _) h2 _
  | z + 1 =>
   simp [moL] at hx
   rcases hx with rfl | rfl | rfl
   ·exact Blk.plain.namesLt (b := .ro _) h1 _
   ·exact Blk.plain.namesLt (b := .ro _) h2 _
   ·exact Blk.plain.namesLt (b := .vec _ _ _) (Elt.row_pl _) _
theorem miL_ok (cs ds : List Value) (o n c p m d : Nat) (k : Int) (i : Nat) (bo : Bx) (v : Int) (Q : Nat → MI → Prop) (h1 : ∀ x ∈ cs, leafG x = true) (h2 : ∀ x ∈ ds, leafG x = true) : (miL cs ds o n c p m d k i bo v Q).OK 2 := by
 have hb : ∀ x ∈ bo.cs ++ [Value.int .i64 v], leafG x = true := ePc.pl ⟨bo, v⟩
 refine ⟨(by decide : 2 ≤ 14), fun z i h k hk => ?_, fun z i h v hv k hk => ?_, fun z i h x hx => ?_⟩
 ·show k < 14
  match z with
  | 0 => simp [miL] at hk; omega
  | z + 1 => simp [miL] at hk; omega
 ·show k < 14
  match z with
  | 0 =>
   simp [miL, muV] at hv
   repeat' (refine Or.elim hv (fun hv => ?_) (fun hv => ?_))
   all_goals (subst hv; simp [nms, nm1, nm0] at hk; try omega)
  | z + 1 =>
   simp [miL, muV] at hv
   repeat' (refine Or.elim hv (fun hv => ?_) (fun hv => ?_))
   all_goals (subst hv; simp [nms, nm1, nm0] at hk; try omega)
 ·match z with
  | 0 =>
   simp [miL] at hx
   rcases hx with rfl | rfl | rfl
   ·exact Blk.plain.namesLt (b := .ro _) h1 _
   ·exact Blk.plain.namesLt (b := .ro _) h2 _
   ·exact Blk.plain.namesLt (b := .cells _ _) hb _
  | z + 1 =>
   simp [miL] at hx
   rcases hx with rfl | rfl | rfl | rfl
   ·exact Blk.plain.namesLt (b := .ro _) h1 _
   ·exact Blk.plain.namesLt (b := .ro _) h2 _
   ·exact Blk.plain.namesLt (b := .cells _ _) hb _
   ·exact Blk.plain.namesLt (b := .vec _ _ _) (Elt.row_pl _) _
end Go.Proofs.Ythbaccmhdffjdaa.Mt
namespace Go.Proofs.Ythbaccmhdffjdaa.Mt
open Go Go.RowKit Ev Within BoxF Mm Mt
theorem cIn (cs ds : List Value) (o n c p m d : Nat) (k : Int) (Q : Nat → MO → Prop)  {E rv rhs rhv} (hE : EnvOK E Try.prog Try.f13 3 2 rv rhs rhv) (hL : (moL cs ds o n c p m d k Q).OK 2) (hob : all ([SameK (atLp (lp Try.f13 0)) (atLp (lp Try.f13 0)), Enter (moL cs ds o n c p m d k Q) 0 none [.slice (some (Addr.mk 1 p none)) m d, .int .i64 k, .slice none 0 0, .slice (some (Addr.mk 0 o none)) n c, .int .i64 ((n : Int)), .int .i64 ((0 : Int))] [Blk.ro cs, Blk.ro ds] [(1, 1), (0, 0)]])) (hK : ∀ zz, (moL cs ds o n c p m d k Q).inv 0 zz → ltO ((moL cs ds o n c p m d k Q).mu 0 zz) none → Sat E (atLp (lp Try.f13 0)) ((moL cs ds o n c p m d k Q).st 0 zz)) : Sat E [.code (bodyOf Try.f13)] (st0 Try.f13 [.slice (some ⟨0, o, none⟩) n c, .slice (some ⟨1, p, none⟩) m d, .int .i64 k] (roRows [cs, ds]) 2) :=
 by_to (T := auto0 t_rmeetbox) (h := hints []) (ws := [.stop]) (i0 := ⟨0, []⟩) hE hm (auto0_ok t_rmeetbox_ok) hL (by kernel_rfl) hob hK
theorem cE0 (cs ds : List Value) (o n c p m d : Nat) (k : Int) (Q : Nat → MO → Prop) (i : Nat) (out : List Pc) (J : _) {E : Env} (hE : EnvOK E Try.prog Try.f13 3 2 (.tuple ⟨[.slice none 0 0, .bool true]⟩) [] []) (hob : all ([Back (Value.tuple (Array.mk [.slice none 0 0, .bool true])) (Value.tuple (Array.mk [.slice none 0 0, .bool true])) [] [] [], decide ((↑i : Int) < (↑n : Int)) = false])) : Sat E (inLp (lp Try.f13 0) J) ((moL cs ds o n c p m d k Q).st 0 ⟨i, out⟩) :=
 by_ret (T := auto0 t_rmeetbox) (h := hints []) (ws := [.b false]) (nx' := 2) hE hm (auto0_ok t_rmeetbox_ok) (by omega) (by simp) (by simp) (by kernel_rfl) hob
theorem cE1 (cs ds : List Value) (o n c p m d : Nat) (k : Int) (Q : Nat → MO → Prop) (i : Nat) (out : List Pc) (J : _) {E : Env} (hE : EnvOK E Try.prog Try.f13 3 2 (.tuple ⟨[.slice (some ⟨100, 0, none⟩) out.length mk, .bool true]⟩) [100] [.vec (ePc.row out) 27 11]) (hob : all ([Back (Value.tuple (Array.mk [.slice (some (Addr.mk 13 0 none)) out.length Ev.mark, .bool true])) (Value.tuple (Array.mk [.slice (some (Addr.mk 100 0 none)) out.length Ev.mark, .bool true])) [Blk.vec (ePc.row out) 27 11] [Blk.vec (ePc.row out) 27 11] [(100, 13)], decide ((↑i : Int) < (↑n : Int)) = false])) : Sat E (inLp (lp Try.f13 0) J) ((moL cs ds o n c p m d k Q).st 1 ⟨i, out⟩) :=
 by_ret (T := auto0 t_rmeetbox) (h := hints []) (ws := [.b false]) (nx' := 101) hE hm (auto0_ok t_rmeetbox_ok) (by omega) (by simp) (by intro x hx; simp at hx; subst hx; exact Blk.plain.namesLt (b := .vec _ _ _) (Elt.row_pl _) _) (by kernel_rfl) hob
theorem cB0 (cs ds : List Value) (o n c p m d : Nat) (k : Int) (Q : Nat → MO → Prop) (Q2 : Nat → MI → Prop) (i : Nat) (out : List Pc) (bo : Bx) (v : Int) (J : _) {E rv rhs rhv} (hE : EnvOK E Try.prog Try.f13 3 2 rv rhs rhv) (hL : (miL cs ds o n c p m d k i bo v Q2).OK 2) (hob : all ([SameK (atLp (lpIn (lp Try.f13 0) J 0)) (atLp (lpIn (lp Try.f13 0) J 0)), Enter (miL cs ds o n c p m d k i bo v Q2) 0 none [.slice (some (Addr.mk 1 p none)) m d, .int .i64 k, .slice none 0 0, .pointer (some (Addr.mk 38 0 none)), .slice (some (Addr.mk 0 o none)) n c, .int .i64 ((n : Int)), .int .i64 ((i : Int)), .slice (some (Addr.mk 1 p none)) m d, .int .i64 ((m : Int)), .int .i64 ((0 : Int))] [Blk.ro cs, Blk.ro ds, Blk.cells [.int .i64 bo.a0, .int .i64 bo.b0, .int .i64 bo.a1, .int .i64 bo.b1, .int .i64 bo.a2, .int .i64 bo.b2, .int .i64 bo.a3, .int .i64 bo.b3, .int .i64 bo.a4, .int .i64 bo.b4, .int .i64 v] 27] [(1, 1), (10, 38), (0, 0), (1, 1)], readPart Try.prog 27 cs (o + ((i : Int)).toNat * 11) = some (Value.agg (Array.mk [.int .i64 bo.a0, .int .i64 bo.b0, .int .i64 bo.a1, .int .i64 bo.b1, .int .i64 bo.a2, .int .i64 bo.b2, .int .i64 bo.a3, .int .i64 bo.b3, .int .i64 bo.a4, .int .i64 bo.b4, .int .i64 v])), (0 : Int) ≤ (i : Int) ∧ (i : Int) < (n : Int), decide ((↑i : Int) < (↑n : Int)) = true])) (hK : ∀ zz, (miL cs ds o n c p m d k i bo v Q2).inv 0 zz → ltO ((miL cs ds o n c p m d k i bo v Q2).mu 0 zz) none → Sat E (atLp (lpIn (lp Try.f13 0) J 0)) ((miL cs ds o n c p m d k i bo v Q2).st 0 zz)) : Sat E (inLp (lp Try.f13 0) J) ((moL cs ds o n c p m d k Q).st 0 ⟨i, out⟩) :=
 by_to (T := auto0 t_rmeetbox) (h := hints [(4, 0, {p := true}), (4, 1, {o := some (.agg ⟨bo.cs ++ [.int .i64 v]⟩)})]) (ws := [.b true, .stop]) (i0 := ⟨0, out⟩) hE hm (auto0_ok t_rmeetbox_ok) hL (by kernel_rfl) hob hK
theorem cB1 (cs ds : List Value) (o n c p m d : Nat) (k : Int) (Q : Nat → MO → Prop) (Q2 : Nat → MI → Prop) (i : Nat) (out : List Pc) (bo : Bx) (v : Int) (J : _) {E rv rhs rhv} (hE : EnvOK E Try.prog Try.f13 3 2 rv rhs rhv) (hL : (miL cs ds o n c p m d k i bo v Q2).OK 2) (hob : all ([SameK (atLp (lpIn (lp Try.f13 0) J 0)) (atLp (lpIn (lp Try.f13 0) J 0)), Enter (miL cs ds o n c p m d k i bo v Q2) 1 none [.slice (some (Addr.mk 1 p none)) m d, .int .i64 k, .slice (some (Addr.mk 13 0 none)) out.length Ev.mark, .pointer (some (Addr.mk 38 0 none)), .slice (some (Addr.mk 0 o none)) n c, .int .i64 ((n : Int)), .int .i64 ((i : Int)), .slice (some (Addr.mk 1 p none)) m d, .int .i64 ((m : Int)), .int .i64 ((0 : Int))] [Blk.ro cs, Blk.ro ds, Blk.cells [.int .i64 bo.a0, .int .i64 bo.b0, .int .i64 bo.a1, .int .i64 bo.b1, .int .i64 bo.a2, .int .i64 bo.b2, .int .i64 bo.a3, .int .i64 bo.b3, .int .i64 bo.a4, .int .i64 bo.b4, .int .i64 v] 27, Blk.vec (ePc.row out) 27 11] [(1, 1), (13, 13), (10, 38), (0, 0), (1, 1)], readPart Try.prog 27 cs (o + ((i : Int)).toNat * 11) = some (Value.agg (Array.mk [.int .i64 bo.a0, .int .i64 bo.b0, .int .i64 bo.a1, .int .i64 bo.b1, .int .i64 bo.a2, .int .i64 bo.b2, .int .i64 bo.a3, .int .i64 bo.b3, .int .i64 bo.a4, .int .i64 bo.b4, .int .i64 v])), (0 : Int) ≤ (i : Int) ∧ (i : Int) < (n : Int), decide ((↑i : Int) < (↑n : Int)) = true])) (hK : ∀ zz, (miL cs ds o n c p m d k i bo v Q2).inv 1 zz → ltO ((miL cs ds o n c p m d k i bo v Q2).mu 1 zz) none → Sat E (atLp (lpIn (lp Try.f13 0) J 0)) ((miL cs ds o n c p m d k i bo v Q2).st 1 zz)) : Sat E (inLp (lp Try.f13 0) J) ((moL cs ds o n c p m d k Q).st 1 ⟨i, out⟩) :=
 by_to (T := auto0 t_rmeetbox) (h := hints [(4, 0, {p := true}), (4, 1, {o := some (.agg ⟨bo.cs ++ [.int .i64 v]⟩)})]) (ws := [.b true, .stop]) (i0 := ⟨0, out⟩) hE hm (auto0_ok t_rmeetbox_ok) hL (by kernel_rfl) hob hK
theorem cK0 (cs ds : List Value) (o n c p m d : Nat) (k : Int) (Q : Nat → MI → Prop) (i j : Nat) (out : List Pc) (bo b2 : Bx) (v v2 : Int) (J0 : Act → World → Prop) (J : _) {E rv rhs rhv} (hE : EnvOK E Try.prog Try.f13 3 2 rv rhs rhv) (hL : (miL cs ds o n c p m d k i bo v Q).OK 2) (hob : all ([SameK (mkLp (lpIn (lp Try.f13 0) J0 0) J) (mkLp (lpIn (lp Try.f13 0) J0 0) J), Enter (miL cs ds o n c p m d k i bo v Q) 0 (some (m - j)) [.slice (some (Addr.mk 1 p none)) m d, .int .i64 k, .slice none 0 0, .pointer (some (Addr.mk 10 0 none)), .slice (some (Addr.mk 0 o none)) n c, .int .i64 ((n : Int)), .int .i64 ((i : Int)), .slice (some (Addr.mk 1 p none)) m d, .int .i64 ((m : Int)), .int .i64 (Int.ofNat j.succ)] [Blk.ro cs, Blk.ro ds, Blk.cells [.int .i64 bo.a0, .int .i64 bo.b0, .int .i64 bo.a1, .int .i64 bo.b1, .int .i64 bo.a2, .int .i64 bo.b2, .int .i64 bo.a3, .int .i64 bo.b3, .int .i64 bo.a4, .int .i64 bo.b4, .int .i64 v] 27] [(1, 1), (10, 10), (0, 0), (1, 1)], Value.int IntKind.i64 (IntKind.i64.wrap (Int.ofNat j.succ)) = .int .i64 (Int.ofNat j.succ), emptyB (mLo bo.a0 bo.b0 b2.a0 b2.b0) (mHi bo.a0 bo.b0 b2.a0 b2.b0) (mLo bo.a1 bo.b1 b2.a1 b2.b1) (mHi bo.a1 bo.b1 b2.a1 b2.b1) (mLo bo.a2 bo.b2 b2.a2 b2.b2) (mHi bo.a2 bo.b2 b2.a2 b2.b2) (mLo bo.a3 bo.b3 b2.a3 b2.b3) (mHi bo.a3 bo.b3 b2.a3 b2.b3) (mLo bo.a4 bo.b4 b2.a4 b2.b4) (mHi bo.a4 bo.b4 b2.a4 b2.b4) = true, readPart Try.prog 27 ds (p + ((j : Int)).toNat * 11) = some (Value.agg (Array.mk [.int .i64 b2.a0, .int .i64 b2.b0, .int .i64 b2.a1, .int .i64 b2.b1, .int .i64 b2.a2, .int .i64 b2.b2, .int .i64 b2.a3, .int .i64 b2.b3, .int .i64 b2.a4, .int .i64 b2.b4, .int .i64 v2])), (0 : Int) ≤ (j : Int) ∧ (j : Int) < (m : Int), decide ((↑j : Int) < (↑m : Int)) = true])) (hK : ∀ zz, (miL cs ds o n c p m d k i bo v Q).inv 0 zz → ltO ((miL cs ds o n c p m d k i bo v Q).mu 0 zz) (some (m - j)) → Sat E (mkLp (lpIn (lp Try.f13 0) J0 0) J) ((miL cs ds o n c p m d k i bo v Q).st 0 zz)) : Sat E (inLp (lpIn (lp Try.f13 0) J0 0) J) ((miL cs ds o n c p m d k i bo v Q).st 0 ⟨j, out⟩) :=
 by_to (T := auto0 t_rmeetbox) (h := hints [(7, 0, {p := true}), (7, 1, {o := some (.agg ⟨b2.cs ++ [.int .i64 v2]⟩)}), (13, 0, {v := some (.int .i64 ((j + 1 : Nat) : Int))})]) (ws := [.b true, .b true]) (i0 := ⟨j + 1, out⟩) hE hm (auto0_ok t_rmeetbox_ok) hL (by kernel_rfl) hob hK
theorem cK1 (cs ds : List Value) (o n c p m d : Nat) (k : Int) (Q : Nat → MI → Prop) (i j : Nat) (out : List Pc) (bo b2 : Bx) (v v2 : Int) (J0 : Act → World → Prop) (J : _) {E rv rhs rhv} (hE : EnvOK E Try.prog Try.f13 3 2 rv rhs rhv) (hL : (miL cs ds o n c p m d k i bo v Q).OK 2) (hob : all ([SameK (mkLp (lpIn (lp Try.f13 0) J0 0) J) (mkLp (lpIn (lp Try.f13 0) J0 0) J), Enter (miL cs ds o n c p m d k i bo v Q) 1 (some (m - j)) [.slice (some (Addr.mk 1 p none)) m d, .int .i64 k, .slice (some (Addr.mk 13 0 none)) out.length Ev.mark, .pointer (some (Addr.mk 10 0 none)), .slice (some (Addr.mk 0 o none)) n c, .int .i64 ((n : Int)), .int .i64 ((i : Int)), .slice (some (Addr.mk 1 p none)) m d, .int .i64 ((m : Int)), .int .i64 (Int.ofNat j.succ)] [Blk.ro cs, Blk.ro ds, Blk.cells [.int .i64 bo.a0, .int .i64 bo.b0, .int .i64 bo.a1, .int .i64 bo.b1, .int .i64 bo.a2, .int .i64 bo.b2, .int .i64 bo.a3, .int .i64 bo.b3, .int .i64 bo.a4, .int .i64 bo.b4, .int .i64 v] 27, Blk.vec (ePc.row out) 27 11] [(1, 1), (13, 13), (10, 10), (0, 0), (1, 1)], Value.int IntKind.i64 (IntKind.i64.wrap (Int.ofNat j.succ)) = .int .i64 (Int.ofNat j.succ), emptyB (mLo bo.a0 bo.b0 b2.a0 b2.b0) (mHi bo.a0 bo.b0 b2.a0 b2.b0) (mLo bo.a1 bo.b1 b2.a1 b2.b1) (mHi bo.a1 bo.b1 b2.a1 b2.b1) (mLo bo.a2 bo.b2 b2.a2 b2.b2) (mHi bo.a2 bo.b2 b2.a2 b2.b2) (mLo bo.a3 bo.b3 b2.a3 b2.b3) (mHi bo.a3 bo.b3 b2.a3 b2.b3) (mLo bo.a4 bo.b4 b2.a4 b2.b4) (mHi bo.a4 bo.b4 b2.a4 b2.b4) = true, readPart Try.prog 27 ds (p + ((j : Int)).toNat * 11) = some (Value.agg (Array.mk [.int .i64 b2.a0, .int .i64 b2.b0, .int .i64 b2.a1, .int .i64 b2.b1, .int .i64 b2.a2, .int .i64 b2.b2, .int .i64 b2.a3, .int .i64 b2.b3, .int .i64 b2.a4, .int .i64 b2.b4, .int .i64 v2])), (0 : Int) ≤ (j : Int) ∧ (j : Int) < (m : Int), decide ((↑j : Int) < (↑m : Int)) = true])) (hK : ∀ zz, (miL cs ds o n c p m d k i bo v Q).inv 1 zz → ltO ((miL cs ds o n c p m d k i bo v Q).mu 1 zz) (some (m - j)) → Sat E (mkLp (lpIn (lp Try.f13 0) J0 0) J) ((miL cs ds o n c p m d k i bo v Q).st 1 zz)) : Sat E (inLp (lpIn (lp Try.f13 0) J0 0) J) ((miL cs ds o n c p m d k i bo v Q).st 1 ⟨j, out⟩) :=
 by_to (T := auto0 t_rmeetbox) (h := hints [(7, 0, {p := true}), (7, 1, {o := some (.agg ⟨b2.cs ++ [.int .i64 v2]⟩)}), (13, 0, {v := some (.int .i64 ((j + 1 : Nat) : Int))})]) (ws := [.b true, .b true]) (i0 := ⟨j + 1, out⟩) hE hm (auto0_ok t_rmeetbox_ok) hL (by kernel_rfl) hob hK
theorem cF0 (cs ds : List Value) (o n c p m d : Nat) (k : Int) (Q : Nat → MI → Prop) (i j : Nat) (out : List Pc) (bo b2 : Bx) (v v2 : Int) (J0 : Act → World → Prop) (J : _) {E : Env} (hE : EnvOK E Try.prog Try.f13 3 2 (.tuple ⟨[.slice none 0 0, .bool false]⟩) [] []) (hob : all ([Back (Value.tuple (Array.mk [.slice none 0 0, .bool false])) (Value.tuple (Array.mk [.slice none 0 0, .bool false])) [] [] [], decide ((↑0 : Int) ≥ k) = true, emptyB (mLo bo.a0 bo.b0 b2.a0 b2.b0) (mHi bo.a0 bo.b0 b2.a0 b2.b0) (mLo bo.a1 bo.b1 b2.a1 b2.b1) (mHi bo.a1 bo.b1 b2.a1 b2.b1) (mLo bo.a2 bo.b2 b2.a2 b2.b2) (mHi bo.a2 bo.b2 b2.a2 b2.b2) (mLo bo.a3 bo.b3 b2.a3 b2.b3) (mHi bo.a3 bo.b3 b2.a3 b2.b3) (mLo bo.a4 bo.b4 b2.a4 b2.b4) (mHi bo.a4 bo.b4 b2.a4 b2.b4) = false, readPart Try.prog 27 ds (p + ((j : Int)).toNat * 11) = some (Value.agg (Array.mk [.int .i64 b2.a0, .int .i64 b2.b0, .int .i64 b2.a1, .int .i64 b2.b1, .int .i64 b2.a2, .int .i64 b2.b2, .int .i64 b2.a3, .int .i64 b2.b3, .int .i64 b2.a4, .int .i64 b2.b4, .int .i64 v2])), (0 : Int) ≤ (j : Int) ∧ (j : Int) < (m : Int), decide ((↑j : Int) < (↑m : Int)) = true])) : Sat E (inLp (lpIn (lp Try.f13 0) J0 0) J) ((miL cs ds o n c p m d k i bo v Q).st 0 ⟨j, out⟩) :=
 by_ret (T := auto0 t_rmeetbox) (h := hints [(7, 0, {p := true}), (7, 1, {o := some (.agg ⟨b2.cs ++ [.int .i64 v2]⟩)})]) (ws := [.b true, .b false, .b true]) (nx' := 2) hE hm (auto0_ok t_rmeetbox_ok) (by omega) (by simp) (by simp) (by kernel_rfl) hob
theorem cF1 (cs ds : List Value) (o n c p m d : Nat) (k : Int) (Q : Nat → MI → Prop) (i j : Nat) (out : List Pc) (bo b2 : Bx) (v v2 : Int) (J0 : Act → World → Prop) (J : _) {E : Env} (hE : EnvOK E Try.prog Try.f13 3 2 (.tuple ⟨[.slice none 0 0, .bool false]⟩) [] []) (hob : all ([Back (Value.tuple (Array.mk [.slice none 0 0, .bool false])) (Value.tuple (Array.mk [.slice none 0 0, .bool false])) [] [] [], decide ((↑out.length : Int) ≥ k) = true, emptyB (mLo bo.a0 bo.b0 b2.a0 b2.b0) (mHi bo.a0 bo.b0 b2.a0 b2.b0) (mLo bo.a1 bo.b1 b2.a1 b2.b1) (mHi bo.a1 bo.b1 b2.a1 b2.b1) (mLo bo.a2 bo.b2 b2.a2 b2.b2) (mHi bo.a2 bo.b2 b2.a2 b2.b2) (mLo bo.a3 bo.b3 b2.a3 b2.b3) (mHi bo.a3 bo.b3 b2.a3 b2.b3) (mLo bo.a4 bo.b4 b2.a4 b2.b4) (mHi bo.a4 bo.b4 b2.a4 b2.b4) = false, readPart Try.prog 27 ds (p + ((j : Int)).toNat * 11) = some (Value.agg (Array.mk [.int .i64 b2.a0, .int .i64 b2.b0, .int .i64 b2.a1, .int .i64 b2.b1, .int .i64 b2.a2, .int .i64 b2.b2, .int .i64 b2.a3, .int .i64 b2.b3, .int .i64 b2.a4, .int .i64 b2.b4, .int .i64 v2])), (0 : Int) ≤ (j : Int) ∧ (j : Int) < (m : Int), decide ((↑j : Int) < (↑m : Int)) = true])) : Sat E (inLp (lpIn (lp Try.f13 0) J0 0) J) ((miL cs ds o n c p m d k i bo v Q).st 1 ⟨j, out⟩) :=
 by_ret (T := auto0 t_rmeetbox) (h := hints [(7, 0, {p := true}), (7, 1, {o := some (.agg ⟨b2.cs ++ [.int .i64 v2]⟩)})]) (ws := [.b true, .b false, .b true]) (nx' := 2) hE hm (auto0_ok t_rmeetbox_ok) (by omega) (by simp) (by simp) (by kernel_rfl) hob
theorem cA0 (cs ds : List Value) (o n c p m d : Nat) (k : Int) (Q : Nat → MI → Prop) (i j : Nat) (out out2 : List Pc) (bo b2 : Bx) (v v2 s : Int) (J0 : Act → World → Prop) (J : _) {E rv rhs rhv} (hE : EnvOK E Try.prog Try.f13 3 2 rv rhs rhv) (hL : (miL cs ds o n c p m d k i bo v Q).OK 2) (hob : all ([SameK (mkLp (lpIn (lp Try.f13 0) J0 0) J) (mkLp (lpIn (lp Try.f13 0) J0 0) J), Enter (miL cs ds o n c p m d k i bo v Q) 1 (some (m - j)) [.slice (some (Addr.mk 1 p none)) m d, .int .i64 k, .slice (some (Addr.mk 230 0 none)) 1 Ev.mark, .pointer (some (Addr.mk 10 0 none)), .slice (some (Addr.mk 0 o none)) n c, .int .i64 ((n : Int)), .int .i64 ((i : Int)), .slice (some (Addr.mk 1 p none)) m d, .int .i64 ((m : Int)), .int .i64 (Int.ofNat j.succ)] [Blk.ro cs, Blk.ro ds, Blk.cells [.int .i64 bo.a0, .int .i64 bo.b0, .int .i64 bo.a1, .int .i64 bo.b1, .int .i64 bo.a2, .int .i64 bo.b2, .int .i64 bo.a3, .int .i64 bo.b3, .int .i64 bo.a4, .int .i64 bo.b4, .int .i64 v] 27, Blk.vec (ePc.row out2) 27 11] [(1, 1), (13, 230), (10, 10), (0, 0), (1, 1)], Value.int IntKind.i64 (IntKind.i64.wrap (Int.ofNat j.succ)) = .int .i64 (Int.ofNat j.succ), AppOK none 0 0 11 88 1 [.int .i64 (mLo bo.a0 bo.b0 b2.a0 b2.b0), .int .i64 (mHi bo.a0 bo.b0 b2.a0 b2.b0), .int .i64 (mLo bo.a1 bo.b1 b2.a1 b2.b1), .int .i64 (mHi bo.a1 bo.b1 b2.a1 b2.b1), .int .i64 (mLo bo.a2 bo.b2 b2.a2 b2.b2), .int .i64 (mHi bo.a2 bo.b2 b2.a2 b2.b2), .int .i64 (mLo bo.a3 bo.b3 b2.a3 b2.b3), .int .i64 (mHi bo.a3 bo.b3 b2.a3 b2.b3), .int .i64 (mLo bo.a4 bo.b4 b2.a4 b2.b4), .int .i64 (mHi bo.a4 bo.b4 b2.a4 b2.b4), .int .i64 s] 0 (ePc.row out2), Value.int IntKind.i64 (IntKind.i64.wrap (v + v2)) = .int .i64 s, decide ((↑0 : Int) ≥ k) = false, emptyB (mLo bo.a0 bo.b0 b2.a0 b2.b0) (mHi bo.a0 bo.b0 b2.a0 b2.b0) (mLo bo.a1 bo.b1 b2.a1 b2.b1) (mHi bo.a1 bo.b1 b2.a1 b2.b1) (mLo bo.a2 bo.b2 b2.a2 b2.b2) (mHi bo.a2 bo.b2 b2.a2 b2.b2) (mLo bo.a3 bo.b3 b2.a3 b2.b3) (mHi bo.a3 bo.b3 b2.a3 b2.b3) (mLo bo.a4 bo.b4 b2.a4 b2.b4) (mHi bo.a4 bo.b4 b2.a4 b2.b4) = false, readPart Try.prog 27 ds (p + ((j : Int)).toNat * 11) = some (Value.agg (Array.mk [.int .i64 b2.a0, .int .i64 b2.b0, .int .i64 b2.a1, .int .i64 b2.b1, .int .i64 b2.a2, .int .i64 b2.b2, .int .i64 b2.a3, .int .i64 b2.b3, .int .i64 b2.a4, .int .i64 b2.b4, .int .i64 v2])), (0 : Int) ≤ (j : Int) ∧ (j : Int) < (m : Int), decide ((↑j : Int) < (↑m : Int)) = true])) (hK : ∀ zz, (miL cs ds o n c p m d k i bo v Q).inv 1 zz → ltO ((miL cs ds o n c p m d k i bo v Q).mu 1 zz) (some (m - j)) → Sat E (mkLp (lpIn (lp Try.f13 0) J0 0) J) ((miL cs ds o n c p m d k i bo v Q).st 1 zz)) : Sat E (inLp (lpIn (lp Try.f13 0) J0 0) J) ((miL cs ds o n c p m d k i bo v Q).st 0 ⟨j, out⟩) :=
 by_to (T := auto0 t_rmeetbox) (h := hints [(7, 0, {p := true}), (7, 1, {o := some (.agg ⟨b2.cs ++ [.int .i64 v2]⟩)}), (12, 6, {v := some (.int .i64 s)}), (12, 9, {c := some (ePc.row out2)}), (13, 0, {v := some (.int .i64 ((j + 1 : Nat) : Int))})]) (ws := [.b true, .b false, .b false]) (i0 := ⟨j + 1, out2⟩) hE hm (auto0_ok t_rmeetbox_ok) hL (by kernel_rfl) hob hK
theorem cA1 (cs ds : List Value) (o n c p m d : Nat) (k : Int) (Q : Nat → MI → Prop) (i j : Nat) (out out2 : List Pc) (bo b2 : Bx) (v v2 s : Int) (J0 : Act → World → Prop) (J : _) {E rv rhs rhv} (hE : EnvOK E Try.prog Try.f13 3 2 rv rhs rhv) (hL : (miL cs ds o n c p m d k i bo v Q).OK 2) (hob : all ([SameK (mkLp (lpIn (lp Try.f13 0) J0 0) J) (mkLp (lpIn (lp Try.f13 0) J0 0) J), Enter (miL cs ds o n c p m d k i bo v Q) 1 (some (m - j)) [.slice (some (Addr.mk 1 p none)) m d, .int .i64 k, .slice (some (Addr.mk 230 0 none)) (out.length + 1) Ev.mark, .pointer (some (Addr.mk 10 0 none)), .slice (some (Addr.mk 0 o none)) n c, .int .i64 ((n : Int)), .int .i64 ((i : Int)), .slice (some (Addr.mk 1 p none)) m d, .int .i64 ((m : Int)), .int .i64 (Int.ofNat j.succ)] [Blk.ro cs, Blk.ro ds, Blk.cells [.int .i64 bo.a0, .int .i64 bo.b0, .int .i64 bo.a1, .int .i64 bo.b1, .int .i64 bo.a2, .int .i64 bo.b2, .int .i64 bo.a3, .int .i64 bo.b3, .int .i64 bo.a4, .int .i64 bo.b4, .int .i64 v] 27, Blk.vec (ePc.row out2) 27 11] [(1, 1), (13, 230), (10, 10), (0, 0), (1, 1)], Value.int IntKind.i64 (IntKind.i64.wrap (Int.ofNat j.succ)) = .int .i64 (Int.ofNat j.succ), AppOK (some (Blk.vec (ePc.row out) 27 11)) out.length Ev.mark 11 88 1 [.int .i64 (mLo bo.a0 bo.b0 b2.a0 b2.b0), .int .i64 (mHi bo.a0 bo.b0 b2.a0 b2.b0), .int .i64 (mLo bo.a1 bo.b1 b2.a1 b2.b1), .int .i64 (mHi bo.a1 bo.b1 b2.a1 b2.b1), .int .i64 (mLo bo.a2 bo.b2 b2.a2 b2.b2), .int .i64 (mHi bo.a2 bo.b2 b2.a2 b2.b2), .int .i64 (mLo bo.a3 bo.b3 b2.a3 b2.b3), .int .i64 (mHi bo.a3 bo.b3 b2.a3 b2.b3), .int .i64 (mLo bo.a4 bo.b4 b2.a4 b2.b4), .int .i64 (mHi bo.a4 bo.b4 b2.a4 b2.b4), .int .i64 s] 0 (ePc.row out2), Value.int IntKind.i64 (IntKind.i64.wrap (v + v2)) = .int .i64 s, decide ((↑out.length : Int) ≥ k) = false, emptyB (mLo bo.a0 bo.b0 b2.a0 b2.b0) (mHi bo.a0 bo.b0 b2.a0 b2.b0) (mLo bo.a1 bo.b1 b2.a1 b2.b1) (mHi bo.a1 bo.b1 b2.a1 b2.b1) (mLo bo.a2 bo.b2 b2.a2 b2.b2) (mHi bo.a2 bo.b2 b2.a2 b2.b2) (mLo bo.a3 bo.b3 b2.a3 b2.b3) (mHi bo.a3 bo.b3 b2.a3 b2.b3) (mLo bo.a4 bo.b4 b2.a4 b2.b4) (mHi bo.a4 bo.b4 b2.a4 b2.b4) = false, readPart Try.prog 27 ds (p + ((j : Int)).toNat * 11) = some (Value.agg (Array.mk [.int .i64 b2.a0, .int .i64 b2.b0, .int .i64 b2.a1, .int .i64 b2.b1, .int .i64 b2.a2, .int .i64 b2.b2, .int .i64 b2.a3, .int .i64 b2.b3, .int .i64 b2.a4, .int .i64 b2.b4, .int .i64 v2])), (0 : Int) ≤ (j : Int) ∧ (j : Int) < (m : Int), decide ((↑j : Int) < (↑m : Int)) = true])) (hK : ∀ zz, (miL cs ds o n c p m d k i bo v Q).inv 1 zz → ltO ((miL cs ds o n c p m d k i bo v Q).mu 1 zz) (some (m - j)) → Sat E (mkLp (lpIn (lp Try.f13 0) J0 0) J) ((miL cs ds o n c p m d k i bo v Q).st 1 zz)) : Sat E (inLp (lpIn (lp Try.f13 0) J0 0) J) ((miL cs ds o n c p m d k i bo v Q).st 1 ⟨j, out⟩) :=
 by_to (T := auto0 t_rmeetbox) (h := hints [(7, 0, {p := true}), (7, 1, {o := some (.agg ⟨b2.cs ++ [.int .i64 v2]⟩)}), (12, 6, {v := some (.int .i64 s)}), (12, 9, {c := some (ePc.row out2)}), (13, 0, {v := some (.int .i64 ((j + 1 : Nat) : Int))})]) (ws := [.b true, .b false, .b false]) (i0 := ⟨j + 1, out2⟩) hE hm (auto0_ok t_rmeetbox_ok) hL (by kernel_rfl) hob hK
theorem cO0 (cs ds : List Value) (o n c p m d : Nat) (k : Int) (Q : Nat → MI → Prop) (Q1 : Nat → MO → Prop) (i j : Nat) (out : List Pc) (bo : Bx) (v : Int) (J0 : Act → World → Prop) (J : _) {E rv rhs rhv} (hE : EnvOK E Try.prog Try.f13 3 2 rv rhs rhv) (hL : (moL cs ds o n c p m d k Q1).OK 2) (hob : all ([SameK (mkLp (lp Try.f13 0) J0) (mkLp (lp Try.f13 0) J0), Enter (moL cs ds o n c p m d k Q1) 0 (some (n - i)) [.slice (some (Addr.mk 1 p none)) m d, .int .i64 k, .slice none 0 0, .slice (some (Addr.mk 0 o none)) n c, .int .i64 ((n : Int)), .int .i64 (Int.ofNat i.succ)] [Blk.ro cs, Blk.ro ds] [(1, 1), (0, 0)], Value.int IntKind.i64 (IntKind.i64.wrap (Int.ofNat i.succ)) = .int .i64 (Int.ofNat i.succ), decide ((↑j : Int) < (↑m : Int)) = false])) (hK : ∀ zz, (moL cs ds o n c p m d k Q1).inv 0 zz → ltO ((moL cs ds o n c p m d k Q1).mu 0 zz) (some (n - i)) → Sat E (mkLp (lp Try.f13 0) J0) ((moL cs ds o n c p m d k Q1).st 0 zz)) : Sat E (inLp (lpIn (lp Try.f13 0) J0 0) J) ((miL cs ds o n c p m d k i bo v Q).st 0 ⟨j, out⟩) :=
 by_to (T := auto0 t_rmeetbox) (h := hints [(14, 0, {v := some (.int .i64 ((i + 1 : Nat) : Int))})]) (ws := [.b false]) (i0 := ⟨i + 1, out⟩) hE hm (auto0_ok t_rmeetbox_ok) hL (by kernel_rfl) hob hK
theorem cO1 (cs ds : List Value) (o n c p m d : Nat) (k : Int) (Q : Nat → MI → Prop) (Q1 : Nat → MO → Prop) (i j : Nat) (out : List Pc) (bo : Bx) (v : Int) (J0 : Act → World → Prop) (J : _) {E rv rhs rhv} (hE : EnvOK E Try.prog Try.f13 3 2 rv rhs rhv) (hL : (moL cs ds o n c p m d k Q1).OK 2) (hob : all ([SameK (mkLp (lp Try.f13 0) J0) (mkLp (lp Try.f13 0) J0), Enter (moL cs ds o n c p m d k Q1) 1 (some (n - i)) [.slice (some (Addr.mk 1 p none)) m d, .int .i64 k, .slice (some (Addr.mk 13 0 none)) out.length Ev.mark, .slice (some (Addr.mk 0 o none)) n c, .int .i64 ((n : Int)), .int .i64 (Int.ofNat i.succ)] [Blk.ro cs, Blk.ro ds, Blk.vec (ePc.row out) 27 11] [(1, 1), (13, 13), (0, 0)], Value.int IntKind.i64 (IntKind.i64.wrap (Int.ofNat i.succ)) = .int .i64 (Int.ofNat i.succ), decide ((↑j : Int) < (↑m : Int)) = false])) (hK : ∀ zz, (moL cs ds o n c p m d k Q1).inv 1 zz → ltO ((moL cs ds o n c p m d k Q1).mu 1 zz) (some (n - i)) → Sat E (mkLp (lp Try.f13 0) J0) ((moL cs ds o n c p m d k Q1).st 1 zz)) : Sat E (inLp (lpIn (lp Try.f13 0) J0 0) J) ((miL cs ds o n c p m d k i bo v Q).st 1 ⟨j, out⟩) :=
 by_to (T := auto0 t_rmeetbox) (h := hints [(14, 0, {v := some (.int .i64 ((i + 1 : Nat) : Int))})]) (ws := [.b false]) (i0 := ⟨i + 1, out⟩) hE hm (auto0_ok t_rmeetbox_ok) hL (by kernel_rfl) hob hK
end Go.Proofs.Ythbaccmhdffjdaa.Mt
namespace Go.Proofs.Ythbaccmhdffjdaa.Mt
open Go Go.RowKit Ev Within BoxF Mm Mt
inductive MR where
 | few
 | nil
 | row (l : List Pc)
def MR.opt : MR → Option (List Pc)
 | .few => none
 | .nil => some []
 | .row l => some l
def MR.ok : MR → Prop
 | .row l => l ≠ []
 | _ => True
def mtV : MR → Value
 | .few => .tuple ⟨[.slice none 0 0, .bool false]⟩
 | .nil => .tuple ⟨[.slice none 0 0, .bool true]⟩
 | .row l => .tuple ⟨[.slice (some ⟨100, 0, none⟩) l.length mk, .bool true]⟩
def mtH : MR → List Blk
 | .row l => [.vec (ePc.row l) 27 11]
 | _ => []
def mtN : MR → List Nat
 | .row l => [100]
 | _ => []
theorem MR.of (o : Option (List Pc)) : ∃ R : MR, o = R.opt ∧ R.ok := match o with
 | none => ⟨.few, rfl, trivial⟩
 | some [] => ⟨.nil, rfl, trivial⟩
 | some (x :: l) => ⟨.row (x :: l), rfl, by simp [MR.ok]⟩
theorem MR.is_few {R : MR} (h : none = R.opt) : R = .few := by cases R <;> simp [MR.opt] at h ⊢
theorem MR.is_nil {R : MR} (h : some [] = R.opt) (h2 : R.ok) : R = .nil := by cases R <;> simp [MR.opt, MR.ok] at h h2 ⊢; exact h2 h
theorem MR.is_row {R : MR} {l : List Pc} (h : some l = R.opt) (h2 : l ≠ []) : R = .row l := by cases R <;> simp [MR.opt] at h ⊢ <;> first | exact absurd h h2 | exact h.symm
def shp (b : Nat) (out : List Pc) : Prop := (b = 0 ∧ out = []) ∨ (b = 1 ∧ out ≠ [])
theorem shp_app {out : List Pc} {x : Pc} : shp 1 (out ++ [x]) := Or.inr ⟨rfl, by simp⟩
theorem mtI_cons (k : Int) (x y : Pc) (out ys : List Pc) : mtI k x out (y :: ys) = if bxE (mBx x.box y.box) = true then mtI k x out ys else if (out.length : Int) ≥ k then none else mtI k x (out ++ [mPc x y]) ys := rfl
theorem mtO_cons (k : Int) (b out : List Pc) (x : Pc) (xs : List Pc) : mtO k b out (x :: xs) = (mtI k x out b).bind fun o => mtO k b o xs := rfl
theorem drop_get {α : Type} {l : List α} {i : Nat} {x : α} (h : l[i]? = some x) : l.drop i = x :: l.drop (i + 1) := by
 obtain ⟨hi, he⟩ := List.getElem?_eq_some_iff.1 h
 rw [List.drop_eq_getElem_cons hi, he]
theorem c_spec (cs ds : List Value) (o n c p m d : Nat) (k : Int) (hra : ePc.Row cs o n) (hrb : ePc.Row ds p m) (h1 : ∀ x ∈ cs, leafG x = true) (h2 : ∀ x ∈ ds, leafG x = true) (hn : n ≤ 100000) (hm : m ≤ 100000) (hk : k ≤ 100000) (R : MR) (hR : meetL (ePc.list cs o n) (ePc.list ds p m) k = R.opt) (hok : R.ok) :
  CallSpec Try.prog 13 [.slice (some ⟨0, o, none⟩) n c, .slice (some ⟨1, p, none⟩) m d, .int .i64 k] (roRows [cs, ds]) 2 (mtV R) (assocN (mtN R) (mtH R)) := by
 refine spec_of_sat Try.func13 rfl fun E hE => ?_
 have hla : (ePc.list cs o n).length = n := Elt.list_len _ _ _
 have hlb : (ePc.list ds p m).length = m := Elt.list_len _ _ _
 have geta : ∀ i y, (ePc.list cs o n)[i]? = some y → readPart Try.prog 27 cs (o + (Int.ofNat i).toNat * 11) = some (.agg ⟨y.box.cs ++ [.int .i64 y.val]⟩) := fun i y hy => hra.read (P := Try.prog) (ty := 27) (by kernel_rfl) (by kernel_rfl) (i := i) (x := y) hy
 have getb : ∀ i y, (ePc.list ds p m)[i]? = some y → readPart Try.prog 27 ds (p + (Int.ofNat i).toNat * 11) = some (.agg ⟨y.box.cs ++ [.int .i64 y.val]⟩) := fun i y hy => hrb.read (P := Try.prog) (ty := 27) (by kernel_rfl) (by kernel_rfl) (i := i) (x := y) hy
 generalize ePc.list cs o n = A at hla geta hR
 generalize ePc.list ds p m = B at hlb getb hR
 have okO := fun Q => moL_ok cs ds o n c p m d k Q h1 h2
 have okI := fun i bo v Q => miL_ok cs ds o n c p m d k i bo v Q h1 h2
 have rnr1 : ∀ f : Nat → Nat, Blk.rnB f (.ro cs) = .ro cs := fun f => Blk.plain.rnB (b := .ro cs) h1 f
 have rnr2 : ∀ f : Nat → Nat, Blk.rnB f (.ro ds) = .ro ds := fun f => Blk.plain.rnB (b := .ro ds) h2 f
 have rnc : ∀ (f : Nat → Nat) (x : Bx) (v : Int), Blk.rnB f (.cells (x.cs ++ [Value.int .i64 v]) 27) = .cells (x.cs ++ [Value.int .i64 v]) 27 := fun f x v => Blk.plain.rnB (b := .cells _ 27) (ePc.pl ⟨x, v⟩) f
 have rnv : ∀ (f : Nat → Nat) (l : List Pc), Blk.rnB f (.vec (ePc.row l) 27 11) = .vec (ePc.row l) 27 11 := fun f l => Blk.plain.rnB (b := .vec (ePc.row l) 27 11) (Elt.row_pl _) f
 let Q : Nat → MO → Prop := fun b s => s.i ≤ n ∧ shp b s.out ∧ s.out.length ≤ 100000 ∧ mtO k B s.out (A.drop s.i) = R.opt
 have bd : ∀ out : List Pc, ¬ ((out.length : Int) ≥ k) → out.length + 1 ≤ 100000 := fun out h => by omega
 refine cIn cs ds o n c p m d k Q hE (okO Q) ⟨rfl, ⟨⟨0, []⟩, ⟨Nat.zero_le _, Or.inl ⟨rfl, rfl⟩, Nat.zero_le _, hR⟩, trivial, rfl, by simp only [moL, List.map_cons, List.map_nil, rnr1, rnr2]⟩, trivial⟩ fun zz hz _ => by_loop (moL cs ds o n c p m d k Q) (lp Try.f13 0) ?_ 0 zz hz
 rintro b ⟨i, out⟩ hinv J hJ
 obtain ⟨k1, k2, k3, k4⟩ : i ≤ n ∧ shp b out ∧ out.length ≤ 100000 ∧ mtO k B out (A.drop i) = R.opt := hinv
 show Sat E (inLp (lp Try.f13 0) J) ((moL cs ds o n c p m d k Q).st b ⟨i, out⟩)
 by_cases hin : i < n
 ·have hlt : decide ((i : Int) < (n : Int)) = true := decide_eq_true (by omega)
  obtain ⟨x, hx⟩ : ∃ x, A[i]? = some x := ⟨_, List.getElem?_eq_getElem (by omega)⟩
  rw [drop_get hx, mtO_cons] at k4
  let Q2 : Nat → MI → Prop := fun b s => s.j ≤ m ∧ shp b s.out ∧ s.out.length ≤ 100000 ∧ ((mtI k x s.out (B.drop s.j)).bind fun o => mtO k B o (A.drop (i + 1))) = R.opt
  have hx0 := geta i x hx
  have hix : (0 : Int) ≤ (i : Int) ∧ (i : Int) < (n : Int) := ⟨Int.natCast_nonneg _, Int.ofNat_lt.2 hin⟩
  have inner : ∀ b zz, Q2 b zz → Sat E (atLp (lpIn (lp Try.f13 0) J 0)) ((miL cs ds o n c p m d k i x.box x.val Q2).st b zz) := by
   intro b0 zz0 hz0
   refine by_loop (miL cs ds o n c p m d k i x.box x.val Q2) (lpIn (lp Try.f13 0) J 0) ?_ b0 zz0 hz0
   rintro b2 ⟨j, out⟩ hinv J2 hJ2
   obtain ⟨q1, q2, q3, q4⟩ : j ≤ m ∧ shp b2 out ∧ out.length ≤ 100000 ∧ ((mtI k x out (B.drop j)).bind fun o => mtO k B o (A.drop (i + 1))) = R.opt := hinv
   show Sat E (inLp (lpIn (lp Try.f13 0) J 0) J2) ((miL cs ds o n c p m d k i x.box x.val Q2).st b2 ⟨j, out⟩)
   have hJm : ∀ b' zz, (miL cs ds o n c p m d k i x.box x.val Q2).inv b' zz → ltO ((miL cs ds o n c p m d k i x.box x.val Q2).mu b' zz) (some (m - j)) → Sat E (mkLp (lpIn (lp Try.f13 0) J 0) J2) ((miL cs ds o n c p m d k i x.box x.val Q2).st b' zz) := fun b' zz g1 g2 => hJ2 b' zz g1 g2
   by_cases hjm : j < m
   ·have hlt2 : decide ((j : Int) < (m : Int)) = true := decide_eq_true (by omega)
    obtain ⟨y, hy⟩ : ∃ y, B[j]? = some y := ⟨_, List.getElem?_eq_getElem (by omega)⟩
    have hy0 := getb j y hy
    have hjx : (0 : Int) ≤ (j : Int) ∧ (j : Int) < (m : Int) := ⟨Int.natCast_nonneg _, Int.ofNat_lt.2 hjm⟩
    have hs := i64_succ (i := j) (by omega)
    rw [drop_get hy, mtI_cons] at q4
    by_cases he : bxE (mBx x.box y.box) = true
    ·rw [if_pos he] at q4
     rcases q2 with ⟨rfl, rfl⟩ | ⟨rfl, q2⟩
     ·exact cK0 cs ds o n c p m d k Q2 i j [] x.box y.box x.val y.val J J2 hE (okI _ _ _ _) ⟨rfl, ⟨⟨j + 1, []⟩, ⟨hjm, Or.inl ⟨rfl, rfl⟩, q3, q4⟩, (by show m - (j + 1) < m - j; omega), rfl, by simp only [miL, List.map_cons, List.map_nil, rnr1, rnr2, rnc]; rfl⟩, hs, he, hy0, hjx, hlt2, trivial⟩ (hJm 0)
     ·exact cK1 cs ds o n c p m d k Q2 i j out x.box y.box x.val y.val J J2 hE (okI _ _ _ _) ⟨rfl, ⟨⟨j + 1, out⟩, ⟨hjm, Or.inr ⟨rfl, q2⟩, q3, q4⟩, (by show m - (j + 1) < m - j; omega), rfl, by simp only [miL, List.map_cons, List.map_nil, rnr1, rnr2, rnc, rnv]; rfl⟩, hs, he, hy0, hjx, hlt2, trivial⟩ (hJm 1)
    ·rw [if_neg he] at q4
     have he' : bxE (mBx x.box y.box) = false := by simpa using he
     by_cases hf : (out.length : Int) ≥ k
     ·rw [if_pos hf] at q4
      obtain rfl := MR.is_few q4
      rcases q2 with ⟨rfl, rfl⟩ | ⟨rfl, q2⟩
      ·exact cF0 cs ds o n c p m d k Q2 i j [] x.box y.box x.val y.val J J2 hE ⟨⟨rfl, rfl⟩, decide_eq_true hf, he', hy0, hjx, hlt2, trivial⟩
      ·exact cF1 cs ds o n c p m d k Q2 i j out x.box y.box x.val y.val J J2 hE ⟨⟨rfl, rfl⟩, decide_eq_true hf, he', hy0, hjx, hlt2, trivial⟩
     ·rw [if_neg hf] at q4
      have hb := bd out hf
      have q5 : Q2 1 ⟨j + 1, out ++ [mPc x y]⟩ := ⟨hjm, shp_app, (by simp; omega), q4⟩
      have hlen : (out ++ [mPc x y]).length = out.length + 1 := by simp
      rcases q2 with ⟨rfl, rfl⟩ | ⟨rfl, q2⟩
      ·exact cA0 cs ds o n c p m d k Q2 i j [] ([] ++ [mPc x y]) x.box y.box x.val y.val (mPc x y).val J J2 hE (okI _ _ _ _) ⟨rfl, ⟨⟨j + 1, [] ++ [mPc x y]⟩, q5, (by show m - (j + 1) < m - j; omega), rfl, by simp only [miL, List.map_cons, List.map_nil, rnr1, rnr2, rnc, rnv]; rfl⟩, hs, appOK_nil (e := ePc) (new := [mPc x y]) rfl rfl rfl rfl (by simp) (by simp) (by simp), rfl, decide_eq_false hf, he', hy0, hjx, hlt2, trivial⟩ (hJm 1)
      ·exact cA1 cs ds o n c p m d k Q2 i j out (out ++ [mPc x y]) x.box y.box x.val y.val (mPc x y).val J J2 hE (okI _ _ _ _) ⟨rfl, ⟨⟨j + 1, out ++ [mPc x y]⟩, q5, (by show m - (j + 1) < m - j; omega), (by simp [miL, muV]; repeat' (first | exact rfl | refine ⟨rfl, ?_⟩)), by simp only [miL, List.map_cons, List.map_nil, rnr1, rnr2, rnc, rnv]; rfl⟩, hs, appOK (e := ePc) (L := out) (new := [mPc x y]) rfl rfl rfl rfl (Nat.le_refl _) (by simp) (by decide) (by omega) (by omega), rfl, decide_eq_false hf, he', hy0, hjx, hlt2, trivial⟩ (hJm 1)
   ·have hlt2 : decide ((j : Int) < (m : Int)) = false := decide_eq_false (by omega)
    have hdr : B.drop j = [] := List.drop_eq_nil_of_le (by omega)
    rw [hdr] at q4
    have q4 : mtO k B out (A.drop (i + 1)) = R.opt := q4
    have hs := i64_succ (i := i) (by omega)
    rcases q2 with ⟨rfl, rfl⟩ | ⟨rfl, q2⟩
    ·exact cO0 cs ds o n c p m d k Q2 Q i j [] x.box x.val J J2 hE (okO _) ⟨rfl, ⟨⟨i + 1, []⟩, ⟨hin, Or.inl ⟨rfl, rfl⟩, q3, q4⟩, (by show n - (i + 1) < n - i; omega), rfl, by simp only [moL, List.map_cons, List.map_nil, rnr1, rnr2]⟩, hs, hlt2, trivial⟩ fun zz g1 g2 => hJ 0 zz g1 (by have : n - zz.i < n - i := g2; exact this)
    ·exact cO1 cs ds o n c p m d k Q2 Q i j out x.box x.val J J2 hE (okO _) ⟨rfl, ⟨⟨i + 1, out⟩, ⟨hin, Or.inr ⟨rfl, q2⟩, q3, q4⟩, (by show n - (i + 1) < n - i; omega), rfl, by simp only [moL, List.map_cons, List.map_nil, rnr1, rnr2, rnv]⟩, hs, hlt2, trivial⟩ fun zz g1 g2 => hJ 1 zz g1 (by have : n - zz.i < n - i := g2; exact this)
  rcases k2 with ⟨rfl, rfl⟩ | ⟨rfl, k2⟩
  ·exact cB0 cs ds o n c p m d k Q Q2 i [] x.box x.val J hE (okI _ _ _ _) ⟨rfl, ⟨⟨0, []⟩, ⟨Nat.zero_le _, Or.inl ⟨rfl, rfl⟩, k3, k4⟩, trivial, rfl, by simp only [miL, List.map_cons, List.map_nil, rnr1, rnr2, rnc]; rfl⟩, hx0, hix, hlt, trivial⟩ fun zz hz _ => inner 0 zz hz
  ·exact cB1 cs ds o n c p m d k Q Q2 i out x.box x.val J hE (okI _ _ _ _) ⟨rfl, ⟨⟨0, out⟩, ⟨Nat.zero_le _, Or.inr ⟨rfl, k2⟩, k3, k4⟩, trivial, rfl, by simp only [miL, List.map_cons, List.map_nil, rnr1, rnr2, rnc, rnv]; rfl⟩, hx0, hix, hlt, trivial⟩ fun zz hz _ => inner 1 zz hz
 ·have hlt : decide ((i : Int) < (n : Int)) = false := decide_eq_false (by omega)
  have hdr : A.drop i = [] := List.drop_eq_nil_of_le (by omega)
  rw [hdr] at k4
  have k4 : some out = R.opt := k4
  rcases k2 with ⟨rfl, rfl⟩ | ⟨rfl, k2⟩
  ·obtain rfl := MR.is_nil k4 hok
   exact cE0 cs ds o n c p m d k Q i [] J hE ⟨⟨rfl, rfl⟩, hlt, trivial⟩
  ·obtain rfl := MR.is_row k4 k2
   exact cE1 cs ds o n c p m d k Q i out J hE ⟨⟨rfl, by simp only [List.map_cons, List.map_nil, rnv]⟩, hlt, trivial⟩
def meet_F (R : MR) : RoF := fun xs css => match xs, css with
 | [.slice (some ⟨0, o, none⟩) n c, .slice (some ⟨1, p, none⟩) m d, .int .i64 k], [cs, ds] => some (mtV R, mtH R, [meetL (ePc.list cs o n) (ePc.list ds p m) k = R.opt, R.ok, ePc.Row cs o n, ePc.Row ds p m, n ≤ 100000, m ≤ 100000, k ≤ 100000])
 | _, _ => none
theorem mt_sum {f : FuncId} (he : Enters Try.prog f) (hs : ∀ (cs ds : List Value) (o n c p m d : Nat) (k : Int), ePc.Row cs o n → ePc.Row ds p m → (∀ x ∈ cs, leafG x = true) → (∀ x ∈ ds, leafG x = true) → n ≤ 100000 → m ≤ 100000 → k ≤ 100000 → ∀ R : MR, meetL (ePc.list cs o n) (ePc.list ds p m) k = R.opt → R.ok →
  CallSpec Try.prog f [.slice (some ⟨0, o, none⟩) n c, .slice (some ⟨1, p, none⟩) m d, .int .i64 k] (roRows [cs, ds]) 2 (mtV R) (assocN (mtN R) (mtH R))) (R : MR) : SumOK Try.prog f (roSum (meet_F R)) := by
 refine roSum_ok he ?_ (fun xs css r h => ?_)
 ·intro xs css v blks ob h hob hpl hl
  unfold meet_F at h
  split at h
  ·rename_i o n c p m d k cs ds
   simp only [Option.some.injEq, Prod.mk.injEq] at h
   obtain ⟨rfl, rfl, rfl⟩ := h
   have hsp := hs cs ds o n c p m d k (hob (ePc.Row cs o n) (by simp)) (hob (ePc.Row ds p m) (by simp)) (hpl cs (by simp)) (hpl ds (by simp)) (hob (n ≤ 100000) (by simp)) (hob (m ≤ 100000) (by simp)) (hob (k ≤ 100000) (by simp)) R (hob _ (List.mem_cons_self ..)) (hob _ (List.mem_cons_of_mem _ (List.mem_cons_self ..)))
   match R with
   | .few => exact ⟨by simp [mtH], fun x hx => by simp [mtH] at hx, fun j hj => by simp [mtV, nms, nm1, nm0, nmL] at hj, hsp⟩
   | .nil => exact ⟨by simp [mtH], fun x hx => by simp [mtH] at hx, fun j hj => by simp [mtV, nms, nm1, nm0, nmL] at hj, hsp⟩
   | .row l => exact ⟨by simp [mtH], fun x hx => by simp [mtH] at hx; subst hx; exact ⟨Elt.row_pl _, rfl⟩, fun j hj => by simp [mtV, nms, nm1, nm0, nmL] at hj; subst hj; simp [mtH], hsp⟩
  ·simp at h
 ·unfold meet_F at h
  split at h <;> simp at h <;> simp
theorem cmeet_sum (R : MR) : SumOK Try.prog 13 (roSum (meet_F R)) := mt_sum (en Try.func13 rfl) c_spec R
end Go.Proofs.Ythbaccmhdffjdaa.Mt
namespace Go.Proofs.Ythbaccmhdffjdaa.Ev
open Go Go.RowKit
theorem cap_ren {g : Nm} {a : Addr} {n C : Nat} (hC : C = g.cap a.block) (hm : C ≤ maxLen) : ren g (.slice (some a) n mk) = ren g (.slice (some a) n C) := by
 have e0 : ∀ c, ren g (.slice (some a) n c) = .slice (some (renA g a)) n (capOf g a.block c) := fun c => rfl
 have e1 : capOf g a.block mk = C := by
  have : Nat.ble mark mk = true := by decide
  unfold capOf
  rw [this]
  show g.cap a.block - (mk - mark) = C
  rw [hC]
  rfl
 have e2 : capOf g a.block C = C := by unfold capOf; rw [small_cap hm]; rfl
 rw [e0, e0, e1, e2]
theorem sat_cap {E : Env} {K : List Ctl} {T : Tm} {T' : Nat → Tm} {H H' : Heap} {nx c c' k s : Nat} {cs : List Value} {ty : TypeId} {ob ob' : List Prop} (hk : H k = some (.vec cs ty s))
  (hT : ∀ C i v, T' C i = some v → T i = some v ∨ ∃ a n, a.block = k ∧ T i = some (.slice (some a) n mk) ∧ v = .slice (some a) n C) (hH : ∀ j b, H' j = some b → ∃ b0, H j = some b0 ∧ b.le b0)
  (h : ∀ C, cs.length ≤ C * s → C ≤ maxLen → Sat E K ⟨T' C, H', nx, c', ob'⟩) : Sat E K ⟨T, H, nx, c, ob⟩ := by
 intro g a w hc
 have hc0 := hc
 obtain ⟨B, hB, hrc⟩ := hc0
 obtain ⟨_, rest, _, hl, hm⟩ : _ ∧ ∃ rest : List Value, _ ∧ cs.length + rest.length = g.cap k * s ∧ g.cap k ≤ maxLen := hrc.hc.holds k _ hk
 refine sat_weak (T := T' (g.cap k)) (H := H) (c := c) (ob := []) (fun i v hv => hv) hH (h (g.cap k) (by omega) hm) g a w ⟨B, hB, ⟨hrc.hc, hrc.size, hrc.defers, fun t v hv => ?_, hrc.anch, hrc.sub⟩⟩
 rcases hT _ t v hv with h1 | ⟨ad, n, rfl, h1, rfl⟩
 ·exact hrc.tm t v h1
 ·have := hrc.tm t _ h1
  exact ⟨by rw [← cap_ren rfl hm]; exact this.1, inB_of fun j hj => inB_names this.2 j hj⟩
end Go.Proofs.Ythbaccmhdffjdaa.Ev
namespace Go.Proofs.Ythbaccmhdffjdaa.Cl
open Go Go.RowKit Ev NodeE BoxF Lv Tr Within PickE Tn Fo Cl Mm Mt
structure AQ where
 j : Nat
 out : List Pc
def rowsA (R0 : List Value) (R : Nat → List Value) : Nat → List Blk
 | 0 => [.ro R0]
 | K + 1 => rowsA R0 R K ++ [.ro (R (K + 1))]
def upA : Nat → List Nat
 | 0 => [0]
 | K + 1 => upA K ++ [K + 1]
def alL (K : Nat) (R0 : List Value) (R : Nat → List Value) (o1 k1 c1 : Nat) (most : Int) (Q : AQ → Prop) : LoopF AQ where
 ts _ := [1, 6, 21, 22, 23]
 hs _ := upA K ++ [10]
 tv _ := fun ⟨j, out⟩ => [.int .i64 most, .slice (some ⟨10, 0, none⟩) out.length mk, .slice (some ⟨0, o1, none⟩) k1 c1, .int .i64 (k1 : Int), .int .i64 (j : Int)]
 hv _ := fun ⟨j, out⟩ => rowsA R0 R K ++ [.vec (ePc.row out) 27 11]
 inv _ := Q
 mu _ := fun ⟨j, out⟩ => k1 - j
 nx := 11
def plC (i : Nat) : List Value := (List.replicate i [Value.int .i64 (-9223372036854775808), .int .i64 9223372036854775807]).flatten ++ (List.replicate (5 - i) [Value.int .i64 0, .int .i64 0]).flatten
def paL (Q : Nat → Prop) : LoopF Nat where
 ts _ := [1, 3]
 hs _ := [0]
 tv _ i := [ptr 0, .int .i64 (i : Int)]
 hv _ i := [.cells (plC i) 25]
 inv _ := Q
 mu _ i := 5 - i
 nx := 1
def planeA : Bx := ⟨(-9223372036854775808), 9223372036854775807, (-9223372036854775808), 9223372036854775807, (-9223372036854775808), 9223372036854775807, (-9223372036854775808), 9223372036854775807, (-9223372036854775808), 9223372036854775807⟩
def alla_F : RoF := fun xs css => match xs, css with
 | [], [] => some (.slice (some ⟨100, 0, none⟩) 1 mk, [.vec (ePc.row [⟨planeA, 0⟩]) 27 11], [])
 | _, _ => none
theorem plC_pl (i : Nat) : ∀ c ∈ plC i, leafG c = true := by
 intro c hc
 unfold plC at hc
 rcases List.mem_append.1 hc with h | h
 ·obtain ⟨l, hl, hc⟩ := List.mem_flatten.1 h
  obtain ⟨_, rfl⟩ := List.mem_replicate.1 hl
  simp only [List.mem_cons, List.not_mem_nil, or_false] at hc
  rcases hc with rfl | rfl <;> rfl
 ·obtain ⟨l, hl, hc⟩ := List.mem_flatten.1 h
  obtain ⟨_, rfl⟩ := List.mem_replicate.1 hl
  simp only [List.mem_cons, List.not_mem_nil, or_false] at hc
  rcases hc with rfl | rfl <;> rfl
theorem paL_ok (Q : Nat → Prop) : (paL Q).OK 0 := by
 refine ⟨(by decide : 0 ≤ 1), fun z i h k hk => ?_, fun z i h v hv k hk => ?_, fun z i h y hy => ?_⟩
 ·show k < 1
  simp [paL] at hk; omega
 ·show k < 1
  simp only [paL, ptr, List.mem_cons, List.not_mem_nil, or_false] at hv
  rcases hv with rfl | rfl <;> simp [nms, nm1, nm0] at hk <;> omega
 ·simp only [paL, List.mem_cons, List.not_mem_nil, or_false] at hy
  subst hy
  exact Blk.plain.namesLt (b := .cells _ _) (plC_pl i) _
theorem upA_lt : ∀ K, ∀ k ∈ upA K, k ≤ K
 | 0, k, h => by simp [upA] at h; omega
 | K + 1, k, h => by
  simp only [upA, List.mem_append, List.mem_cons, List.not_mem_nil, or_false] at h
  rcases h with h | rfl
  ·have := upA_lt K k h; omega
  ·omega
theorem rowsA_lt {R0 : List Value} {R : Nat → List Value} {nx : Nat} (h0 : ∀ c ∈ R0, ∀ k ∈ nm0 c, k < nx) (hR : ∀ i, ∀ c ∈ R i, leafG c = true) : ∀ K, ∀ x ∈ rowsA R0 R K, x.namesLt nx
 | 0, x, h => by
  simp only [rowsA, List.mem_cons, List.not_mem_nil, or_false] at h
  subst h
  exact h0
 | K + 1, x, h => by
  simp only [rowsA, List.mem_append, List.mem_cons, List.not_mem_nil, or_false] at h
  rcases h with h | rfl
  ·exact rowsA_lt h0 hR K x h
  ·exact Blk.plain.namesLt (b := .ro _) (hR _) _
theorem alL_ok {K : Nat} (hK : K ≤ 4) {R0 : List Value} {R : Nat → List Value} (h0 : ∀ c ∈ R0, ∀ k ∈ nm0 c, k < 8) (hR : ∀ i, ∀ c ∈ R i, leafG c = true) (o1 k1 c1 : Nat) (most : Int) (Q : AQ → Prop) : (alL K R0 R o1 k1 c1 most Q).OK 8 := by
 refine ⟨(by decide : 8 ≤ 11), fun z i h k hk => ?_, fun z i h v hv k hk => ?_, fun z i h y hy => ?_⟩
 ·show k < 11
  have hk : k ∈ upA K ++ [10] := hk
  rcases List.mem_append.1 hk with hk | hk
  ·have := upA_lt K k hk; omega
  ·simp at hk; omega
 ·show k < 11
  simp only [alL, ptr, List.mem_cons, List.not_mem_nil, or_false] at hv
  rcases hv with rfl | rfl | rfl | rfl | rfl <;> simp [nms, nm1, nm0] at hk <;> omega
 ·have hy : y ∈ rowsA R0 R K ++ [.vec (ePc.row i.out) 27 11] := hy
  rcases List.mem_append.1 hy with hy | hy
  ·exact rowsA_lt (nx := 11) (fun c hc k hk => by have := h0 c hc k hk; omega) hR K y hy
  ·simp only [List.mem_cons, List.not_mem_nil, or_false] at hy
   subst hy
   exact Blk.plain.namesLt (b := .vec _ _ _) (Elt.row_pl _) _
end Go.Proofs.Ythbaccmhdffjdaa.Cl
namespace Go.Proofs.Ythbaccmhdffjdaa.Cl
open Go Go.RowKit Ev NodeE BoxF Lv Tr Within PickE Tn Fo Cl Mm Mt
theorem paIn (Q : Nat → Prop)  {E rv rhs rhv} (hE : EnvOK E Try.prog Try.f50 0 0 rv rhs rhv) (hL : (paL Q).OK 0) (hob : all ([SameK (atLp (lp Try.f50 0)) (atLp (lp Try.f50 0)), Enter (paL Q) 0 none [.pointer (some (Addr.mk 8 0 none)), .int .i64 ((0 : Int))] [Blk.cells [.int .i64 ((0 : Int)), .int .i64 ((0 : Int)), .int .i64 ((0 : Int)), .int .i64 ((0 : Int)), .int .i64 ((0 : Int)), .int .i64 ((0 : Int)), .int .i64 ((0 : Int)), .int .i64 ((0 : Int)), .int .i64 ((0 : Int)), .int .i64 ((0 : Int))] 25] [(0, 8)]])) (hK : ∀ zz, (paL Q).inv 0 zz → ltO ((paL Q).mu 0 zz) none → Sat E (atLp (lp Try.f50 0)) ((paL Q).st 0 zz)) : Sat E [.code (bodyOf Try.f50)] (st0 Try.f50 [] (roRows []) 0) :=
 by_to (T := auto0 t_none) (h := hints []) (ws := [.stop]) (i0 := 0) hE hm (auto0_ok t_none_ok) hL (by kernel_rfl) hob hK
theorem paB0 (Q : Nat → Prop) (J : _) {E rv rhs rhv} (hE : EnvOK E Try.prog Try.f50 0 0 rv rhs rhv) (hL : (paL Q).OK 0) (hob : all ([SameK (mkLp (lp Try.f50 0) J) (mkLp (lp Try.f50 0) J), Enter (paL Q) 0 (some 5) [.pointer (some (Addr.mk 0 0 none)), .int .i64 ((1 : Int))] [Blk.cells [.int .i64 ((-9223372036854775808 : Int)), .int .i64 ((9223372036854775807 : Int)), .int .i64 ((0 : Int)), .int .i64 ((0 : Int)), .int .i64 ((0 : Int)), .int .i64 ((0 : Int)), .int .i64 ((0 : Int)), .int .i64 ((0 : Int)), .int .i64 ((0 : Int)), .int .i64 ((0 : Int))] 25] [(0, 0)], true = true])) (hK : ∀ zz, (paL Q).inv 0 zz → ltO ((paL Q).mu 0 zz) (some (5 - 0)) → Sat E (mkLp (lp Try.f50 0) J) ((paL Q).st 0 zz)) : Sat E (inLp (lp Try.f50 0) J) ((paL Q).st 0 0) :=
 by_to (T := auto0 t_none) (h := hints []) (ws := [.b true]) (i0 := 1) hE hm (auto0_ok t_none_ok) hL (by kernel_rfl) hob hK
theorem paB1 (Q : Nat → Prop) (J : _) {E rv rhs rhv} (hE : EnvOK E Try.prog Try.f50 0 0 rv rhs rhv) (hL : (paL Q).OK 0) (hob : all ([SameK (mkLp (lp Try.f50 0) J) (mkLp (lp Try.f50 0) J), Enter (paL Q) 0 (some 4) [.pointer (some (Addr.mk 0 0 none)), .int .i64 ((2 : Int))] [Blk.cells [.int .i64 ((-9223372036854775808 : Int)), .int .i64 ((9223372036854775807 : Int)), .int .i64 ((-9223372036854775808 : Int)), .int .i64 ((9223372036854775807 : Int)), .int .i64 ((0 : Int)), .int .i64 ((0 : Int)), .int .i64 ((0 : Int)), .int .i64 ((0 : Int)), .int .i64 ((0 : Int)), .int .i64 ((0 : Int))] 25] [(0, 0)], true = true])) (hK : ∀ zz, (paL Q).inv 0 zz → ltO ((paL Q).mu 0 zz) (some (5 - 1)) → Sat E (mkLp (lp Try.f50 0) J) ((paL Q).st 0 zz)) : Sat E (inLp (lp Try.f50 0) J) ((paL Q).st 0 1) :=
 by_to (T := auto0 t_none) (h := hints []) (ws := [.b true]) (i0 := 2) hE hm (auto0_ok t_none_ok) hL (by kernel_rfl) hob hK
theorem paB2 (Q : Nat → Prop) (J : _) {E rv rhs rhv} (hE : EnvOK E Try.prog Try.f50 0 0 rv rhs rhv) (hL : (paL Q).OK 0) (hob : all ([SameK (mkLp (lp Try.f50 0) J) (mkLp (lp Try.f50 0) J), Enter (paL Q) 0 (some 3) [.pointer (some (Addr.mk 0 0 none)), .int .i64 ((3 : Int))] [Blk.cells [.int .i64 ((-9223372036854775808 : Int)), .int .i64 ((9223372036854775807 : Int)), .int .i64 ((-9223372036854775808 : Int)), .int .i64 ((9223372036854775807 : Int)), .int .i64 ((-9223372036854775808 : Int)), .int .i64 ((9223372036854775807 : Int)), .int .i64 ((0 : Int)), .int .i64 ((0 : Int)), .int .i64 ((0 : Int)), .int .i64 ((0 : Int))] 25] [(0, 0)], true = true])) (hK : ∀ zz, (paL Q).inv 0 zz → ltO ((paL Q).mu 0 zz) (some (5 - 2)) → Sat E (mkLp (lp Try.f50 0) J) ((paL Q).st 0 zz)) : Sat E (inLp (lp Try.f50 0) J) ((paL Q).st 0 2) :=
 by_to (T := auto0 t_none) (h := hints []) (ws := [.b true]) (i0 := 3) hE hm (auto0_ok t_none_ok) hL (by kernel_rfl) hob hK
theorem paB3 (Q : Nat → Prop) (J : _) {E rv rhs rhv} (hE : EnvOK E Try.prog Try.f50 0 0 rv rhs rhv) (hL : (paL Q).OK 0) (hob : all ([SameK (mkLp (lp Try.f50 0) J) (mkLp (lp Try.f50 0) J), Enter (paL Q) 0 (some 2) [.pointer (some (Addr.mk 0 0 none)), .int .i64 ((4 : Int))] [Blk.cells [.int .i64 ((-9223372036854775808 : Int)), .int .i64 ((9223372036854775807 : Int)), .int .i64 ((-9223372036854775808 : Int)), .int .i64 ((9223372036854775807 : Int)), .int .i64 ((-9223372036854775808 : Int)), .int .i64 ((9223372036854775807 : Int)), .int .i64 ((-9223372036854775808 : Int)), .int .i64 ((9223372036854775807 : Int)), .int .i64 ((0 : Int)), .int .i64 ((0 : Int))] 25] [(0, 0)], true = true])) (hK : ∀ zz, (paL Q).inv 0 zz → ltO ((paL Q).mu 0 zz) (some (5 - 3)) → Sat E (mkLp (lp Try.f50 0) J) ((paL Q).st 0 zz)) : Sat E (inLp (lp Try.f50 0) J) ((paL Q).st 0 3) :=
 by_to (T := auto0 t_none) (h := hints []) (ws := [.b true]) (i0 := 4) hE hm (auto0_ok t_none_ok) hL (by kernel_rfl) hob hK
theorem paB4 (Q : Nat → Prop) (J : _) {E rv rhs rhv} (hE : EnvOK E Try.prog Try.f50 0 0 rv rhs rhv) (hL : (paL Q).OK 0) (hob : all ([SameK (mkLp (lp Try.f50 0) J) (mkLp (lp Try.f50 0) J), Enter (paL Q) 0 (some 1) [.pointer (some (Addr.mk 0 0 none)), .int .i64 ((5 : Int))] [Blk.cells [.int .i64 ((-9223372036854775808 : Int)), .int .i64 ((9223372036854775807 : Int)), .int .i64 ((-9223372036854775808 : Int)), .int .i64 ((9223372036854775807 : Int)), .int .i64 ((-9223372036854775808 : Int)), .int .i64 ((9223372036854775807 : Int)), .int .i64 ((-9223372036854775808 : Int)), .int .i64 ((9223372036854775807 : Int)), .int .i64 ((-9223372036854775808 : Int)), .int .i64 ((9223372036854775807 : Int))] 25] [(0, 0)], true = true])) (hK : ∀ zz, (paL Q).inv 0 zz → ltO ((paL Q).mu 0 zz) (some (5 - 4)) → Sat E (mkLp (lp Try.f50 0) J) ((paL Q).st 0 zz)) : Sat E (inLp (lp Try.f50 0) J) ((paL Q).st 0 4) :=
 by_to (T := auto0 t_none) (h := hints []) (ws := [.b true]) (i0 := 5) hE hm (auto0_ok t_none_ok) hL (by kernel_rfl) hob hK
theorem paE (Q : Nat → Prop) (J : _) {E : Env} (hE : EnvOK E Try.prog Try.f50 0 0 (.slice (some ⟨100, 0, none⟩) 1 mk) [100] [.vec (ePc.row [⟨planeA, 0⟩]) 27 11]) (hob : all ([Back (Value.slice (some (Addr.mk 25 0 none)) 1 Ev.mark) (Value.slice (some (Addr.mk 100 0 none)) 1 Ev.mark) [Blk.vec [.int .i64 ((-9223372036854775808 : Int)), .int .i64 ((9223372036854775807 : Int)), .int .i64 ((-9223372036854775808 : Int)), .int .i64 ((9223372036854775807 : Int)), .int .i64 ((-9223372036854775808 : Int)), .int .i64 ((9223372036854775807 : Int)), .int .i64 ((-9223372036854775808 : Int)), .int .i64 ((9223372036854775807 : Int)), .int .i64 ((-9223372036854775808 : Int)), .int .i64 ((9223372036854775807 : Int)), .int .i64 ((0 : Int))] 27 11] [Blk.vec [.int .i64 ((-9223372036854775808 : Int)), .int .i64 ((9223372036854775807 : Int)), .int .i64 ((-9223372036854775808 : Int)), .int .i64 ((9223372036854775807 : Int)), .int .i64 ((-9223372036854775808 : Int)), .int .i64 ((9223372036854775807 : Int)), .int .i64 ((-9223372036854775808 : Int)), .int .i64 ((9223372036854775807 : Int)), .int .i64 ((-9223372036854775808 : Int)), .int .i64 ((9223372036854775807 : Int)), .int .i64 ((0 : Int))] 27 11] [(100, 25)], false = false])) : Sat E (inLp (lp Try.f50 0) J) ((paL Q).st 0 5) :=
 by_ret (T := auto0 t_none) (h := hints [(7, 2, {p := true})]) (ws := [.b false]) (nx' := 101) hE hm (auto0_ok t_none_ok) (by omega) (by simp) (by intro x hx; simp at hx; subst hx; exact Blk.plain.namesLt (b := .vec _ _ _) (Elt.row_pl _) _) (by kernel_rfl) hob
end Go.Proofs.Ythbaccmhdffjdaa.Cl
namespace Go.Proofs.Ythbaccmhdffjdaa.Cl
open Go Go.RowKit Ev NodeE BoxF Lv Tr Within PickE Tn Fo Cl Mm Mt
theorem alla_spec : CallSpec Try.prog 50 [] (roRows []) 0 (.slice (some ⟨100, 0, none⟩) 1 mk) (assocN [100] [.vec (ePc.row [⟨planeA, 0⟩]) 27 11]) := by
 refine spec_of_sat Try.func50 rfl fun E hE => ?_
 refine paIn (fun i => i ≤ 5) hE (paL_ok _) ⟨rfl, ⟨0, Nat.zero_le _, trivial, rfl, rfl⟩, trivial⟩ fun zz hz _ => by_loop (paL fun i => i ≤ 5) (lp Try.f50 0) ?_ 0 zz hz
 rintro z i hinv J hJ
 have hi : i ≤ 5 := hinv
 have h6 : i = 0 ∨ i = 1 ∨ i = 2 ∨ i = 3 ∨ i = 4 ∨ i = 5 := by omega
 rcases h6 with rfl | rfl | rfl | rfl | rfl | rfl
 ·exact paB0 (fun i => i ≤ 5) J hE (paL_ok _) ⟨rfl, ⟨1, (by show 1 ≤ 5; decide), (by show 5 - 1 < 5 - 0; decide), rfl, rfl⟩, rfl, trivial⟩ fun zz g1 g2 => hJ 0 zz g1 g2
 ·exact paB1 (fun i => i ≤ 5) J hE (paL_ok _) ⟨rfl, ⟨2, (by show 2 ≤ 5; decide), (by show 5 - 2 < 5 - 1; decide), rfl, rfl⟩, rfl, trivial⟩ fun zz g1 g2 => hJ 0 zz g1 g2
 ·exact paB2 (fun i => i ≤ 5) J hE (paL_ok _) ⟨rfl, ⟨3, (by show 3 ≤ 5; decide), (by show 5 - 3 < 5 - 2; decide), rfl, rfl⟩, rfl, trivial⟩ fun zz g1 g2 => hJ 0 zz g1 g2
 ·exact paB3 (fun i => i ≤ 5) J hE (paL_ok _) ⟨rfl, ⟨4, (by show 4 ≤ 5; decide), (by show 5 - 4 < 5 - 3; decide), rfl, rfl⟩, rfl, trivial⟩ fun zz g1 g2 => hJ 0 zz g1 g2
 ·exact paB4 (fun i => i ≤ 5) J hE (paL_ok _) ⟨rfl, ⟨5, (by show 5 ≤ 5; decide), (by show 5 - 5 < 5 - 4; decide), rfl, rfl⟩, rfl, trivial⟩ fun zz g1 g2 => hJ 0 zz g1 g2
 ·exact paE (fun i => i ≤ 5) J hE ⟨⟨rfl, rfl⟩, rfl, trivial⟩
theorem alla_sum : SumOK Try.prog 50 (roSum alla_F) := by
 refine roSum_ok (en Try.func50 rfl) ?_ (fun xs css r h => ?_)
 ·intro xs css v blks ob h hob hpl hl
  unfold alla_F at h
  split at h
  ·simp only [Option.some.injEq, Prod.mk.injEq] at h
   obtain ⟨rfl, rfl, rfl⟩ := h
   exact ⟨by simp, fun x hx => by simp at hx; subst hx; exact ⟨Elt.row_pl _, rfl⟩, fun j hj => by simp [nms, nm1, nm0] at hj; subst hj; simp, alla_spec⟩
  ·simp at h
 ·unfold alla_F at h
  split at h <;> simp at h <;> simp
noncomputable def t_al (R : MR) : Sums := upd (upd t_bcut 13 (some (roSum (meet_F R)))) 50 (some (roSum alla_F))
theorem t_al_ok (R : MR) : SumsOK Try.prog (t_al R) := sums_cons (sums_cons t_bcut_ok (cmeet_sum R)) alla_sum
end Go.Proofs.Ythbaccmhdffjdaa.Cl
namespace Go.Proofs.Ythbaccmhdffjdaa.Cl
open Go Go.RowKit Ev NodeE BoxF Lv Tr Within PickE Tn Fo Cl Mm Mt
theorem alN (R : MR) (most : Int)  {E : Env} (hE : EnvOK E Try.prog Try.f31 2 0 (.tuple ⟨[.slice (some ⟨100, 0, none⟩) 1 mk, .bool true]⟩) [100] [.vec (ePc.row [⟨planeA, 0⟩]) 27 11]) (hob : all ([Back (Value.tuple (Array.mk [.slice (some (Addr.mk 40 0 none)) 1 Ev.mark, .bool true])) (Value.tuple (Array.mk [.slice (some (Addr.mk 100 0 none)) 1 Ev.mark, .bool true])) [Blk.vec [.int .i64 ((-9223372036854775808 : Int)), .int .i64 ((9223372036854775807 : Int)), .int .i64 ((-9223372036854775808 : Int)), .int .i64 ((9223372036854775807 : Int)), .int .i64 ((-9223372036854775808 : Int)), .int .i64 ((9223372036854775807 : Int)), .int .i64 ((-9223372036854775808 : Int)), .int .i64 ((9223372036854775807 : Int)), .int .i64 ((-9223372036854775808 : Int)), .int .i64 ((9223372036854775807 : Int)), .int .i64 ((0 : Int))] 27 11] [Blk.vec [.int .i64 ((-9223372036854775808 : Int)), .int .i64 ((9223372036854775807 : Int)), .int .i64 ((-9223372036854775808 : Int)), .int .i64 ((9223372036854775807 : Int)), .int .i64 ((-9223372036854775808 : Int)), .int .i64 ((9223372036854775807 : Int)), .int .i64 ((-9223372036854775808 : Int)), .int .i64 ((9223372036854775807 : Int)), .int .i64 ((-9223372036854775808 : Int)), .int .i64 ((9223372036854775807 : Int)), .int .i64 ((0 : Int))] 27 11] [(100, 40)], plainR []])) : Sat E [.code (bodyOf Try.f31)] (st0 Try.f31 [.slice none 0 0, .int .i64 most] (roRows []) 0) :=
 by_ret (T := auto0 (t_al R)) (h := hints []) (ws := []) (nx' := 101) hE hm (auto0_ok (t_al_ok R)) (by omega) (by simp) (by intro x hx; simp at hx; subst hx; exact Blk.plain.namesLt (b := .vec _ _ _) (Elt.row_pl _) _) (by kernel_rfl) hob
theorem alIn1 (R : MR) (R0 : List Value) (RR : Nat → List Value) (o c o1 k1 c1 n1 d1 : Nat) (most : Int) (L1 : List Pc) (Q : AQ → Prop)  {E rv rhs rhv} (hE : EnvOK E Try.prog Try.f31 2 8 rv rhs rhv) (hL : (alL 1 R0 RR o1 k1 c1 most Q).OK 8) (hob : all ([SameK (atLp (lp Try.f31 0)) (atLp (lp Try.f31 0)), Enter (alL 1 R0 RR o1 k1 c1 most Q) 0 none [.int .i64 most, .slice (some (Addr.mk 80 0 none)) (0 + n1) Ev.mark, .slice (some (Addr.mk 0 o1 none)) k1 c1, .int .i64 ((k1 : Int)), .int .i64 ((0 : Int))] [Blk.ro R0, Blk.ro (RR 1), Blk.vec (ePc.row L1) 27 11] [(10, 80), (0, 0)], SlOK 1 0 o 1 c (some ((1 : Int))) none (some (Blk.ro R0)) (Value.slice (some (Addr.mk 0 o1 none)) k1 c1), AppOK (some (Blk.cells [] 27)) 0 0 11 88 n1 (RR 1) 0 (ePc.row L1), readPart Try.prog 28 R0 (o + 0) = some (Value.slice (some (Addr.mk 1 0 none)) n1 d1), (0 : Int) ≤ (0 : Int) ∧ (0 : Int) < (1 : Int), Value.bool false = .bool false])) (hK : ∀ zz, (alL 1 R0 RR o1 k1 c1 most Q).inv 0 zz → ltO ((alL 1 R0 RR o1 k1 c1 most Q).mu 0 zz) none → Sat E (atLp (lp Try.f31 0)) ((alL 1 R0 RR o1 k1 c1 most Q).st 0 zz)) : Sat E [.code (bodyOf Try.f31)] (st0 Try.f31 [.slice (some ⟨0, o, none⟩) 1 c, .int .i64 most] (roRows [R0, RR 1]) 8) :=
 by_to (T := auto0 (t_al R)) (h := hints [(1, 2, ht false), (3, 2, {p := true}), (3, 3, {o := some (.slice (some ⟨1, 0, none⟩) n1 d1)}), (3, 4, {c := some (ePc.row L1)}), (4, 1, {o := some (.slice (some ⟨0, o1, none⟩) k1 c1)})]) (ws := [.go, .stop]) (i0 := ⟨0, L1⟩) hE hm (auto0_ok (t_al_ok R)) hL (by kernel_rfl) hob hK
theorem alE1 (R : MR) (R0 : List Value) (RR : Nat → List Value) (o1 k1 c1 : Nat) (most : Int) (Q : AQ → Prop) (j : Nat) (out : List Pc) (J : _) {E : Env} (hE : EnvOK E Try.prog Try.f31 2 8 (.tuple ⟨[.slice (some ⟨100, 0, none⟩) out.length mk, .bool true]⟩) [100] [.vec (ePc.row out) 27 11]) (hob : all ([Back (Value.tuple (Array.mk [.slice (some (Addr.mk 10 0 none)) out.length Ev.mark, .bool true])) (Value.tuple (Array.mk [.slice (some (Addr.mk 100 0 none)) out.length Ev.mark, .bool true])) [Blk.vec (ePc.row out) 27 11] [Blk.vec (ePc.row out) 27 11] [(100, 10)], decide ((↑j : Int) < (↑k1 : Int)) = false])) : Sat E (inLp (lp Try.f31 0) J) ((alL 1 R0 RR o1 k1 c1 most Q).st 0 ⟨j, out⟩) :=
 by_ret (T := auto0 (t_al R)) (h := hints []) (ws := [.b false]) (nx' := 101) hE hm (auto0_ok (t_al_ok R)) (by omega) (by simp) (by intro x hx; simp at hx; subst hx; exact Blk.plain.namesLt (b := .vec _ _ _) (Elt.row_pl _) _) (by kernel_rfl) hob
theorem alIn2 (R : MR) (R0 : List Value) (RR : Nat → List Value) (o c o1 k1 c1 n1 d1 : Nat) (most : Int) (L1 : List Pc) (Q : AQ → Prop)  {E rv rhs rhv} (hE : EnvOK E Try.prog Try.f31 2 8 rv rhs rhv) (hL : (alL 2 R0 RR o1 k1 c1 most Q).OK 8) (hob : all ([SameK (atLp (lp Try.f31 0)) (atLp (lp Try.f31 0)), Enter (alL 2 R0 RR o1 k1 c1 most Q) 0 none [.int .i64 most, .slice (some (Addr.mk 80 0 none)) (0 + n1) Ev.mark, .slice (some (Addr.mk 0 o1 none)) k1 c1, .int .i64 ((k1 : Int)), .int .i64 ((0 : Int))] [Blk.ro R0, Blk.ro (RR 1), Blk.ro (RR 2), Blk.vec (ePc.row L1) 27 11] [(10, 80), (0, 0)], SlOK 1 0 o 2 c (some ((1 : Int))) none (some (Blk.ro R0)) (Value.slice (some (Addr.mk 0 o1 none)) k1 c1), AppOK (some (Blk.cells [] 27)) 0 0 11 88 n1 (RR 1) 0 (ePc.row L1), readPart Try.prog 28 R0 (o + 0) = some (Value.slice (some (Addr.mk 1 0 none)) n1 d1), (0 : Int) ≤ (0 : Int) ∧ (0 : Int) < (2 : Int), Value.bool false = .bool false])) (hK : ∀ zz, (alL 2 R0 RR o1 k1 c1 most Q).inv 0 zz → ltO ((alL 2 R0 RR o1 k1 c1 most Q).mu 0 zz) none → Sat E (atLp (lp Try.f31 0)) ((alL 2 R0 RR o1 k1 c1 most Q).st 0 zz)) : Sat E [.code (bodyOf Try.f31)] (st0 Try.f31 [.slice (some ⟨0, o, none⟩) 2 c, .int .i64 most] (roRows [R0, RR 1, RR 2]) 8) :=
 by_to (T := auto0 (t_al R)) (h := hints [(1, 2, ht false), (3, 2, {p := true}), (3, 3, {o := some (.slice (some ⟨1, 0, none⟩) n1 d1)}), (3, 4, {c := some (ePc.row L1)}), (4, 1, {o := some (.slice (some ⟨0, o1, none⟩) k1 c1)})]) (ws := [.go, .stop]) (i0 := ⟨0, L1⟩) hE hm (auto0_ok (t_al_ok R)) hL (by kernel_rfl) hob hK
theorem alE2 (R : MR) (R0 : List Value) (RR : Nat → List Value) (o1 k1 c1 : Nat) (most : Int) (Q : AQ → Prop) (j : Nat) (out : List Pc) (J : _) {E : Env} (hE : EnvOK E Try.prog Try.f31 2 8 (.tuple ⟨[.slice (some ⟨100, 0, none⟩) out.length mk, .bool true]⟩) [100] [.vec (ePc.row out) 27 11]) (hob : all ([Back (Value.tuple (Array.mk [.slice (some (Addr.mk 10 0 none)) out.length Ev.mark, .bool true])) (Value.tuple (Array.mk [.slice (some (Addr.mk 100 0 none)) out.length Ev.mark, .bool true])) [Blk.vec (ePc.row out) 27 11] [Blk.vec (ePc.row out) 27 11] [(100, 10)], decide ((↑j : Int) < (↑k1 : Int)) = false])) : Sat E (inLp (lp Try.f31 0) J) ((alL 2 R0 RR o1 k1 c1 most Q).st 0 ⟨j, out⟩) :=
 by_ret (T := auto0 (t_al R)) (h := hints []) (ws := [.b false]) (nx' := 101) hE hm (auto0_ok (t_al_ok R)) (by omega) (by simp) (by intro x hx; simp at hx; subst hx; exact Blk.plain.namesLt (b := .vec _ _ _) (Elt.row_pl _) _) (by kernel_rfl) hob
theorem alB22 (R0 : List Value) (RR : Nat → List Value) (o1 k1 c1 nq dq : Nat) (most : Int) (Q : AQ → Prop) (j : Nat) (out l : List Pc) (J : _) {E rv rhs rhv} (hE : EnvOK E Try.prog Try.f31 2 8 rv rhs rhv) (hL : (alL 2 R0 RR o1 k1 c1 most Q).OK 8) (hob : all ([SameK (mkLp (lp Try.f31 0) J) (mkLp (lp Try.f31 0) J), Enter (alL 2 R0 RR o1 k1 c1 most Q) 0 (some (k1 - j)) [.int .i64 most, .slice (some (Addr.mk 67 0 none)) l.length Ev.mark, .slice (some (Addr.mk 0 o1 none)) k1 c1, .int .i64 ((k1 : Int)), .int .i64 (Int.ofNat j.succ)] [Blk.ro R0, Blk.ro (RR (0 + 1)), Blk.ro (RR (1 + 1)), Blk.vec (ePc.row l) 27 11] [(10, 67), (0, 0)], Value.int IntKind.i64 (IntKind.i64.wrap (Int.ofNat j.succ)) = .int .i64 (Int.ofNat j.succ), plainR [ePc.row out, RR (1 + 1)], meetL (ePc.list (ePc.row out) 0 out.length) (ePc.list (RR (1 + 1)) 0 nq) most = some l, (MR.row l).ok, ePc.Row (ePc.row out) 0 out.length, ePc.Row (RR (1 + 1)) 0 nq, out.length ≤ 100000, nq ≤ 100000, most ≤ (100000 : Int), readPart Try.prog 28 R0 (o1 + ((j : Int)).toNat * 1) = some (Value.slice (some (Addr.mk 2 0 none)) nq dq), (0 : Int) ≤ (j : Int) ∧ (j : Int) < (k1 : Int), decide ((↑j : Int) < (↑k1 : Int)) = true])) (hK : ∀ zz, (alL 2 R0 RR o1 k1 c1 most Q).inv 0 zz → ltO ((alL 2 R0 RR o1 k1 c1 most Q).mu 0 zz) (some (k1 - j)) → Sat E (mkLp (lp Try.f31 0) J) ((alL 2 R0 RR o1 k1 c1 most Q).st 0 zz)) : Sat E (inLp (lp Try.f31 0) J) ((alL 2 R0 RR o1 k1 c1 most Q).st 0 ⟨j, out⟩) :=
 by_to (T := auto0 (t_al (MR.row l))) (h := hints [(6, 0, {p := true}), (6, 1, {o := some (.slice (some ⟨2, 0, none⟩) nq dq)}), (11, 0, {v := some (.int .i64 ((j + 1 : Nat) : Int))})]) (ws := [.b true, .go]) (i0 := ⟨j + 1, l⟩) hE hm (auto0_ok (t_al_ok (MR.row l))) hL (by kernel_rfl) hob hK
theorem alF22 (R0 : List Value) (RR : Nat → List Value) (o1 k1 c1 nq dq : Nat) (most : Int) (Q : AQ → Prop) (j : Nat) (out : List Pc) (J : _) {E : Env} (hE : EnvOK E Try.prog Try.f31 2 8 (.tuple ⟨[.slice none 0 0, .bool false]⟩) [] []) (hob : all ([Back (Value.tuple (Array.mk [.slice none 0 0, .bool false])) (Value.tuple (Array.mk [.slice none 0 0, .bool false])) [] [] [], plainR [ePc.row out, RR (1 + 1)], meetL (ePc.list (ePc.row out) 0 out.length) (ePc.list (RR (1 + 1)) 0 nq) most = none, MR.few.ok, ePc.Row (ePc.row out) 0 out.length, ePc.Row (RR (1 + 1)) 0 nq, out.length ≤ 100000, nq ≤ 100000, most ≤ (100000 : Int), readPart Try.prog 28 R0 (o1 + ((j : Int)).toNat * 1) = some (Value.slice (some (Addr.mk 2 0 none)) nq dq), (0 : Int) ≤ (j : Int) ∧ (j : Int) < (k1 : Int), decide ((↑j : Int) < (↑k1 : Int)) = true])) : Sat E (inLp (lp Try.f31 0) J) ((alL 2 R0 RR o1 k1 c1 most Q).st 0 ⟨j, out⟩) :=
 by_ret (T := auto0 (t_al MR.few)) (h := hints [(6, 0, {p := true}), (6, 1, {o := some (.slice (some ⟨2, 0, none⟩) nq dq)})]) (ws := [.b true, .go]) (nx' := 8) hE hm (auto0_ok (t_al_ok MR.few)) (by omega) (by simp) (by simp) (by kernel_rfl) hob
theorem alIn3 (R : MR) (R0 : List Value) (RR : Nat → List Value) (o c o1 k1 c1 n1 d1 : Nat) (most : Int) (L1 : List Pc) (Q : AQ → Prop)  {E rv rhs rhv} (hE : EnvOK E Try.prog Try.f31 2 8 rv rhs rhv) (hL : (alL 3 R0 RR o1 k1 c1 most Q).OK 8) (hob : all ([SameK (atLp (lp Try.f31 0)) (atLp (lp Try.f31 0)), Enter (alL 3 R0 RR o1 k1 c1 most Q) 0 none [.int .i64 most, .slice (some (Addr.mk 80 0 none)) (0 + n1) Ev.mark, .slice (some (Addr.mk 0 o1 none)) k1 c1, .int .i64 ((k1 : Int)), .int .i64 ((0 : Int))] [Blk.ro R0, Blk.ro (RR 1), Blk.ro (RR 2), Blk.ro (RR 3), Blk.vec (ePc.row L1) 27 11] [(10, 80), (0, 0)], SlOK 1 0 o 3 c (some ((1 : Int))) none (some (Blk.ro R0)) (Value.slice (some (Addr.mk 0 o1 none)) k1 c1), AppOK (some (Blk.cells [] 27)) 0 0 11 88 n1 (RR 1) 0 (ePc.row L1), readPart Try.prog 28 R0 (o + 0) = some (Value.slice (some (Addr.mk 1 0 none)) n1 d1), (0 : Int) ≤ (0 : Int) ∧ (0 : Int) < (3 : Int), Value.bool false = .bool false])) (hK : ∀ zz, (alL 3 R0 RR o1 k1 c1 most Q).inv 0 zz → ltO ((alL 3 R0 RR o1 k1 c1 most Q).mu 0 zz) none → Sat E (atLp (lp Try.f31 0)) ((alL 3 R0 RR o1 k1 c1 most Q).st 0 zz)) : Sat E [.code (bodyOf Try.f31)] (st0 Try.f31 [.slice (some ⟨0, o, none⟩) 3 c, .int .i64 most] (roRows [R0, RR 1, RR 2, RR 3]) 8) :=
 by_to (T := auto0 (t_al R)) (h := hints [(1, 2, ht false), (3, 2, {p := true}), (3, 3, {o := some (.slice (some ⟨1, 0, none⟩) n1 d1)}), (3, 4, {c := some (ePc.row L1)}), (4, 1, {o := some (.slice (some ⟨0, o1, none⟩) k1 c1)})]) (ws := [.go, .stop]) (i0 := ⟨0, L1⟩) hE hm (auto0_ok (t_al_ok R)) hL (by kernel_rfl) hob hK
theorem alE3 (R : MR) (R0 : List Value) (RR : Nat → List Value) (o1 k1 c1 : Nat) (most : Int) (Q : AQ → Prop) (j : Nat) (out : List Pc) (J : _) {E : Env} (hE : EnvOK E Try.prog Try.f31 2 8 (.tuple ⟨[.slice (some ⟨100, 0, none⟩) out.length mk, .bool true]⟩) [100] [.vec (ePc.row out) 27 11]) (hob : all ([Back (Value.tuple (Array.mk [.slice (some (Addr.mk 10 0 none)) out.length Ev.mark, .bool true])) (Value.tuple (Array.mk [.slice (some (Addr.mk 100 0 none)) out.length Ev.mark, .bool true])) [Blk.vec (ePc.row out) 27 11] [Blk.vec (ePc.row out) 27 11] [(100, 10)], decide ((↑j : Int) < (↑k1 : Int)) = false])) : Sat E (inLp (lp Try.f31 0) J) ((alL 3 R0 RR o1 k1 c1 most Q).st 0 ⟨j, out⟩) :=
 by_ret (T := auto0 (t_al R)) (h := hints []) (ws := [.b false]) (nx' := 101) hE hm (auto0_ok (t_al_ok R)) (by omega) (by simp) (by intro x hx; simp at hx; subst hx; exact Blk.plain.namesLt (b := .vec _ _ _) (Elt.row_pl _) _) (by kernel_rfl) hob
theorem alB32 (R0 : List Value) (RR : Nat → List Value) (o1 k1 c1 nq dq : Nat) (most : Int) (Q : AQ → Prop) (j : Nat) (out l : List Pc) (J : _) {E rv rhs rhv} (hE : EnvOK E Try.prog Try.f31 2 8 rv rhs rhv) (hL : (alL 3 R0 RR o1 k1 c1 most Q).OK 8) (hob : all ([SameK (mkLp (lp Try.f31 0) J) (mkLp (lp Try.f31 0) J), Enter (alL 3 R0 RR o1 k1 c1 most Q) 0 (some (k1 - j)) [.int .i64 most, .slice (some (Addr.mk 67 0 none)) l.length Ev.mark, .slice (some (Addr.mk 0 o1 none)) k1 c1, .int .i64 ((k1 : Int)), .int .i64 (Int.ofNat j.succ)] [Blk.ro R0, Blk.ro (RR (0 + 1)), Blk.ro (RR (1 + 1)), Blk.ro (RR (2 + 1)), Blk.vec (ePc.row l) 27 11] [(10, 67), (0, 0)], Value.int IntKind.i64 (IntKind.i64.wrap (Int.ofNat j.succ)) = .int .i64 (Int.ofNat j.succ), plainR [ePc.row out, RR (1 + 1)], meetL (ePc.list (ePc.row out) 0 out.length) (ePc.list (RR (1 + 1)) 0 nq) most = some l, (MR.row l).ok, ePc.Row (ePc.row out) 0 out.length, ePc.Row (RR (1 + 1)) 0 nq, out.length ≤ 100000, nq ≤ 100000, most ≤ (100000 : Int), readPart Try.prog 28 R0 (o1 + ((j : Int)).toNat * 1) = some (Value.slice (some (Addr.mk 2 0 none)) nq dq), (0 : Int) ≤ (j : Int) ∧ (j : Int) < (k1 : Int), decide ((↑j : Int) < (↑k1 : Int)) = true])) (hK : ∀ zz, (alL 3 R0 RR o1 k1 c1 most Q).inv 0 zz → ltO ((alL 3 R0 RR o1 k1 c1 most Q).mu 0 zz) (some (k1 - j)) → Sat E (mkLp (lp Try.f31 0) J) ((alL 3 R0 RR o1 k1 c1 most Q).st 0 zz)) : Sat E (inLp (lp Try.f31 0) J) ((alL 3 R0 RR o1 k1 c1 most Q).st 0 ⟨j, out⟩) :=
 by_to (T := auto0 (t_al (MR.row l))) (h := hints [(6, 0, {p := true}), (6, 1, {o := some (.slice (some ⟨2, 0, none⟩) nq dq)}), (11, 0, {v := some (.int .i64 ((j + 1 : Nat) : Int))})]) (ws := [.b true, .go]) (i0 := ⟨j + 1, l⟩) hE hm (auto0_ok (t_al_ok (MR.row l))) hL (by kernel_rfl) hob hK
theorem alF32 (R0 : List Value) (RR : Nat → List Value) (o1 k1 c1 nq dq : Nat) (most : Int) (Q : AQ → Prop) (j : Nat) (out : List Pc) (J : _) {E : Env} (hE : EnvOK E Try.prog Try.f31 2 8 (.tuple ⟨[.slice none 0 0, .bool false]⟩) [] []) (hob : all ([Back (Value.tuple (Array.mk [.slice none 0 0, .bool false])) (Value.tuple (Array.mk [.slice none 0 0, .bool false])) [] [] [], plainR [ePc.row out, RR (1 + 1)], meetL (ePc.list (ePc.row out) 0 out.length) (ePc.list (RR (1 + 1)) 0 nq) most = none, MR.few.ok, ePc.Row (ePc.row out) 0 out.length, ePc.Row (RR (1 + 1)) 0 nq, out.length ≤ 100000, nq ≤ 100000, most ≤ (100000 : Int), readPart Try.prog 28 R0 (o1 + ((j : Int)).toNat * 1) = some (Value.slice (some (Addr.mk 2 0 none)) nq dq), (0 : Int) ≤ (j : Int) ∧ (j : Int) < (k1 : Int), decide ((↑j : Int) < (↑k1 : Int)) = true])) : Sat E (inLp (lp Try.f31 0) J) ((alL 3 R0 RR o1 k1 c1 most Q).st 0 ⟨j, out⟩) :=
 by_ret (T := auto0 (t_al MR.few)) (h := hints [(6, 0, {p := true}), (6, 1, {o := some (.slice (some ⟨2, 0, none⟩) nq dq)})]) (ws := [.b true, .go]) (nx' := 8) hE hm (auto0_ok (t_al_ok MR.few)) (by omega) (by simp) (by simp) (by kernel_rfl) hob
theorem alB33 (R0 : List Value) (RR : Nat → List Value) (o1 k1 c1 nq dq : Nat) (most : Int) (Q : AQ → Prop) (j : Nat) (out l : List Pc) (J : _) {E rv rhs rhv} (hE : EnvOK E Try.prog Try.f31 2 8 rv rhs rhv) (hL : (alL 3 R0 RR o1 k1 c1 most Q).OK 8) (hob : all ([SameK (mkLp (lp Try.f31 0) J) (mkLp (lp Try.f31 0) J), Enter (alL 3 R0 RR o1 k1 c1 most Q) 0 (some (k1 - j)) [.int .i64 most, .slice (some (Addr.mk 67 0 none)) l.length Ev.mark, .slice (some (Addr.mk 0 o1 none)) k1 c1, .int .i64 ((k1 : Int)), .int .i64 (Int.ofNat j.succ)] [Blk.ro R0, Blk.ro (RR (0 + 1)), Blk.ro (RR (1 + 1)), Blk.ro (RR (2 + 1)), Blk.vec (ePc.row l) 27 11] [(10, 67), (0, 0)], Value.int IntKind.i64 (IntKind.i64.wrap (Int.ofNat j.succ)) = .int .i64 (Int.ofNat j.succ), plainR [ePc.row out, RR (2 + 1)], meetL (ePc.list (ePc.row out) 0 out.length) (ePc.list (RR (2 + 1)) 0 nq) most = some l, (MR.row l).ok, ePc.Row (ePc.row out) 0 out.length, ePc.Row (RR (2 + 1)) 0 nq, out.length ≤ 100000, nq ≤ 100000, most ≤ (100000 : Int), readPart Try.prog 28 R0 (o1 + ((j : Int)).toNat * 1) = some (Value.slice (some (Addr.mk 3 0 none)) nq dq), (0 : Int) ≤ (j : Int) ∧ (j : Int) < (k1 : Int), decide ((↑j : Int) < (↑k1 : Int)) = true])) (hK : ∀ zz, (alL 3 R0 RR o1 k1 c1 most Q).inv 0 zz → ltO ((alL 3 R0 RR o1 k1 c1 most Q).mu 0 zz) (some (k1 - j)) → Sat E (mkLp (lp Try.f31 0) J) ((alL 3 R0 RR o1 k1 c1 most Q).st 0 zz)) : Sat E (inLp (lp Try.f31 0) J) ((alL 3 R0 RR o1 k1 c1 most Q).st 0 ⟨j, out⟩) :=
 by_to (T := auto0 (t_al (MR.row l))) (h := hints [(6, 0, {p := true}), (6, 1, {o := some (.slice (some ⟨3, 0, none⟩) nq dq)}), (11, 0, {v := some (.int .i64 ((j + 1 : Nat) : Int))})]) (ws := [.b true, .go]) (i0 := ⟨j + 1, l⟩) hE hm (auto0_ok (t_al_ok (MR.row l))) hL (by kernel_rfl) hob hK
theorem alF33 (R0 : List Value) (RR : Nat → List Value) (o1 k1 c1 nq dq : Nat) (most : Int) (Q : AQ → Prop) (j : Nat) (out : List Pc) (J : _) {E : Env} (hE : EnvOK E Try.prog Try.f31 2 8 (.tuple ⟨[.slice none 0 0, .bool false]⟩) [] []) (hob : all ([Back (Value.tuple (Array.mk [.slice none 0 0, .bool false])) (Value.tuple (Array.mk [.slice none 0 0, .bool false])) [] [] [], plainR [ePc.row out, RR (2 + 1)], meetL (ePc.list (ePc.row out) 0 out.length) (ePc.list (RR (2 + 1)) 0 nq) most = none, MR.few.ok, ePc.Row (ePc.row out) 0 out.length, ePc.Row (RR (2 + 1)) 0 nq, out.length ≤ 100000, nq ≤ 100000, most ≤ (100000 : Int), readPart Try.prog 28 R0 (o1 + ((j : Int)).toNat * 1) = some (Value.slice (some (Addr.mk 3 0 none)) nq dq), (0 : Int) ≤ (j : Int) ∧ (j : Int) < (k1 : Int), decide ((↑j : Int) < (↑k1 : Int)) = true])) : Sat E (inLp (lp Try.f31 0) J) ((alL 3 R0 RR o1 k1 c1 most Q).st 0 ⟨j, out⟩) :=
 by_ret (T := auto0 (t_al MR.few)) (h := hints [(6, 0, {p := true}), (6, 1, {o := some (.slice (some ⟨3, 0, none⟩) nq dq)})]) (ws := [.b true, .go]) (nx' := 8) hE hm (auto0_ok (t_al_ok MR.few)) (by omega) (by simp) (by simp) (by kernel_rfl) hob
theorem alIn4 (R : MR) (R0 : List Value) (RR : Nat → List Value) (o c o1 k1 c1 n1 d1 : Nat) (most : Int) (L1 : List Pc) (Q : AQ → Prop)  {E rv rhs rhv} (hE : EnvOK E Try.prog Try.f31 2 8 rv rhs rhv) (hL : (alL 4 R0 RR o1 k1 c1 most Q).OK 8) (hob : all ([SameK (atLp (lp Try.f31 0)) (atLp (lp Try.f31 0)), Enter (alL 4 R0 RR o1 k1 c1 most Q) 0 none [.int .i64 most, .slice (some (Addr.mk 80 0 none)) (0 + n1) Ev.mark, .slice (some (Addr.mk 0 o1 none)) k1 c1, .int .i64 ((k1 : Int)), .int .i64 ((0 : Int))] [Blk.ro R0, Blk.ro (RR 1), Blk.ro (RR 2), Blk.ro (RR 3), Blk.ro (RR 4), Blk.vec (ePc.row L1) 27 11] [(10, 80), (0, 0)], SlOK 1 0 o 4 c (some ((1 : Int))) none (some (Blk.ro R0)) (Value.slice (some (Addr.mk 0 o1 none)) k1 c1), AppOK (some (Blk.cells [] 27)) 0 0 11 88 n1 (RR 1) 0 (ePc.row L1), readPart Try.prog 28 R0 (o + 0) = some (Value.slice (some (Addr.mk 1 0 none)) n1 d1), (0 : Int) ≤ (0 : Int) ∧ (0 : Int) < (4 : Int), Value.bool false = .bool false])) (hK : ∀ zz, (alL 4 R0 RR o1 k1 c1 most Q).inv 0 zz → ltO ((alL 4 R0 RR o1 k1 c1 most Q).mu 0 zz) none → Sat E (atLp (lp Try.f31 0)) ((alL 4 R0 RR o1 k1 c1 most Q).st 0 zz)) : Sat E [.code (bodyOf Try.f31)] (st0 Try.f31 [.slice (some ⟨0, o, none⟩) 4 c, .int .i64 most] (roRows [R0, RR 1, RR 2, RR 3, RR 4]) 8) :=
 by_to (T := auto0 (t_al R)) (h := hints [(1, 2, ht false), (3, 2, {p := true}), (3, 3, {o := some (.slice (some ⟨1, 0, none⟩) n1 d1)}), (3, 4, {c := some (ePc.row L1)}), (4, 1, {o := some (.slice (some ⟨0, o1, none⟩) k1 c1)})]) (ws := [.go, .stop]) (i0 := ⟨0, L1⟩) hE hm (auto0_ok (t_al_ok R)) hL (by kernel_rfl) hob hK
theorem alE4 (R : MR) (R0 : List Value) (RR : Nat → List Value) (o1 k1 c1 : Nat) (most : Int) (Q : AQ → Prop) (j : Nat) (out : List Pc) (J : _) {E : Env} (hE : EnvOK E Try.prog Try.f31 2 8 (.tuple ⟨[.slice (some ⟨100, 0, none⟩) out.length mk, .bool true]⟩) [100] [.vec (ePc.row out) 27 11]) (hob : all ([Back (Value.tuple (Array.mk [.slice (some (Addr.mk 10 0 none)) out.length Ev.mark, .bool true])) (Value.tuple (Array.mk [.slice (some (Addr.mk 100 0 none)) out.length Ev.mark, .bool true])) [Blk.vec (ePc.row out) 27 11] [Blk.vec (ePc.row out) 27 11] [(100, 10)], decide ((↑j : Int) < (↑k1 : Int)) = false])) : Sat E (inLp (lp Try.f31 0) J) ((alL 4 R0 RR o1 k1 c1 most Q).st 0 ⟨j, out⟩) :=
 by_ret (T := auto0 (t_al R)) (h := hints []) (ws := [.b false]) (nx' := 101) hE hm (auto0_ok (t_al_ok R)) (by omega) (by simp) (by intro x hx; simp at hx; subst hx; exact Blk.plain.namesLt (b := .vec _ _ _) (Elt.row_pl _) _) (by kernel_rfl) hob
theorem alB42 (R0 : List Value) (RR : Nat → List Value) (o1 k1 c1 nq dq : Nat) (most : Int) (Q : AQ → Prop) (j : Nat) (out l : List Pc) (J : _) {E rv rhs rhv} (hE : EnvOK E Try.prog Try.f31 2 8 rv rhs rhv) (hL : (alL 4 R0 RR o1 k1 c1 most Q).OK 8) (hob : all ([SameK (mkLp (lp Try.f31 0) J) (mkLp (lp Try.f31 0) J), Enter (alL 4 R0 RR o1 k1 c1 most Q) 0 (some (k1 - j)) [.int .i64 most, .slice (some (Addr.mk 67 0 none)) l.length Ev.mark, .slice (some (Addr.mk 0 o1 none)) k1 c1, .int .i64 ((k1 : Int)), .int .i64 (Int.ofNat j.succ)] [Blk.ro R0, Blk.ro (RR (0 + 1)), Blk.ro (RR (1 + 1)), Blk.ro (RR (2 + 1)), Blk.ro (RR (3 + 1)), Blk.vec (ePc.row l) 27 11] [(10, 67), (0, 0)], Value.int IntKind.i64 (IntKind.i64.wrap (Int.ofNat j.succ)) = .int .i64 (Int.ofNat j.succ), plainR [ePc.row out, RR (1 + 1)], meetL (ePc.list (ePc.row out) 0 out.length) (ePc.list (RR (1 + 1)) 0 nq) most = some l, (MR.row l).ok, ePc.Row (ePc.row out) 0 out.length, ePc.Row (RR (1 + 1)) 0 nq, out.length ≤ 100000, nq ≤ 100000, most ≤ (100000 : Int), readPart Try.prog 28 R0 (o1 + ((j : Int)).toNat * 1) = some (Value.slice (some (Addr.mk 2 0 none)) nq dq), (0 : Int) ≤ (j : Int) ∧ (j : Int) < (k1 : Int), decide ((↑j : Int) < (↑k1 : Int)) = true])) (hK : ∀ zz, (alL 4 R0 RR o1 k1 c1 most Q).inv 0 zz → ltO ((alL 4 R0 RR o1 k1 c1 most Q).mu 0 zz) (some (k1 - j)) → Sat E (mkLp (lp Try.f31 0) J) ((alL 4 R0 RR o1 k1 c1 most Q).st 0 zz)) : Sat E (inLp (lp Try.f31 0) J) ((alL 4 R0 RR o1 k1 c1 most Q).st 0 ⟨j, out⟩) :=
 by_to (T := auto0 (t_al (MR.row l))) (h := hints [(6, 0, {p := true}), (6, 1, {o := some (.slice (some ⟨2, 0, none⟩) nq dq)}), (11, 0, {v := some (.int .i64 ((j + 1 : Nat) : Int))})]) (ws := [.b true, .go]) (i0 := ⟨j + 1, l⟩) hE hm (auto0_ok (t_al_ok (MR.row l))) hL (by kernel_rfl) hob hK
theorem alF42 (R0 : List Value) (RR : Nat → List Value) (o1 k1 c1 nq dq : Nat) (most : Int) (Q : AQ → Prop) (j : Nat) (out : List Pc) (J : _) {E : Env} (hE : EnvOK E Try.prog Try.f31 2 8 (.tuple ⟨[.slice none 0 0, .bool false]⟩) [] []) (hob : all ([Back (Value.tuple (Array.mk [.slice none 0 0, .bool false])) (Value.tuple (Array.mk [.slice none 0 0, .bool false])) [] [] [], plainR [ePc.row out, RR (1 + 1)], meetL (ePc.list (ePc.row out) 0 out.length) (ePc.list (RR (1 + 1)) 0 nq) most = none, MR.few.ok, ePc.Row (ePc.row out) 0 out.length, ePc.Row (RR (1 + 1)) 0 nq, out.length ≤ 100000, nq ≤ 100000, most ≤ (100000 : Int), readPart Try.prog 28 R0 (o1 + ((j : Int)).toNat * 1) = some (Value.slice (some (Addr.mk 2 0 none)) nq dq), (0 : Int) ≤ (j : Int) ∧ (j : Int) < (k1 : Int), decide ((↑j : Int) < (↑k1 : Int)) = true])) : Sat E (inLp (lp Try.f31 0) J) ((alL 4 R0 RR o1 k1 c1 most Q).st 0 ⟨j, out⟩) :=
 by_ret (T := auto0 (t_al MR.few)) (h := hints [(6, 0, {p := true}), (6, 1, {o := some (.slice (some ⟨2, 0, none⟩) nq dq)})]) (ws := [.b true, .go]) (nx' := 8) hE hm (auto0_ok (t_al_ok MR.few)) (by omega) (by simp) (by simp) (by kernel_rfl) hob
theorem alB43 (R0 : List Value) (RR : Nat → List Value) (o1 k1 c1 nq dq : Nat) (most : Int) (Q : AQ → Prop) (j : Nat) (out l : List Pc) (J : _) {E rv rhs rhv} (hE : EnvOK E Try.prog Try.f31 2 8 rv rhs rhv) (hL : (alL 4 R0 RR o1 k1 c1 most Q).OK 8) (hob : all ([SameK (mkLp (lp Try.f31 0) J) (mkLp (lp Try.f31 0) J), Enter (alL 4 R0 RR o1 k1 c1 most Q) 0 (some (k1 - j)) [.int .i64 most, .slice (some (Addr.mk 67 0 none)) l.length Ev.mark, .slice (some (Addr.mk 0 o1 none)) k1 c1, .int .i64 ((k1 : Int)), .int .i64 (Int.ofNat j.succ)] [Blk.ro R0, Blk.ro (RR (0 + 1)), Blk.ro (RR (1 + 1)), Blk.ro (RR (2 + 1)), Blk.ro (RR (3 + 1)), Blk.vec (ePc.row l) 27 11] [(10, 67), (0, 0)], Value.int IntKind.i64 (IntKind.i64.wrap (Int.ofNat j.succ)) = .int .i64 (Int.ofNat j.succ), plainR [ePc.row out, RR (2 + 1)], meetL (ePc.list (ePc.row out) 0 out.length) (ePc.list (RR (2 + 1)) 0 nq) most = some l, (MR.row l).ok, ePc.Row (ePc.row out) 0 out.length, ePc.Row (RR (2 + 1)) 0 nq, out.length ≤ 100000, nq ≤ 100000, most ≤ (100000 : Int), readPart Try.prog 28 R0 (o1 + ((j : Int)).toNat * 1) = some (Value.slice (some (Addr.mk 3 0 none)) nq dq), (0 : Int) ≤ (j : Int) ∧ (j : Int) < (k1 : Int), decide ((↑j : Int) < (↑k1 : Int)) = true])) (hK : ∀ zz, (alL 4 R0 RR o1 k1 c1 most Q).inv 0 zz → ltO ((alL 4 R0 RR o1 k1 c1 most Q).mu 0 zz) (some (k1 - j)) → Sat E (mkLp (lp Try.f31 0) J) ((alL 4 R0 RR o1 k1 c1 most Q).st 0 zz)) : Sat E (inLp (lp Try.f31 0) J) ((alL 4 R0 RR o1 k1 c1 most Q).st 0 ⟨j, out⟩) :=
 by_to (T := auto0 (t_al (MR.row l))) (h := hints [(6, 0, {p := true}), (6, 1, {o := some (.slice (some ⟨3, 0, none⟩) nq dq)}), (11, 0, {v := some (.int .i64 ((j + 1 : Nat) : Int))})]) (ws := [.b true, .go]) (i0 := ⟨j + 1, l⟩) hE hm (auto0_ok (t_al_ok (MR.row l))) hL (by kernel_rfl) hob hK
theorem alF43 (R0 : List Value) (RR : Nat → List Value) (o1 k1 c1 nq dq : Nat) (most : Int) (Q : AQ → Prop) (j : Nat) (out : List Pc) (J : _) {E : Env} (hE : EnvOK E Try.prog Try.f31 2 8 (.tuple ⟨[.slice none 0 0, .bool false]⟩) [] []) (hob : all ([Back (Value.tuple (Array.mk [.slice none 0 0, .bool false])) (Value.tuple (Array.mk [.slice none 0 0, .bool false])) [] [] [], plainR [ePc.row out, RR (2 + 1)], meetL (ePc.list (ePc.row out) 0 out.length) (ePc.list (RR (2 + 1)) 0 nq) most = none, MR.few.ok, ePc.Row (ePc.row out) 0 out.length, ePc.Row (RR (2 + 1)) 0 nq, out.length ≤ 100000, nq ≤ 100000, most ≤ (100000 : Int), readPart Try.prog 28 R0 (o1 + ((j : Int)).toNat * 1) = some (Value.slice (some (Addr.mk 3 0 none)) nq dq), (0 : Int) ≤ (j : Int) ∧ (j : Int) < (k1 : Int), decide ((↑j : Int) < (↑k1 : Int)) = true])) : Sat E (inLp (lp Try.f31 0) J) ((alL 4 R0 RR o1 k1 c1 most Q).st 0 ⟨j, out⟩) :=
 by_ret (T := auto0 (t_al MR.few)) (h := hints [(6, 0, {p := true}), (6, 1, {o := some (.slice (some ⟨3, 0, none⟩) nq dq)})]) (ws := [.b true, .go]) (nx' := 8) hE hm (auto0_ok (t_al_ok MR.few)) (by omega) (by simp) (by simp) (by kernel_rfl) hob
theorem alB44 (R0 : List Value) (RR : Nat → List Value) (o1 k1 c1 nq dq : Nat) (most : Int) (Q : AQ → Prop) (j : Nat) (out l : List Pc) (J : _) {E rv rhs rhv} (hE : EnvOK E Try.prog Try.f31 2 8 rv rhs rhv) (hL : (alL 4 R0 RR o1 k1 c1 most Q).OK 8) (hob : all ([SameK (mkLp (lp Try.f31 0) J) (mkLp (lp Try.f31 0) J), Enter (alL 4 R0 RR o1 k1 c1 most Q) 0 (some (k1 - j)) [.int .i64 most, .slice (some (Addr.mk 67 0 none)) l.length Ev.mark, .slice (some (Addr.mk 0 o1 none)) k1 c1, .int .i64 ((k1 : Int)), .int .i64 (Int.ofNat j.succ)] [Blk.ro R0, Blk.ro (RR (0 + 1)), Blk.ro (RR (1 + 1)), Blk.ro (RR (2 + 1)), Blk.ro (RR (3 + 1)), Blk.vec (ePc.row l) 27 11] [(10, 67), (0, 0)], Value.int IntKind.i64 (IntKind.i64.wrap (Int.ofNat j.succ)) = .int .i64 (Int.ofNat j.succ), plainR [ePc.row out, RR (3 + 1)], meetL (ePc.list (ePc.row out) 0 out.length) (ePc.list (RR (3 + 1)) 0 nq) most = some l, (MR.row l).ok, ePc.Row (ePc.row out) 0 out.length, ePc.Row (RR (3 + 1)) 0 nq, out.length ≤ 100000, nq ≤ 100000, most ≤ (100000 : Int), readPart Try.prog 28 R0 (o1 + ((j : Int)).toNat * 1) = some (Value.slice (some (Addr.mk 4 0 none)) nq dq), (0 : Int) ≤ (j : Int) ∧ (j : Int) < (k1 : Int), decide ((↑j : Int) < (↑k1 : Int)) = true])) (hK : ∀ zz, (alL 4 R0 RR o1 k1 c1 most Q).inv 0 zz → ltO ((alL 4 R0 RR o1 k1 c1 most Q).mu 0 zz) (some (k1 - j)) → Sat E (mkLp (lp Try.f31 0) J) ((alL 4 R0 RR o1 k1 c1 most Q).st 0 zz)) : Sat E (inLp (lp Try.f31 0) J) ((alL 4 R0 RR o1 k1 c1 most Q).st 0 ⟨j, out⟩) :=
 by_to (T := auto0 (t_al (MR.row l))) (h := hints [(6, 0, {p := true}), (6, 1, {o := some (.slice (some ⟨4, 0, none⟩) nq dq)}), (11, 0, {v := some (.int .i64 ((j + 1 : Nat) : Int))})]) (ws := [.b true, .go]) (i0 := ⟨j + 1, l⟩) hE hm (auto0_ok (t_al_ok (MR.row l))) hL (by kernel_rfl) hob hK
theorem alF44 (R0 : List Value) (RR : Nat → List Value) (o1 k1 c1 nq dq : Nat) (most : Int) (Q : AQ → Prop) (j : Nat) (out : List Pc) (J : _) {E : Env} (hE : EnvOK E Try.prog Try.f31 2 8 (.tuple ⟨[.slice none 0 0, .bool false]⟩) [] []) (hob : all ([Back (Value.tuple (Array.mk [.slice none 0 0, .bool false])) (Value.tuple (Array.mk [.slice none 0 0, .bool false])) [] [] [], plainR [ePc.row out, RR (3 + 1)], meetL (ePc.list (ePc.row out) 0 out.length) (ePc.list (RR (3 + 1)) 0 nq) most = none, MR.few.ok, ePc.Row (ePc.row out) 0 out.length, ePc.Row (RR (3 + 1)) 0 nq, out.length ≤ 100000, nq ≤ 100000, most ≤ (100000 : Int), readPart Try.prog 28 R0 (o1 + ((j : Int)).toNat * 1) = some (Value.slice (some (Addr.mk 4 0 none)) nq dq), (0 : Int) ≤ (j : Int) ∧ (j : Int) < (k1 : Int), decide ((↑j : Int) < (↑k1 : Int)) = true])) : Sat E (inLp (lp Try.f31 0) J) ((alL 4 R0 RR o1 k1 c1 most Q).st 0 ⟨j, out⟩) :=
 by_ret (T := auto0 (t_al MR.few)) (h := hints [(6, 0, {p := true}), (6, 1, {o := some (.slice (some ⟨4, 0, none⟩) nq dq)})]) (ws := [.b true, .go]) (nx' := 8) hE hm (auto0_ok (t_al_ok MR.few)) (by omega) (by simp) (by simp) (by kernel_rfl) hob
end Go.Proofs.Ythbaccmhdffjdaa.Cl
namespace Go.Proofs.Ythbaccmhdffjdaa.Cl
open Go Go.RowKit Ev NodeE BoxF Lv Tr Within PickE Tn Fo Cl Mm Mt
def allN (Ls : Nat → List Pc) (most : Int) : Nat → Option (List Pc)
 | 0 => some (Ls 0)
 | j + 1 => (allN Ls most j).bind fun a => meetL a (Ls (j + 1)) most
theorem allN_none {Ls : Nat → List Pc} {most : Int} {j : Nat} (h : allN Ls most j = none) : ∀ d, allN Ls most (j + d) = none
 | 0 => h
 | d + 1 => by
  show (allN Ls most (j + d)).bind _ = none
  rw [allN_none h d]
  rfl
def gN (g : Nat → Pt → Int) : Nat → Pt → Int
 | 0 => g 0
 | j + 1 => fun p => IntKind.i64.wrap (gN g j p + g (j + 1) p)
theorem allN_part {Ls : Nat → List Pc} {most : Int} {b : Bx} {g : Nat → Pt → Int} : ∀ {j : Nat} {l : List Pc}, (∀ i, i ≤ j → Part b (Ls i) (g i)) → allN Ls most j = some l → Part b l (gN g j)
 | 0, l, h, e => by
  have e : Ls 0 = l := Option.some.inj e
  rw [← e]
  exact h 0 (Nat.le_refl _)
 | j + 1, l, h, e => by
  have e : (allN Ls most j).bind (fun a => meetL a (Ls (j + 1)) most) = some l := e
  cases ha : allN Ls most j with
  | none => rw [ha] at e; exact absurd e (by simp)
  | some a =>
   rw [ha] at e
   exact meet_part (allN_part (fun i hi => h i (by omega)) ha) (h (j + 1) (Nat.le_refl _)) e
theorem allN_len {Ls : Nat → List Pc} {most : Int} (hm : most ≤ 100000) : ∀ {j : Nat} {l : List Pc}, (Ls 0).length ≤ 100000 → allN Ls most j = some l → l.length ≤ 100000
 | 0, l, h, e => by
  have e : Ls 0 = l := Option.some.inj e
  rw [← e]; exact h
 | j + 1, l, h, e => by
  have e : (allN Ls most j).bind (fun a => meetL a (Ls (j + 1)) most) = some l := e
  cases ha : allN Ls most j with
  | none => rw [ha] at e; exact absurd e (by simp)
  | some a =>
   rw [ha] at e
   have := mtO_len (most := most) (b := Ls (j + 1)) (xs := a) (out := []) (o := l) e
   simp at this
   omega
def alV : Option (List Pc) → Value
 | none => .tuple ⟨[.slice none 0 0, .bool false]⟩
 | some l => .tuple ⟨[.slice (some ⟨100, 0, none⟩) l.length mk, .bool true]⟩
def alNs : Option (List Pc) → List Nat
 | none => []
 | some _ => [100]
def alBs : Option (List Pc) → List Blk
 | none => []
 | some l => [.vec (ePc.row l) 27 11]
theorem appOK_cells {L : List Pc} {ty : TypeId} (h1 : 1 ≤ L.length) (h2 : L.length ≤ 100000) : AppOK (some (.cells [] ty)) 0 0 11 88 L.length (ePc.row L) 0 (ePc.row L) := by
 refine ⟨[], ePc.row L, ?_, ?_, h1, by omega, by omega, rfl, rfl, Nat.le_refl _, by omega, rfl⟩
 ·have hl : (ePc.row L).length = L.length * 11 := Elt.row_len L
  rw [sub_of (by omega), List.drop_zero, List.take_of_length_le (by omega)]
 ·exact allB_iff.2 fun c hc => leaf_of_leafG (Elt.row_pl _ c hc)
theorem al_o1 {c K : Nat} (h1 : 1 ≤ K) (hc : K ≤ c) (hm : c ≤ maxLen) (o : Nat) (R0 : List Value) : SlOK 1 0 o K c (some (1 : Int)) none (some (.ro R0)) (.slice (some ⟨0, if c = 1 then o else o + 1 * 1, none⟩) (K - 1) (c - 1)) := by
 refine ⟨1, K, rfl, rfl, h1, Nat.le_refl _, Or.inr ⟨?_, hc, ?_⟩⟩
 ·have := small_cap hm
  exact Nat.not_le.1 fun h => by rw [Nat.ble_eq_true_of_le h] at this; exact absurd this (by simp)
 ·by_cases h : c = 1
  ·exact Or.inl ⟨h, by rw [if_pos h]⟩
  ·exact Or.inr ⟨h, by rw [if_neg h]⟩
theorem al_spec1 (R0 : List Value) (RR : Nat → List Value) (o c : Nat) (Ls : Nat → List Pc) (dd : Nat → Nat) (most : Int) (b : Bx) (g : Nat → Pt → Int)
  (h0 : ∀ i, i < 1 → readPart Try.prog 28 R0 (o + i) = some (.slice (some ⟨i + 1, 0, none⟩) (Ls i).length (dd i))) (hR : ∀ i, i < 1 → RR (i + 1) = ePc.row (Ls i))
  (hN : ∀ c ∈ R0, ∀ k ∈ nm0 c, k < 8) (hP : ∀ i, ∀ c ∈ RR i, leafG c = true) (hc : 1 ≤ c) (hcm : c ≤ maxLen) (hbe : b.emp = false) (hp : ∀ i, i < 1 → Part b (Ls i) (g i)) (hl : ∀ i, i < 1 → (Ls i).length ≤ 100000) (hm : most ≤ 100000) :
  CallSpec Try.prog 31 [.slice (some ⟨0, o, none⟩) 1 c, .int .i64 most] (roRows [R0, RR 1]) 8 (alV (allN Ls most (1 - 1))) (assocN (alNs (allN Ls most (1 - 1))) (alBs (allN Ls most (1 - 1)))) := by
 refine spec_of_sat Try.func31 rfl fun E hE => ?_
 have okL := fun Q => alL_ok (K := 1) (by decide) hN hP (if c = 1 then o else o + 1 * 1) (1 - 1) (c - 1) most Q
 have rnrr : ∀ (f : Nat → Nat) i, Blk.rnB f (.ro (RR i)) = .ro (RR i) := fun f i => Blk.plain.rnB (b := .ro _) (hP i) f
 have rnsA : ∀ (f : Nat → Nat) (l : List Pc), Blk.rnB f (.vec (ePc.row l) 27 11) = .vec (ePc.row l) 27 11 := fun f l => Blk.plain.rnB (b := .vec (ePc.row l) 27 11) (Elt.row_pl _) f
 have rn0' : ∀ (f : Nat → Nat), (∀ k, k < 8 → f k = k) → Blk.rnB f (.ro R0) = .ro R0 := fun f hf => by
  show Blk.ro (mapL (rn0 f) R0) = _
  rw [mapL_fix fun c hc k hk => hf k (hN c hc k hk)]
 have r0 := rn0' (Ev.look [(10, 67), (0, 0)]) (by decide)
 have r1 := rn0' (Ev.look [(10, 80), (0, 0)]) (by decide)
 let Q : AQ → Prop := fun s => s.j ≤ 1 - 1 ∧ allN Ls most s.j = some s.out
 have h00 := h0 0 (by decide)
 have hrow1 : RR 1 = ePc.row (Ls 0) := hR 0 (by decide)
 have hne0 := part_ne (hp 0 (by decide)) hbe
 have hn0 : 1 ≤ (Ls 0).length := by cases h : Ls 0 with | nil => exact absurd h hne0 | cons _ _ => simp
 refine alIn1 MR.few R0 RR o c (if c = 1 then o else o + 1 * 1) (1 - 1) (c - 1) (Ls 0).length (dd 0) most (Ls 0) Q hE (okL Q) ⟨rfl, ⟨⟨0, Ls 0⟩, ⟨Nat.zero_le _, rfl⟩, trivial, (by simp only [Nat.zero_add]; rfl), (by simp only [alL, rowsA, List.nil_append, List.cons_append, List.map_cons, List.map_nil, r1, rnrr, rnsA] <;> rfl)⟩, al_o1 (by decide) hc hcm o R0, ?_, h00, ⟨by decide, by decide⟩, rfl, trivial⟩ fun zz hz _ => by_loop (alL 1 R0 RR (if c = 1 then o else o + 1 * 1) (1 - 1) (c - 1) most Q) (lp Try.f31 0) ?_ 0 zz hz
 ·rw [hrow1]
  exact appOK_cells hn0 (hl 0 (by decide))
 rintro z ⟨j, out⟩ hinv J hJ
 obtain ⟨k1, k2⟩ : j ≤ 1 - 1 ∧ allN Ls most j = some out := hinv
 have k3 : out.length ≤ 100000 := allN_len hm (hl 0 (by decide)) k2
 show Sat E (inLp (lp Try.f31 0) J) ((alL 1 R0 RR (if c = 1 then o else o + 1 * 1) (1 - 1) (c - 1) most Q).st 0 ⟨j, out⟩)
 have hj : j = 0 := by omega
 rcases hj with rfl
 ·rw [k2] at hE
  exact alE1 MR.few R0 RR (if c = 1 then o else o + 1 * 1) (1 - 1) (c - 1) most Q 0 out J hE ⟨⟨rfl, by simp only [List.map_cons, List.map_nil, rnsA]⟩, rfl, trivial⟩
theorem al_spec2 (R0 : List Value) (RR : Nat → List Value) (o c : Nat) (Ls : Nat → List Pc) (dd : Nat → Nat) (most : Int) (b : Bx) (g : Nat → Pt → Int)
  (h0 : ∀ i, i < 2 → readPart Try.prog 28 R0 (o + i) = some (.slice (some ⟨i + 1, 0, none⟩) (Ls i).length (dd i))) (hR : ∀ i, i < 2 → RR (i + 1) = ePc.row (Ls i))
  (hN : ∀ c ∈ R0, ∀ k ∈ nm0 c, k < 8) (hP : ∀ i, ∀ c ∈ RR i, leafG c = true) (hc : 2 ≤ c) (hcm : c ≤ maxLen) (hbe : b.emp = false) (hp : ∀ i, i < 2 → Part b (Ls i) (g i)) (hl : ∀ i, i < 2 → (Ls i).length ≤ 100000) (hm : most ≤ 100000) :
  CallSpec Try.prog 31 [.slice (some ⟨0, o, none⟩) 2 c, .int .i64 most] (roRows [R0, RR 1, RR 2]) 8 (alV (allN Ls most (2 - 1))) (assocN (alNs (allN Ls most (2 - 1))) (alBs (allN Ls most (2 - 1)))) := by
 refine spec_of_sat Try.func31 rfl fun E hE => ?_
 have okL := fun Q => alL_ok (K := 2) (by decide) hN hP (if c = 1 then o else o + 1 * 1) (2 - 1) (c - 1) most Q
 have rnrr : ∀ (f : Nat → Nat) i, Blk.rnB f (.ro (RR i)) = .ro (RR i) := fun f i => Blk.plain.rnB (b := .ro _) (hP i) f
 have rnsA : ∀ (f : Nat → Nat) (l : List Pc), Blk.rnB f (.vec (ePc.row l) 27 11) = .vec (ePc.row l) 27 11 := fun f l => Blk.plain.rnB (b := .vec (ePc.row l) 27 11) (Elt.row_pl _) f
 have rn0' : ∀ (f : Nat → Nat), (∀ k, k < 8 → f k = k) → Blk.rnB f (.ro R0) = .ro R0 := fun f hf => by
  show Blk.ro (mapL (rn0 f) R0) = _
  rw [mapL_fix fun c hc k hk => hf k (hN c hc k hk)]
 have r0 := rn0' (Ev.look [(10, 67), (0, 0)]) (by decide)
 have r1 := rn0' (Ev.look [(10, 80), (0, 0)]) (by decide)
 let Q : AQ → Prop := fun s => s.j ≤ 2 - 1 ∧ allN Ls most s.j = some s.out
 have h00 := h0 0 (by decide)
 have hrow1 : RR 1 = ePc.row (Ls 0) := hR 0 (by decide)
 have hne0 := part_ne (hp 0 (by decide)) hbe
 have hn0 : 1 ≤ (Ls 0).length := by cases h : Ls 0 with | nil => exact absurd h hne0 | cons _ _ => simp
 refine alIn2 MR.few R0 RR o c (if c = 1 then o else o + 1 * 1) (2 - 1) (c - 1) (Ls 0).length (dd 0) most (Ls 0) Q hE (okL Q) ⟨rfl, ⟨⟨0, Ls 0⟩, ⟨Nat.zero_le _, rfl⟩, trivial, (by simp only [Nat.zero_add]; rfl), (by simp only [alL, rowsA, List.nil_append, List.cons_append, List.map_cons, List.map_nil, r1, rnrr, rnsA] <;> rfl)⟩, al_o1 (by decide) hc hcm o R0, ?_, h00, ⟨by decide, by decide⟩, rfl, trivial⟩ fun zz hz _ => by_loop (alL 2 R0 RR (if c = 1 then o else o + 1 * 1) (2 - 1) (c - 1) most Q) (lp Try.f31 0) ?_ 0 zz hz
 ·rw [hrow1]
  exact appOK_cells hn0 (hl 0 (by decide))
 rintro z ⟨j, out⟩ hinv J hJ
 obtain ⟨k1, k2⟩ : j ≤ 2 - 1 ∧ allN Ls most j = some out := hinv
 have k3 : out.length ≤ 100000 := allN_len hm (hl 0 (by decide)) k2
 show Sat E (inLp (lp Try.f31 0) J) ((alL 2 R0 RR (if c = 1 then o else o + 1 * 1) (2 - 1) (c - 1) most Q).st 0 ⟨j, out⟩)
 have hj : j = 0 ∨ j = 1 := by omega
 rcases hj with rfl | rfl
 ·have hmt : (allN Ls most (0 + 1)) = meetL out (Ls 1) most := by show (allN Ls most 0).bind _ = _; rw [k2]; rfl
  have hne2 : Part b (Ls 1) (g 1) := hp _ (by omega)
  have hrow : RR 2 = ePc.row (Ls 1) := hR 1 (by omega)
  have hrd : readPart Try.prog 28 R0 ((if c = 1 then o else o + 1 * 1) + (((0 : Nat) : Int)).toNat * 1) = some (.slice (some ⟨2, 0, none⟩) (Ls 1).length (dd 1)) := by
   rw [if_neg (by omega)]
   have := h0 1 (by omega)
   exact this
  have hlq : (Ls 1).length ≤ 100000 := hl _ (by omega)
  have hpl2 : plainR [ePc.row out, RR 2] := plain2 (Elt.row_pl _) (hP _)
  have hra := (Elt.canon0 (e := ePc) out)
  have hrb : ePc.Row (RR 2) 0 (Ls 1).length ∧ ePc.list (RR 2) 0 (Ls 1).length = Ls 1 := by rw [hrow]; exact Elt.canon0 (e := ePc) _
  cases hm2 : meetL out (Ls 1) most with
  | some l =>
   rw [hm2] at hmt
   have hpl := allN_part (fun i hi => hp i (by omega)) hmt
   exact alB22 R0 RR (if c = 1 then o else o + 1 * 1) (2 - 1) (c - 1) (Ls 1).length (dd 1) most Q 0 out l J hE (okL Q) ⟨rfl, ⟨⟨0 + 1, l⟩, ⟨(by show 0 + 1 ≤ 2 - 1; decide), hmt⟩, (by show 2 - 1 - (0 + 1) < 2 - 1 - 0; omega), rfl, (by simp only [alL, rowsA, List.nil_append, List.cons_append, List.map_cons, List.map_nil, r0, rnrr, rnsA] <;> rfl)⟩, i64_succ (by omega), hpl2, (by rw [hra.2, hrb.2]; exact hm2), (by show l ≠ []; exact part_ne hpl hbe), hra.1, hrb.1, k3, hlq, hm, hrd, ⟨by decide, by decide⟩, rfl, trivial⟩ fun zz g1 g2 => hJ 0 zz g1 g2
  | none =>
   rw [hm2] at hmt
   have hfin : allN Ls most (2 - 1) = none := by
    have := allN_none hmt (0)
    exact this
   rw [hfin] at hE
   exact alF22 R0 RR (if c = 1 then o else o + 1 * 1) (2 - 1) (c - 1) (Ls 1).length (dd 1) most Q 0 out J hE ⟨⟨rfl, rfl⟩, hpl2, (by rw [hra.2, hrb.2]; exact hm2), trivial, hra.1, hrb.1, k3, hlq, hm, hrd, ⟨by decide, by decide⟩, rfl, trivial⟩
 ·rw [k2] at hE
  exact alE2 MR.few R0 RR (if c = 1 then o else o + 1 * 1) (2 - 1) (c - 1) most Q 1 out J hE ⟨⟨rfl, by simp only [List.map_cons, List.map_nil, rnsA]⟩, rfl, trivial⟩
theorem al_spec3 (R0 : List Value) (RR : Nat → List Value) (o c : Nat) (Ls : Nat → List Pc) (dd : Nat → Nat) (most : Int) (b : Bx) (g : Nat → Pt → Int)
  (h0 : ∀ i, i < 3 → readPart Try.prog 28 R0 (o + i) = some (.slice (some ⟨i + 1, 0, none⟩) (Ls i).length (dd i))) (hR : ∀ i, i < 3 → RR (i + 1) = ePc.row (Ls i))
  (hN : ∀ c ∈ R0, ∀ k ∈ nm0 c, k < 8) (hP : ∀ i, ∀ c ∈ RR i, leafG c = true) (hc : 3 ≤ c) (hcm : c ≤ maxLen) (hbe : b.emp = false) (hp : ∀ i, i < 3 → Part b (Ls i) (g i)) (hl : ∀ i, i < 3 → (Ls i).length ≤ 100000) (hm : most ≤ 100000) :
  CallSpec Try.prog 31 [.slice (some ⟨0, o, none⟩) 3 c, .int .i64 most] (roRows [R0, RR 1, RR 2, RR 3]) 8 (alV (allN Ls most (3 - 1))) (assocN (alNs (allN Ls most (3 - 1))) (alBs (allN Ls most (3 - 1)))) := by
 refine spec_of_sat Try.func31 rfl fun E hE => ?_
 have okL := fun Q => alL_ok (K := 3) (by decide) hN hP (if c = 1 then o else o + 1 * 1) (3 - 1) (c - 1) most Q
 have rnrr : ∀ (f : Nat → Nat) i, Blk.rnB f (.ro (RR i)) = .ro (RR i) := fun f i => Blk.plain.rnB (b := .ro _) (hP i) f
 have rnsA : ∀ (f : Nat → Nat) (l : List Pc), Blk.rnB f (.vec (ePc.row l) 27 11) = .vec (ePc.row l) 27 11 := fun f l => Blk.plain.rnB (b := .vec (ePc.row l) 27 11) (Elt.row_pl _) f
 have rn0' : ∀ (f : Nat → Nat), (∀ k, k < 8 → f k = k) → Blk.rnB f (.ro R0) = .ro R0 := fun f hf => by
  show Blk.ro (mapL (rn0 f) R0) = _
  rw [mapL_fix fun c hc k hk => hf k (hN c hc k hk)]
 have r0 := rn0' (Ev.look [(10, 67), (0, 0)]) (by decide)
 have r1 := rn0' (Ev.look [(10, 80), (0, 0)]) (by decide)
 let Q : AQ → Prop := fun s => s.j ≤ 3 - 1 ∧ allN Ls most s.j = some s.out
 have h00 := h0 0 (by decide)
 have hrow1 : RR 1 = ePc.row (Ls 0) := hR 0 (by decide)
 have hne0 := part_ne (hp 0 (by decide)) hbe
 have hn0 : 1 ≤ (Ls 0).length := by cases h : Ls 0 with | nil => exact absurd h hne0 | cons _ _ => simp
 refine alIn3 MR.few R0 RR o c (if c = 1 then o else o + 1 * 1) (3 - 1) (c - 1) (Ls 0).length (dd 0) most (Ls 0) Q hE (okL Q) ⟨rfl, ⟨⟨0, Ls 0⟩, ⟨Nat.zero_le _, rfl⟩, trivial, (by simp only [Nat.zero_add]; rfl), (by simp only [alL, rowsA, List.nil_append, List.cons_append, List.map_cons, List.map_nil, r1, rnrr, rnsA] <;> rfl)⟩, al_o1 (by decide) hc hcm o R0, ?_, h00, ⟨by decide, by decide⟩, rfl, trivial⟩ fun zz hz _ => by_loop (alL 3 R0 RR (if c = 1 then o else o + 1 * 1) (3 - 1) (c - 1) most Q) (lp Try.f31 0) ?_ 0 zz hz
 ·rw [hrow1]
  exact appOK_cells hn0 (hl 0 (by decide))
 rintro z ⟨j, out⟩ hinv J hJ
 obtain ⟨k1, k2⟩ : j ≤ 3 - 1 ∧ allN Ls most j = some out := hinv
 have k3 : out.length ≤ 100000 := allN_len hm (hl 0 (by decide)) k2
 show Sat E (inLp (lp Try.f31 0) J) ((alL 3 R0 RR (if c = 1 then o else o + 1 * 1) (3 - 1) (c - 1) most Q).st 0 ⟨j, out⟩)
 have hj : j = 0 ∨ j = 1 ∨ j = 2 := by omega
 rcases hj with rfl | rfl | rfl
 ·have hmt : (allN Ls most (0 + 1)) = meetL out (Ls 1) most := by show (allN Ls most 0).bind _ = _; rw [k2]; rfl
  have hne2 : Part b (Ls 1) (g 1) := hp _ (by omega)
  have hrow : RR 2 = ePc.row (Ls 1) := hR 1 (by omega)
  have hrd : readPart Try.prog 28 R0 ((if c = 1 then o else o + 1 * 1) + (((0 : Nat) : Int)).toNat * 1) = some (.slice (some ⟨2, 0, none⟩) (Ls 1).length (dd 1)) := by
   rw [if_neg (by omega)]
   have := h0 1 (by omega)
   exact this
  have hlq : (Ls 1).length ≤ 100000 := hl _ (by omega)
  have hpl2 : plainR [ePc.row out, RR 2] := plain2 (Elt.row_pl _) (hP _)
  have hra := (Elt.canon0 (e := ePc) out)
  have hrb : ePc.Row (RR 2) 0 (Ls 1).length ∧ ePc.list (RR 2) 0 (Ls 1).length = Ls 1 := by rw [hrow]; exact Elt.canon0 (e := ePc) _
  cases hm2 : meetL out (Ls 1) most with
  | some l =>
   rw [hm2] at hmt
   have hpl := allN_part (fun i hi => hp i (by omega)) hmt
   exact alB32 R0 RR (if c = 1 then o else o + 1 * 1) (3 - 1) (c - 1) (Ls 1).length (dd 1) most Q 0 out l J hE (okL Q) ⟨rfl, ⟨⟨0 + 1, l⟩, ⟨(by show 0 + 1 ≤ 3 - 1; decide), hmt⟩, (by show 3 - 1 - (0 + 1) < 3 - 1 - 0; omega), rfl, (by simp only [alL, rowsA, List.nil_append, List.cons_append, List.map_cons, List.map_nil, r0, rnrr, rnsA] <;> rfl)⟩, i64_succ (by omega), hpl2, (by rw [hra.2, hrb.2]; exact hm2), (by show l ≠ []; exact part_ne hpl hbe), hra.1, hrb.1, k3, hlq, hm, hrd, ⟨by decide, by decide⟩, rfl, trivial⟩ fun zz g1 g2 => hJ 0 zz g1 g2
  | none =>
   rw [hm2] at hmt
   have hfin : allN Ls most (3 - 1) = none := by
    have := allN_none hmt (1)
    exact this
   rw [hfin] at hE
   exact alF32 R0 RR (if c = 1 then o else o + 1 * 1) (3 - 1) (c - 1) (Ls 1).length (dd 1) most Q 0 out J hE ⟨⟨rfl, rfl⟩, hpl2, (by rw [hra.2, hrb.2]; exact hm2), trivial, hra.1, hrb.1, k3, hlq, hm, hrd, ⟨by decide, by decide⟩, rfl, trivial⟩
 ·have hmt : (allN Ls most (1 + 1)) = meetL out (Ls 2) most := by show (allN Ls most 1).bind _ = _; rw [k2]; rfl
  have hne2 : Part b (Ls 2) (g 2) := hp _ (by omega)
  have hrow : RR 3 = ePc.row (Ls 2) := hR 2 (by omega)
  have hrd : readPart Try.prog 28 R0 ((if c = 1 then o else o + 1 * 1) + (((1 : Nat) : Int)).toNat * 1) = some (.slice (some ⟨3, 0, none⟩) (Ls 2).length (dd 2)) := by
   rw [if_neg (by omega)]
   have := h0 2 (by omega)
   exact this
  have hlq : (Ls 2).length ≤ 100000 := hl _ (by omega)
  have hpl2 : plainR [ePc.row out, RR 3] := plain2 (Elt.row_pl _) (hP _)
  have hra := (Elt.canon0 (e := ePc) out)
  have hrb : ePc.Row (RR 3) 0 (Ls 2).length ∧ ePc.list (RR 3) 0 (Ls 2).length = Ls 2 := by rw [hrow]; exact Elt.canon0 (e := ePc) _
  cases hm2 : meetL out (Ls 2) most with
  | some l =>
   rw [hm2] at hmt
   have hpl := allN_part (fun i hi => hp i (by omega)) hmt
   exact alB33 R0 RR (if c = 1 then o else o + 1 * 1) (3 - 1) (c - 1) (Ls 2).length (dd 2) most Q 1 out l J hE (okL Q) ⟨rfl, ⟨⟨1 + 1, l⟩, ⟨(by show 1 + 1 ≤ 3 - 1; decide), hmt⟩, (by show 3 - 1 - (1 + 1) < 3 - 1 - 1; omega), rfl, (by simp only [alL, rowsA, List.nil_append, List.cons_append, List.map_cons, List.map_nil, r0, rnrr, rnsA] <;> rfl)⟩, i64_succ (by omega), hpl2, (by rw [hra.2, hrb.2]; exact hm2), (by show l ≠ []; exact part_ne hpl hbe), hra.1, hrb.1, k3, hlq, hm, hrd, ⟨by decide, by decide⟩, rfl, trivial⟩ fun zz g1 g2 => hJ 0 zz g1 g2
  | none =>
   rw [hm2] at hmt
   have hfin : allN Ls most (3 - 1) = none := by
    have := allN_none hmt (0)
    exact this
   rw [hfin] at hE
   exact alF33 R0 RR (if c = 1 then o else o + 1 * 1) (3 - 1) (c - 1) (Ls 2).length (dd 2) most Q 1 out J hE ⟨⟨rfl, rfl⟩, hpl2, (by rw [hra.2, hrb.2]; exact hm2), trivial, hra.1, hrb.1, k3, hlq, hm, hrd, ⟨by decide, by decide⟩, rfl, trivial⟩
 ·rw [k2] at hE
  exact alE3 MR.few R0 RR (if c = 1 then o else o + 1 * 1) (3 - 1) (c - 1) most Q 2 out J hE ⟨⟨rfl, by simp only [List.map_cons, List.map_nil, rnsA]⟩, rfl, trivial⟩
theorem al_spec4 (R0 : List Value) (RR : Nat → List Value) (o c : Nat) (Ls : Nat → List Pc) (dd : Nat → Nat) (most : Int) (b : Bx) (g : Nat → Pt → Int)
  (h0 : ∀ i, i < 4 → readPart Try.prog 28 R0 (o + i) = some (.slice (some ⟨i + 1, 0, none⟩) (Ls i).length (dd i))) (hR : ∀ i, i < 4 → RR (i + 1) = ePc.row (Ls i))
  (hN : ∀ c ∈ R0, ∀ k ∈ nm0 c, k < 8) (hP : ∀ i, ∀ c ∈ RR i, leafG c = true) (hc : 4 ≤ c) (hcm : c ≤ maxLen) (hbe : b.emp = false) (hp : ∀ i, i < 4 → Part b (Ls i) (g i)) (hl : ∀ i, i < 4 → (Ls i).length ≤ 100000) (hm : most ≤ 100000) :
  CallSpec Try.prog 31 [.slice (some ⟨0, o, none⟩) 4 c, .int .i64 most] (roRows [R0, RR 1, RR 2, RR 3, RR 4]) 8 (alV (allN Ls most (4 - 1))) (assocN (alNs (allN Ls most (4 - 1))) (alBs (allN Ls most (4 - 1)))) := by
 refine spec_of_sat Try.func31 rfl fun E hE => ?_
 have okL := fun Q => alL_ok (K := 4) (by decide) hN hP (if c = 1 then o else o + 1 * 1) (4 - 1) (c - 1) most Q
 have rnrr : ∀ (f : Nat → Nat) i, Blk.rnB f (.ro (RR i)) = .ro (RR i) := fun f i => Blk.plain.rnB (b := .ro _) (hP i) f
 have rnsA : ∀ (f : Nat → Nat) (l : List Pc), Blk.rnB f (.vec (ePc.row l) 27 11) = .vec (ePc.row l) 27 11 := fun f l => Blk.plain.rnB (b := .vec (ePc.row l) 27 11) (Elt.row_pl _) f
 have rn0' : ∀ (f : Nat → Nat), (∀ k, k < 8 → f k = k) → Blk.rnB f (.ro R0) = .ro R0 := fun f hf => by
  show Blk.ro (mapL (rn0 f) R0) = _
  rw [mapL_fix fun c hc k hk => hf k (hN c hc k hk)]
 have r0 := rn0' (Ev.look [(10, 67), (0, 0)]) (by decide)
 have r1 := rn0' (Ev.look [(10, 80), (0, 0)]) (by decide)
 let Q : AQ → Prop := fun s => s.j ≤ 4 - 1 ∧ allN Ls most s.j = some s.out
 have h00 := h0 0 (by decide)
 have hrow1 : RR 1 = ePc.row (Ls 0) := hR 0 (by decide)
 have hne0 := part_ne (hp 0 (by decide)) hbe
 have hn0 : 1 ≤ (Ls 0).length := by cases h : Ls 0 with | nil => exact absurd h hne0 | cons _ _ => simp
 refine alIn4 MR.few R0 RR o c (if c = 1 then o else o + 1 * 1) (4 - 1) (c - 1) (Ls 0).length (dd 0) most (Ls 0) Q hE (okL Q) ⟨rfl, ⟨⟨0, Ls 0⟩, ⟨Nat.zero_le _, rfl⟩, trivial, (by simp only [Nat.zero_add]; rfl), (by simp only [alL, rowsA, List.nil_append, List.cons_append, List.map_cons, List.map_nil, r1, rnrr, rnsA] <;> rfl)⟩, al_o1 (by decide) hc hcm o R0, ?_, h00, ⟨by decide, by decide⟩, rfl, trivial⟩ fun zz hz _ => by_loop (alL 4 R0 RR (if c = 1 then o else o + 1 * 1) (4 - 1) (c - 1) most Q) (lp Try.f31 0) ?_ 0 zz hz
 ·rw [hrow1]
  exact appOK_cells hn0 (hl 0 (by decide))
 rintro z ⟨j, out⟩ hinv J hJ
 obtain ⟨k1, k2⟩ : j ≤ 4 - 1 ∧ allN Ls most j = some out := hinv
 have k3 : out.length ≤ 100000 := allN_len hm (hl 0 (by decide)) k2
 show Sat E (inLp (lp Try.f31 0) J) ((alL 4 R0 RR (if c = 1 then o else o + 1 * 1) (4 - 1) (c - 1) most Q).st 0 ⟨j, out⟩)
 have hj : j = 0 ∨ j = 1 ∨ j = 2 ∨ j = 3 := by omega
 rcases hj with rfl | rfl | rfl | rfl
 ·have hmt : (allN Ls most (0 + 1)) = meetL out (Ls 1) most := by show (allN Ls most 0).bind _ = _; rw [k2]; rfl
  have hne2 : Part b (Ls 1) (g 1) := hp _ (by omega)
  have hrow : RR 2 = ePc.row (Ls 1) := hR 1 (by omega)
  have hrd : readPart Try.prog 28 R0 ((if c = 1 then o else o + 1 * 1) + (((0 : Nat) : Int)).toNat * 1) = some (.slice (some ⟨2, 0, none⟩) (Ls 1).length (dd 1)) := by
   rw [if_neg (by omega)]
   have := h0 1 (by omega)
   exact this
  have hlq : (Ls 1).length ≤ 100000 := hl _ (by omega)
  have hpl2 : plainR [ePc.row out, RR 2] := plain2 (Elt.row_pl _) (hP _)
  have hra := (Elt.canon0 (e := ePc) out)
  have hrb : ePc.Row (RR 2) 0 (Ls 1).length ∧ ePc.list (RR 2) 0 (Ls 1).length = Ls 1 := by rw [hrow]; exact Elt.canon0 (e := ePc) _
  cases hm2 : meetL out (Ls 1) most with
  | some l =>
   rw [hm2] at hmt
   have hpl := allN_part (fun i hi => hp i (by omega)) hmt
   exact alB42 R0 RR (if c = 1 then o else o + 1 * 1) (4 - 1) (c - 1) (Ls 1).length (dd 1) most Q 0 out l J hE (okL Q) ⟨rfl, ⟨⟨0 + 1, l⟩, ⟨(by show 0 + 1 ≤ 4 - 1; decide), hmt⟩, (by show 4 - 1 - (0 + 1) < 4 - 1 - 0; omega), rfl, (by simp only [alL, rowsA, List.nil_append, List.cons_append, List.map_cons, List.map_nil, r0, rnrr, rnsA] <;> rfl)⟩, i64_succ (by omega), hpl2, (by rw [hra.2, hrb.2]; exact hm2), (by show l ≠ []; exact part_ne hpl hbe), hra.1, hrb.1, k3, hlq, hm, hrd, ⟨by decide, by decide⟩, rfl, trivial⟩ fun zz g1 g2 => hJ 0 zz g1 g2
  | none =>
   rw [hm2] at hmt
   have hfin : allN Ls most (4 - 1) = none := by
    have := allN_none hmt (2)
    exact this
   rw [hfin] at hE
   exact alF42 R0 RR (if c = 1 then o else o + 1 * 1) (4 - 1) (c - 1) (Ls 1).length (dd 1) most Q 0 out J hE ⟨⟨rfl, rfl⟩, hpl2, (by rw [hra.2, hrb.2]; exact hm2), trivial, hra.1, hrb.1, k3, hlq, hm, hrd, ⟨by decide, by decide⟩, rfl, trivial⟩
 ·have hmt : (allN Ls most (1 + 1)) = meetL out (Ls 2) most := by show (allN Ls most 1).bind _ = _; rw [k2]; rfl
  have hne2 : Part b (Ls 2) (g 2) := hp _ (by omega)
  have hrow : RR 3 = ePc.row (Ls 2) := hR 2 (by omega)
  have hrd : readPart Try.prog 28 R0 ((if c = 1 then o else o + 1 * 1) + (((1 : Nat) : Int)).toNat * 1) = some (.slice (some ⟨3, 0, none⟩) (Ls 2).length (dd 2)) := by
   rw [if_neg (by omega)]
   have := h0 2 (by omega)
   exact this
  have hlq : (Ls 2).length ≤ 100000 := hl _ (by omega)
  have hpl2 : plainR [ePc.row out, RR 3] := plain2 (Elt.row_pl _) (hP _)
  have hra := (Elt.canon0 (e := ePc) out)
  have hrb : ePc.Row (RR 3) 0 (Ls 2).length ∧ ePc.list (RR 3) 0 (Ls 2).length = Ls 2 := by rw [hrow]; exact Elt.canon0 (e := ePc) _
  cases hm2 : meetL out (Ls 2) most with
  | some l =>
   rw [hm2] at hmt
   have hpl := allN_part (fun i hi => hp i (by omega)) hmt
   exact alB43 R0 RR (if c = 1 then o else o + 1 * 1) (4 - 1) (c - 1) (Ls 2).length (dd 2) most Q 1 out l J hE (okL Q) ⟨rfl, ⟨⟨1 + 1, l⟩, ⟨(by show 1 + 1 ≤ 4 - 1; decide), hmt⟩, (by show 4 - 1 - (1 + 1) < 4 - 1 - 1; omega), rfl, (by simp only [alL, rowsA, List.nil_append, List.cons_append, List.map_cons, List.map_nil, r0, rnrr, rnsA] <;> rfl)⟩, i64_succ (by omega), hpl2, (by rw [hra.2, hrb.2]; exact hm2), (by show l ≠ []; exact part_ne hpl hbe), hra.1, hrb.1, k3, hlq, hm, hrd, ⟨by decide, by decide⟩, rfl, trivial⟩ fun zz g1 g2 => hJ 0 zz g1 g2
  | none =>
   rw [hm2] at hmt
   have hfin : allN Ls most (4 - 1) = none := by
    have := allN_none hmt (1)
    exact this
   rw [hfin] at hE
   exact alF43 R0 RR (if c = 1 then o else o + 1 * 1) (4 - 1) (c - 1) (Ls 2).length (dd 2) most Q 1 out J hE ⟨⟨rfl, rfl⟩, hpl2, (by rw [hra.2, hrb.2]; exact hm2), trivial, hra.1, hrb.1, k3, hlq, hm, hrd, ⟨by decide, by decide⟩, rfl, trivial⟩
 ·have hmt : (allN Ls most (2 + 1)) = meetL out (Ls 3) most := by show (allN Ls most 2).bind _ = _; rw [k2]; rfl
  have hne2 : Part b (Ls 3) (g 3) := hp _ (by omega)
  have hrow : RR 4 = ePc.row (Ls 3) := hR 3 (by omega)
  have hrd : readPart Try.prog 28 R0 ((if c = 1 then o else o + 1 * 1) + (((2 : Nat) : Int)).toNat * 1) = some (.slice (some ⟨4, 0, none⟩) (Ls 3).length (dd 3)) := by
   rw [if_neg (by omega)]
   have := h0 3 (by omega)
   exact this
  have hlq : (Ls 3).length ≤ 100000 := hl _ (by omega)
  have hpl2 : plainR [ePc.row out, RR 4] := plain2 (Elt.row_pl _) (hP _)
  have hra := (Elt.canon0 (e := ePc) out)
  have hrb : ePc.Row (RR 4) 0 (Ls 3).length ∧ ePc.list (RR 4) 0 (Ls 3).length = Ls 3 := by rw [hrow]; exact Elt.canon0 (e := ePc) _
  cases hm2 : meetL out (Ls 3) most with
  | some l =>
   rw [hm2] at hmt
   have hpl := allN_part (fun i hi => hp i (by omega)) hmt
   exact alB44 R0 RR (if c = 1 then o else o + 1 * 1) (4 - 1) (c - 1) (Ls 3).length (dd 3) most Q 2 out l J hE (okL Q) ⟨rfl, ⟨⟨2 + 1, l⟩, ⟨(by show 2 + 1 ≤ 4 - 1; decide), hmt⟩, (by show 4 - 1 - (2 + 1) < 4 - 1 - 2; omega), rfl, (by simp only [alL, rowsA, List.nil_append, List.cons_append, List.map_cons, List.map_nil, r0, rnrr, rnsA] <;> rfl)⟩, i64_succ (by omega), hpl2, (by rw [hra.2, hrb.2]; exact hm2), (by show l ≠ []; exact part_ne hpl hbe), hra.1, hrb.1, k3, hlq, hm, hrd, ⟨by decide, by decide⟩, rfl, trivial⟩ fun zz g1 g2 => hJ 0 zz g1 g2
  | none =>
   rw [hm2] at hmt
   have hfin : allN Ls most (4 - 1) = none := by
    have := allN_none hmt (0)
    exact this
   rw [hfin] at hE
   exact alF44 R0 RR (if c = 1 then o else o + 1 * 1) (4 - 1) (c - 1) (Ls 3).length (dd 3) most Q 2 out J hE ⟨⟨rfl, rfl⟩, hpl2, (by rw [hra.2, hrb.2]; exact hm2), trivial, hra.1, hrb.1, k3, hlq, hm, hrd, ⟨by decide, by decide⟩, rfl, trivial⟩
 ·rw [k2] at hE
  exact alE4 MR.few R0 RR (if c = 1 then o else o + 1 * 1) (4 - 1) (c - 1) most Q 3 out J hE ⟨⟨rfl, by simp only [List.map_cons, List.map_nil, rnsA]⟩, rfl, trivial⟩
end Go.Proofs.Ythbaccmhdffjdaa.Cl
namespace Go.Proofs.Ythbaccmhdffjdaa.Cl
open Go Go.RowKit Ev NodeE BoxF Lv Tr Within PickE Tn Fo Cl Mm Mt
def lsC (Ls : Nat → List Pc) (dd : Nat → Nat) (q : Nat) : Nat → List Value
 | 0 => []
 | K + 1 => lsC Ls dd q K ++ [.slice (some ⟨q + (K + 1), 0, none⟩) (Ls K).length (dd K)]
def alVn (nm : Nat) : Option (List Pc) → Value
 | none => .tuple ⟨[.slice none 0 0, .bool false]⟩
 | some l => .tuple ⟨[.slice (some ⟨nm, 0, none⟩) l.length mk, .bool true]⟩
def alUs (nm : Nat) : Option (List Pc) → List (Nat × Option Blk)
 | none => []
 | some l => [(nm, some (.vec (ePc.row l) 27 11))]
end Go.Proofs.Ythbaccmhdffjdaa.Cl
namespace Go.Proofs.Ythbaccmhdffjdaa.Cl
open Go Go.RowKit Ev NodeE BoxF Lv Tr Within PickE Tn Fo Cl Mm Mt
theorem alZ (R : MR) (o c : Nat) (most : Int)  {E : Env} (hE : EnvOK E Try.prog Try.f31 2 1 (.tuple ⟨[.slice (some ⟨100, 0, none⟩) 1 mk, .bool true]⟩) [100] [.vec (ePc.row [⟨planeA, 0⟩]) 27 11]) (hob : all ([Back (Value.tuple (Array.mk [.slice (some (Addr.mk 41 0 none)) 1 Ev.mark, .bool true])) (Value.tuple (Array.mk [.slice (some (Addr.mk 100 0 none)) 1 Ev.mark, .bool true])) [Blk.vec [.int .i64 ((-9223372036854775808 : Int)), .int .i64 ((9223372036854775807 : Int)), .int .i64 ((-9223372036854775808 : Int)), .int .i64 ((9223372036854775807 : Int)), .int .i64 ((-9223372036854775808 : Int)), .int .i64 ((9223372036854775807 : Int)), .int .i64 ((-9223372036854775808 : Int)), .int .i64 ((9223372036854775807 : Int)), .int .i64 ((-9223372036854775808 : Int)), .int .i64 ((9223372036854775807 : Int)), .int .i64 ((0 : Int))] 27 11] [Blk.vec [.int .i64 ((-9223372036854775808 : Int)), .int .i64 ((9223372036854775807 : Int)), .int .i64 ((-9223372036854775808 : Int)), .int .i64 ((9223372036854775807 : Int)), .int .i64 ((-9223372036854775808 : Int)), .int .i64 ((9223372036854775807 : Int)), .int .i64 ((-9223372036854775808 : Int)), .int .i64 ((9223372036854775807 : Int)), .int .i64 ((-9223372036854775808 : Int)), .int .i64 ((9223372036854775807 : Int)), .int .i64 ((0 : Int))] 27 11] [(100, 41)], plainR []])) : Sat E [.code (bodyOf Try.f31)] (st0 Try.f31 [.slice (some ⟨0, o, none⟩) 0 c, .int .i64 most] (roRows []) 1) :=
 by_ret (T := auto0 (t_al R)) (h := hints []) (ws := []) (nx' := 101) hE hm (auto0_ok (t_al_ok R)) (by omega) (by simp) (by intro x hx; simp at hx; subst hx; exact Blk.plain.namesLt (b := .vec _ _ _) (Elt.row_pl _) _) (by kernel_rfl) hob
end Go.Proofs.Ythbaccmhdffjdaa.Cl
namespace Go.Proofs.Ythbaccmhdffjdaa.Cl
open Go Go.RowKit Ev NodeE BoxF Lv Tr Within PickE Tn Fo Cl Mm Mt
def lsG (Ls : Nat → List Pc) (dd : Nat → Nat) (f : Nat → Nat) (T : Nat) : List Value := (List.range T).map fun t => .slice (some ⟨f t, 0, none⟩) (Ls t).length (dd t)
def allO (Ls : Nat → List Pc) (most : Int) (o : Nat) : Nat → Option (List Pc)
 | 0 => some [⟨planeA, 0⟩]
 | n + 1 => allN (fun i => Ls (o + i)) most n
def AllG (q p : Nat) (Rr : Option (List Pc)) (xs : List Value) (vw : List (Option Blk)) : Prop :=
 ∃ (T o n c : Nat) (most : Int) (Ls : Nat → List Pc) (dd g : Nat → Nat) (b : Bx) (gv : Nat → Pt → Int), xs = [.slice (some ⟨q, o, none⟩) n c, .int .i64 most] ∧ (n ≠ 0 → o + n ≤ T) ∧ T ≤ 4 ∧
  (∃ b0, vw.getD 0 none = some b0 ∧ b0.row = some (lsG Ls dd (fun t => p + g t) T)) ∧ (∀ t, t < T → g t < 4 ∧ ∃ bi, vw.getD (g t + 1) none = some bi ∧ bi.row = some (ePc.row (Ls t))) ∧
  n ≤ c ∧ c ≤ maxLen ∧ b.emp = false ∧ (∀ i, Part b (Ls i) (gv i)) ∧ (∀ i, (Ls i).length ≤ 100000) ∧ most ≤ 100000 ∧ Rr = allO Ls most o n
def allG_F (q p : Nat) (Rr : Option (List Pc)) : List Value → Heap → Nat → Option Res := fun xs H nm =>
 some ⟨alVn nm Rr, alUs nm Rr, [q, p, p + 1, p + 2, p + 3], [AllG q p Rr xs [H q, H p, H (p + 1), H (p + 2), H (p + 3)]]⟩
def rot (T o t : Nat) : Nat := if t < o then T - o + t else t - o
def olds (T o q p : Nat) (g : Nat → Nat) : List (Nat × Nat) := (0, q) :: (List.range T).map fun t => (rot T o t + 1, p + g t)
theorem rot_nodup : ∀ T, T < 5 → ∀ o, o < 5 → o ≤ T → (0 :: ((List.range T).map fun t => rot T o t + 1) ++ [100]).Nodup := by decide
theorem olds_fst (T o q p : Nat) (g : Nat → Nat) : (olds T o q p g).map (·.1) = 0 :: (List.range T).map fun t => rot T o t + 1 := by
 simp [olds, List.map_map, Function.comp_def]
theorem read_at {cs : List Value} {o : Nat} {v : Value} (h : cs[o]? = some v) (hl : leaf v = true) : readPart Try.prog 28 cs o = some v := by
 have ha : aggT Try.prog 28 = some false := by kernel_rfl
 obtain ⟨ho, hv⟩ := List.getElem?_eq_some_iff.1 h
 unfold readPart
 rw [ha, sub_of (by omega)]
 have : (cs.drop o).take 1 = [v] := by rw [List.drop_eq_getElem_cons ho, hv]; rfl
 rw [this]
 simp [hl]
theorem al_specG {R0 : List Value} {RR : Nat → List Value} {o c n : Nat} {Ls : Nat → List Pc} {dd : Nat → Nat} {most : Int} {b : Bx} {gv : Nat → Pt → Int} (hn : n < 4)
  (h0 : ∀ i, i < n + 1 → readPart Try.prog 28 R0 (o + i) = some (.slice (some ⟨i + 1, 0, none⟩) (Ls i).length (dd i))) (hR : ∀ i, i < n + 1 → RR (i + 1) = ePc.row (Ls i))
  (hN : ∀ c ∈ R0, ∀ k ∈ nm0 c, k < 8) (hP : ∀ i, ∀ c ∈ RR i, leafG c = true) (hc : n + 1 ≤ c) (hcm : c ≤ maxLen) (hbe : b.emp = false) (hp : ∀ i, Part b (Ls i) (gv i)) (hl : ∀ i, (Ls i).length ≤ 100000) (hm : most ≤ 100000) :
  CallSpec Try.prog 31 [.slice (some ⟨0, o, none⟩) (n + 1) c, .int .i64 most] (roRows (R0 :: (List.range (n + 1)).map fun i => RR (i + 1))) 8 (alV (allN Ls most n)) (assocN (alNs (allN Ls most n)) (alBs (allN Ls most n))) := by
 have h4 : n = 0 ∨ n = 1 ∨ n = 2 ∨ n = 3 := by omega
 rcases h4 with rfl | rfl | rfl | rfl
 ·exact al_spec1 R0 RR o c Ls dd most b gv h0 hR hN hP hc hcm hbe (fun i _ => hp i) (fun i _ => hl i) hm
 ·exact al_spec2 R0 RR o c Ls dd most b gv h0 hR hN hP hc hcm hbe (fun i _ => hp i) (fun i _ => hl i) hm
 ·exact al_spec3 R0 RR o c Ls dd most b gv h0 hR hN hP hc hcm hbe (fun i _ => hp i) (fun i _ => hl i) hm
 ·exact al_spec4 R0 RR o c Ls dd most b gv h0 hR hN hP hc hcm hbe (fun i _ => hp i) (fun i _ => hl i) hm
theorem gs_all {H : Heap} {nm q p : Nat} {xs ar : List Value} {H0 : Heap} {nx T o : Nat} {g : Nat → Nat} {R : Option (List Pc)} (hspec : CallSpec Try.prog 31 ar H0 nx (alV R) (assocN (alNs R) (alBs R))) (hT : T ≤ 4) (ho : o ≤ T) (hx : xs = ar.map (rn (Ev.look (olds T o q p g))))
  (hnm : ∀ u ∈ ar, ∀ j ∈ nms u, j = 0) (hq : ∃ b, H q = some b) (hp : ∀ t, t < T → ∃ b, H (p + g t) = some b)
  (hold : ∀ j k, (j, k) ∈ olds T o q p g → j < nx ∧ ∀ b0, H0 j = some b0 → ∃ b cs, H k = some b ∧ b.row = some (mapL (rn0 (Ev.look (olds T o q p g))) cs) ∧ b0 = .ro cs ∧ ∀ c ∈ cs, ∀ i ∈ nm0 c, ∃ k', (i, k') ∈ olds T o q p g)
  (h0 : ∀ j b, H0 j = some b → ∃ k, (j, k) ∈ olds T o q p g) (rs : List Nat) (ob : List Prop) :
  Nonempty (GS Try.prog 31 xs H nm ⟨alVn nm R, alUs nm R, rs, ob⟩) := by
 have hnd := rot_nodup T (by omega) o (by omega) ho
 have hin : ∀ j k, (j, k) ∈ olds T o q p g → (∃ b, H k = some b) ∨ (∃ u ∈ xs, k ∈ nms u) ∨ ∃ j' b, H j' = some b ∧ k ∈ b.nmB := fun j k h => by
  unfold olds at h
  simp only [List.mem_cons, List.mem_map, List.mem_range, Prod.mk.injEq] at h
  rcases h with ⟨rfl, rfl⟩ | ⟨t, ht, rfl, rfl⟩
  ·exact Or.inl hq
  ·exact Or.inl (hp t ht)
 have ha : ∀ u ∈ ar, ∀ j ∈ nms u, ∃ k, (j, k) ∈ olds T o q p g := fun u hu j hj => ⟨q, by rw [hnm u hu j hj]; exact List.mem_cons_self ..⟩
 have hn1 : ((olds T o q p g).map (·.1)).Nodup := by
  rw [olds_fst]
  exact (List.nodup_append.1 hnd).1
 cases R with
 | none => exact ⟨⟨ar, H0, nx, _, _, olds T o q p g, [], hspec, by rw [List.append_nil]; exact hn1, (by simp), hold, hin, h0, fun m k h => by simp at h, fun j hj => by simp [alV, nms, nm1, nmL, nm0] at hj, ha, hx, rfl, rfl⟩⟩
 | some l =>
  have hlk : Ev.look (olds T o q p g ++ [(100, nm)]) 100 = nm := look_spec (by rw [List.map_append, olds_fst]; exact hnd) (List.mem_append_right _ (List.mem_cons_self ..))
  refine ⟨⟨ar, H0, nx, _, _, olds T o q p g, [(100, nm)], hspec, by rw [List.map_append, olds_fst]; exact hnd, (by simp), hold, hin, h0, fun m k h => by
   simp only [List.mem_cons, List.not_mem_nil, or_false, Prod.mk.injEq] at h
   obtain ⟨rfl, rfl⟩ := h
   exact ⟨⟨Nat.le_refl _, by omega⟩, _, rfl, rfl, trivial, fun cs hcs c hc j hj => by
    obtain rfl : ePc.row l = cs := Option.some.inj hcs
    rw [nm0_leafG (Elt.row_pl _ c hc)] at hj
    simp at hj⟩, fun j hj => by simp [alV, nms, nm1, nmL, nm0] at hj; subst hj; exact ⟨nm, List.mem_append_right _ (by simp)⟩, ha, hx, ?_, ?_⟩⟩
  ·show _ = Value.tuple ⟨[.slice (some ⟨Ev.look (olds T o q p g ++ [(100, nm)]) 100, 0, none⟩) l.length mk, .bool true]⟩
   rw [hlk]; rfl
  ·show _ = [(nm, some (Blk.rnB _ (.vec (ePc.row l) 27 11)))]
   rw [Blk.plain.rnB (b := .vec (ePc.row l) 27 11) (Elt.row_pl _)]
   rfl
theorem allG_sum (q p : Nat) (Rr : Option (List Pc)) : SumOK Try.prog 31 (allG_F q p Rr) := by
 refine gen_sum (en Try.func31 rfl) (fun xs H nm r h hob => ?_) (fun xs H nm r h H' hH => ?_)
 ·unfold allG_F at h
  simp only [Option.some.injEq] at h
  subst h
  obtain ⟨T, o, n, c, most, Ls, dd, g, b, gv, rfl, hon, hT, ⟨b0, hb0, hr0⟩, hrows, hc, hcm, hbe, hp, hl, hm, rfl⟩ := hob _ (List.mem_cons_self ..)
  have hb0 : H q = some b0 := hb0
  have hrows' : ∀ t, t < T → g t < 4 ∧ ∃ bi, H (p + g t) = some bi ∧ bi.row = some (ePc.row (Ls t)) := fun t ht => by
   obtain ⟨h1, bi, h2, h3⟩ := hrows t ht
   refine ⟨h1, bi, ?_, h3⟩
   have h6 : g t = 0 ∨ g t = 1 ∨ g t = 2 ∨ g t = 3 := by omega
   rcases h6 with e | e | e | e <;> rw [e] at h2 ⊢ <;> exact h2
  cases n with
  | zero =>
   refine gs_all (q := q) (p := p) (xs := [.slice (some ⟨q, o, none⟩) 0 c, .int .i64 most]) (T := 0) (o := 0) (g := g) (ar := [.slice (some ⟨0, o, none⟩) 0 c, .int .i64 most]) (R := allO Ls most o 0) (spec_of_sat Try.func31 rfl fun E hE => alZ MR.few o c most hE ⟨⟨rfl, rfl⟩, fun y hy => by simp at hy, trivial⟩) (by decide) (by decide) rfl (fun u hu j hj => ?_) ⟨b0, hb0⟩ (fun t ht => absurd ht (by omega)) (fun j k h => ?_) (fun j b h => by simp [roRows] at h) _ _
   ·simp only [List.mem_cons, List.not_mem_nil, or_false] at hu
    rcases hu with rfl | rfl
    ·simpa [nms, nm1, nm0] using hj
    ·simp [nms, nm1, nm0] at hj
   ·simp only [olds, List.range_zero, List.map_nil, List.mem_cons, List.not_mem_nil, or_false, Prod.mk.injEq] at h
    obtain ⟨rfl, rfl⟩ := h
    exact ⟨by decide, fun b0 h => by simp [roRows] at h⟩
  | succ n =>
   have hon := hon (by simp)
   have hget : ∀ (f : Nat → Nat) t, t < T → (lsG Ls dd f T)[t]? = some (.slice (some ⟨f t, 0, none⟩) (Ls t).length (dd t)) := fun f t ht => by
    unfold lsG
    rw [List.getElem?_map, List.getElem?_range ht]; rfl
   have hnd : ((olds T o q p g).map (·.1)).Nodup := by
    rw [olds_fst]
    exact (List.nodup_append.1 (rot_nodup T (by omega) o (by omega) (by omega))).1
   have hlk : ∀ t, t < T → Ev.look (olds T o q p g) (rot T o t + 1) = p + g t := fun t ht => look_spec hnd (List.mem_cons_of_mem _ (List.mem_map.2 ⟨t, List.mem_range.2 ht, rfl⟩))
   have hlk0 : Ev.look (olds T o q p g) 0 = q := look_spec hnd (List.mem_cons_self ..)
   have hspec := al_specG (R0 := lsG Ls dd (fun t => rot T o t + 1) T) (RR := fun i => ePc.row (Ls (o + (i - 1)))) (o := o) (c := c) (n := n) (Ls := fun i => Ls (o + i)) (dd := fun i => dd (o + i)) (most := most) (b := b) (gv := fun i => gv (o + i)) (by omega)
    (fun i hi => by
     rw [read_at (hget _ (o + i) (by omega)) rfl]
     have : rot T o (o + i) = i := by unfold rot; rw [if_neg (by omega)]; omega
     rw [this]) (fun i hi => rfl)
    (fun c hc k hk => by
     obtain ⟨t, ht, rfl⟩ := List.mem_map.1 hc
     have ht := List.mem_range.1 ht
     simp [nm0] at hk
     subst hk
     unfold rot
     split <;> omega) (fun i => Elt.row_pl _) hc hcm hbe (fun i => hp _) (fun i => hl _) hm
   refine gs_all (q := q) (p := p) (xs := [.slice (some ⟨q, o, none⟩) (n + 1) c, .int .i64 most]) (T := T) (o := o) (g := g) (R := allO Ls most o (n + 1)) hspec hT (by omega) ?_ (fun u hu j hj => ?_) ⟨b0, hb0⟩ (fun t ht => by obtain ⟨_, bi, h, _⟩ := hrows' t ht; exact ⟨bi, h⟩) (fun j k h => ?_) (fun j b h => ?_) _ _
   ·show _ = [Value.slice (some ⟨Ev.look (olds T o q p g) 0, o, none⟩) (n + 1) c, _]
    rw [hlk0]; rfl
   ·simp only [List.mem_cons, List.not_mem_nil, or_false] at hu
    rcases hu with rfl | rfl
    ·simpa [nms, nm1, nm0] using hj
    ·simp [nms, nm1, nm0] at hj
   ·unfold olds at h
    simp only [List.mem_cons, List.mem_map, List.mem_range, Prod.mk.injEq] at h
    rcases h with ⟨rfl, hk⟩ | ⟨t, ht, rfl, rfl⟩
    ·rw [hk]
     refine ⟨by decide, fun b1 hb1 => ⟨b0, lsG Ls dd (fun t => rot T o t + 1) T, hb0, ?_, (Option.some.inj hb1).symm, fun c hc i hi => ?_⟩⟩
     ·rw [hr0]
      congr 1
      have hm : ∀ (f : Value → Value) (l : List Value), mapL f l = l.map f := fun f l => by induction l with | nil => rfl | cons x l ih => simp [mapL, ih]
      rw [hm]
      unfold lsG
      rw [List.map_map]
      refine List.map_congr_left fun t ht => ?_
      have := hlk t (List.mem_range.1 ht)
      show _ = Value.slice (some ⟨Ev.look (olds T o q p g) (rot T o t + 1), 0, none⟩) _ _
      rw [this]
     ·obtain ⟨t, ht, rfl⟩ := List.mem_map.1 hc
      simp [nm0] at hi
      subst hi
      exact ⟨p + g t, List.mem_cons_of_mem _ (List.mem_map.2 ⟨t, ht, rfl⟩)⟩
    ·have hr : rot T o t < 4 := by unfold rot; split <;> omega
     refine ⟨by omega, fun b1 hb1 => ?_⟩
     have hb1 : (match ((lsG Ls dd (fun t => rot T o t + 1) T) :: (List.range (n + 1)).map fun i => ePc.row (Ls (o + (i + 1 - 1))))[rot T o t + 1]? with | some cs => some (Blk.ro cs) | none => none) = some b1 := hb1
     rw [List.getElem?_cons_succ, List.getElem?_map] at hb1
     by_cases hlt : rot T o t < n + 1
     ·rw [List.getElem?_range hlt] at hb1
      have e : o + (rot T o t + 1 - 1) = t := by
       unfold rot at hlt ⊢
       split at hlt
       ·omega
       ·rw [if_neg (by assumption)]; omega
      simp only [Option.map_some, e, Option.some.injEq] at hb1
      obtain ⟨_, bi, h1, h2⟩ := hrows' t ht
      exact ⟨bi, ePc.row (Ls t), h1, by rw [h2, mapL_id fun c hc => rn0_leafG _ (Elt.row_pl _ c hc)], hb1.symm, fun c hc j hj => by rw [nm0_leafG (Elt.row_pl _ c hc)] at hj; simp at hj⟩
     ·rw [List.getElem?_eq_none (by simp; omega)] at hb1
      simp at hb1
   ·cases j with
    | zero => exact ⟨q, List.mem_cons_self ..⟩
    | succ j =>
     have h : (match ((lsG Ls dd (fun t => rot T o t + 1) T) :: (List.range (n + 1)).map fun i => ePc.row (Ls (o + (i + 1 - 1))))[j + 1]? with | some cs => some (Blk.ro cs) | none => none) = some b := h
     rw [List.getElem?_cons_succ, List.getElem?_map] at h
     by_cases hlt : j < n + 1
     ·refine ⟨p + g (o + j), List.mem_cons_of_mem _ (List.mem_map.2 ⟨o + j, List.mem_range.2 (by omega), ?_⟩)⟩
      have : rot T o (o + j) = j := by unfold rot; rw [if_neg (by omega)]; omega
      rw [this]
     ·rw [List.getElem?_eq_none (by simp; omega)] at h
      simp at h
 ·unfold allG_F at h ⊢
  simp only [Option.some.injEq] at h
  subst h
  have hq := fun k (hk : k ∈ [q, p, p + 1, p + 2, p + 3]) => hH k hk
  simp only [hq q (by simp), hq p (by simp), hq (p + 1) (by simp), hq (p + 2) (by simp), hq (p + 3) (by simp)]
end Go.Proofs.Ythbaccmhdffjdaa.Cl
namespace Go.Proofs.Ythbaccmhdffjdaa.Ev
open Go Go.RowKit
def peel : Nat → List Ctl → List Ctl
 | 0, k => k
 | n + 1, .code (.seq x y) :: k => peel n (.code x :: .code y :: k)
 | n + 1, .code (.block id c) :: k => peel n (.code c :: .inBlock id :: k)
 | n + 1, .code .skip :: k => peel n k
 | _ + 1, k => k
theorem sat_peel {E : Env} {S : St} : ∀ (n : Nat) (k : List Ctl), Sat E (peel n k) S → Sat E k S
 | 0, k, h => h
 | n + 1, k, h => by
  unfold peel at h
  split at h
  ·simp at *
  ·rename_i n' x y k' e1
   obtain rfl : n' = n := by omega
   have := sat_peel n' _ h
   exact fun g a w hc => wp_seq (this g a w hc)
  ·rename_i n' id c k' e1
   obtain rfl : n' = n := by omega
   have := sat_peel n' _ h
   exact fun g a w hc => wp_block (this g a w hc)
  ·rename_i n' k' e1
   obtain rfl : n' = n := by omega
   have := sat_peel n' _ h
   exact fun g a w hc => wp_skip (this g a w hc)
  ·exact h
theorem run_next {P : Program} (w : World) (ty : TypeId) (r bm since c0 : Nat) (seen : Array Nat) (es : Array MapEntry) (clock : Nat) (hr : w.heap[r]? = some (.mapIter (some bm) since seen c0)) (hb : w.heap[bm]? = some (.map es clock)) (hold : ∀ x ∈ es.toList, x.born < since) (hsc : since ≤ c0) :
  ((leftOf es seen).size = 0 ∧ (Instr.next (.pointer (some ⟨r, 0, none⟩)) false ty).run P w = .ok (.tuple #[.bool false]) w) ∨
  ∃ e ∈ (leftOf es seen).toList, ∃ d : Nat, (Instr.next (.pointer (some ⟨r, 0, none⟩)) false ty).run P w = .ok (.tuple #[.bool true, e.key, e.val]) { w with heap := w.heap.setIfInBounds r (.mapIter (some bm) since (seen.push e.born) clock), drawn := d } := by
 simp only [Instr.next, getObj, Sem.run_bind, Sem.run, hr, hb, Result.andThen, next_test_false seen es since c0 hold hsc, Bool.false_eq_true, if_false]
 unfold leftOf
 have hmem : ∀ x ∈ (Array.filter (fun e => !seen.contains e.born) es).toList, x.born < since := fun x hx => hold x (by simp at hx ⊢; exact hx.1)
 generalize Array.filter (fun e => !seen.contains e.born) es = L at hmem ⊢
 have e1 : L.filter (fun x => decide (x.born < since)) = L := Array.filter_eq_self.2 (fun x hx => by simpa using hmem x (by simpa using hx))
 have e2 : L.filter (fun x => decide (x.born ≥ since)) = #[] := by
  rw [Array.filter_eq_empty_iff]
  intro x hx
  have := hmem x (by simpa using hx)
  simp
  omega
 simp only [e1, e2, Array.append_empty]
 by_cases h0 : L.size = 0
 ·left
  have : L = #[] := Array.eq_empty_of_size_eq_zero h0
  subst this
  refine ⟨rfl, ?_⟩
  simp [choose, Sem.run, Question.forced]
 ·right
  have hne : L.isEmpty = false := by simp [Array.isEmpty, h0]
  simp only [hne, Bool.false_eq_true, if_false, Array.empty_append, Array.size_map]
  have hch : ∃ (j d : Nat), j < L.size ∧ (choose (Question.mapNext L.size)).run P w = .ok j { w with drawn := d } := by
   by_cases hf : L.size ≤ 1
   ·exact ⟨0, w.drawn, by omega, by simp [choose, Sem.run, Question.forced, hf]⟩
   ·exact ⟨_, w.drew.drawn, Nat.mod_lt _ (by omega), by
     simp only [choose, Sem.run, Question.forced, decide_eq_true_eq, hf, if_false, Question.cut]
     rfl⟩
  obtain ⟨j, d, hj, hrun⟩ := hch
  refine ⟨L[j], by simp, d, ?_⟩
  have hset : ∀ o', (setObj r o').run P { w with drawn := d } = .ok () { w with heap := w.heap.setIfInBounds r o', drawn := d } := fun o' => by
   simp only [setObj, Sem.run]
   rw [show ({ w with drawn := d } : World).heap[r]? = some (.mapIter (some bm) since seen c0) from hr]
  simp only [hrun, Array.getElem?_map, Array.getElem?_eq_getElem hj, Option.map_some, Sem.run_bind, hset, Result.andThen]
  rfl
def stNo (S : St) (t0 t1 : Nat) : St := ⟨upd (upd S.T t0 (some (.tuple ⟨[.bool false]⟩))) t1 (some (.bool false)), S.H, S.nx, S.c, S.ob⟩
def stYes (S : St) (t0 t1 j k since : Nat) (seen : List Nat) (clock : Nat) (e : Ent) : St := ⟨upd (upd S.T t0 (some (.tuple ⟨[.bool true, e.1, e.2.1]⟩))) t1 (some (.bool true)), upd S.H j (some (.it k since (seen ++ [e.2.2]) clock)), S.nx, S.c, S.ob⟩
theorem hc_drawn {M : Nat → Prop} {w0 w : World} {g : Nm} {B : Nat → Prop} {H : Heap} (h : HC M w0 g B H w) (d : Nat) : HC M w0 g B H { w with drawn := d } :=
 ⟨⟨h.below.os, h.below.tape, h.below.output, h.below.size, h.below.block⟩, h.dom, h.scope, h.holds, h.own, h.inj⟩
theorem set_it {M : Nat → Prop} {w0 w : World} {g : Nm} {B : Nat → Prop} {H : Heap} (hH : HC M w0 g B H w) {j k since c c' : Nat} {seen seen' : List Nat} (hb : H j = some (.it k since seen c)) :
  HC M w0 g B (upd H j (some (.it k since seen' c'))) { w with heap := w.heap.setIfInBounds (g.blk j) (.mapIter (some (g.blk k)) since seen'.toArray c') } := by
 have hlt := hH.lt hb
 have h0 := hH.holds j _ hb
 refine hH.set hb rfl rfl rfl rfl rfl (by simp) (fun i hi => ?_) (show B k from hH.scope j (.it k since seen c) hb) ?_
 ·simp [Array.getElem?_setIfInBounds_ne (Ne.symm hi)]
 ·refine ⟨h0.1, ?_⟩
  simp [hlt]
theorem put_rc {An : Nm × (Nat → Prop)} {M : Nat → Prop} {w0 w w' : World} {n : Nat} {g : Nm} {B : Nat → Prop} {T : Tm} {H H' : Heap} {a : Act} (h : RC An M w0 n g B T H a w) (hc : HC M w0 g B H' w') {t : Nat} (ht : t < n) {v : Value} (hg : gnd v = true) : RC An M w0 n g B (upd T t (some v)) H' (a.put (some t) v) w' := by
 refine ⟨hc, by simp [Act.put, h.size], h.defers, fun i u hu => ?_, h.anch, h.sub⟩
 by_cases e : i = t
 ·subst e
  rw [upd_self] at hu
  simp at hu; subst hu
  exact ⟨by rw [ren_gnd g hg]; simp [Act.put, h.size, ht], InB.gnd hg⟩
 ·rw [upd_ne _ _ e] at hu
  obtain ⟨h1, h2⟩ := h.tm i u hu
  exact ⟨by simp [Act.put, Array.getElem?_setIfInBounds_ne (Ne.symm e), h1], h2⟩
theorem sat_next {E : Env} {id : Nat} {o0 o1 : Oper} {K : List Ctl} {S : St} {x : Operand} {t0 t1 j k since c clock : Nat} {seen : List Nat} {lay : List (Option IntKind)} {agg : Bool} {ek : Option IntKind} {es : List Ent}
  (h0 : o0.op = .next x false) (g0 : o0.guard = none) (d0 : o0.dst = some t0) (h1 : o1.op = .extract (.tmp t0) 0) (g1 : o1.guard = none) (d1 : o1.dst = some t1) (n0 : t0 < E.n) (n1 : t1 < E.n)
  (hx : ev S.T x = some (.pointer (some ⟨j, 0, none⟩))) (hj : S.H j = some (.it k since seen c)) (hk : S.H k = some (.map lay agg ek es clock)) (hold : ∀ e ∈ es, e.2.2 < since) (hsc : since ≤ c)
  (hend : (∀ e ∈ es, e.2.2 ∈ seen) → Sat E K (stNo S t0 t1)) (hnext : ∀ e ∈ es, e.2.2 ∉ seen → Sat E K (stYes S t0 t1 j k since seen clock e)) :
  Sat E (.code (.region id #[o0, o1] false) :: K) S := by
 intro g a w ⟨B, hB, hrc⟩
 refine wp_region ?_
 show wpOps _ _ _ [0, 1] a w
 rw [wpOps_cons]
 have hjw : g.base j = 0 ∧ w.heap[g.blk j]? = some (.mapIter (some (g.blk k)) since seen.toArray c) := hrc.hc.holds j _ hj
 have hkw : w.heap[g.blk k]? = some (.map (objMap es) clock) := hrc.hc.holds k _ hk
 have hxv := (hrc.stands x _ hx).1
 have hxe : a.eval x = .pointer (some ⟨g.blk j, 0, none⟩) := by rw [hxv]; simp [ren_ptr, renA_none, hjw.1]
 -- one operation
 have step : ∀ (i : Nat) (o : Oper) (KK : Act → World → Prop) (a : Act) (w : World), (#[o0, o1] : Array Oper)[i]? = some o → o.guard = none → o.wp E.P a w KK (wpK E.P E.R K) → wpOp E.P #[o0, o1] (wpK E.P E.R K) i KK a w := fun i o KK a w ho hg hw => by
  unfold wpOp
  simp only [ho]
  rw [if_pos (by simp [Region.wanted, hg])]
  exact .inl hw
 have ext : ∀ (S1 : St) (b : Bool) (vs : List Value) (a1 : Act) (w1 : World), RC E.An E.M E.w0 E.n g B S1.T S1.H a1 w1 → S1.T t0 = some (.tuple ⟨.bool b :: vs⟩) → gnd (.tuple ⟨.bool b :: vs⟩) = true → (∀ k, B k → k < S1.nx) → Sat E K ⟨upd S1.T t1 (some (.bool b)), S1.H, S1.nx, S1.c, S1.ob⟩ → wpOps E.P #[o0, o1] (wpK E.P E.R K) [1] a1 w1 := fun S1 b vs a1 w1 hr ht hg hB1 hs => by
  rw [wpOps_cons]
  refine step 1 o1 _ a1 w1 rfl g1 ?_
  obtain ⟨h2, _⟩ := hr.tm t0 _ ht
  rw [ren_gnd g hg] at h2
  have he : a1.eval (.tmp t0) = .tuple ⟨.bool b :: vs⟩ := by
   obtain ⟨hlt, he⟩ := Array.getElem?_eq_some_iff.1 h2
   simp [Act.eval, Array.getD, hlt, he]
  unfold Oper.wp
  have hex : (execOp a1.eval o1).run E.P w1 = .ok (.value (.bool b)) w1 := by
   unfold execOp
   rw [h1]
   simp only [he, Instr.extract]
   rfl
  rw [hex, Oper.upon_value, d1]
  exact hs g _ _ ⟨B, hB1, put_rc hr hr.hc n1 rfl⟩
 refine step 0 o0 _ a w rfl g0 ?_
 unfold Oper.wp
 rcases run_next (P := E.P) w o0.type (g.blk j) (g.blk k) since c seen.toArray (objMap es) clock hjw.2 hkw (fun y hy => by
  have : y ∈ es.map conv := by simpa [objMap] using hy
  obtain ⟨e, he, rfl⟩ := List.mem_map.1 this
  exact hold e he) hsc with ⟨hz, hrun⟩ | ⟨y, hy, d, hrun⟩
 ·have hex : (execOp a.eval o0).run E.P w = .ok (.value (.tuple #[.bool false])) w := by
   unfold execOp
   rw [h0]
   simp only [hxe, Sem.run_bind, hrun, Result.andThen]
   rfl
  rw [hex, Oper.upon_value, d0]
  have hall : ∀ e ∈ es, e.2.2 ∈ seen := fun e he => by
   have hsz : leftOf (objMap es) seen.toArray = #[] := Array.eq_empty_of_size_eq_zero hz
   unfold leftOf at hsz
   rw [Array.filter_eq_empty_iff] at hsz
   have := hsz (conv e) (by simp only [objMap, List.mem_toArray, List.mem_map]; exact ⟨e, he, rfl⟩)
   simpa [conv] using this
  exact ext ⟨upd S.T t0 (some (.tuple ⟨[.bool false]⟩)), S.H, S.nx, S.c, S.ob⟩ false [] _ w (put_rc hrc hrc.hc n0 rfl) (upd_self _ _ _) rfl hB (hend hall)
 ·have hm := mem_left hy
  have hyl : y ∈ es.map conv := by simpa [objMap] using hm.1
  obtain ⟨e, he, rfl⟩ := List.mem_map.1 hyl
  have hns : e.2.2 ∉ seen := by
   have := hm.2
   simpa [conv] using this
  obtain ⟨q1, q2⟩ := entry_gnd (hrc.hc.scope k _ hk) he
  have hg : gnd (.tuple ⟨[.bool true, e.1, e.2.1]⟩) = true := allB_iff.2 fun u hu => by
   simp at hu
   rcases hu with rfl | rfl | rfl
   ·rfl
   ·exact q1
   ·exact q2
  have hex : (execOp a.eval o0).run E.P w = .ok (.value (.tuple ⟨[.bool true, e.1, e.2.1]⟩)) { w with heap := w.heap.setIfInBounds (g.blk j) (.mapIter (some (g.blk k)) since (seen ++ [e.2.2]).toArray clock), drawn := d } := by
   unfold execOp
   rw [h0]
   simp only [hxe, Sem.run_bind, hrun, Result.andThen]
   simp only [List.push_toArray]
   rfl
  rw [hex, Oper.upon_value, d0]
  have hc' : HC E.M E.w0 g B (upd S.H j (some (.it k since (seen ++ [e.2.2]) clock))) { w with heap := w.heap.setIfInBounds (g.blk j) (.mapIter (some (g.blk k)) since (seen ++ [e.2.2]).toArray clock), drawn := d } := hc_drawn (set_it hrc.hc hj) d
  exact ext ⟨upd S.T t0 (some (.tuple ⟨[.bool true, e.1, e.2.1]⟩)), upd S.H j (some (.it k since (seen ++ [e.2.2]) clock)), S.nx, S.c, S.ob⟩ true [e.1, e.2.1] _ _ (put_rc hrc hc' n0 hg) (upd_self _ _ _) hg hB (hnext e he hns)
def nextOK (k : List Ctl) (tx t0 t1 : Nat) : Bool :=
 match k with
 | .code (.region _ ⟨[o0, o1]⟩ false) :: _ => match o0.op, o0.guard, o0.dst, o1.op, o1.guard, o1.dst with
  | .next (.tmp x) false, none, some a, .extract (.tmp a') 0, none, some b => Nat.beq x tx && (Nat.beq a t0 && (Nat.beq a' t0 && Nat.beq b t1))
  | _, _, _, _, _, _ => false
 | _ => false
def afterN (k : List Ctl) : List Ctl := (peel 20 k).tail
theorem sat_nextB {E : Env} {k0 : List Ctl} {S : St} {tx t0 t1 j k since c clock : Nat} {seen : List Nat} {lay : List (Option IntKind)} {agg : Bool} {ek : Option IntKind} {es : List Ent}
  (hb : nextOK (peel 20 k0) tx t0 t1 = true) (n0 : t0 < E.n) (n1 : t1 < E.n)
  (hx : S.T tx = some (.pointer (some ⟨j, 0, none⟩))) (hj : S.H j = some (.it k since seen c)) (hk : S.H k = some (.map lay agg ek es clock)) (hold : ∀ e ∈ es, e.2.2 < since) (hsc : since ≤ c)
  (hend : (∀ e ∈ es, e.2.2 ∈ seen) → Sat E (afterN k0) (stNo S t0 t1)) (hnext : ∀ e ∈ es, e.2.2 ∉ seen → Sat E (afterN k0) (stYes S t0 t1 j k since seen clock e)) : Sat E k0 S := by
 refine sat_peel 20 k0 ?_
 unfold afterN at hend hnext
 generalize peel 20 k0 = kk at hb hend hnext ⊢
 unfold nextOK at hb
 split at hb
 ·rename_i id o0 o1 K
  split at hb
  ·rename_i x a a' b e1 e2 e3 e4 e5 e6
   simp only [Bool.and_eq_true] at hb
   obtain ⟨q1, q2, q3, q4⟩ := hb
   obtain rfl := Nat.eq_of_beq_eq_true q1
   obtain rfl := Nat.eq_of_beq_eq_true q2
   obtain rfl := Nat.eq_of_beq_eq_true q3
   obtain rfl := Nat.eq_of_beq_eq_true q4
   exact sat_next e1 e2 e3 e4 e5 e6 n0 n1 hx hj hk hold hsc hend hnext
  ·simp at hb
 ·simp at hb
end Go.Proofs.Ythbaccmhdffjdaa.Ev
namespace Go.Proofs.Ythbaccmhdffjdaa.Ev
open Go Go.RowKit
abbrev L10 : List (Option IntKind) := [some .i64, some .i64, some .i64, some .i64, some .i64, some .i64, some .i64, some .i64, some .i64, some .i64]
abbrev kB (b : Bx) : Value := .agg ⟨b.cs⟩
structure EB where
 b : Bx
 n : Int
 s : Nat
def EB.ent (e : EB) : Ent := (kB e.b, .int .i64 e.n, e.s)
def esB (l : List EB) : List Ent := l.map EB.ent
def putB (b : Bx) (n : Int) (c : Nat) : List EB → List EB
 | [] => [⟨b, n, c⟩]
 | e :: l => if b = e.b then ⟨e.b, n, e.s⟩ :: l else e :: putB b n c l
def getK (b : Bx) : List EB → Int
 | [] => 0
 | e :: l => if b = e.b then e.n else getK b l
def hasK (b : Bx) : List EB → Bool
 | [] => false
 | e :: l => if b = e.b then true else hasK b l
theorem keyEq_kB (a b : Bx) : keyEq (kB a) (kB b) = decide (a = b) := by
 obtain ⟨a0, b0, a1, b1, a2, b2, a3, b3, a4, b4⟩ := a
 obtain ⟨c0, d0, c1, d1, c2, d2, c3, d3, c4, d4⟩ := b
 rw [Bool.eq_iff_iff]
 simp [keyEq, cellsEq, leafEq, Bx.cs, and_assoc]
theorem mput_esB (b : Bx) (n : Int) (c : Nat) : ∀ l : List EB, mput (kB b) (.int .i64 n) c (esB l) = esB (putB b n c l)
 | [] => rfl
 | e :: l => by
  show (bif keyEq (kB b) (kB e.b) then _ else _) = _
  rw [keyEq_kB]
  by_cases h : b = e.b
  ·rw [decide_eq_true h]; simp only [putB, if_pos h]; rfl
  ·rw [decide_eq_false h]; simp only [putB, if_neg h, cond_false]
   show _ :: mput (kB b) (.int .i64 n) c (esB l) = _
   rw [mput_esB b n c l]; rfl
theorem mget_esB (b : Bx) : ∀ l : List EB, mgetI (kB b) (esB l) = getK b l
 | [] => rfl
 | e :: l => by
  show (bif keyEq (kB b) (kB e.b) then _ else mgetI (kB b) (esB l)) = _
  rw [keyEq_kB, mget_esB b l]
  by_cases h : b = e.b
  ·rw [decide_eq_true h]; simp only [getK, if_pos h]; rfl
  ·rw [decide_eq_false h]; simp only [getK, if_neg h, cond_false]
theorem mhas_esB (b : Bx) : ∀ l : List EB, mhas (kB b) (esB l) = hasK b l
 | [] => rfl
 | e :: l => by
  show (bif keyEq (kB b) (kB e.b) then true else mhas (kB b) (esB l)) = _
  rw [keyEq_kB, mhas_esB b l]
  by_cases h : b = e.b
  ·rw [decide_eq_true h]; simp only [hasK, if_pos h]; rfl
  ·rw [decide_eq_false h]; simp only [hasK, if_neg h, cond_false]
structure OKB (l : List EB) (c : Nat) : Prop where
 keys : (l.map (·.b)).Nodup
 borns : l.Pairwise fun a b => a.s < b.s
 clock : ∀ e ∈ l, e.s < c
theorem okB_nil : OKB [] 0 := ⟨List.nodup_nil, List.Pairwise.nil, fun e h => by simp at h⟩
theorem hasK_iff {b : Bx} : ∀ {l : List EB}, hasK b l = true ↔ b ∈ l.map (·.b)
 | [] => by simp [hasK]
 | e :: l => by
  simp only [hasK, List.map_cons, List.mem_cons]
  by_cases h : b = e.b
  ·simp [h]
  ·simp only [if_neg h, hasK_iff (l := l)]; simp [h]
theorem put_keys (b : Bx) (n : Int) (c : Nat) : ∀ l : List EB, (putB b n c l).map (·.b) = bif hasK b l then l.map (·.b) else l.map (·.b) ++ [b]
 | [] => rfl
 | e :: l => by
  simp only [putB, hasK]
  by_cases h : b = e.b
  ·simp [h]
  ·simp only [if_neg h, List.map_cons, put_keys b n c l]
   cases hasK b l <;> rfl
theorem put_stamps (b : Bx) (n : Int) (c : Nat) : ∀ l : List EB, (putB b n c l).map (·.s) = bif hasK b l then l.map (·.s) else l.map (·.s) ++ [c]
 | [] => rfl
 | e :: l => by
  simp only [putB, hasK]
  by_cases h : b = e.b
  ·simp [h]
  ·simp only [if_neg h, List.map_cons, put_stamps b n c l]
   cases hasK b l <;> rfl
theorem okB_put {l : List EB} {c : Nat} (h : OKB l c) (b : Bx) (n : Int) : OKB (putB b n c l) (bif hasK b l then c else c + 1) := by
 have hk := put_keys b n c l
 have hs := put_stamps b n c l
 have hb : (l.map (·.s)).Pairwise (· < ·) := by rw [List.pairwise_map]; exact h.borns
 have hc : ∀ x ∈ l.map (·.s), x < c := fun x hx => by obtain ⟨e, he, rfl⟩ := List.mem_map.1 hx; exact h.clock e he
 refine ⟨?_, ?_, fun e he => ?_⟩
 ·rw [hk]
  cases hh : hasK b l
  ·rw [cond_false, List.nodup_append]
   refine ⟨h.keys, by simp, fun x hx y hy => ?_⟩
   simp at hy
   subst hy
   intro e
   subst e
   have := hasK_iff.2 hx
   rw [hh] at this
   exact absurd this (by simp)
  ·exact h.keys
 ·have : ((putB b n c l).map (·.s)).Pairwise (· < ·) := by
   rw [hs]
   cases hasK b l
   ·rw [cond_false, List.pairwise_append]
    exact ⟨hb, by simp, fun x hx y hy => by simp at hy; subst hy; exact hc x hx⟩
   ·exact hb
  rw [List.pairwise_map] at this
  exact this
 ·have he' : e.s ∈ (putB b n c l).map (·.s) := List.mem_map.2 ⟨e, he, rfl⟩
  rw [hs] at he'
  cases hh : hasK b l <;> rw [hh] at he'
  ·rw [cond_false, List.mem_append] at he'
   rcases he' with he' | he'
   ·have := hc _ he'; simp only [cond_false]; omega
   ·simp at he'; simp only [cond_false]; omega
  ·exact hc _ he'
theorem okB_map {l : List EB} {c : Nat} (h : OKB l c) : MapOK L10 true (some .i64) (esB l) c := by
 refine ⟨fun e he => ?_, fun e he => ?_, ?_, fun e he => ?_⟩
 ·obtain ⟨x, _, rfl⟩ := List.mem_map.1 he; rfl
 ·obtain ⟨x, _, rfl⟩ := List.mem_map.1 he; rfl
 ·rw [esB, List.pairwise_map]; exact h.borns
 ·obtain ⟨x, hx, rfl⟩ := List.mem_map.1 he; exact h.clock x hx
theorem getK_put (a b : Bx) (n : Int) (c : Nat) : ∀ l : List EB, getK a (putB b n c l) = if a = b then n else getK a l
 | [] => by simp only [putB, getK]
 | e :: l => by
  by_cases h : b = e.b
  ·subst h
   simp only [putB, if_true, getK]
   by_cases h2 : a = e.b <;> simp [h2]
  ·simp only [putB, if_neg h, getK, getK_put a b n c l]
   by_cases h2 : a = e.b
   ·have : a ≠ b := fun e' => h (e' ▸ h2)
    rw [if_pos h2, if_neg this, if_pos h2]
   ·rw [if_neg h2, if_neg h2]
theorem hasK_put (a b : Bx) (n : Int) (c : Nat) (l : List EB) : hasK a (putB b n c l) = (decide (a = b) || hasK a l) := by
 rw [Bool.eq_iff_iff, hasK_iff, put_keys]
 cases h : hasK b l
 ·rw [cond_false, List.mem_append, Bool.or_eq_true, decide_eq_true_eq, hasK_iff]
  simp only [List.mem_cons, List.not_mem_nil, or_false]
  exact Or.comm
 ·rw [cond_true, Bool.or_eq_true, decide_eq_true_eq, hasK_iff]
  constructor
  ·exact Or.inr
  ·rintro (rfl | h2)
   ·exact hasK_iff.1 h
   ·exact h2
theorem len_put (b : Bx) (n : Int) (c : Nat) (l : List EB) : (putB b n c l).length = bif hasK b l then l.length else l.length + 1 := by
 have := congrArg List.length (put_keys b n c l)
 rw [List.length_map] at this
 rw [this]
 cases hasK b l <;> simp
theorem getK_mem {l : List EB} {c : Nat} (h : OKB l c) {e : EB} (he : e ∈ l) : getK e.b l = e.n ∧ hasK e.b l = true := by
 refine ⟨?_, hasK_iff.2 (List.mem_map.2 ⟨e, he, rfl⟩)⟩
 have hk := h.keys
 clear h
 induction l with
 | nil => simp at he
 | cons x l ih =>
  obtain ⟨h1, h2⟩ := List.nodup_cons.1 hk
  rcases List.mem_cons.1 he with rfl | he
  ·simp [getK]
  ·have hne : e.b ≠ x.b := fun e' => h1 (List.mem_map.2 ⟨e, he, e'⟩)
   simp only [getK, if_neg hne]
   exact ih he h2
end Go.Proofs.Ythbaccmhdffjdaa.Ev
namespace Go.Proofs.Ythbaccmhdffjdaa.Mg
open Go Go.RowKit Ev
structure MG where
 i : Nat
 l : List EB
 c : Nat
def fMg (cs : List Value) (o n c0 : Nat) (Q : MG → Prop) : LoopF MG where
 ts _ := [3, 7, 8, 9]
 hs _ := [0, 10]
 tv _ := fun ⟨i, l, c⟩ => [.map (some 10), .slice (some ⟨0, o, none⟩) n c0, .int .i64 (n : Int), .int .i64 (i : Int)]
 hv _ := fun ⟨i, l, c⟩ => [.ro cs, .map L10 true (some .i64) (esB l) c]
 inv _ := Q
 mu _ := fun ⟨i, l, c⟩ => n - i
 nx := 12
theorem fMg_ok (cs : List Value) (o n c0 : Nat) (Q : MG → Prop) (hpl : ∀ x ∈ cs, leafG x = true) : (fMg cs o n c0 Q).OK 1 := by
 refine ⟨(by decide : 1 ≤ 12), fun z i h k hk => ?_, fun z i h v hv k hk => ?_, fun z i h x hx => ?_⟩
 ·show k < 12
  simp [fMg] at hk; omega
 ·show k < 12
  simp [fMg] at hv
  rcases hv with rfl | rfl | rfl | rfl <;> simp [nms, nm1, nm0] at hk <;> omega
 ·simp [fMg] at hx
  rcases hx with rfl | rfl
  ·exact Blk.plain.namesLt (b := .ro cs) hpl _
  ·trivial
def mgS (s : List EB × Nat) (x : Pc) : List EB × Nat := (putB x.box (IntKind.i64.wrap (getK x.box s.1 + x.val)) s.2 s.1, bif hasK x.box s.1 then s.2 else s.2 + 1)
def mgGo (l : List Pc) : List EB × Nat := l.foldl mgS ([], 0)
def mergeL (l : List Pc) : List EB := (mgGo l).1
def mergeC (l : List Pc) : Nat := (mgGo l).2
theorem mg_ok (l : List Pc) : OKB (mgGo l).1 (mgGo l).2 := by
 unfold mgGo
 have : ∀ (l : List Pc) (s : List EB × Nat), OKB s.1 s.2 → OKB (l.foldl mgS s).1 (l.foldl mgS s).2 := fun l => by
  induction l with
  | nil => exact fun s h => h
  | cons x l ih => exact fun s h => ih _ (okB_put h _ _)
 exact this l _ okB_nil
end Go.Proofs.Ythbaccmhdffjdaa.Mg
namespace Go.Proofs.Ythbaccmhdffjdaa.Mg
open Go Go.RowKit Ev Mg
theorem mgNil (u : Unit)  {E : Env} (hE : EnvOK E Try.prog Try.f16 1 0 (.map (some 100)) [100] [.map L10 true (some .i64) (esB []) 0]) (hob : all ([Back (Value.map (some 8)) (Value.map (some 100)) [Blk.map [some IntKind.i64, some IntKind.i64, some IntKind.i64, some IntKind.i64, some IntKind.i64, some IntKind.i64, some IntKind.i64, some IntKind.i64, some IntKind.i64, some IntKind.i64] true (some IntKind.i64) [] 0] [Blk.map [some IntKind.i64, some IntKind.i64, some IntKind.i64, some IntKind.i64, some IntKind.i64, some IntKind.i64, some IntKind.i64, some IntKind.i64, some IntKind.i64, some IntKind.i64] true (some IntKind.i64) [] 0] [(100, 8)]])) : Sat E [.code (bodyOf Try.f16)] (st0 Try.f16 [.slice none 0 0] (roRows []) 0) :=
 by_ret (T := auto0 t_none) (h := hints []) (ws := []) (nx' := 101) hE hm (auto0_ok t_none_ok) (by omega) (by simp) (by intro x hx; simp at hx; subst hx; trivial) (by kernel_rfl) hob
theorem mgIn (cs : List Value) (o n c0 : Nat) (Q : MG → Prop)  {E rv rhs rhv} (hE : EnvOK E Try.prog Try.f16 1 1 rv rhs rhv) (hL : (fMg cs o n c0 Q).OK 1) (hob : all ([SameK (atLp (lp Try.f16 0)) (atLp (lp Try.f16 0)), Enter (fMg cs o n c0 Q) 0 none [.map (some 9), .slice (some (Addr.mk 0 o none)) n c0, .int .i64 ((n : Int)), .int .i64 ((0 : Int))] [Blk.ro cs, Blk.map [some IntKind.i64, some IntKind.i64, some IntKind.i64, some IntKind.i64, some IntKind.i64, some IntKind.i64, some IntKind.i64, some IntKind.i64, some IntKind.i64, some IntKind.i64] true (some IntKind.i64) [] 0] [(10, 9), (0, 0)]])) (hK : ∀ zz, (fMg cs o n c0 Q).inv 0 zz → ltO ((fMg cs o n c0 Q).mu 0 zz) none → Sat E (atLp (lp Try.f16 0)) ((fMg cs o n c0 Q).st 0 zz)) : Sat E [.code (bodyOf Try.f16)] (st0 Try.f16 [.slice (some ⟨0, o, none⟩) n c0] (roRows [cs]) 1) :=
 by_to (T := auto0 t_none) (h := hints []) (ws := [.stop]) (i0 := ⟨0, [], 0⟩) hE hm (auto0_ok t_none_ok) hL (by kernel_rfl) hob hK
theorem mgB (cs : List Value) (o n c0 : Nat) (Q : MG → Prop) (i : Nat) (l l2 : List EB) (c : Nat) (bo : Bx) (v g nn : Int) (J : _) {E rv rhs rhv} (hE : EnvOK E Try.prog Try.f16 1 1 rv rhs rhv) (hL : (fMg cs o n c0 Q).OK 1) (hob : all ([SameK (mkLp (lp Try.f16 0) J) (mkLp (lp Try.f16 0) J), Enter (fMg cs o n c0 Q) 0 (some (n - i)) [.map (some 10), .slice (some (Addr.mk 0 o none)) n c0, .int .i64 ((n : Int)), .int .i64 (Int.ofNat i.succ)] [Blk.ro cs, Blk.map [some IntKind.i64, some IntKind.i64, some IntKind.i64, some IntKind.i64, some IntKind.i64, some IntKind.i64, some IntKind.i64, some IntKind.i64, some IntKind.i64, some IntKind.i64] true (some IntKind.i64) (esB l2) (bif mhas (Value.agg (Array.mk [.int .i64 bo.a0, .int .i64 bo.b0, .int .i64 bo.a1, .int .i64 bo.b1, .int .i64 bo.a2, .int .i64 bo.b2, .int .i64 bo.a3, .int .i64 bo.b3, .int .i64 bo.a4, .int .i64 bo.b4])) (esB l) then c else c + 1)] [(10, 10), (0, 0)], Value.int IntKind.i64 (IntKind.i64.wrap (Int.ofNat i.succ)) = .int .i64 (Int.ofNat i.succ), some (Value.int IntKind.i64 (mgetI (Value.agg (Array.mk [.int .i64 bo.a0, .int .i64 bo.b0, .int .i64 bo.a1, .int .i64 bo.b1, .int .i64 bo.a2, .int .i64 bo.b2, .int .i64 bo.a3, .int .i64 bo.b3, .int .i64 bo.a4, .int .i64 bo.b4])) (mens (Value.agg (Array.mk [.int .i64 bo.a0, .int .i64 bo.b0, .int .i64 bo.a1, .int .i64 bo.b1, .int .i64 bo.a2, .int .i64 bo.b2, .int .i64 bo.a3, .int .i64 bo.b3, .int .i64 bo.a4, .int .i64 bo.b4])) (zeroOf (some IntKind.i64)) c (esB l)))) = some (Value.int IntKind.i64 (mgetI (Value.agg (Array.mk [.int .i64 bo.a0, .int .i64 bo.b0, .int .i64 bo.a1, .int .i64 bo.b1, .int .i64 bo.a2, .int .i64 bo.b2, .int .i64 bo.a3, .int .i64 bo.b3, .int .i64 bo.a4, .int .i64 bo.b4])) (esB l))), mborn (Int.ofNat (mstamp (Value.agg (Array.mk [.int .i64 bo.a0, .int .i64 bo.b0, .int .i64 bo.a1, .int .i64 bo.b1, .int .i64 bo.a2, .int .i64 bo.b2, .int .i64 bo.a3, .int .i64 bo.b3, .int .i64 bo.a4, .int .i64 bo.b4])) c (esB l))) (mens (Value.agg (Array.mk [.int .i64 bo.a0, .int .i64 bo.b0, .int .i64 bo.a1, .int .i64 bo.b1, .int .i64 bo.a2, .int .i64 bo.b2, .int .i64 bo.a3, .int .i64 bo.b3, .int .i64 bo.a4, .int .i64 bo.b4])) (zeroOf (some IntKind.i64)) c (esB l)) = true, mset (Int.ofNat (mstamp (Value.agg (Array.mk [.int .i64 bo.a0, .int .i64 bo.b0, .int .i64 bo.a1, .int .i64 bo.b1, .int .i64 bo.a2, .int .i64 bo.b2, .int .i64 bo.a3, .int .i64 bo.b3, .int .i64 bo.a4, .int .i64 bo.b4])) c (esB l))) (Value.int IntKind.i64 nn) (mens (Value.agg (Array.mk [.int .i64 bo.a0, .int .i64 bo.b0, .int .i64 bo.a1, .int .i64 bo.b1, .int .i64 bo.a2, .int .i64 bo.b2, .int .i64 bo.a3, .int .i64 bo.b3, .int .i64 bo.a4, .int .i64 bo.b4])) (zeroOf (some IntKind.i64)) c (esB l)) = esB l2, Value.int IntKind.i64 (IntKind.i64.wrap (g + v)) = .int .i64 nn, Value.int IntKind.i64 (mgetI (Value.agg (Array.mk [.int .i64 bo.a0, .int .i64 bo.b0, .int .i64 bo.a1, .int .i64 bo.b1, .int .i64 bo.a2, .int .i64 bo.b2, .int .i64 bo.a3, .int .i64 bo.b3, .int .i64 bo.a4, .int .i64 bo.b4])) (esB l)) = .int .i64 g, readPart Try.prog 27 cs (o + ((i : Int)).toNat * 11) = some (Value.agg (Array.mk [.int .i64 bo.a0, .int .i64 bo.b0, .int .i64 bo.a1, .int .i64 bo.b1, .int .i64 bo.a2, .int .i64 bo.b2, .int .i64 bo.a3, .int .i64 bo.b3, .int .i64 bo.a4, .int .i64 bo.b4, .int .i64 v])), (0 : Int) ≤ (i : Int) ∧ (i : Int) < (n : Int), decide ((↑i : Int) < (↑n : Int)) = true])) (hK : ∀ zz, (fMg cs o n c0 Q).inv 0 zz → ltO ((fMg cs o n c0 Q).mu 0 zz) (some (n - i)) → Sat E (mkLp (lp Try.f16 0) J) ((fMg cs o n c0 Q).st 0 zz)) : Sat E (inLp (lp Try.f16 0) J) ((fMg cs o n c0 Q).st 0 ⟨i, l, c⟩) :=
 by_to (T := auto0 t_none) (h := hints [(4, 0, {p := true}), (4, 1, {o := some (.agg ⟨bo.cs ++ [.int .i64 v]⟩)}), (5, 3, {v := some (.int .i64 g)}), (5, 6, {v := some (.int .i64 nn)}), (5, 9, {e := some (esB l2)}), (6, 0, {v := some (.int .i64 ((i + 1 : Nat) : Int))})]) (ws := [.b true]) (i0 := ⟨i + 1, l2, c⟩) hE hm (auto0_ok t_none_ok) hL (by kernel_rfl) hob hK
theorem mgE (cs : List Value) (o n c0 : Nat) (Q : MG → Prop) (i : Nat) (l : List EB) (c : Nat) (J : _) {E : Env} (hE : EnvOK E Try.prog Try.f16 1 1 (.map (some 100)) [100] [.map L10 true (some .i64) (esB l) c]) (hob : all ([Back (Value.map (some 10)) (Value.map (some 100)) [Blk.map [some IntKind.i64, some IntKind.i64, some IntKind.i64, some IntKind.i64, some IntKind.i64, some IntKind.i64, some IntKind.i64, some IntKind.i64, some IntKind.i64, some IntKind.i64] true (some IntKind.i64) (esB l) c] [Blk.map [some IntKind.i64, some IntKind.i64, some IntKind.i64, some IntKind.i64, some IntKind.i64, some IntKind.i64, some IntKind.i64, some IntKind.i64, some IntKind.i64, some IntKind.i64] true (some IntKind.i64) (esB l) c] [(100, 10)], decide ((↑i : Int) < (↑n : Int)) = false])) : Sat E (inLp (lp Try.f16 0) J) ((fMg cs o n c0 Q).st 0 ⟨i, l, c⟩) :=
 by_ret (T := auto0 t_none) (h := hints []) (ws := [.b false]) (nx' := 101) hE hm (auto0_ok t_none_ok) (by omega) (by simp) (by intro x hx; simp at hx; subst hx; trivial) (by kernel_rfl) hob
end Go.Proofs.Ythbaccmhdffjdaa.Mg
namespace Go.Proofs.Ythbaccmhdffjdaa.Mg
open Go Go.RowKit Ev Mg
theorem merge_spec (cs : List Value) (o n c0 : Nat) (hr : ePc.Row cs o n) (hpl : ∀ x ∈ cs, leafG x = true) (hn : n ≤ 65536) :
  CallSpec Try.prog 16 [.slice (some ⟨0, o, none⟩) n c0] (roRows [cs]) 1 (.map (some 100)) (assocN [100] [.map L10 true (some .i64) (esB (mergeL (ePc.list cs o n))) (mergeC (ePc.list cs o n))]) := by
 refine spec_of_sat Try.func16 rfl fun E hE => ?_
 have hlen : (ePc.list cs o n).length = n := Elt.list_len _ _ _
 have hget : ∀ i y, (ePc.list cs o n)[i]? = some y → readPart Try.prog 27 cs (o + (Int.ofNat i).toNat * 11) = some (.agg ⟨y.box.cs ++ [.int .i64 y.val]⟩) := fun i y hy => hr.read (P := Try.prog) (ty := 27) (by kernel_rfl) (by kernel_rfl) (i := i) (x := y) hy
 generalize hps : ePc.list cs o n = ps at hE hlen hget
 let Q : MG → Prop := fun s => s.i ≤ n ∧ (s.l, s.c) = mgGo (ps.take s.i)
 have okL := fMg_ok cs o n c0 Q hpl
 have rnr : ∀ f : Nat → Nat, Blk.rnB f (.ro cs) = .ro cs := fun f => Blk.plain.rnB (b := .ro cs) hpl f
 have rnm : ∀ (f : Nat → Nat) (es : List Ent) (c : Nat), Blk.rnB f (.map L10 true (some .i64) es c) = .map L10 true (some .i64) es c := fun f es c => rfl
 refine mgIn cs o n c0 Q hE okL ⟨rfl, ⟨⟨0, [], 0⟩, ⟨Nat.zero_le _, rfl⟩, trivial, rfl, by simp only [fMg, List.map_cons, List.map_nil, rnr, rnm]; rfl⟩, trivial⟩ fun zz hz _ => by_loop (fMg cs o n c0 Q) (lp Try.f16 0) ?_ 0 zz hz
 rintro b ⟨i, l, c⟩ hinv J hJ
 have hinv : i ≤ n ∧ (l, c) = mgGo (ps.take i) := hinv
 obtain ⟨k1, k2⟩ := hinv
 show Sat E (inLp (lp Try.f16 0) J) ((fMg cs o n c0 Q).st 0 ⟨i, l, c⟩)
 have hJ' : ∀ zz, (fMg cs o n c0 Q).inv 0 zz → ltO ((fMg cs o n c0 Q).mu 0 zz) (some (n - i)) → Sat E (mkLp (lp Try.f16 0) J) ((fMg cs o n c0 Q).st 0 zz) := fun zz h1 h2 => hJ 0 zz h1 h2
 have ok : OKB l c := by have := mg_ok (ps.take i); rw [← k2] at this; exact this
 by_cases hin : i < n
 ·have hlt : decide ((i : Int) < (n : Int)) = true := decide_eq_true (by omega)
  obtain ⟨y, hy⟩ : ∃ y, ps[i]? = some y := ⟨_, List.getElem?_eq_getElem (by omega)⟩
  have htk : ps.take (i + 1) = ps.take i ++ [y] := by rw [List.take_add_one, hy]; rfl
  have hnx : mgGo (ps.take (i + 1)) = mgS (l, c) y := by rw [htk]; unfold mgGo; rw [List.foldl_append]; unfold mgGo at k2; rw [← k2]; rfl
  have hm := okB_map ok
  have hkf : keyFits L10 true (kB y.box) = true := rfl
  exact mgB cs o n c0 Q i l (mgS (l, c) y).1 c y.box y.val (getK y.box l) (IntKind.i64.wrap (getK y.box l + y.val)) J hE okL ⟨rfl, ⟨⟨i + 1, (mgS (l, c) y).1, (mgS (l, c) y).2⟩, ⟨hin, hnx.symm⟩, (by show n - (i + 1) < n - i; omega), rfl, (by
   simp only [fMg, List.map_cons, List.map_nil, rnr, rnm]
   show [Blk.ro cs, Blk.map L10 true (some .i64) (esB (mgS (l, c) y).1) (bif mhas (kB y.box) (esB l) then c else c + 1)] = _
   rw [mhas_esB]
   rfl)⟩, i64_succ (by omega), (congrArg (fun z => some (Value.int .i64 z)) (mgetI_ens (esB l))), mborn_ens hkf (esB l), ((mset_ens (esB l) hm.borns hm.clock).trans (mput_esB _ _ _ _)), rfl, (congrArg (Value.int .i64) (mget_esB _ _)), hget i y hy, ⟨Int.natCast_nonneg _, Int.ofNat_lt.2 hin⟩, hlt, trivial⟩ hJ'
 ·have hlt : decide ((i : Int) < (n : Int)) = false := decide_eq_false (by omega)
  rw [List.take_of_length_le (by omega)] at k2
  have e1 : mergeL ps = l := by unfold mergeL; rw [← k2]
  have e2 : mergeC ps = c := by unfold mergeC; rw [← k2]
  rw [e1, e2] at hE
  exact mgE cs o n c0 Q i l c J hE ⟨⟨rfl, rfl⟩, hlt, trivial⟩
def merge_F (ML : List Pc → List EB) (MC : List Pc → Nat) : RoF := fun xs css => match xs, css with
 | [.slice (some ⟨0, o, none⟩) n c0], [cs] => some (.map (some 100), [.map L10 true (some .i64) (esB (ML (ePc.list cs o n))) (MC (ePc.list cs o n))], [ML = mergeL, MC = mergeC, ePc.Row cs o n, n ≤ 65536])
 | [.slice none 0 0], [] => some (.map (some 100), [.map L10 true (some .i64) (esB []) 0], [])
 | _, _ => none
theorem merge_sum (ML : List Pc → List EB) (MC : List Pc → Nat) : SumOK Try.prog 16 (roSum (merge_F ML MC)) := by
 refine roSum_ok (en Try.func16 rfl) ?_ (fun xs css r h => ?_)
 ·intro xs css v blks ob h hob hpl hl
  unfold merge_F at h
  split at h
  ·rename_i o n c0 cs
   simp only [Option.some.injEq, Prod.mk.injEq] at h
   obtain ⟨rfl, rfl, rfl⟩ := h
   obtain rfl : ML = mergeL := hob _ (List.mem_cons_self ..)
   obtain rfl : MC = mergeC := hob _ (List.mem_cons_of_mem _ (List.mem_cons_self ..))
   refine ⟨by simp, fun x hx => by simp at hx; subst hx; exact ⟨trivial, rfl⟩, fun j hj => by simp [nms, nm1, nm0] at hj; subst hj; simp, ?_⟩
   exact merge_spec cs o n c0 (hob _ (List.mem_cons_of_mem _ (List.mem_cons_of_mem _ (List.mem_cons_self ..)))) (hpl cs (by simp)) (hob _ (by simp))
  ·simp only [Option.some.injEq, Prod.mk.injEq] at h
   obtain ⟨rfl, rfl, rfl⟩ := h
   refine ⟨by simp, fun x hx => by simp at hx; subst hx; exact ⟨trivial, rfl⟩, fun j hj => by simp [nms, nm1, nm0] at hj; subst hj; simp, ?_⟩
   exact spec_of_sat Try.func16 rfl fun E hE => mgNil () hE ⟨⟨rfl, rfl⟩, trivial⟩
  ·simp at h
 ·unfold merge_F at h
  split at h <;> simp at h <;> simp
end Go.Proofs.Ythbaccmhdffjdaa.Mg
namespace Go.Proofs.Ythbaccmhdffjdaa.Co
open Go Go.RowKit Ev NodeE Tr BoxF Lv Mm Mt Cl Mg
def mtU (A B : List Pc) : List Pc := A.flatMap fun x => keepM x B
theorem mtI_some {most : Int} {x : Pc} : ∀ {ys out : List Pc}, ((out.length + (keepM x ys).length : Nat) : Int) ≤ most → mtI most x out ys = some (out ++ keepM x ys)
 | [], out, h => by simp [mtI, keepM]
 | y :: ys, out, h => by
  simp only [mtI]
  by_cases he : bxE (mBx x.box y.box) = true
  ·rw [if_pos he]
   have hk : keepM x (y :: ys) = keepM x ys := by simp [keepM, he]
   rw [hk] at h ⊢
   exact mtI_some h
  ·rw [if_neg he]
   have hk : keepM x (y :: ys) = mPc x y :: keepM x ys := by
    have he : bxE (mBx x.box y.box) = false := by simpa using he
    simp [keepM, he]
   rw [hk, List.length_cons] at h
   rw [if_neg (by omega), mtI_some (by rw [List.length_append, List.length_cons, List.length_nil]; omega), hk]
   simp
theorem mtO_some {most : Int} {B : List Pc} : ∀ {A out : List Pc}, ((out.length + (mtU A B).length : Nat) : Int) ≤ most → mtO most B out A = some (out ++ mtU A B)
 | [], out, h => by simp [mtO, mtU]
 | x :: A, out, h => by
  have hu : mtU (x :: A) B = keepM x B ++ mtU A B := by simp [mtU]
  rw [hu, List.length_append] at h
  simp only [mtO]
  rw [mtI_some (by omega), hu]
  show mtO most B (out ++ keepM x B) A = _
  rw [mtO_some (by rw [List.length_append]; omega)]
  simp
theorem meet_some {most : Int} {A B : List Pc} (h : ((mtU A B).length : Int) ≤ most) : meetL A B most = some (mtU A B) := mtO_some (by simpa using h)
theorem meet_is {most : Int} {A B C : List Pc} (h : meetL A B most = some C) : C = mtU A B ∧ (C.length : Int) ≤ max 0 most := by
 exact ⟨(mtO_is h).trans (List.nil_append _), by simpa using mtO_len h⟩
theorem meet_none {most : Int} {A B : List Pc} (h1 : 0 < (mtU A B).length) (h2 : most < ((mtU A B).length : Int)) : meetL A B most = none := by
 cases h : meetL A B most with
 | none => rfl
 | some C =>
  obtain ⟨rfl, h3⟩ := meet_is h
  omega
def allU (Ls : Nat → List Pc) : Nat → List Pc
 | 0 => Ls 0
 | j + 1 => mtU (allU Ls j) (Ls (j + 1))
theorem mtU_part {b : Bx} {A B : List Pc} {g h : Pt → Int} (hA : Part b A g) (hB : Part b B h) : Part b (mtU A B) (fun p => IntKind.i64.wrap (g p + h p)) := meet_part hA hB (meet_some (Int.le_refl _))
theorem allU_part {Ls : Nat → List Pc} {b : Bx} {g : Nat → Pt → Int} (h : ∀ i, Part b (Ls i) (g i)) : ∀ j, Part b (allU Ls j) (gN g j)
 | 0 => h 0
 | j + 1 => mtU_part (allU_part h j) (h (j + 1))
theorem mtU_len {b : Bx} {A B : List Pc} {g h : Pt → Int} (hA : Part b A g) (hB : Part b B h) : A.length ≤ (mtU A B).length := by
 have key : ∀ A : List Pc, (∀ y ∈ A, y.box.emp = false ∧ y.box.Le b) → A.length ≤ (mtU A B).length := by
  intro A
  induction A with
  | nil => intro _; simp
  | cons x A ih =>
   intro hx
   have h1 := ih fun y hy => hx y (List.mem_cons_of_mem _ hy)
   obtain ⟨h2, h3⟩ := hx x (List.mem_cons_self ..)
   have hu : mtU (x :: A) B = keepM x B ++ mtU A B := by simp [mtU]
   rw [hu, List.length_append, List.length_cons]
   have hp := (pt_in h2).1
   have ho := hB.one _ _ (le_in h3 hp)
   have hk := keepM_count (x := x) (p := x.box.pt) (t := x.box.a4) (ys := B)
   rw [if_pos (hs_iff.2 hp), ho] at hk
   have := List.countP_le_length (p := fun y : Pc => y.box.hs x.box.pt x.box.a4) (l := keepM x B)
   omega
 exact key A fun y hy => ⟨hA.ne y hy, hA.le y hy⟩
theorem allU_mono {Ls : Nat → List Pc} {b : Bx} {g : Nat → Pt → Int} (h : ∀ i, Part b (Ls i) (g i)) (j : Nat) : ∀ d, (allU Ls j).length ≤ (allU Ls (j + d)).length
 | 0 => Nat.le_refl _
 | d + 1 => Nat.le_trans (allU_mono h j d) (mtU_len (allU_part h (j + d)) (h (j + d + 1)))
theorem allN_some {Ls : Nat → List Pc} {b : Bx} {g : Nat → Pt → Int} (h : ∀ i, Part b (Ls i) (g i)) {most : Int} : ∀ j, ((allU Ls j).length : Int) ≤ most → allN Ls most j = some (allU Ls j)
 | 0, _ => rfl
 | j + 1, hm => by
  have := allU_mono h j 1
  show (allN Ls most j).bind _ = _
  rw [allN_some h j (by omega)]
  exact meet_some hm
theorem allN_is {Ls : Nat → List Pc} {most : Int} : ∀ {j : Nat} {l : List Pc}, allN Ls most j = some l → l = allU Ls j ∧ (j ≠ 0 → (l.length : Int) ≤ max 0 most)
 | 0, l, e => ⟨(Option.some.inj e).symm, fun h => absurd rfl h⟩
 | j + 1, l, e => by
  have e : (allN Ls most j).bind (fun a => meetL a (Ls (j + 1)) most) = some l := e
  cases ha : allN Ls most j with
  | none => rw [ha] at e; exact absurd e (by simp)
  | some a =>
   rw [ha] at e
   obtain ⟨rfl, _⟩ := allN_is ha
   obtain ⟨h1, h2⟩ := meet_is e
   exact ⟨h1, fun _ => h2⟩
theorem one_le {b : Bx} {A : List Pc} {g : Pt → Int} (h : Part b A g) (p : Pt) (t : Int) : A.countP (fun y => y.box.hs p t) ≤ 1 := by
 by_cases hb : b.In p t
 ·rw [h.one p t hb]; exact Nat.le_refl _
 ·rw [List.countP_eq_zero.2 fun y hy => by
   intro hh
   exact hb (le_in (h.le y hy) (hs_iff.1 hh))]
  exact Nat.zero_le _
theorem only {P : Pc → Bool} : ∀ {A : List Pc}, A.countP P ≤ 1 → ∀ y ∈ A, ∀ z ∈ A, P y = true → P z = true → y = z
 | [], _, y, hy, _, _, _, _ => by simp at hy
 | x :: A, h, y, hy, z, hz, py, pz => by
  rw [List.countP_cons] at h
  rcases List.mem_cons.1 hy with e1 | hy' <;> rcases List.mem_cons.1 hz with e2 | hz'
  ·rw [e1, e2]
  ·have h2 : 0 < A.countP P := List.countP_pos_iff.2 ⟨z, hz', pz⟩
   rw [← e1, if_pos py] at h; omega
  ·have h2 : 0 < A.countP P := List.countP_pos_iff.2 ⟨y, hy', py⟩
   rw [← e2, if_pos pz] at h; omega
  ·exact only (by omega) y hy' z hz' py pz
theorem box_nodup : ∀ {A : List Pc}, (∀ y ∈ A, y.box.emp = false) → (∀ p t, A.countP (fun y => y.box.hs p t) ≤ 1) → (A.map (·.box)).Nodup
 | [], _, _ => List.nodup_nil
 | x :: A, h, ho => by
  rw [List.map_cons, List.nodup_cons]
  refine ⟨fun hm => ?_, box_nodup (fun y hy => h y (List.mem_cons_of_mem _ hy)) fun p t => by have := ho p t; rw [List.countP_cons] at this; omega⟩
  obtain ⟨y, hy, he⟩ := List.mem_map.1 hm
  have hp := (pt_in (h x (List.mem_cons_self ..))).1
  have := ho x.box.pt x.box.a4
  rw [List.countP_cons, if_pos (hs_iff.2 hp)] at this
  have h2 : 0 < A.countP (fun y => y.box.hs x.box.pt x.box.a4) := List.countP_pos_iff.2 ⟨y, hy, (by show y.box.hs _ _ = true; rw [he]; exact hs_iff.2 hp)⟩
  omega
theorem part_nodup {b : Bx} {A : List Pc} {g : Pt → Int} (h : Part b A g) : (A.map (·.box)).Nodup := box_nodup h.ne (one_le h)
abbrev Tog := Pt → Int → Pt → Int → Prop
def Cls (b : Bx) (A : List Pc) (r : Tog) : Prop := ∀ y ∈ A, ∀ p t p' t', y.box.In p t → (y.box.In p' t' ↔ (b.In p' t' ∧ r p t p' t'))
def tog (A : List Pc) : Tog := fun p t p' t' => ∃ z ∈ A, z.box.In p t ∧ z.box.In p' t'
theorem cls_self {b : Bx} {A : List Pc} {g : Pt → Int} (h : Part b A g) : Cls b A (tog A) := by
 intro y hy p t p' t' hp
 constructor
 ·exact fun h' => ⟨le_in (h.le y hy) h', y, hy, hp, h'⟩
 ·rintro ⟨_, z, hz, h1, h2⟩
  rw [only (one_le h p t) y hy z hz (hs_iff.2 hp) (hs_iff.2 h1)]
  exact h2
theorem cls_meet {b : Bx} {A B : List Pc} {r s : Tog} (hA : Cls b A r) (hB : Cls b B s) : Cls b (mtU A B) (fun p t p' t' => r p t p' t' ∧ s p t p' t') := by
 intro z hz p t p' t' hp
 obtain ⟨x, hx, hz⟩ := List.mem_flatMap.1 hz
 obtain ⟨y, hy, rfl⟩ := List.mem_map.1 hz
 obtain ⟨hy, _⟩ := List.mem_filter.1 hy
 have h1 := (in_meet _ _ _ _).1 hp
 show (mBx x.box y.box).In p' t' ↔ _
 rw [in_meet, hA x hx p t p' t' h1.1, hB y hy p t p' t' h1.2]
 constructor
 ·rintro ⟨⟨a, b⟩, _, c⟩; exact ⟨a, b, c⟩
 ·rintro ⟨a, b, c⟩; exact ⟨⟨a, b⟩, a, c⟩
theorem cls_all {b : Bx} {Ls : Nat → List Pc} {g : Nat → Pt → Int} (h : ∀ i, Part b (Ls i) (g i)) : ∀ j, Cls b (allU Ls j) (fun p t p' t' => ∀ i, i ≤ j → tog (Ls i) p t p' t')
 | 0 => fun y hy p t p' t' hp => by
  rw [cls_self (h 0) y hy p t p' t' hp]
  exact ⟨fun ⟨a, b⟩ => ⟨a, fun i hi => by obtain rfl : i = 0 := by omega
                                          exact b⟩, fun ⟨a, b⟩ => ⟨a, b 0 (Nat.le_refl _)⟩⟩
 | j + 1 => fun y hy p t p' t' hp => by
  rw [cls_meet (cls_all h j) (cls_self (h (j + 1))) y hy p t p' t' hp]
  refine ⟨fun ⟨a, b, c⟩ => ⟨a, fun i hi => ?_⟩, fun ⟨a, b⟩ => ⟨a, fun i hi => b i (by omega), b _ (Nat.le_refl _)⟩⟩
  by_cases hi : i ≤ j
  ·exact b i hi
  ·obtain rfl : i = j + 1 := by omega
   exact c
theorem cls_imp {b : Bx} {A : List Pc} {r s : Tog} (h : Cls b A r) (e : ∀ p t p' t', r p t p' t' ↔ s p t p' t') : Cls b A s := fun y hy p t p' t' hp => by rw [h y hy p t p' t' hp, e]
theorem le_anti {x y : Bx} (h : x.Le y) (g : y.Le x) : x = y := by
 obtain ⟨⟨a0, b0⟩, ⟨a1, b1⟩, ⟨a2, b2⟩, ⟨a3, b3⟩, a4, b4⟩ := h
 obtain ⟨⟨c0, d0⟩, ⟨c1, d1⟩, ⟨c2, d2⟩, ⟨c3, d3⟩, c4, d4⟩ := g
 cases x; cases y
 simp only [Bx.mk.injEq] at *
 omega
theorem sub_of_cls {b : Bx} {A B : List Pc} {g h : Pt → Int} {r : Tog} (hA : Part b A g) (hB : Part b B h) (cA : Cls b A r) (cB : Cls b B r) (hgh : ∀ p, g p = h p) : ∀ y ∈ A, y ∈ B := by
 intro y hy
 have hp := (pt_in (hA.ne y hy)).1
 have hb := le_in (hA.le y hy) hp
 have ho := hB.one _ _ hb
 obtain ⟨z, hz, hzp⟩ := List.countP_pos_iff.1 (show 0 < B.countP (fun z => z.box.hs y.box.pt y.box.a4) by omega)
 have hzp := hs_iff.1 hzp
 have e : ∀ p' t', y.box.In p' t' ↔ z.box.In p' t' := fun p' t' => by rw [cA y hy _ _ p' t' hp, cB z hz _ _ p' t' hzp]
 have hbox : y.box = z.box := le_anti (le_of_in (hA.ne y hy) fun p t h => (e p t).1 h) (le_of_in (hB.ne z hz) fun p t h => (e p t).2 h)
 have hval : y.val = z.val := by rw [hA.val y hy _ _ hp, hB.val z hz _ _ hzp, hgh]
 have : y = z := by cases y; cases z; simp_all
 rw [this]; exact hz
theorem len_of_sub {A B : List Pc} (hA : (A.map (·.box)).Nodup) (h : ∀ y ∈ A, y ∈ B) : A.length ≤ B.length := by
 have key : ∀ (xs ys : List Pc), xs.Nodup → (∀ x ∈ xs, x ∈ ys) → xs.length ≤ ys.length := by
  intro xs
  induction xs with
  | nil => intro ys _ _; exact Nat.zero_le _
  | cons x xs ih =>
   intro ys hn hs
   obtain ⟨h1, h2⟩ := List.nodup_cons.1 hn
   have hx := hs x (List.mem_cons_self ..)
   have := ih (ys.erase x) h2 fun y hy => by
    have hne : y ≠ x := fun e => h1 (e ▸ hy)
    exact (List.mem_erase_of_ne hne).2 (hs y (List.mem_cons_of_mem _ hy))
   rw [List.length_erase_of_mem hx] at this
   have hpos : 1 ≤ ys.length := by cases ys with | nil => simp at hx | cons _ _ => simp
   simp only [List.length_cons]
   omega
 refine key A B ?_ h
 clear h key
 induction A with
 | nil => exact List.nodup_nil
 | cons x A ih =>
  rw [List.map_cons, List.nodup_cons] at hA
  exact List.nodup_cons.2 ⟨fun hx => hA.1 (List.mem_map.2 ⟨x, hx, rfl⟩), ih hA.2⟩
def Alike (A B : List Pc) : Prop := (A.map (·.box)).Nodup ∧ (B.map (·.box)).Nodup ∧ (∀ y ∈ A, y ∈ B) ∧ (∀ y ∈ B, y ∈ A)
theorem Alike.len {A B : List Pc} (h : Alike A B) : A.length = B.length := Nat.le_antisymm (len_of_sub h.1 h.2.2.1) (len_of_sub h.2.1 h.2.2.2)
theorem Alike.self {A : List Pc} (h : (A.map (·.box)).Nodup) : Alike A A := ⟨h, h, fun _ h => h, fun _ h => h⟩
theorem alike_of {b : Bx} {A B : List Pc} {g h : Pt → Int} {r s : Tog} (hA : Part b A g) (hB : Part b B h) (cA : Cls b A r) (cB : Cls b B s) (e : ∀ p t p' t', r p t p' t' ↔ s p t p' t') (hgh : ∀ p, g p = h p) : Alike A B :=
 ⟨part_nodup hA, part_nodup hB, sub_of_cls hA hB cA (cls_imp cB fun p t p' t' => (e p t p' t').symm) hgh, sub_of_cls hB hA (cls_imp cB fun p t p' t' => (e p t p' t').symm) cA fun p => (hgh p).symm⟩
theorem wr (a b : Int) : IntKind.i64.wrap (IntKind.i64.wrap a + b) = IntKind.i64.wrap (a + b) ∧ IntKind.i64.wrap (a + IntKind.i64.wrap b) = IntKind.i64.wrap (a + b) := by
 simp only [IntKind.wrap_i64]; omega
def sumN (g : Nat → Pt → Int) (p : Pt) : Nat → Int
 | 0 => g 0 p
 | j + 1 => sumN g p j + g (j + 1) p
theorem gN_sum {g : Nat → Pt → Int} (h : ∀ i p, I64 (g i p)) (p : Pt) : ∀ j, gN g j p = IntKind.i64.wrap (sumN g p j)
 | 0 => (wrap_id (h 0 p)).symm
 | j + 1 => by
  show IntKind.i64.wrap (gN g j p + g (j + 1) p) = IntKind.i64.wrap (sumN g p j + g (j + 1) p)
  rw [gN_sum h p j, (wr _ _).1]
theorem sum_rev {g : Nat → Pt → Int} (p : Pt) {k : Nat} (hk : k < 4) : sumN (fun i => g (k - i)) p k = sumN g p k := by
 have : k = 0 ∨ k = 1 ∨ k = 2 ∨ k = 3 := by omega
 rcases this with rfl | rfl | rfl | rfl <;> simp [sumN] <;> omega
theorem sum_split {g : Nat → Pt → Int} (p : Pt) (i : Nat) : ∀ j, sumN g p i + sumN (fun x => g (i + 1 + x)) p j = sumN g p (i + 1 + j)
 | 0 => rfl
 | j + 1 => by
  show sumN g p i + (sumN (fun x => g (i + 1 + x)) p j + g (i + 1 + (j + 1)) p) = sumN g p (i + 1 + j) + g (i + 1 + j + 1) p
  rw [← sum_split p i j]
  have : i + 1 + (j + 1) = i + 1 + j + 1 := by omega
  rw [this]; omega
theorem mgGo_snoc (l : List Pc) (x : Pc) : mgGo (l ++ [x]) = mgS (mgGo l) x := by unfold mgGo; rw [List.foldl_append]; rfl
theorem merge_all : ∀ (n : Nat) (l : List Pc), l.length = n → (l.map (·.box)).Nodup → (∀ x ∈ l, I64 x.val) →
  (∀ x ∈ l, getK x.box (mgGo l).1 = x.val) ∧ (∀ b, hasK b (mgGo l).1 = true → ∃ x ∈ l, x.box = b) ∧ (∀ b, (∀ x ∈ l, x.box ≠ b) → getK b (mgGo l).1 = 0) ∧ (mgGo l).1.length = l.length := by
 intro n
 induction n with
 | zero =>
  intro l hl _ _
  obtain rfl := List.eq_nil_of_length_eq_zero hl
  exact ⟨fun x hx => by simp at hx, fun b h => by simp [mgGo, hasK] at h, fun b _ => rfl, rfl⟩
 | succ n ih =>
  intro l hl hd hv
  obtain ⟨m, x, rfl⟩ : ∃ m x, l = m ++ [x] := ⟨l.dropLast, l.getLast (by intro h; rw [h] at hl; simp at hl), (List.dropLast_concat_getLast _).symm⟩
  have hm : m.length = n := by simpa using hl
  rw [List.map_append, List.nodup_append] at hd
  obtain ⟨d1, _, d2⟩ := hd
  obtain ⟨h1, h2, h3, h4⟩ := ih m hm d1 fun y hy => hv y (List.mem_append_left _ hy)
  have hne : ∀ y ∈ m, y.box ≠ x.box := fun y hy => d2 y.box (List.mem_map.2 ⟨y, hy, rfl⟩) x.box (by simp)
  have hx := hv x (by simp)
  have hw : IntKind.i64.wrap (getK x.box (mgGo m).1 + x.val) = x.val := by
   rw [h3 x.box hne, Int.zero_add]
   exact wrap_id hx
  rw [mgGo_snoc]
  unfold mgS
  simp only [hw]
  refine ⟨fun y hy => ?_, fun b hb => ?_, fun b hb => ?_, ?_⟩
  ·rw [getK_put]
   rcases List.mem_append.1 hy with hy | hy
   ·rw [if_neg (hne y hy)]; exact h1 y hy
   ·obtain rfl : y = x := by simpa using hy
    rw [if_pos rfl]
  ·rw [hasK_put, Bool.or_eq_true, decide_eq_true_eq] at hb
   rcases hb with rfl | hb
   ·exact ⟨x, by simp, rfl⟩
   ·obtain ⟨y, hy, e⟩ := h2 b hb
    exact ⟨y, List.mem_append_left _ hy, e⟩
  ·rw [getK_put, if_neg fun e => hb x (by simp) e.symm]
   exact h3 b fun y hy => hb y (List.mem_append_left _ hy)
  ·rw [len_put]
   have : hasK x.box (mgGo m).1 = false := by
    cases e : hasK x.box (mgGo m).1 with
    | false => rfl
    | true => obtain ⟨y, hy, e⟩ := h2 _ e; exact absurd e (hne y hy)
   rw [this]
   simp [h4]
theorem getK_mem {l : List EB} (h : (l.map (·.b)).Nodup) : ∀ e ∈ l, getK e.b l = e.n := by
 induction l with
 | nil => intro e he; simp at he
 | cons x l ih =>
  intro e he
  rw [List.map_cons, List.nodup_cons] at h
  rcases List.mem_cons.1 he with rfl | he
  ·simp [getK]
  ·have hne : e.b ≠ x.b := fun c => h.1 (c ▸ List.mem_map.2 ⟨e, he, rfl⟩)
   rw [getK, if_neg hne]
   exact ih h.2 e he
theorem merge_alike {A B : List Pc} (h : Alike A B) (hv : ∀ x ∈ A, I64 x.val) : (mergeL A).length = A.length ∧ (mergeL B).length = A.length ∧ ∀ e ∈ mergeL A, getK e.b (mergeL B) = e.n := by
 have hvB : ∀ x ∈ B, I64 x.val := fun x hx => hv x (h.2.2.2 x hx)
 obtain ⟨a1, a2, _, a4⟩ := merge_all _ A rfl h.1 hv
 obtain ⟨b1, _, _, b4⟩ := merge_all _ B rfl h.2.1 hvB
 refine ⟨a4, b4.trans h.len.symm, fun e he => ?_⟩
 have hk := (mg_ok A).keys
 have hg := getK_mem hk e he
 obtain ⟨x, hx, hb⟩ := a2 e.b (hasK_iff.2 (List.mem_map.2 ⟨e, he, rfl⟩))
 rw [← hg, ← hb, a1 x hx]
 exact b1 x (h.2.2.1 x hx)
theorem keep1 {x z : Pc} (e : bxE (mBx x.box z.box) = false) : keepM x [z] = [mPc x z] := by
 unfold keepM
 rw [List.filter_cons_of_pos (by simp [e])]
 rfl
theorem in_plane {x : Bx} (h2 : x.I64s) {p : Pt} {t : Int} (hp : x.In p t) : planeA.In p t := by
 obtain ⟨⟨a, b'⟩, ⟨c, d⟩, ⟨e, f⟩, ⟨g, h⟩, i, j⟩ := hp
 unfold Bx.I64s I64 at h2
 unfold Bx.In planeA
 simp only
 omega
theorem plane_box {x : Bx} (h1 : x.emp = false) (h2 : x.I64s) : mBx planeA x = x ∧ mBx x planeA = x := by
 obtain ⟨q1, _⟩ := pt_in h1
 have n1 : (mBx planeA x).emp = false := in_emp ((in_meet _ _ _ _).2 ⟨in_plane h2 q1, q1⟩)
 have n2 : (mBx x planeA).emp = false := in_emp ((in_meet _ _ _ _).2 ⟨q1, in_plane h2 q1⟩)
 exact ⟨le_anti (le_of_in n1 fun p t h => ((in_meet _ _ _ _).1 h).2) (le_of_in h1 fun p t h => (in_meet _ _ _ _).2 ⟨in_plane h2 h, h⟩), le_anti (le_of_in n2 fun p t h => ((in_meet _ _ _ _).1 h).1) (le_of_in h1 fun p t h => (in_meet _ _ _ _).2 ⟨h, in_plane h2 h⟩)⟩
theorem plane_l {y : Pc} (h1 : y.box.emp = false) (h2 : y.box.I64s) (h3 : I64 y.val) (P : Pc) (hP : P = ⟨planeA, 0⟩) : keepM P [y] = [y] ∧ keepM y [P] = [y] := by
 obtain ⟨e1, e2⟩ := plane_box h1 h2
 have hb : P.box = planeA := by rw [hP]
 have hv : P.val = 0 := by rw [hP]
 rw [← hb] at e1 e2
 have b1 : bxE (mBx P.box y.box) = false := by rw [e1]; exact h1
 have b2 : bxE (mBx y.box P.box) = false := by rw [e2]; exact h1
 have w1 : IntKind.i64.wrap (P.val + y.val) = y.val := by rw [hv, Int.zero_add]; exact wrap_id h3
 have w2 : IntKind.i64.wrap (y.val + P.val) = y.val := by rw [hv, Int.add_zero]; exact wrap_id h3
 rw [keep1 b1, keep1 b2]
 unfold mPc
 rw [e1, e2, w1, w2]
 exact ⟨rfl, rfl⟩
theorem le_I64 {x y : Bx} (h : x.Le y) (hy : y.I64s) (he : x.emp = false) : x.I64s := by
 obtain ⟨h0, h1, h2, h3, h4⟩ := h
 have := emp_iff.1 he
 unfold Bx.I64s I64 at *
 omega
theorem plane_left {A : List Pc} (h : ∀ y ∈ A, y.box.emp = false ∧ y.box.I64s ∧ I64 y.val) : mtU [⟨planeA, 0⟩] A = A := by
 have : mtU [⟨planeA, 0⟩] A = keepM ⟨planeA, 0⟩ A := by simp [mtU]
 rw [this]
 induction A with
 | nil => rfl
 | cons y A ih =>
  obtain ⟨h1, h2, h3⟩ := h y (List.mem_cons_self ..)
  have e : keepM ⟨planeA, 0⟩ (y :: A) = keepM ⟨planeA, 0⟩ [y] ++ keepM ⟨planeA, 0⟩ A := by
   unfold keepM
   rw [← List.map_append, ← List.filter_append]
   rfl
  rw [e, (plane_l h1 h2 h3 _ rfl).1, ih (fun z hz => h z (List.mem_cons_of_mem _ hz)) (by simp [mtU])]
  rfl
theorem plane_right {A : List Pc} (h : ∀ y ∈ A, y.box.emp = false ∧ y.box.I64s ∧ I64 y.val) : mtU A [⟨planeA, 0⟩] = A := by
 induction A with
 | nil => rfl
 | cons y A ih =>
  obtain ⟨h1, h2, h3⟩ := h y (List.mem_cons_self ..)
  have e : mtU (y :: A) [⟨planeA, 0⟩] = keepM y [⟨planeA, 0⟩] ++ mtU A [⟨planeA, 0⟩] := by simp [mtU]
  rw [e, (plane_l h1 h2 h3 _ rfl).2, ih fun z hz => h z (List.mem_cons_of_mem _ hz)]
  rfl
structure Orders (b : Bx) (Ls : Nat → List Pc) (k kk : Nat) (X Y U V W : List Pc) : Prop where
 u : allO Ls 5000 0 kk = some U
 v : allO Ls 5000 kk (k + 1 - kk) = some V
 w : meetL U V 5000 = some W
 lens : X.length = Y.length ∧ X.length = W.length
 full : allN Ls (X.length : Int) k = some X
 less : meetL U V ((X.length : Int) - 1) = none
 ml : (mergeL X).length = X.length ∧ (mergeL Y).length = X.length ∧ (mergeL W).length = X.length
 val : ∀ e ∈ mergeL X, getK e.b (mergeL Y) = e.n ∧ getK e.b (mergeL W) = e.n
 pos : 1 ≤ X.length ∧ 1 ≤ U.length ∧ 1 ≤ V.length
 le : X.length ≤ 5000 ∧ U.length ≤ 5000 ∧ V.length ≤ 5000
theorem part_pos {b : Bx} {A : List Pc} {g : Pt → Int} (h : Part b A g) (he : b.emp = false) : 1 ≤ A.length := by
 have := part_ne h he
 cases A with
 | nil => exact absurd rfl this
 | cons _ _ => simp
theorem back_same {b : Bx} {Ls : Nat → List Pc} {g : Nat → Pt → Int} (h : ∀ i, Part b (Ls i) (g i)) (hg : ∀ i p, I64 (g i p)) {k : Nat} (hk : k < 4) : Alike (allU Ls k) (allU (fun i => Ls (k - i)) k) := by
 refine alike_of (allU_part h k) (allU_part (Ls := fun i => Ls (k - i)) (g := fun i => g (k - i)) (fun i => h _) k) (cls_all h k) (cls_all (Ls := fun i => Ls (k - i)) (g := fun i => g (k - i)) (fun i => h _) k) (fun p t p' t' => ?_) fun p => ?_
 ·constructor
  ·exact fun a i hi => a (k - i) (by omega)
  ·exact fun a i hi => by
    have := a (k - i) (by omega)
    have e : k - (k - i) = i := by omega
    rw [e] at this
    exact this
 ·rw [gN_sum hg, gN_sum (g := fun i => g (k - i)) (fun i p => hg _ p), sum_rev p hk]
theorem orders {b : Bx} {Ls : Nat → List Pc} {g : Nat → Pt → Int} (h : ∀ i, Part b (Ls i) (g i)) (hg : ∀ i p, I64 (g i p)) (he : b.emp = false) (hb : b.I64s) {k kk : Nat} (hk : k < 4) (hkk : kk ≤ k + 1) {X Y : List Pc} (hl : ∀ i, (Ls i).length ≤ 5000)
  (hX : allN Ls 5000 k = some X) (hY : allN (fun i => Ls (k - i)) 5000 k = some Y) : ∃ U V W, Orders b Ls k kk X Y U V W := by
 obtain ⟨eX, lX⟩ := allN_is hX
 obtain ⟨eY, lY⟩ := allN_is hY
 have pX : Part b X (gN g k) := by rw [eX]; exact allU_part h k
 have hX5 : X.length ≤ 5000 := by
  by_cases h0 : k = 0
  ·subst h0
   rw [eX]; exact hl 0
  ·have := lX h0; omega
 have aXY : Alike X Y := by rw [eX, eY]; exact back_same h hg hk
 have vX : ∀ x ∈ X, I64 x.val := fun x hx => by
  rw [pX.val x hx _ _ (pt_in (pX.ne x hx)).1, gN_sum hg, IntKind.wrap_i64]
  unfold I64; omega
 have full : allN Ls (X.length : Int) k = some X := by rw [eX]; exact allN_some h k (Int.le_refl _)
 have good : ∀ y ∈ X, y.box.emp = false ∧ y.box.I64s ∧ I64 y.val := fun y hy => ⟨pX.ne y hy, le_I64 (pX.le y hy) hb (pX.ne y hy), vX y hy⟩
 have pos := part_pos pX he
 obtain ⟨m1, m2, m3⟩ := merge_alike aXY vX
 -- what is left, of u and v that meet in pieces alike
 have fin : ∀ U V, allO Ls 5000 0 kk = some U → allO Ls 5000 kk (k + 1 - kk) = some V → Alike X (mtU U V) → 1 ≤ U.length → 1 ≤ V.length → U.length ≤ 5000 → V.length ≤ 5000 → ∃ U V W, Orders b Ls k kk X Y U V W := fun U V hu hv ha u1 v1 u5 v5 => by
  obtain ⟨_, w2, w3⟩ := merge_alike ha vX
  have hlw := ha.len
  exact ⟨U, V, mtU U V, hu, hv, meet_some (by omega), ⟨aXY.len, hlw⟩, full, meet_none (by omega) (by omega), ⟨m1, m2, w2⟩, fun e hx => ⟨m3 e hx, w3 e hx⟩, ⟨pos, u1, v1⟩, hX5, u5, v5⟩
 by_cases h0 : kk = 0
 ·subst h0
  refine fin [⟨planeA, 0⟩] X rfl ?_ ?_ (by simp) pos (by simp) hX5
  ·show allN (fun i => Ls (0 + i)) 5000 k = some X
   have : (fun i => Ls (0 + i)) = Ls := by funext i; rw [Nat.zero_add]
   rw [this]; exact hX
  ·rw [plane_left good]; exact Alike.self aXY.1
 by_cases h1 : kk = k + 1
 ·subst h1
  refine fin X [⟨planeA, 0⟩] ?_ (by rw [Nat.sub_self]; rfl) ?_ pos (by simp) hX5 (by simp)
  ·show allN (fun i => Ls (0 + i)) 5000 k = some X
   have : (fun i => Ls (0 + i)) = Ls := by funext i; rw [Nat.zero_add]
   rw [this]; exact hX
  ·rw [plane_right good]; exact Alike.self aXY.1
 obtain ⟨i, rfl⟩ : ∃ i, kk = i + 1 := ⟨kk - 1, by omega⟩
 obtain ⟨j, hj⟩ : ∃ j, k = i + 1 + j := ⟨k - (i + 1), by omega⟩
 have ej : k + 1 - (i + 1) = j + 1 := by omega
 let Lv : Nat → List Pc := fun x => Ls (i + 1 + x)
 have hv : ∀ x, Part b (Lv x) (g (i + 1 + x)) := fun x => h _
 have pU := allU_part h i
 have pV := allU_part (Ls := Lv) (g := fun x => g (i + 1 + x)) hv j
 have aW : Alike X (mtU (allU Ls i) (allU Lv j)) := by
  rw [eX]
  refine alike_of (allU_part h k) (mtU_part pU pV) (cls_all h k) (cls_meet (cls_all h i) (cls_all (Ls := Lv) (g := fun x => g (i + 1 + x)) hv j)) (fun p t p' t' => ?_) fun p => ?_
  ·constructor
   ·exact fun a => ⟨fun x hx => a x (by omega), fun x hx => a (i + 1 + x) (by omega)⟩
   ·rintro ⟨a, c⟩ x hx
    by_cases hxi : x ≤ i
    ·exact a x hxi
    ·have := c (x - (i + 1)) (by omega)
     have e : i + 1 + (x - (i + 1)) = x := by omega
     show tog (Ls x) p t p' t'
     have e2 : Lv (x - (i + 1)) = Ls x := congrArg Ls e
     rw [e2] at this
     exact this
  ·rw [gN_sum hg, gN_sum hg, gN_sum (g := fun x => g (i + 1 + x)) (fun x p => hg _ p), (wr _ _).1, (wr _ _).2, hj, sum_split]
 have lU : (allU Ls i).length ≤ X.length := by rw [eX, hj]; have := allU_mono h i (1 + j); rw [← Nat.add_assoc] at this; exact this
 -- the second group, by the way back
 have lV : (allU Lv j).length ≤ X.length := by
  have e1 := (back_same (Ls := Lv) (g := fun x => g (i + 1 + x)) hv (fun x p => hg _ p) (k := j) (by omega)).len
  have e2 : allU (fun x => Lv (j - x)) j = allU (fun x => Ls (k - x)) j := by
   have key : ∀ n, n ≤ j → allU (fun x => Lv (j - x)) n = allU (fun x => Ls (k - x)) n := by
    intro n
    induction n with
    | zero => intro _; show Ls (i + 1 + (j - 0)) = Ls (k - 0); congr 1; omega
    | succ n ih =>
     intro hn
     show mtU (allU (fun x => Lv (j - x)) n) (Ls (i + 1 + (j - (n + 1)))) = mtU (allU (fun x => Ls (k - x)) n) (Ls (k - (n + 1)))
     rw [ih (by omega)]
     congr 2; omega
   exact key j (Nat.le_refl _)
  rw [e1, e2, aXY.len, eY]
  have := allU_mono (Ls := fun x => Ls (k - x)) (g := fun x => g (k - x)) (fun x => h _) j (i + 1)
  have e3 : j + (i + 1) = k := by omega
  rw [e3] at this
  exact this
 refine fin (allU Ls i) (allU Lv j) ?_ ?_ aW (part_pos pU he) (part_pos pV he) (by omega) (by omega)
 ·show allN (fun x => Ls (0 + x)) 5000 i = _
  have : (fun x => Ls (0 + x)) = Ls := by funext x; rw [Nat.zero_add]
  rw [this]
  exact allN_some h i (by omega)
 ·rw [ej]
  exact allN_some (Ls := Lv) (g := fun x => g (i + 1 + x)) hv j (by omega)
theorem orders_none {b : Bx} {Ls : Nat → List Pc} {g : Nat → Pt → Int} (h : ∀ i, Part b (Ls i) (g i)) (hg : ∀ i p, I64 (g i p)) {k : Nat} (hk : k < 4) :
  (allN Ls 5000 k = none ∧ allN (fun i => Ls (k - i)) 5000 k = none) ∨ ∃ X Y, allN Ls 5000 k = some X ∧ allN (fun i => Ls (k - i)) 5000 k = some Y := by
 have hl := (back_same h hg hk).len
 have hn : ∀ (Ls : Nat → List Pc) (g : Nat → Pt → Int), (∀ i, Part b (Ls i) (g i)) → k ≠ 0 → 5000 < (allU Ls k).length → allN Ls 5000 k = none := fun Ls g h h0 hlt => by
  cases e : allN Ls 5000 k with
  | none => rfl
  | some l =>
   obtain ⟨rfl, h2⟩ := allN_is e
   have := h2 h0
   omega
 by_cases h0 : k = 0
 ·subst h0; exact Or.inr ⟨_, _, rfl, rfl⟩
 by_cases hle : (allU Ls k).length ≤ 5000
 ·exact Or.inr ⟨_, _, allN_some h k (by omega), allN_some (Ls := fun i => Ls (k - i)) (g := fun i => g (k - i)) (fun i => h _) k (by omega)⟩
 ·exact Or.inl ⟨hn Ls g h h0 (by omega), hn (fun i => Ls (k - i)) (fun i => g (k - i)) (fun i => h _) h0 (by omega)⟩
end Go.Proofs.Ythbaccmhdffjdaa.Co
namespace Go.Proofs.Ythbaccmhdffjdaa.WkCliqueRuns
open Go Go.RowKit Ev
abbrev z (n : Int) : Value := .int .i64 n
def obs : List Prop := [some (Value.agg ⟨[z 4, z 5, z 0, z 0, z 0, z 0, z 0, z 0, z 0, z 0]⟩) = some (Value.agg ⟨[z 4, z 5, z 0, z 0, z 0, z 0, z 0, z 0, z 0, z 0]⟩), some (z 22) = some (z 22), some (z 21) = some (z 21), some (z 11) = some (z 11), some (z 0) = some (z 0), some (z 0) = some (z 0), some (z 0) = some (z 0)]
theorem walk (w : World) : Calls Try.prog 3 #[] w fun e w' => e = .returned (.bool true) ∧ Below w.heap.size w w' :=
 (calls_runO hm (autoM_ok t_none_ok) (hints [(6, 33, { k := some true }), (6, 38, { k := some true })]) [] obs (by kernel_rfl) ⟨rfl, rfl, rfl, rfl, rfl, rfl, rfl, trivial⟩).2.2 w
end Go.Proofs.Ythbaccmhdffjdaa.WkCliqueRuns
namespace Go.Proofs.Ythbaccmhdffjdaa.Tc
open Go Go.RowKit Ev NodeE BoxF Lv Tr Within PickE Tn Fo Lp Cl Mt
def cruns_F : List Value → Option (Value × List Prop)
 | [] => some (.bool true, [])
 | _ => none
theorem cruns_sum : SumOK Try.prog 3 (sumOf cruns_F) := by
 refine sumOf_ok (en Try.func3 rfl) fun args v ob h hob => ?_
 unfold cruns_F at h
 split at h
 ·obtain ⟨rfl, rfl⟩ := Prod.mk.inj (Option.some.inj h)
  exact ⟨rfl, rfl, WkCliqueRuns.walk⟩
 ·exact absurd h (by simp)
def al0_F : RoF := fun xs css => match xs, css with
 | [.slice none 0 0, .int .i64 most], [] => some (.tuple ⟨[.slice (some ⟨100, 0, none⟩) 1 mk, .bool true]⟩, [.vec (ePc.row [⟨planeA, 0⟩]) 27 11], [])
 | _, _ => none
theorem al0_sum : SumOK Try.prog 31 (roSum al0_F) := by
 refine roSum_ok (en Try.func31 rfl) ?_ (fun xs css r h => ?_)
 ·intro xs css v blks ob h hob hpl hl
  unfold al0_F at h
  split at h
  ·rename_i most
   simp only [Option.some.injEq, Prod.mk.injEq] at h
   obtain ⟨rfl, rfl, rfl⟩ := h
   exact ⟨by simp, fun x hx => by simp at hx; subst hx; exact ⟨Elt.row_pl _, rfl⟩, fun j hj => by simp [nms, nm1, nmL, nm0] at hj; subst hj; simp, spec_of_sat Try.func31 rfl fun E hE => alN MR.few most hE ⟨⟨rfl, rfl⟩, fun y hy => by simp at hy, trivial⟩⟩
  ·simp at h
 ·unfold al0_F at h
  split at h <;> simp at h <;> simp
def lsl : Nat → Value
 | 0 => .slice none 0 0
 | z + 1 => .slice (some ⟨90, 0, none⟩) (z + 1) mk
def lsC1 (C : Nat) : Nat → Value
 | 0 => .slice none 0 0
 | z + 1 => .slice (some ⟨90, 0, none⟩) (z + 1) C
def lns : Nat → List Nat
 | 0 => []
 | z + 1 => 90 :: upN 91 (z + 1)
def pcsB (Ls : Nat → List Pc) : Nat → List Blk
 | 0 => []
 | z + 1 => pcsB Ls z ++ [.vec (ePc.row (Ls z)) 27 11]
def lbs (Ls : Nat → List Pc) : Nat → List Blk
 | 0 => []
 | z + 1 => .vec (lsC Ls (fun _ => mk) 90 (z + 1)) 28 1 :: pcsB Ls (z + 1)
def lbsR (Ls : Nat → List Pc) : Nat → List Blk
 | 0 => []
 | z + 1 => .ro (lsC Ls (fun _ => mk) 90 (z + 1)) :: pcsB Ls (z + 1)
end Go.Proofs.Ythbaccmhdffjdaa.Tc
namespace Go.Proofs.Ythbaccmhdffjdaa.Co
open Go Go.RowKit Ev NodeE BoxF Lv Tr Within PickE Tn Fo Lp Cl Mt Mg Tc Co
theorem sum_or {P : Program} {fn : FuncId} {S : List Value → Heap → Nat → Option Res} (he : Enters P fn) (h : ∀ xs, ∃ S', SumOK P fn S' ∧ S xs = S' xs) : SumOK P fn S := by
 refine ⟨he, fun args H nm r hr hob M w0 g B w hH hargs hn => ?_, fun args H nm r hr H' hh => ?_⟩
 ·obtain ⟨S', h1, h2⟩ := h args
  rw [h2] at hr
  exact h1.2.1 args H nm r hr hob M w0 g B w hH hargs hn
 ·obtain ⟨S', h1, h2⟩ := h args
  rw [h2] at hr ⊢
  exact h1.2.2 args H nm r hr H' hh
noncomputable def all2_F (R1 R2 : Option (List Pc)) : List Value → Heap → Nat → Option Res
 | [.slice (some ⟨90, o, none⟩) n c, m] => allG_F 90 91 R1 [.slice (some ⟨90, o, none⟩) n c, m]
 | [.slice (some ⟨95, o, none⟩) n c, m] => allG_F 95 91 R2 [.slice (some ⟨95, o, none⟩) n c, m]
 | xs => roSum al0_F xs
theorem all2_sum (R1 R2 : Option (List Pc)) : SumOK Try.prog 31 (all2_F R1 R2) := by
 refine sum_or (en Try.func31 rfl) fun xs => ?_
 unfold all2_F
 split
 ·exact ⟨_, allG_sum 90 91 R1, rfl⟩
 ·exact ⟨_, allG_sum 95 91 R2, rfl⟩
 ·exact ⟨_, al0_sum, rfl⟩
noncomputable def t_co (p : FP) (K : Nat) (b : Bx) (PL : List Int → Bx → List Pc) (R1 R2 : Option (List Pc)) (M : MR) (ML : List Pc → List EB) (MC : List Pc → Nat) : Sums := (upd (upd (upd (upd (upd (upd (upd t_bcut 27 (some (model_F p K))) 28 (some (region_F b 18))) 23 (some (roSum (ls_F true PL)))) 31 (some (all2_F R1 R2))) 13 (some (roSum (meet_F M)))) 16 (some (roSum (merge_F ML MC)))) 3 (some (sumOf cruns_F)))
theorem t_co_ok (p : FP) (K : Nat) (b : Bx) (PL : List Int → Bx → List Pc) (R1 R2 : Option (List Pc)) (M : MR) (ML : List Pc → List EB) (MC : List Pc → Nat) : SumsOK Try.prog (t_co p K b PL R1 R2 M ML MC) := (sums_cons (sums_cons (sums_cons (sums_cons (sums_cons (sums_cons (sums_cons t_bcut_ok (model_sum p K)) (region_sum b 18)) (ls_sum true PL)) (all2_sum R1 R2)) (cmeet_sum M)) (merge_sum ML MC)) cruns_sum)
def nrw (p : FP) (n j : Nat) : List Value := if j < n then eWord.row (p.W j) else []
def rvL (Ls : Nat → List Pc) (n j : Nat) : List Value := if j < n then ePc.row (Ls (n - 1 - j)) else []
def bk : Nat → Value
 | 0 => .slice none 0 0
 | z + 1 => .slice (some ⟨95, 0, none⟩) (z + 1) mk
def bkn : Nat → List Nat
 | 0 => []
 | z + 1 => [95]
def bkb (Ls : Nat → List Pc) (n : Nat) : Nat → List Blk
 | 0 => []
 | z + 1 => [.vec (lsG (fun j => Ls (n - 1 - j)) (fun _ => mk) (fun j => 91 + j) (z + 1)) 28 1]
def f0L (p : FP) (K : Nat) (b : Bx) (ct : Int) : LoopF Unit where
 ts _ := [2, 8, 9, 10, 40, 41, 42]
 hs _ := 80 :: tns 73 K
 tv _ _ := [.int .i64 ct, ptr 80, .slice none 0 0, .slice none 0 0, tsl 73 K, .int .i64 ((K : Nat) : Int), .int .i64 (0 : Int)]
 hv _ _ := .cells b.cs 25 :: p.tbs 73 K
 inv _ := fun _ => True
 mu _ _ := 0
 nx := 110
def g0L (p : FP) (n : Nat) (b : Bx) (ct : Int) (Ls : Nat → List Pc) (Q : Nat → Prop) : LoopF Unit where
 ts _ := [2, 8, 9, 10, 40, 41, 42]
 hs z := [80, 73, 74, 75, 76, 77] ++ lns z
 tv z _ := [.int .i64 ct, ptr 80, lsl z, .slice none 0 0, .slice (some ⟨73, 0, none⟩) n mk, .int .i64 (n : Int), .int .i64 ((z : Nat) : Int)]
 hv z _ := [.cells b.cs 25, .ro (p.tcs 74 n), .ro (nrw p n 0), .ro (nrw p n 1), .ro (nrw p n 2), .ro (nrw p n 3)] ++ lbs Ls z
 inv z := fun _ => Q z
 mu z _ := n - z
 nx := 110
def h1L (K : Nat) (Ls : Nat → List Pc) (ct : Int) : LoopF Unit where
 ts _ := [2, 9, 10, 55, 56]
 hs _ := 90 :: upN 91 K
 tv _ _ := [.int .i64 ct, .slice (some ⟨90, 0, none⟩) K mk, .slice none 0 0, .int .i64 ((K : Nat) : Int), .int .i64 (0 : Int)]
 hv _ _ := .vec (lsG Ls (fun _ => mk) (fun t => 91 + (K - 1 - t)) K) 28 1 :: (List.range K).map (fun j => .vec (ePc.row (Ls (K - 1 - j))) 27 11)
 inv _ := fun _ => True
 mu _ _ := 0
 nx := 110
def g1L (n : Nat) (Ls : Nat → List Pc) (C1 : Nat) (ct : Int) (Q : Nat → Prop) : LoopF Unit where
 ts _ := [2, 9, 10, 55, 56]
 hs z := [90, 91, 92, 93, 94] ++ bkn z
 tv z _ := [.int .i64 ct, .slice (some ⟨90, 0, none⟩) n C1, bk z, .int .i64 (n : Int), .int .i64 ((z : Nat) : Int)]
 hv z _ := [.ro (lsG Ls (fun _ => mk) (fun t => 91 + (n - 1 - t)) n), .ro (rvL Ls n 0), .ro (rvL Ls n 1), .ro (rvL Ls n 2), .ro (rvL Ls n 3)] ++ bkb Ls n z
 inv z := fun _ => Q z
 mu z _ := n - z
 nx := 110
def g2V (n : Nat) (Ls : Nat → List Pc) (C1 : Nat) (ct : Int) : LoopF Unit where
 ts _ := [2, 9, 10]
 hs _ := [90, 91, 92, 93, 94, 95]
 tv _ _ := [.int .i64 ct, .slice (some ⟨90, 0, none⟩) n C1, .slice (some ⟨95, 0, none⟩) n mk]
 hv _ _ := [.ro (lsG Ls (fun _ => mk) (fun t => 91 + (n - 1 - t)) n), .ro (rvL Ls n 0), .ro (rvL Ls n 1), .ro (rvL Ls n 2), .ro (rvL Ls n 3), .vec (lsG (fun j => Ls (n - 1 - j)) (fun _ => mk) (fun j => 91 + j) n) 28 1]
 inv _ := fun _ => True
 mu _ _ := 0
 nx := 110
def g2L (n : Nat) (Ls : Nat → List Pc) (C1 C2 : Nat) (ct : Int) : LoopF Unit where
 ts _ := [2, 9, 10]
 hs _ := [90, 91, 92, 93, 94, 95]
 tv _ _ := [.int .i64 ct, .slice (some ⟨90, 0, none⟩) n C1, .slice (some ⟨95, 0, none⟩) n C2]
 hv _ _ := [.ro (lsG Ls (fun _ => mk) (fun t => 91 + (n - 1 - t)) n), .ro (rvL Ls n 0), .ro (rvL Ls n 1), .ro (rvL Ls n 2), .ro (rvL Ls n 3), .ro (lsG (fun j => Ls (n - 1 - j)) (fun _ => mk) (fun j => 91 + j) n)]
 inv _ := fun _ => True
 mu _ _ := 0
 nx := 110
def g3L (n : Nat) (Ls : Nat → List Pc) (C1 kk : Nat) (X Y : List Pc) : LoopF Unit where
 ts _ := [9, 14, 16, 18]
 hs _ := [90, 91, 92, 93, 94, 96, 97]
 tv _ _ := [.slice (some ⟨90, 0, none⟩) n C1, .slice (some ⟨96, 0, none⟩) X.length mk, .slice (some ⟨97, 0, none⟩) Y.length mk, .int .i64 (kk : Int)]
 hv _ _ := [.ro (lsG Ls (fun _ => mk) (fun t => 91 + (n - 1 - t)) n), .ro (rvL Ls n 0), .ro (rvL Ls n 1), .ro (rvL Ls n 2), .ro (rvL Ls n 3), .vec (ePc.row X) 27 11, .vec (ePc.row Y) 27 11]
 inv _ := fun _ => True
 mu _ _ := 0
 nx := 110
def g4L (n : Nat) (Ls : Nat → List Pc) (C1 kk : Nat) (X Y U : List Pc) : LoopF Unit where
 ts _ := [9, 14, 16, 18, 19]
 hs _ := [90, 91, 92, 93, 94, 96, 97, 98]
 tv _ _ := [.slice (some ⟨90, 0, none⟩) n C1, .slice (some ⟨96, 0, none⟩) X.length mk, .slice (some ⟨97, 0, none⟩) Y.length mk, .int .i64 (kk : Int), .slice (some ⟨98, 0, none⟩) U.length mk]
 hv _ _ := [.ro (lsG Ls (fun _ => mk) (fun t => 91 + (n - 1 - t)) n), .ro (rvL Ls n 0), .ro (rvL Ls n 1), .ro (rvL Ls n 2), .ro (rvL Ls n 3), .vec (ePc.row X) 27 11, .vec (ePc.row Y) 27 11, .vec (ePc.row U) 27 11]
 inv _ := fun _ => True
 mu _ _ := 0
 nx := 110
def g5L (n : Nat) (Ls : Nat → List Pc) (C1 : Nat) (X U V : List Pc) (ma mc md : List EB) (ca cc cd : Nat) (Q : List Nat → Prop) : LoopF (List Nat) where
 ts _ := [9, 14, 19, 21, 25, 26, 27, 163]
 hs _ := [90, 91, 92, 93, 94, 96, 98, 99, 101, 102, 103, 104]
 tv _ _ := [.slice (some ⟨90, 0, none⟩) n C1, .slice (some ⟨96, 0, none⟩) X.length mk, .slice (some ⟨98, 0, none⟩) U.length mk, .slice (some ⟨99, 0, none⟩) V.length mk, .map (some 101), .map (some 102), .map (some 103), .pointer (some ⟨104, 0, none⟩)]
 hv _ seen := [.ro (lsG Ls (fun _ => mk) (fun t => 91 + (n - 1 - t)) n), .ro (rvL Ls n 0), .ro (rvL Ls n 1), .ro (rvL Ls n 2), .ro (rvL Ls n 3), .vec (ePc.row X) 27 11, .vec (ePc.row U) 27 11, .vec (ePc.row V) 27 11, .map L10 true (some .i64) (esB ma) ca, .map L10 true (some .i64) (esB mc) cc, .map L10 true (some .i64) (esB md) cd, .it 101 ca seen ca]
 inv _ := Q
 mu _ seen := ma.length - seen.length
 nx := 110
end Go.Proofs.Ythbaccmhdffjdaa.Co
