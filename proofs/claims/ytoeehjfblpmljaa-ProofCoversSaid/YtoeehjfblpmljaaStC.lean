/-
  Steps of a cutting: what it hands back. No condition.
-/
import Derived.Test.YtoeehjfblpmljaaStB
set_option linter.unusedVariables false
set_option linter.unusedSimpArgs false
set_option maxRecDepth 100000
namespace Go.Proofs.Ytoeehjfblpmljaa.PrA
open Go Go.RowKit Go.Proofs.Ytoeehjfblpmljaa.Ev Go.Proofs.Ytoeehjfblpmljaa.PickE Go.Proofs.Ytoeehjfblpmljaa.BoxF Go.Proofs.Ytoeehjfblpmljaa.Within
theorem pick_I64 {zs : List Int} (h : ∀ z ∈ zs, I64 z) (i : Int) : I64 (pickI zs i) := by
  unfold pickI
  rw [List.getD_eq_getElem?_getD]
  cases hg : zs[(i.tmod zs.length).toNat]? with
  | none => exact ⟨by decide, by decide⟩
  | some z => exact h z (List.mem_of_getElem? hg)
theorem five {k : Int} (h0 : 0 ≤ k) (h5 : k < 5) : k = 0 ∨ k = 1 ∨ k = 2 ∨ k = 3 ∨ k = 4 := by omega
theorem lset_hi (x : Bx) {k : Int} (h0 : 0 ≤ k) (h5 : k < 5) (v : Int) : lset x.cs (0 + k.toNat * 2 + 1) [.int .i64 v] = some (x.setHi k v).cs := by
  rcases five h0 h5 with rfl | rfl | rfl | rfl | rfl
  · show lset _ 1 _ = _; simp [lset, Bx.cs, Bx.setHi]
  · show lset _ 3 _ = _; simp [lset, Bx.cs, Bx.setHi]
  · show lset _ 5 _ = _; simp [lset, Bx.cs, Bx.setHi]
  · show lset _ 7 _ = _; simp [lset, Bx.cs, Bx.setHi]
  · show lset _ 9 _ = _; simp [lset, Bx.cs, Bx.setHi]
theorem lset_lo (x : Bx) {k : Int} (h0 : 0 ≤ k) (h5 : k < 5) (v : Int) : lset x.cs (0 + k.toNat * 2 + 0) [.int .i64 v] = some (x.setLo k v).cs := by
  rcases five h0 h5 with rfl | rfl | rfl | rfl | rfl
  · show lset _ 0 _ = _; simp [lset, Bx.cs, Bx.setLo]
  · show lset _ 2 _ = _; simp [lset, Bx.cs, Bx.setLo]
  · show lset _ 4 _ = _; simp [lset, Bx.cs, Bx.setLo]
  · show lset _ 6 _ = _; simp [lset, Bx.cs, Bx.setLo]
  · show lset _ 8 _ = _; simp [lset, Bx.cs, Bx.setLo]
theorem set_ends (x : Bx) {k j : Int} (h0 : 0 ≤ k) (h5 : k < 5) (g0 : 0 ≤ j) (g5 : j < 5) (v : Int) :
    (x.setHi k v).lo j = x.lo j ∧ (x.setHi k v).hi j = (if j = k then v else x.hi j) ∧ (x.setLo k v).lo j = (if j = k then v else x.lo j) ∧ (x.setLo k v).hi j = x.hi j := by
  rcases five h0 h5 with rfl | rfl | rfl | rfl | rfl <;> rcases five g0 g5 with rfl | rfl | rfl | rfl | rfl <;> simp [Bx.lo, Bx.hi, Bx.setHi, Bx.setLo]
theorem small_set (x : Bx) {k a : Int} (hx : x.Small) (h0 : 0 ≤ k) (h5 : k < 5) (hl : x.lo k ≤ a) (hh : a < x.hi k) : (x.setHi k a).Small ∧ (x.setLo k (a + 1)).Small := by
  have hk := hx k h0 h5
  refine ⟨fun j g0 g5 => ?_, fun j g0 g5 => ?_⟩
  · obtain ⟨e1, e2, _, _⟩ := set_ends x h0 h5 g0 g5 a
    have := hx j g0 g5
    rw [e1, e2]
    split <;> omega
  · obtain ⟨_, _, e3, e4⟩ := set_ends x h0 h5 g0 g5 (a + 1)
    have := hx j g0 g5
    rw [e3, e4]
    split <;> omega
theorem stepsGo_nil (pl al : List Int) (f : Nat) (out : List Bx) (st : List Stp) (cuts : Nat) : stepsGo pl al f [] out st cuts = (out, st) := by cases f <;> rfl
def stepsV (R : List Bx × List Stp) : Value := .tuple ⟨[.slice (some ⟨100, 0, none⟩) R.1.length mk, .slice (some ⟨101, 0, none⟩) R.2.length mk]⟩
def stepsB (R : List Bx × List Stp) : List Blk := [.vec (eBox.row R.1) 31 10, .vec (eStp.row R.2) 23 3]

theorem steps_specS (cs : List Value) (o n c : Nat) (ds : List Value) (p m d : Nat) (b : Bx) (hr1 : IntRow .i64 cs o n) (hpl1 : ∀ x ∈ cs, leafG x = true) (hw1 : ∀ z ∈ intsOf cs o n, I64 z) (hr2 : IntRow .i64 ds p m) (hpl2 : ∀ x ∈ ds, leafG x = true) (hw2 : ∀ z ∈ intsOf ds p m, I64 z) (hb : b.Small) :
    CallSpec Try.prog 12 [.agg ⟨[.slice (some ⟨0, o, none⟩) n c, .slice (some ⟨1, p, none⟩) m d]⟩, .agg ⟨b.cs⟩] (roRows [cs, ds]) 2 (stepsV (stepsI (intsOf cs o n) (intsOf ds p m) b)) (assocN (newNs (stepsB (stepsI (intsOf cs o n) (intsOf ds p m) b)) 100) (stepsB (stepsI (intsOf cs o n) (intsOf ds p m) b))) := by
  refine spec_of_sat Try.func12 rfl fun E hE => ?_
  have hlen : (intsOf cs o n).length = n := intsOf_len hr1.1
  have hp1 : plainR [cs] := fun x hx c hc => by simp at hx; subst hx; exact hpl1 c hc
  have hp2 : plainR [ds] := fun x hx c hc => by simp at hx; subst hx; exact hpl2 c hc
  have rnv : ∀ (f : Nat → Nat) (l : List Bx), Blk.rnB f (.vec (eBox.row l) 31 10) = .vec (eBox.row l) 31 10 := fun f l => Blk.plain.rnB (b := .vec (eBox.row l) 31 10) (Elt.row_pl _) f
  have rns : ∀ (f : Nat → Nat) (l : List Stp), Blk.rnB f (.vec (eStp.row l) 23 3) = .vec (eStp.row l) 23 3 := fun f l => Blk.plain.rnB (b := .vec (eStp.row l) 23 3) (Elt.row_pl _) f
  have rnr : ∀ (f : Nat → Nat), Blk.rnB f (.ro cs) = .ro cs := fun f => Blk.plain.rnB (b := .ro cs) hpl1 f
  have rnd : ∀ (f : Nat → Nat), Blk.rnB f (.ro ds) = .ro ds := fun f => Blk.plain.rnB (b := .ro ds) hpl2 f
  have okL := stS_ok cs o n c ds p m d b hpl1 hpl2
  refine inS cs o n c ds p m d b hE okL ⟨rfl, ⟨⟨[b], [], [], [], 0, 41⟩, ?_, trivial, rfl, ?_⟩, trivial⟩ fun zz hz _ => by_loop (stS cs o n c ds p m d b) (lp Try.f12 0) ?_ 0 zz hz
  · simp only [stS]
    exact ⟨by omega, by simp, by simp, Nat.le_refl _, by simpa using hb, rfl, by simp⟩
  · simp [stS, rnr, rnd, rnv]
    first | rfl | exact ⟨rfl, rfl⟩ | exact ⟨rfl, rfl, rfl⟩
  rintro z ⟨stk, junk, out, st, cuts, f⟩ hi J hJ
  have hz : ∃ z', (z' = 0 ∨ z' = 1 ∨ z' = 2) ∧ (stS cs o n c ds p m d b).st z ⟨stk, junk, out, st, cuts, f⟩ = (stS cs o n c ds p m d b).st z' ⟨stk, junk, out, st, cuts, f⟩ ∧ (stS cs o n c ds p m d b).inv z' ⟨stk, junk, out, st, cuts, f⟩ := by
    match z with
    | 0 => exact ⟨0, Or.inl rfl, rfl, hi⟩
    | 1 => exact ⟨1, Or.inr (Or.inl rfl), rfl, hi⟩
    | z + 2 => exact ⟨2, Or.inr (Or.inr rfl), rfl, hi⟩
  obtain ⟨z', hz', hst, hinv⟩ := hz
  rw [hst]
  have hJ' : ∀ b' zz, (stS cs o n c ds p m d b).inv b' zz → ltO ((stS cs o n c ds p m d b).mu b' zz) (some f) → Sat E (mkLp (lp Try.f12 0) J) ((stS cs o n c ds p m d b).st b' zz) := fun b' zz h1 h2 => hJ b' zz h1 h2
  clear hJ hst hi
  obtain ⟨k1, k2, k3, k4, k5, k6, k7⟩ := hinv
  cases stk with
  | nil =>
    have hend : decide (((([] : List Bx).length : Nat) : Int) > 0) = false := rfl
    rw [stepsGo_nil] at k6
    rcases hz' with rfl | rfl | rfl
    · exact absurd rfl k7.2.2
    · exact absurd rfl k7.2.2
    · rw [← k6] at hE
      exact endS cs o n c ds p m d b [] junk out st cuts f J hE ⟨⟨rfl, by simp [stepsB, rnv, rns]⟩, hend, trivial⟩
  | cons x stk =>
    obtain ⟨a0, b0, a1, b1, a2, b2, a3, b3, a4, b4⟩ := x
    simp only [List.length_cons] at k2
    obtain ⟨f, rfl⟩ : ∃ f', f = f' + 1 := ⟨f - 1, by omega⟩
    have ix := k5 _ (List.mem_cons_self ..)
    have istk : ∀ x ∈ stk, x.Small := fun x hx => k5 x (List.mem_cons_of_mem _ hx)
    have hpos : decide ((((Bx.mk a0 b0 a1 b1 a2 b2 a3 b3 a4 b4) :: stk).length : Int) > 0) = true := decide_eq_true (by simp)
    have hpop : readPart Try.prog 31 (eBox.row (((Bx.mk a0 b0 a1 b1 a2 b2 a3 b3 a4 b4) :: stk).reverse ++ junk)) (0 + (Int.ofNat stk.length).toNat * 10) = some (.agg ⟨(Bx.mk a0 b0 a1 b1 a2 b2 a3 b3 a4 b4).cs⟩) :=
      read_row (e := eBox) (P := Try.prog) (ty := 31) (by kernel_rfl) (by kernel_rfl) (by simp)
    have hsl : SlOK 10 11 0 ((Bx.mk a0 b0 a1 b1 a2 b2 a3 b3 a4 b4) :: stk).length mk none (some (Int.ofNat stk.length)) (some (.vec (eBox.row (((Bx.mk a0 b0 a1 b1 a2 b2 a3 b3 a4 b4) :: stk).reverse ++ junk)) 31 10)) (.slice (some ⟨11, 0, none⟩) stk.length mk) :=
      slOK_pre rfl (by simp) (by omega) (by rw [boxRow_len]; simp; omega)
    rw [stepsGo] at k6
    generalize hkk : cutK (intsOf cs o n) st.length = k at k6
    have hkr := within_range (pickI (intsOf cs o n) st.length) (lo := 0) (hi := 5) (by decide)
    have hkk' : withinS (pickI (intsOf cs o n) st.length) 0 5 = k := hkk
    rw [hkk'] at hkr
    by_cases hs : stays (intsOf cs o n) (Bx.mk a0 b0 a1 b1 a2 b2 a3 b3 a4 b4) k cuts
    · rw [if_pos hs] at k6
      have hI : (stS cs o n c ds p m d b).inv 2 ⟨stk, (Bx.mk a0 b0 a1 b1 a2 b2 a3 b3 a4 b4) :: junk, out ++ [(Bx.mk a0 b0 a1 b1 a2 b2 a3 b3 a4 b4)], st ++ [⟨true, 0, 0⟩], cuts, f⟩ := by
        simp only [stS]
        exact ⟨k1, by omega, by simp; omega, by simp; omega, istk, k6, by simp⟩
      have hmu : ltO ((stS cs o n c ds p m d b).mu 2 ⟨stk, (Bx.mk a0 b0 a1 b1 a2 b2 a3 b3 a4 b4) :: junk, out ++ [(Bx.mk a0 b0 a1 b1 a2 b2 a3 b3 a4 b4)], st ++ [⟨true, 0, 0⟩], cuts, f⟩) (some (f + 1)) := by simp only [stS, ltO]; omega
      rcases hz' with rfl | rfl | rfl
      · obtain ⟨rfl, rfl, _⟩ := k7
        have happS := appOK_nil (e := eStp) (new := [⟨true, 0, 0⟩]) (m := 1) (bytes := 24) rfl rfl rfl rfl (by omega) (by omega) (by omega)
        have happO := appOK_nil (e := eBox) (new := [(Bx.mk a0 b0 a1 b1 a2 b2 a3 b3 a4 b4)]) (m := 1) (bytes := 80) rfl rfl rfl rfl (by omega) (by omega) (by omega)
        by_cases c1 : k = 5
        · have tk : (k == (5 : Int)) = true := by rw [c1]; rfl
          have tk2 : ((k == (5 : Int)) == false) = false := by rw [tk]; rfl
          exact clAS0 cs o n c ds p m d b a0 b0 a1 b1 a2 b2 a3 b3 a4 b4 k 0 stk junk [] [] cuts (f + 1) J hE okL ⟨rfl, ⟨_, hI, hmu, by simp [stS]; first | exact ⟨rfl, rfl, rfl, rfl, rfl⟩ | exact ⟨rfl, rfl, rfl, rfl⟩ | exact ⟨rfl, rfl, rfl⟩ | exact ⟨rfl, rfl⟩ | rfl, by simp [stS, rnr, rnd, rnv, rns]; first | done | rfl | exact ⟨rfl, rfl⟩⟩, happS, happO, tk, tk2, tk2, (congrArg _ hkk'), (pick_I64 hw1 _), (by decide), (by decide), (by decide), hp1, hr1, (Int.le_refl _), hsl, (i64_pred (by omega)), hpop, nat_in, (i64_pred (by omega)), hpos, trivial⟩ fun zz hz hz1 => hJ' 2 zz hz hz1
        have tk : (k == (5 : Int)) = false := by simpa using c1
        have tk2 : ((k == (5 : Int)) == false) = true := by rw [tk]; rfl
        have hk5 : 0 ≤ k ∧ k < 5 := by omega
        have rlo := lo_read (Bx.mk a0 b0 a1 b1 a2 b2 a3 b3 a4 b4) hk5.1 hk5.2
        have rhi := hi_read (Bx.mk a0 b0 a1 b1 a2 b2 a3 b3 a4 b4) hk5.1 hk5.2
        by_cases c2 : 20 ≤ cuts
        · have tc : decide ((cuts : Int) ≥ 20) = true := decide_eq_true (by omega)
          have tc2 : (decide ((cuts : Int) ≥ 20) == false) = false := by rw [tc]; rfl
          exact clBS0 cs o n c ds p m d b a0 b0 a1 b1 a2 b2 a3 b3 a4 b4 k 0 stk junk [] [] cuts (f + 1) J hE okL ⟨rfl, ⟨_, hI, hmu, by simp [stS]; first | exact ⟨rfl, rfl, rfl, rfl, rfl⟩ | exact ⟨rfl, rfl, rfl, rfl⟩ | exact ⟨rfl, rfl, rfl⟩ | exact ⟨rfl, rfl⟩ | rfl, by simp [stS, rnr, rnd, rnv, rns]; first | done | rfl | exact ⟨rfl, rfl⟩⟩, happS, happO, tc, tc2, tc2, tc2, tc2, tk, tk2, tk2, (congrArg _ hkk'), (pick_I64 hw1 _), (by decide), (by decide), (by decide), hp1, hr1, (Int.le_refl _), hsl, (i64_pred (by omega)), hpop, nat_in, (i64_pred (by omega)), hpos, trivial⟩ fun zz hz hz1 => hJ' 2 zz hz hz1
        have tc : decide ((cuts : Int) ≥ 20) = false := decide_eq_false (by omega)
        have tc2 : (decide ((cuts : Int) ≥ 20) == false) = true := by rw [tc]; rfl
        by_cases c3 : n = 0
        · have tn : ((n : Int) == 0) = true := by rw [c3]; rfl
          have tn2 : (((n : Int) == 0) == false) = false := by rw [tn]; rfl
          exact clCS0 cs o n c ds p m d b a0 b0 a1 b1 a2 b2 a3 b3 a4 b4 k 0 stk junk [] [] cuts (f + 1) J hE okL ⟨rfl, ⟨_, hI, hmu, by simp [stS]; first | exact ⟨rfl, rfl, rfl, rfl, rfl⟩ | exact ⟨rfl, rfl, rfl, rfl⟩ | exact ⟨rfl, rfl, rfl⟩ | exact ⟨rfl, rfl⟩ | rfl, by simp [stS, rnr, rnd, rnv, rns]; first | done | rfl | exact ⟨rfl, rfl⟩⟩, happS, happO, tn, tn2, tn2, tn2, tn2, tn2, tn2, tn2, tn2, tn2, tc, tc2, tc2, tc2, tc2, tk, tk2, tk2, (congrArg _ hkk'), (pick_I64 hw1 _), (by decide), (by decide), (by decide), hp1, hr1, (Int.le_refl _), hsl, (i64_pred (by omega)), hpop, nat_in, (i64_pred (by omega)), hpos, trivial⟩ fun zz hz hz1 => hJ' 2 zz hz hz1
        have tn : ((n : Int) == 0) = false := by rw [beq_eq_false_iff_ne]; omega
        have tn2 : (((n : Int) == 0) == false) = true := by rw [tn]; rfl
        have c4 : (Bx.mk a0 b0 a1 b1 a2 b2 a3 b3 a4 b4).hi k ≤ (Bx.mk a0 b0 a1 b1 a2 b2 a3 b3 a4 b4).lo k := by
          rcases hs with h | h | h | h
          · exact absurd h c1
          · exact absurd h c2
          · exact absurd (hlen ▸ h) c3
          · exact h
        have tl : decide ((Bx.mk a0 b0 a1 b1 a2 b2 a3 b3 a4 b4).lo k ≥ (Bx.mk a0 b0 a1 b1 a2 b2 a3 b3 a4 b4).hi k) = true := decide_eq_true c4
        exact clDS0 cs o n c ds p m d b a0 b0 a1 b1 a2 b2 a3 b3 a4 b4 k 0 stk junk [] [] cuts (f + 1) J hE okL ⟨rfl, ⟨_, hI, hmu, by simp [stS]; first | exact ⟨rfl, rfl, rfl, rfl, rfl⟩ | exact ⟨rfl, rfl, rfl, rfl⟩ | exact ⟨rfl, rfl, rfl⟩ | exact ⟨rfl, rfl⟩ | rfl, by simp [stS, rnr, rnd, rnv, rns]; first | done | rfl | exact ⟨rfl, rfl⟩⟩, happS, happO, tl, tn, tn2, tn2, rhi, tn2, tn2, hk5, tn2, tn2, rlo, tn2, tn2, hk5, tn2, tc, tc2, tc2, tc2, tc2, tk, tk2, tk2, (congrArg _ hkk'), (pick_I64 hw1 _), (by decide), (by decide), (by decide), hp1, hr1, (Int.le_refl _), hsl, (i64_pred (by omega)), hpop, nat_in, (i64_pred (by omega)), hpos, trivial⟩ fun zz hz hz1 => hJ' 2 zz hz hz1
      · obtain ⟨rfl, _, _⟩ := k7
        have happS := appOK (e := eStp) (L := st) (new := [⟨true, 0, 0⟩]) (ty := 23) (n := st.length) (m := 1) (bytes := 24) rfl rfl rfl rfl (Nat.le_refl _) (by rw [List.take_length]) (by omega) (by omega) (by omega)
        have happO := appOK_nil (e := eBox) (new := [(Bx.mk a0 b0 a1 b1 a2 b2 a3 b3 a4 b4)]) (m := 1) (bytes := 80) rfl rfl rfl rfl (by omega) (by omega) (by omega)
        by_cases c1 : k = 5
        · have tk : (k == (5 : Int)) = true := by rw [c1]; rfl
          have tk2 : ((k == (5 : Int)) == false) = false := by rw [tk]; rfl
          exact clAS1 cs o n c ds p m d b a0 b0 a1 b1 a2 b2 a3 b3 a4 b4 k 0 stk junk [] st cuts (f + 1) J hE okL ⟨rfl, ⟨_, hI, hmu, by simp [stS]; first | exact ⟨rfl, rfl, rfl, rfl, rfl⟩ | exact ⟨rfl, rfl, rfl, rfl⟩ | exact ⟨rfl, rfl, rfl⟩ | exact ⟨rfl, rfl⟩ | rfl, by simp [stS, rnr, rnd, rnv, rns]; first | done | rfl | exact ⟨rfl, rfl⟩⟩, happS, happO, tk, tk2, tk2, (congrArg _ hkk'), (pick_I64 hw1 _), (by decide), (by decide), (by decide), hp1, hr1, (Int.natCast_nonneg _), hsl, (i64_pred (by omega)), hpop, nat_in, (i64_pred (by omega)), hpos, trivial⟩ fun zz hz hz1 => hJ' 2 zz hz hz1
        have tk : (k == (5 : Int)) = false := by simpa using c1
        have tk2 : ((k == (5 : Int)) == false) = true := by rw [tk]; rfl
        have hk5 : 0 ≤ k ∧ k < 5 := by omega
        have rlo := lo_read (Bx.mk a0 b0 a1 b1 a2 b2 a3 b3 a4 b4) hk5.1 hk5.2
        have rhi := hi_read (Bx.mk a0 b0 a1 b1 a2 b2 a3 b3 a4 b4) hk5.1 hk5.2
        by_cases c2 : 20 ≤ cuts
        · have tc : decide ((cuts : Int) ≥ 20) = true := decide_eq_true (by omega)
          have tc2 : (decide ((cuts : Int) ≥ 20) == false) = false := by rw [tc]; rfl
          exact clBS1 cs o n c ds p m d b a0 b0 a1 b1 a2 b2 a3 b3 a4 b4 k 0 stk junk [] st cuts (f + 1) J hE okL ⟨rfl, ⟨_, hI, hmu, by simp [stS]; first | exact ⟨rfl, rfl, rfl, rfl, rfl⟩ | exact ⟨rfl, rfl, rfl, rfl⟩ | exact ⟨rfl, rfl, rfl⟩ | exact ⟨rfl, rfl⟩ | rfl, by simp [stS, rnr, rnd, rnv, rns]; first | done | rfl | exact ⟨rfl, rfl⟩⟩, happS, happO, tc, tc2, tc2, tc2, tc2, tk, tk2, tk2, (congrArg _ hkk'), (pick_I64 hw1 _), (by decide), (by decide), (by decide), hp1, hr1, (Int.natCast_nonneg _), hsl, (i64_pred (by omega)), hpop, nat_in, (i64_pred (by omega)), hpos, trivial⟩ fun zz hz hz1 => hJ' 2 zz hz hz1
        have tc : decide ((cuts : Int) ≥ 20) = false := decide_eq_false (by omega)
        have tc2 : (decide ((cuts : Int) ≥ 20) == false) = true := by rw [tc]; rfl
        by_cases c3 : n = 0
        · have tn : ((n : Int) == 0) = true := by rw [c3]; rfl
          have tn2 : (((n : Int) == 0) == false) = false := by rw [tn]; rfl
          exact clCS1 cs o n c ds p m d b a0 b0 a1 b1 a2 b2 a3 b3 a4 b4 k 0 stk junk [] st cuts (f + 1) J hE okL ⟨rfl, ⟨_, hI, hmu, by simp [stS]; first | exact ⟨rfl, rfl, rfl, rfl, rfl⟩ | exact ⟨rfl, rfl, rfl, rfl⟩ | exact ⟨rfl, rfl, rfl⟩ | exact ⟨rfl, rfl⟩ | rfl, by simp [stS, rnr, rnd, rnv, rns]; first | done | rfl | exact ⟨rfl, rfl⟩⟩, happS, happO, tn, tn2, tn2, tn2, tn2, tn2, tn2, tn2, tn2, tn2, tc, tc2, tc2, tc2, tc2, tk, tk2, tk2, (congrArg _ hkk'), (pick_I64 hw1 _), (by decide), (by decide), (by decide), hp1, hr1, (Int.natCast_nonneg _), hsl, (i64_pred (by omega)), hpop, nat_in, (i64_pred (by omega)), hpos, trivial⟩ fun zz hz hz1 => hJ' 2 zz hz hz1
        have tn : ((n : Int) == 0) = false := by rw [beq_eq_false_iff_ne]; omega
        have tn2 : (((n : Int) == 0) == false) = true := by rw [tn]; rfl
        have c4 : (Bx.mk a0 b0 a1 b1 a2 b2 a3 b3 a4 b4).hi k ≤ (Bx.mk a0 b0 a1 b1 a2 b2 a3 b3 a4 b4).lo k := by
          rcases hs with h | h | h | h
          · exact absurd h c1
          · exact absurd h c2
          · exact absurd (hlen ▸ h) c3
          · exact h
        have tl : decide ((Bx.mk a0 b0 a1 b1 a2 b2 a3 b3 a4 b4).lo k ≥ (Bx.mk a0 b0 a1 b1 a2 b2 a3 b3 a4 b4).hi k) = true := decide_eq_true c4
        exact clDS1 cs o n c ds p m d b a0 b0 a1 b1 a2 b2 a3 b3 a4 b4 k 0 stk junk [] st cuts (f + 1) J hE okL ⟨rfl, ⟨_, hI, hmu, by simp [stS]; first | exact ⟨rfl, rfl, rfl, rfl, rfl⟩ | exact ⟨rfl, rfl, rfl, rfl⟩ | exact ⟨rfl, rfl, rfl⟩ | exact ⟨rfl, rfl⟩ | rfl, by simp [stS, rnr, rnd, rnv, rns]; first | done | rfl | exact ⟨rfl, rfl⟩⟩, happS, happO, tl, tn, tn2, tn2, rhi, tn2, tn2, hk5, tn2, tn2, rlo, tn2, tn2, hk5, tn2, tc, tc2, tc2, tc2, tc2, tk, tk2, tk2, (congrArg _ hkk'), (pick_I64 hw1 _), (by decide), (by decide), (by decide), hp1, hr1, (Int.natCast_nonneg _), hsl, (i64_pred (by omega)), hpop, nat_in, (i64_pred (by omega)), hpos, trivial⟩ fun zz hz hz1 => hJ' 2 zz hz hz1
      · have happS := appOK (e := eStp) (L := st) (new := [⟨true, 0, 0⟩]) (ty := 23) (n := st.length) (m := 1) (bytes := 24) rfl rfl rfl rfl (Nat.le_refl _) (by rw [List.take_length]) (by omega) (by omega) (by omega)
        have happO := appOK (e := eBox) (L := out) (new := [(Bx.mk a0 b0 a1 b1 a2 b2 a3 b3 a4 b4)]) (ty := 31) (n := out.length) (m := 1) (bytes := 80) rfl rfl rfl rfl (Nat.le_refl _) (by rw [List.take_length]) (by omega) (by omega) (by omega)
        by_cases c1 : k = 5
        · have tk : (k == (5 : Int)) = true := by rw [c1]; rfl
          have tk2 : ((k == (5 : Int)) == false) = false := by rw [tk]; rfl
          exact clAS2 cs o n c ds p m d b a0 b0 a1 b1 a2 b2 a3 b3 a4 b4 k 0 stk junk out st cuts (f + 1) J hE okL ⟨rfl, ⟨_, hI, hmu, by simp [stS]; first | exact ⟨rfl, rfl, rfl, rfl, rfl⟩ | exact ⟨rfl, rfl, rfl, rfl⟩ | exact ⟨rfl, rfl, rfl⟩ | exact ⟨rfl, rfl⟩ | rfl, by simp [stS, rnr, rnd, rnv, rns]; first | done | rfl | exact ⟨rfl, rfl⟩⟩, happS, happO, tk, tk2, tk2, (congrArg _ hkk'), (pick_I64 hw1 _), (by decide), (by decide), (by decide), hp1, hr1, (Int.natCast_nonneg _), hsl, (i64_pred (by omega)), hpop, nat_in, (i64_pred (by omega)), hpos, trivial⟩ fun zz hz hz1 => hJ' 2 zz hz hz1
        have tk : (k == (5 : Int)) = false := by simpa using c1
        have tk2 : ((k == (5 : Int)) == false) = true := by rw [tk]; rfl
        have hk5 : 0 ≤ k ∧ k < 5 := by omega
        have rlo := lo_read (Bx.mk a0 b0 a1 b1 a2 b2 a3 b3 a4 b4) hk5.1 hk5.2
        have rhi := hi_read (Bx.mk a0 b0 a1 b1 a2 b2 a3 b3 a4 b4) hk5.1 hk5.2
        by_cases c2 : 20 ≤ cuts
        · have tc : decide ((cuts : Int) ≥ 20) = true := decide_eq_true (by omega)
          have tc2 : (decide ((cuts : Int) ≥ 20) == false) = false := by rw [tc]; rfl
          exact clBS2 cs o n c ds p m d b a0 b0 a1 b1 a2 b2 a3 b3 a4 b4 k 0 stk junk out st cuts (f + 1) J hE okL ⟨rfl, ⟨_, hI, hmu, by simp [stS]; first | exact ⟨rfl, rfl, rfl, rfl, rfl⟩ | exact ⟨rfl, rfl, rfl, rfl⟩ | exact ⟨rfl, rfl, rfl⟩ | exact ⟨rfl, rfl⟩ | rfl, by simp [stS, rnr, rnd, rnv, rns]; first | done | rfl | exact ⟨rfl, rfl⟩⟩, happS, happO, tc, tc2, tc2, tc2, tc2, tk, tk2, tk2, (congrArg _ hkk'), (pick_I64 hw1 _), (by decide), (by decide), (by decide), hp1, hr1, (Int.natCast_nonneg _), hsl, (i64_pred (by omega)), hpop, nat_in, (i64_pred (by omega)), hpos, trivial⟩ fun zz hz hz1 => hJ' 2 zz hz hz1
        have tc : decide ((cuts : Int) ≥ 20) = false := decide_eq_false (by omega)
        have tc2 : (decide ((cuts : Int) ≥ 20) == false) = true := by rw [tc]; rfl
        by_cases c3 : n = 0
        · have tn : ((n : Int) == 0) = true := by rw [c3]; rfl
          have tn2 : (((n : Int) == 0) == false) = false := by rw [tn]; rfl
          exact clCS2 cs o n c ds p m d b a0 b0 a1 b1 a2 b2 a3 b3 a4 b4 k 0 stk junk out st cuts (f + 1) J hE okL ⟨rfl, ⟨_, hI, hmu, by simp [stS]; first | exact ⟨rfl, rfl, rfl, rfl, rfl⟩ | exact ⟨rfl, rfl, rfl, rfl⟩ | exact ⟨rfl, rfl, rfl⟩ | exact ⟨rfl, rfl⟩ | rfl, by simp [stS, rnr, rnd, rnv, rns]; first | done | rfl | exact ⟨rfl, rfl⟩⟩, happS, happO, tn, tn2, tn2, tn2, tn2, tn2, tn2, tn2, tn2, tn2, tc, tc2, tc2, tc2, tc2, tk, tk2, tk2, (congrArg _ hkk'), (pick_I64 hw1 _), (by decide), (by decide), (by decide), hp1, hr1, (Int.natCast_nonneg _), hsl, (i64_pred (by omega)), hpop, nat_in, (i64_pred (by omega)), hpos, trivial⟩ fun zz hz hz1 => hJ' 2 zz hz hz1
        have tn : ((n : Int) == 0) = false := by rw [beq_eq_false_iff_ne]; omega
        have tn2 : (((n : Int) == 0) == false) = true := by rw [tn]; rfl
        have c4 : (Bx.mk a0 b0 a1 b1 a2 b2 a3 b3 a4 b4).hi k ≤ (Bx.mk a0 b0 a1 b1 a2 b2 a3 b3 a4 b4).lo k := by
          rcases hs with h | h | h | h
          · exact absurd h c1
          · exact absurd h c2
          · exact absurd (hlen ▸ h) c3
          · exact h
        have tl : decide ((Bx.mk a0 b0 a1 b1 a2 b2 a3 b3 a4 b4).lo k ≥ (Bx.mk a0 b0 a1 b1 a2 b2 a3 b3 a4 b4).hi k) = true := decide_eq_true c4
        exact clDS2 cs o n c ds p m d b a0 b0 a1 b1 a2 b2 a3 b3 a4 b4 k 0 stk junk out st cuts (f + 1) J hE okL ⟨rfl, ⟨_, hI, hmu, by simp [stS]; first | exact ⟨rfl, rfl, rfl, rfl, rfl⟩ | exact ⟨rfl, rfl, rfl, rfl⟩ | exact ⟨rfl, rfl, rfl⟩ | exact ⟨rfl, rfl⟩ | rfl, by simp [stS, rnr, rnd, rnv, rns]; first | done | rfl | exact ⟨rfl, rfl⟩⟩, happS, happO, tl, tn, tn2, tn2, rhi, tn2, tn2, hk5, tn2, tn2, rlo, tn2, tn2, hk5, tn2, tc, tc2, tc2, tc2, tc2, tk, tk2, tk2, (congrArg _ hkk'), (pick_I64 hw1 _), (by decide), (by decide), (by decide), hp1, hr1, (Int.natCast_nonneg _), hsl, (i64_pred (by omega)), hpop, nat_in, (i64_pred (by omega)), hpos, trivial⟩ fun zz hz hz1 => hJ' 2 zz hz hz1
    · rw [if_neg hs] at k6
      have c1 : k ≠ 5 := fun h => hs (Or.inl h)
      have c2 : ¬ 20 ≤ cuts := fun h => hs (Or.inr (Or.inl h))
      have c3 : n ≠ 0 := fun h => hs (Or.inr (Or.inr (Or.inl (by rw [hlen]; exact h))))
      have c4 : ¬ (Bx.mk a0 b0 a1 b1 a2 b2 a3 b3 a4 b4).hi k ≤ (Bx.mk a0 b0 a1 b1 a2 b2 a3 b3 a4 b4).lo k := fun h => hs (Or.inr (Or.inr (Or.inr h)))
      have tk : (k == (5 : Int)) = false := by simpa using c1
      have tk2 : ((k == (5 : Int)) == false) = true := by rw [tk]; rfl
      have hk5 : 0 ≤ k ∧ k < 5 := by omega
      have rlo := lo_read (Bx.mk a0 b0 a1 b1 a2 b2 a3 b3 a4 b4) hk5.1 hk5.2
      have rhi := hi_read (Bx.mk a0 b0 a1 b1 a2 b2 a3 b3 a4 b4) hk5.1 hk5.2
      have tc : decide ((cuts : Int) ≥ 20) = false := decide_eq_false (by omega)
      have tc2 : (decide ((cuts : Int) ≥ 20) == false) = true := by rw [tc]; rfl
      have tn : ((n : Int) == 0) = false := by rw [beq_eq_false_iff_ne]; omega
      have tn2 : (((n : Int) == 0) == false) = true := by rw [tn]; rfl
      have tl : decide ((Bx.mk a0 b0 a1 b1 a2 b2 a3 b3 a4 b4).lo k ≥ (Bx.mk a0 b0 a1 b1 a2 b2 a3 b3 a4 b4).hi k) = false := decide_eq_false c4
      have hsm := ix k hk5.1 hk5.2
      generalize hla : (Bx.mk a0 b0 a1 b1 a2 b2 a3 b3 a4 b4).lo k = la at *
      generalize hha : (Bx.mk a0 b0 a1 b1 a2 b2 a3 b3 a4 b4).hi k = ha at *
      have har := within_range (pickI (intsOf ds p m) st.length) (lo := la) (hi := ha - 1) (by omega)
      generalize haa : cutA (intsOf ds p m) (Bx.mk a0 b0 a1 b1 a2 b2 a3 b3 a4 b4) k st.length = a at k6
      have haa' : withinS (pickI (intsOf ds p m) st.length) la (ha - 1) = a := by rw [← haa, cutA, hla, hha]
      rw [haa'] at har
      have hsetHi := lset_hi (Bx.mk a0 b0 a1 b1 a2 b2 a3 b3 a4 b4) hk5.1 hk5.2 a
      have hsetLo := lset_lo (Bx.mk a0 b0 a1 b1 a2 b2 a3 b3 a4 b4) hk5.1 hk5.2 (a + 1)
      obtain ⟨s1, s2⟩ := small_set (Bx.mk a0 b0 a1 b1 a2 b2 a3 b3 a4 b4) (k := k) (a := a) ix hk5.1 hk5.2 (by omega) (by omega)
      have happK : AppOK (some (.vec (eBox.row (((Bx.mk a0 b0 a1 b1 a2 b2 a3 b3 a4 b4) :: stk).reverse ++ junk)) 31 10)) stk.length mk 10 80 2 (eBox.row [(Bx.mk a0 b0 a1 b1 a2 b2 a3 b3 a4 b4).setLo k (a + 1), (Bx.mk a0 b0 a1 b1 a2 b2 a3 b3 a4 b4).setHi k a]) 0 (eBox.row (stk.reverse ++ [(Bx.mk a0 b0 a1 b1 a2 b2 a3 b3 a4 b4).setLo k (a + 1), (Bx.mk a0 b0 a1 b1 a2 b2 a3 b3 a4 b4).setHi k a])) :=
        appOK (e := eBox) rfl rfl rfl rfl (by simp only [List.length_append, List.length_reverse, List.length_cons]; omega) (by congr 2; simp) (by omega) (by omega) (by omega)
      have hI : ∀ t, (t = 1 ∧ out = [] ∨ t = 2 ∧ out ≠ []) → (stS cs o n c ds p m d b).inv t ⟨(Bx.mk a0 b0 a1 b1 a2 b2 a3 b3 a4 b4).setHi k a :: (Bx.mk a0 b0 a1 b1 a2 b2 a3 b3 a4 b4).setLo k (a + 1) :: stk, [], out, st ++ [⟨false, k, a⟩], cuts + 1, f⟩ := by
        intro t ht
        simp only [stS]
        refine ⟨by omega, by simp; omega, by simp; omega, by simp; omega, ?_, k6, ?_⟩
        · intro x hx
          simp at hx
          rcases hx with rfl | rfl | hx
          · exact s1
          · exact s2
          · exact istk x hx
        · rcases ht with ⟨rfl, h⟩ | ⟨rfl, h⟩
          · exact ⟨h, by simp, by simp⟩
          · exact ⟨h, by simp⟩
      have hmu : ∀ t, ltO ((stS cs o n c ds p m d b).mu t ⟨(Bx.mk a0 b0 a1 b1 a2 b2 a3 b3 a4 b4).setHi k a :: (Bx.mk a0 b0 a1 b1 a2 b2 a3 b3 a4 b4).setLo k (a + 1) :: stk, [], out, st ++ [⟨false, k, a⟩], cuts + 1, f⟩) (some (f + 1)) := by intro t; simp only [stS, ltO]; omega
      rcases hz' with rfl | rfl | rfl
      · obtain ⟨rfl, rfl, _⟩ := k7
        have hI := hI 1 (Or.inl ⟨rfl, rfl⟩)
        have hmu := hmu 1
        have happS := appOK_nil (e := eStp) (new := [⟨false, k, a⟩]) (m := 1) (bytes := 24) rfl rfl rfl rfl (by omega) (by omega) (by omega)
        subst hla
        subst hha
        exact cutS0 cs o n c ds p m d b a0 b0 a1 b1 a2 b2 a3 b3 a4 b4 k a stk junk [] [] cuts (f + 1) J hE okL ⟨rfl, ⟨_, hI, hmu, by simp [stS]; first | exact ⟨rfl, rfl, rfl, rfl, rfl⟩ | exact ⟨rfl, rfl, rfl, rfl⟩ | exact ⟨rfl, rfl, rfl⟩ | exact ⟨rfl, rfl⟩ | rfl, by simp [stS, rnr, rnd, rnv, rns]; first | done | rfl | exact ⟨rfl, rfl⟩⟩, happK, hsetLo, hk5, hsetHi, hk5, (i64_id rfl (by omega) (by omega)), happS, (congrArg _ haa'), (pick_I64 hw2 _), (by omega), (by omega), (by omega), (i64_id rfl (by omega) (by omega)), rhi, hk5, rlo, hk5, hp2, hr2, (Int.le_refl _), (i64_succ (by omega)), tl, tn, tn2, tn2, rhi, tn2, tn2, hk5, tn2, tn2, rlo, tn2, tn2, hk5, tn2, tc, tc2, tc2, tc2, tc2, tk, tk2, tk2, (congrArg _ hkk'), (pick_I64 hw1 _), (by decide), (by decide), (by decide), hp1, hr1, (Int.le_refl _), hsl, (i64_pred (by omega)), hpop, nat_in, (i64_pred (by omega)), hpos, trivial⟩ fun zz hz hz1 => hJ' 1 zz hz hz1
      · obtain ⟨rfl, _, _⟩ := k7
        have hI := hI 1 (Or.inl ⟨rfl, rfl⟩)
        have hmu := hmu 1
        have happS := appOK (e := eStp) (L := st) (new := [⟨false, k, a⟩]) (ty := 23) (n := st.length) (m := 1) (bytes := 24) rfl rfl rfl rfl (Nat.le_refl _) (by rw [List.take_length]) (by omega) (by omega) (by omega)
        subst hla
        subst hha
        exact cutS1 cs o n c ds p m d b a0 b0 a1 b1 a2 b2 a3 b3 a4 b4 k a stk junk [] st cuts (f + 1) J hE okL ⟨rfl, ⟨_, hI, hmu, by simp [stS]; first | exact ⟨rfl, rfl, rfl, rfl, rfl⟩ | exact ⟨rfl, rfl, rfl, rfl⟩ | exact ⟨rfl, rfl, rfl⟩ | exact ⟨rfl, rfl⟩ | rfl, by simp [stS, rnr, rnd, rnv, rns]; first | done | rfl | exact ⟨rfl, rfl⟩⟩, happK, hsetLo, hk5, hsetHi, hk5, (i64_id rfl (by omega) (by omega)), happS, (congrArg _ haa'), (pick_I64 hw2 _), (by omega), (by omega), (by omega), (i64_id rfl (by omega) (by omega)), rhi, hk5, rlo, hk5, hp2, hr2, (Int.natCast_nonneg _), (i64_succ (by omega)), tl, tn, tn2, tn2, rhi, tn2, tn2, hk5, tn2, tn2, rlo, tn2, tn2, hk5, tn2, tc, tc2, tc2, tc2, tc2, tk, tk2, tk2, (congrArg _ hkk'), (pick_I64 hw1 _), (by decide), (by decide), (by decide), hp1, hr1, (Int.natCast_nonneg _), hsl, (i64_pred (by omega)), hpop, nat_in, (i64_pred (by omega)), hpos, trivial⟩ fun zz hz hz1 => hJ' 1 zz hz hz1
      · have hI := hI 2 (Or.inr ⟨rfl, k7.1⟩)
        have hmu := hmu 2
        have happS := appOK (e := eStp) (L := st) (new := [⟨false, k, a⟩]) (ty := 23) (n := st.length) (m := 1) (bytes := 24) rfl rfl rfl rfl (Nat.le_refl _) (by rw [List.take_length]) (by omega) (by omega) (by omega)
        subst hla
        subst hha
        exact cutS2 cs o n c ds p m d b a0 b0 a1 b1 a2 b2 a3 b3 a4 b4 k a stk junk out st cuts (f + 1) J hE okL ⟨rfl, ⟨_, hI, hmu, by simp [stS]; first | exact ⟨rfl, rfl, rfl, rfl, rfl⟩ | exact ⟨rfl, rfl, rfl, rfl⟩ | exact ⟨rfl, rfl, rfl⟩ | exact ⟨rfl, rfl⟩ | rfl, by simp [stS, rnr, rnd, rnv, rns]; first | done | rfl | exact ⟨rfl, rfl⟩⟩, happK, hsetLo, hk5, hsetHi, hk5, (i64_id rfl (by omega) (by omega)), happS, (congrArg _ haa'), (pick_I64 hw2 _), (by omega), (by omega), (by omega), (i64_id rfl (by omega) (by omega)), rhi, hk5, rlo, hk5, hp2, hr2, (Int.natCast_nonneg _), (i64_succ (by omega)), tl, tn, tn2, tn2, rhi, tn2, tn2, hk5, tn2, tn2, rlo, tn2, tn2, hk5, tn2, tc, tc2, tc2, tc2, tc2, tk, tk2, tk2, (congrArg _ hkk'), (pick_I64 hw1 _), (by decide), (by decide), (by decide), hp1, hr1, (Int.natCast_nonneg _), hsl, (i64_pred (by omega)), hpop, nat_in, (i64_pred (by omega)), hpos, trivial⟩ fun zz hz hz1 => hJ' 2 zz hz hz1
theorem steps_specN (cs : List Value) (o n c : Nat) (b : Bx) (hr1 : IntRow .i64 cs o n) (hpl1 : ∀ x ∈ cs, leafG x = true) (hw1 : ∀ z ∈ intsOf cs o n, I64 z)  (hb : b.Small) :
    CallSpec Try.prog 12 [.agg ⟨[.slice (some ⟨0, o, none⟩) n c, .slice none 0 0]⟩, .agg ⟨b.cs⟩] (roRows [cs]) 1 (stepsV (stepsI (intsOf cs o n) ([] : List Int) b)) (assocN (newNs (stepsB (stepsI (intsOf cs o n) ([] : List Int) b)) 100) (stepsB (stepsI (intsOf cs o n) ([] : List Int) b))) := by
  refine spec_of_sat Try.func12 rfl fun E hE => ?_
  have hlen : (intsOf cs o n).length = n := intsOf_len hr1.1
  have hp1 : plainR [cs] := fun x hx c hc => by simp at hx; subst hx; exact hpl1 c hc
  have hp0 : plainR [] := fun x hx => by simp at hx
  have rnv : ∀ (f : Nat → Nat) (l : List Bx), Blk.rnB f (.vec (eBox.row l) 31 10) = .vec (eBox.row l) 31 10 := fun f l => Blk.plain.rnB (b := .vec (eBox.row l) 31 10) (Elt.row_pl _) f
  have rns : ∀ (f : Nat → Nat) (l : List Stp), Blk.rnB f (.vec (eStp.row l) 23 3) = .vec (eStp.row l) 23 3 := fun f l => Blk.plain.rnB (b := .vec (eStp.row l) 23 3) (Elt.row_pl _) f
  have rnr : ∀ (f : Nat → Nat), Blk.rnB f (.ro cs) = .ro cs := fun f => Blk.plain.rnB (b := .ro cs) hpl1 f
  have rnd := True.intro
  have okL := stN_ok cs o n c b hpl1
  refine inN cs o n c b hE okL ⟨rfl, ⟨⟨[b], [], [], [], 0, 41⟩, ?_, trivial, rfl, ?_⟩, trivial⟩ fun zz hz _ => by_loop (stN cs o n c b) (lp Try.f12 0) ?_ 0 zz hz
  · simp only [stN]
    exact ⟨by omega, by simp, by simp, Nat.le_refl _, by simpa using hb, rfl, by simp⟩
  · simp [stN, rnr, rnd, rnv]
    first | rfl | exact ⟨rfl, rfl⟩ | exact ⟨rfl, rfl, rfl⟩
  rintro z ⟨stk, junk, out, st, cuts, f⟩ hi J hJ
  have hz : ∃ z', (z' = 0 ∨ z' = 1 ∨ z' = 2) ∧ (stN cs o n c b).st z ⟨stk, junk, out, st, cuts, f⟩ = (stN cs o n c b).st z' ⟨stk, junk, out, st, cuts, f⟩ ∧ (stN cs o n c b).inv z' ⟨stk, junk, out, st, cuts, f⟩ := by
    match z with
    | 0 => exact ⟨0, Or.inl rfl, rfl, hi⟩
    | 1 => exact ⟨1, Or.inr (Or.inl rfl), rfl, hi⟩
    | z + 2 => exact ⟨2, Or.inr (Or.inr rfl), rfl, hi⟩
  obtain ⟨z', hz', hst, hinv⟩ := hz
  rw [hst]
  have hJ' : ∀ b' zz, (stN cs o n c b).inv b' zz → ltO ((stN cs o n c b).mu b' zz) (some f) → Sat E (mkLp (lp Try.f12 0) J) ((stN cs o n c b).st b' zz) := fun b' zz h1 h2 => hJ b' zz h1 h2
  clear hJ hst hi
  obtain ⟨k1, k2, k3, k4, k5, k6, k7⟩ := hinv
  cases stk with
  | nil =>
    have hend : decide (((([] : List Bx).length : Nat) : Int) > 0) = false := rfl
    rw [stepsGo_nil] at k6
    rcases hz' with rfl | rfl | rfl
    · exact absurd rfl k7.2.2
    · exact absurd rfl k7.2.2
    · rw [← k6] at hE
      exact endN cs o n c b [] junk out st cuts f J hE ⟨⟨rfl, by simp [stepsB, rnv, rns]⟩, hend, trivial⟩
  | cons x stk =>
    obtain ⟨a0, b0, a1, b1, a2, b2, a3, b3, a4, b4⟩ := x
    simp only [List.length_cons] at k2
    obtain ⟨f, rfl⟩ : ∃ f', f = f' + 1 := ⟨f - 1, by omega⟩
    have ix := k5 _ (List.mem_cons_self ..)
    have istk : ∀ x ∈ stk, x.Small := fun x hx => k5 x (List.mem_cons_of_mem _ hx)
    have hpos : decide ((((Bx.mk a0 b0 a1 b1 a2 b2 a3 b3 a4 b4) :: stk).length : Int) > 0) = true := decide_eq_true (by simp)
    have hpop : readPart Try.prog 31 (eBox.row (((Bx.mk a0 b0 a1 b1 a2 b2 a3 b3 a4 b4) :: stk).reverse ++ junk)) (0 + (Int.ofNat stk.length).toNat * 10) = some (.agg ⟨(Bx.mk a0 b0 a1 b1 a2 b2 a3 b3 a4 b4).cs⟩) :=
      read_row (e := eBox) (P := Try.prog) (ty := 31) (by kernel_rfl) (by kernel_rfl) (by simp)
    have hsl : SlOK 10 11 0 ((Bx.mk a0 b0 a1 b1 a2 b2 a3 b3 a4 b4) :: stk).length mk none (some (Int.ofNat stk.length)) (some (.vec (eBox.row (((Bx.mk a0 b0 a1 b1 a2 b2 a3 b3 a4 b4) :: stk).reverse ++ junk)) 31 10)) (.slice (some ⟨11, 0, none⟩) stk.length mk) :=
      slOK_pre rfl (by simp) (by omega) (by rw [boxRow_len]; simp; omega)
    rw [stepsGo] at k6
    generalize hkk : cutK (intsOf cs o n) st.length = k at k6
    have hkr := within_range (pickI (intsOf cs o n) st.length) (lo := 0) (hi := 5) (by decide)
    have hkk' : withinS (pickI (intsOf cs o n) st.length) 0 5 = k := hkk
    rw [hkk'] at hkr
    by_cases hs : stays (intsOf cs o n) (Bx.mk a0 b0 a1 b1 a2 b2 a3 b3 a4 b4) k cuts
    · rw [if_pos hs] at k6
      have hI : (stN cs o n c b).inv 2 ⟨stk, (Bx.mk a0 b0 a1 b1 a2 b2 a3 b3 a4 b4) :: junk, out ++ [(Bx.mk a0 b0 a1 b1 a2 b2 a3 b3 a4 b4)], st ++ [⟨true, 0, 0⟩], cuts, f⟩ := by
        simp only [stN]
        exact ⟨k1, by omega, by simp; omega, by simp; omega, istk, k6, by simp⟩
      have hmu : ltO ((stN cs o n c b).mu 2 ⟨stk, (Bx.mk a0 b0 a1 b1 a2 b2 a3 b3 a4 b4) :: junk, out ++ [(Bx.mk a0 b0 a1 b1 a2 b2 a3 b3 a4 b4)], st ++ [⟨true, 0, 0⟩], cuts, f⟩) (some (f + 1)) := by simp only [stN, ltO]; omega
      rcases hz' with rfl | rfl | rfl
      · obtain ⟨rfl, rfl, _⟩ := k7
        have happS := appOK_nil (e := eStp) (new := [⟨true, 0, 0⟩]) (m := 1) (bytes := 24) rfl rfl rfl rfl (by omega) (by omega) (by omega)
        have happO := appOK_nil (e := eBox) (new := [(Bx.mk a0 b0 a1 b1 a2 b2 a3 b3 a4 b4)]) (m := 1) (bytes := 80) rfl rfl rfl rfl (by omega) (by omega) (by omega)
        by_cases c1 : k = 5
        · have tk : (k == (5 : Int)) = true := by rw [c1]; rfl
          have tk2 : ((k == (5 : Int)) == false) = false := by rw [tk]; rfl
          exact clAN0 cs o n c b a0 b0 a1 b1 a2 b2 a3 b3 a4 b4 k 0 stk junk [] [] cuts (f + 1) J hE okL ⟨rfl, ⟨_, hI, hmu, by simp [stN]; first | exact ⟨rfl, rfl, rfl, rfl, rfl⟩ | exact ⟨rfl, rfl, rfl, rfl⟩ | exact ⟨rfl, rfl, rfl⟩ | exact ⟨rfl, rfl⟩ | rfl, by simp [stN, rnr, rnd, rnv, rns]; first | done | rfl | exact ⟨rfl, rfl⟩⟩, happS, happO, tk, tk2, tk2, (congrArg _ hkk'), (pick_I64 hw1 _), (by decide), (by decide), (by decide), hp1, hr1, (Int.le_refl _), hsl, (i64_pred (by omega)), hpop, nat_in, (i64_pred (by omega)), hpos, trivial⟩ fun zz hz hz1 => hJ' 2 zz hz hz1
        have tk : (k == (5 : Int)) = false := by simpa using c1
        have tk2 : ((k == (5 : Int)) == false) = true := by rw [tk]; rfl
        have hk5 : 0 ≤ k ∧ k < 5 := by omega
        have rlo := lo_read (Bx.mk a0 b0 a1 b1 a2 b2 a3 b3 a4 b4) hk5.1 hk5.2
        have rhi := hi_read (Bx.mk a0 b0 a1 b1 a2 b2 a3 b3 a4 b4) hk5.1 hk5.2
        by_cases c2 : 20 ≤ cuts
        · have tc : decide ((cuts : Int) ≥ 20) = true := decide_eq_true (by omega)
          have tc2 : (decide ((cuts : Int) ≥ 20) == false) = false := by rw [tc]; rfl
          exact clBN0 cs o n c b a0 b0 a1 b1 a2 b2 a3 b3 a4 b4 k 0 stk junk [] [] cuts (f + 1) J hE okL ⟨rfl, ⟨_, hI, hmu, by simp [stN]; first | exact ⟨rfl, rfl, rfl, rfl, rfl⟩ | exact ⟨rfl, rfl, rfl, rfl⟩ | exact ⟨rfl, rfl, rfl⟩ | exact ⟨rfl, rfl⟩ | rfl, by simp [stN, rnr, rnd, rnv, rns]; first | done | rfl | exact ⟨rfl, rfl⟩⟩, happS, happO, tc, tc2, tc2, tc2, tc2, tk, tk2, tk2, (congrArg _ hkk'), (pick_I64 hw1 _), (by decide), (by decide), (by decide), hp1, hr1, (Int.le_refl _), hsl, (i64_pred (by omega)), hpop, nat_in, (i64_pred (by omega)), hpos, trivial⟩ fun zz hz hz1 => hJ' 2 zz hz hz1
        have tc : decide ((cuts : Int) ≥ 20) = false := decide_eq_false (by omega)
        have tc2 : (decide ((cuts : Int) ≥ 20) == false) = true := by rw [tc]; rfl
        by_cases c3 : n = 0
        · have tn : ((n : Int) == 0) = true := by rw [c3]; rfl
          have tn2 : (((n : Int) == 0) == false) = false := by rw [tn]; rfl
          exact clCN0 cs o n c b a0 b0 a1 b1 a2 b2 a3 b3 a4 b4 k 0 stk junk [] [] cuts (f + 1) J hE okL ⟨rfl, ⟨_, hI, hmu, by simp [stN]; first | exact ⟨rfl, rfl, rfl, rfl, rfl⟩ | exact ⟨rfl, rfl, rfl, rfl⟩ | exact ⟨rfl, rfl, rfl⟩ | exact ⟨rfl, rfl⟩ | rfl, by simp [stN, rnr, rnd, rnv, rns]; first | done | rfl | exact ⟨rfl, rfl⟩⟩, happS, happO, tn, tn2, tn2, tn2, tn2, tn2, tn2, tn2, tn2, tn2, tc, tc2, tc2, tc2, tc2, tk, tk2, tk2, (congrArg _ hkk'), (pick_I64 hw1 _), (by decide), (by decide), (by decide), hp1, hr1, (Int.le_refl _), hsl, (i64_pred (by omega)), hpop, nat_in, (i64_pred (by omega)), hpos, trivial⟩ fun zz hz hz1 => hJ' 2 zz hz hz1
        have tn : ((n : Int) == 0) = false := by rw [beq_eq_false_iff_ne]; omega
        have tn2 : (((n : Int) == 0) == false) = true := by rw [tn]; rfl
        have c4 : (Bx.mk a0 b0 a1 b1 a2 b2 a3 b3 a4 b4).hi k ≤ (Bx.mk a0 b0 a1 b1 a2 b2 a3 b3 a4 b4).lo k := by
          rcases hs with h | h | h | h
          · exact absurd h c1
          · exact absurd h c2
          · exact absurd (hlen ▸ h) c3
          · exact h
        have tl : decide ((Bx.mk a0 b0 a1 b1 a2 b2 a3 b3 a4 b4).lo k ≥ (Bx.mk a0 b0 a1 b1 a2 b2 a3 b3 a4 b4).hi k) = true := decide_eq_true c4
        exact clDN0 cs o n c b a0 b0 a1 b1 a2 b2 a3 b3 a4 b4 k 0 stk junk [] [] cuts (f + 1) J hE okL ⟨rfl, ⟨_, hI, hmu, by simp [stN]; first | exact ⟨rfl, rfl, rfl, rfl, rfl⟩ | exact ⟨rfl, rfl, rfl, rfl⟩ | exact ⟨rfl, rfl, rfl⟩ | exact ⟨rfl, rfl⟩ | rfl, by simp [stN, rnr, rnd, rnv, rns]; first | done | rfl | exact ⟨rfl, rfl⟩⟩, happS, happO, tl, tn, tn2, tn2, rhi, tn2, tn2, hk5, tn2, tn2, rlo, tn2, tn2, hk5, tn2, tc, tc2, tc2, tc2, tc2, tk, tk2, tk2, (congrArg _ hkk'), (pick_I64 hw1 _), (by decide), (by decide), (by decide), hp1, hr1, (Int.le_refl _), hsl, (i64_pred (by omega)), hpop, nat_in, (i64_pred (by omega)), hpos, trivial⟩ fun zz hz hz1 => hJ' 2 zz hz hz1
      · obtain ⟨rfl, _, _⟩ := k7
        have happS := appOK (e := eStp) (L := st) (new := [⟨true, 0, 0⟩]) (ty := 23) (n := st.length) (m := 1) (bytes := 24) rfl rfl rfl rfl (Nat.le_refl _) (by rw [List.take_length]) (by omega) (by omega) (by omega)
        have happO := appOK_nil (e := eBox) (new := [(Bx.mk a0 b0 a1 b1 a2 b2 a3 b3 a4 b4)]) (m := 1) (bytes := 80) rfl rfl rfl rfl (by omega) (by omega) (by omega)
        by_cases c1 : k = 5
        · have tk : (k == (5 : Int)) = true := by rw [c1]; rfl
          have tk2 : ((k == (5 : Int)) == false) = false := by rw [tk]; rfl
          exact clAN1 cs o n c b a0 b0 a1 b1 a2 b2 a3 b3 a4 b4 k 0 stk junk [] st cuts (f + 1) J hE okL ⟨rfl, ⟨_, hI, hmu, by simp [stN]; first | exact ⟨rfl, rfl, rfl, rfl, rfl⟩ | exact ⟨rfl, rfl, rfl, rfl⟩ | exact ⟨rfl, rfl, rfl⟩ | exact ⟨rfl, rfl⟩ | rfl, by simp [stN, rnr, rnd, rnv, rns]; first | done | rfl | exact ⟨rfl, rfl⟩⟩, happS, happO, tk, tk2, tk2, (congrArg _ hkk'), (pick_I64 hw1 _), (by decide), (by decide), (by decide), hp1, hr1, (Int.natCast_nonneg _), hsl, (i64_pred (by omega)), hpop, nat_in, (i64_pred (by omega)), hpos, trivial⟩ fun zz hz hz1 => hJ' 2 zz hz hz1
        have tk : (k == (5 : Int)) = false := by simpa using c1
        have tk2 : ((k == (5 : Int)) == false) = true := by rw [tk]; rfl
        have hk5 : 0 ≤ k ∧ k < 5 := by omega
        have rlo := lo_read (Bx.mk a0 b0 a1 b1 a2 b2 a3 b3 a4 b4) hk5.1 hk5.2
        have rhi := hi_read (Bx.mk a0 b0 a1 b1 a2 b2 a3 b3 a4 b4) hk5.1 hk5.2
        by_cases c2 : 20 ≤ cuts
        · have tc : decide ((cuts : Int) ≥ 20) = true := decide_eq_true (by omega)
          have tc2 : (decide ((cuts : Int) ≥ 20) == false) = false := by rw [tc]; rfl
          exact clBN1 cs o n c b a0 b0 a1 b1 a2 b2 a3 b3 a4 b4 k 0 stk junk [] st cuts (f + 1) J hE okL ⟨rfl, ⟨_, hI, hmu, by simp [stN]; first | exact ⟨rfl, rfl, rfl, rfl, rfl⟩ | exact ⟨rfl, rfl, rfl, rfl⟩ | exact ⟨rfl, rfl, rfl⟩ | exact ⟨rfl, rfl⟩ | rfl, by simp [stN, rnr, rnd, rnv, rns]; first | done | rfl | exact ⟨rfl, rfl⟩⟩, happS, happO, tc, tc2, tc2, tc2, tc2, tk, tk2, tk2, (congrArg _ hkk'), (pick_I64 hw1 _), (by decide), (by decide), (by decide), hp1, hr1, (Int.natCast_nonneg _), hsl, (i64_pred (by omega)), hpop, nat_in, (i64_pred (by omega)), hpos, trivial⟩ fun zz hz hz1 => hJ' 2 zz hz hz1
        have tc : decide ((cuts : Int) ≥ 20) = false := decide_eq_false (by omega)
        have tc2 : (decide ((cuts : Int) ≥ 20) == false) = true := by rw [tc]; rfl
        by_cases c3 : n = 0
        · have tn : ((n : Int) == 0) = true := by rw [c3]; rfl
          have tn2 : (((n : Int) == 0) == false) = false := by rw [tn]; rfl
          exact clCN1 cs o n c b a0 b0 a1 b1 a2 b2 a3 b3 a4 b4 k 0 stk junk [] st cuts (f + 1) J hE okL ⟨rfl, ⟨_, hI, hmu, by simp [stN]; first | exact ⟨rfl, rfl, rfl, rfl, rfl⟩ | exact ⟨rfl, rfl, rfl, rfl⟩ | exact ⟨rfl, rfl, rfl⟩ | exact ⟨rfl, rfl⟩ | rfl, by simp [stN, rnr, rnd, rnv, rns]; first | done | rfl | exact ⟨rfl, rfl⟩⟩, happS, happO, tn, tn2, tn2, tn2, tn2, tn2, tn2, tn2, tn2, tn2, tc, tc2, tc2, tc2, tc2, tk, tk2, tk2, (congrArg _ hkk'), (pick_I64 hw1 _), (by decide), (by decide), (by decide), hp1, hr1, (Int.natCast_nonneg _), hsl, (i64_pred (by omega)), hpop, nat_in, (i64_pred (by omega)), hpos, trivial⟩ fun zz hz hz1 => hJ' 2 zz hz hz1
        have tn : ((n : Int) == 0) = false := by rw [beq_eq_false_iff_ne]; omega
        have tn2 : (((n : Int) == 0) == false) = true := by rw [tn]; rfl
        have c4 : (Bx.mk a0 b0 a1 b1 a2 b2 a3 b3 a4 b4).hi k ≤ (Bx.mk a0 b0 a1 b1 a2 b2 a3 b3 a4 b4).lo k := by
          rcases hs with h | h | h | h
          · exact absurd h c1
          · exact absurd h c2
          · exact absurd (hlen ▸ h) c3
          · exact h
        have tl : decide ((Bx.mk a0 b0 a1 b1 a2 b2 a3 b3 a4 b4).lo k ≥ (Bx.mk a0 b0 a1 b1 a2 b2 a3 b3 a4 b4).hi k) = true := decide_eq_true c4
        exact clDN1 cs o n c b a0 b0 a1 b1 a2 b2 a3 b3 a4 b4 k 0 stk junk [] st cuts (f + 1) J hE okL ⟨rfl, ⟨_, hI, hmu, by simp [stN]; first | exact ⟨rfl, rfl, rfl, rfl, rfl⟩ | exact ⟨rfl, rfl, rfl, rfl⟩ | exact ⟨rfl, rfl, rfl⟩ | exact ⟨rfl, rfl⟩ | rfl, by simp [stN, rnr, rnd, rnv, rns]; first | done | rfl | exact ⟨rfl, rfl⟩⟩, happS, happO, tl, tn, tn2, tn2, rhi, tn2, tn2, hk5, tn2, tn2, rlo, tn2, tn2, hk5, tn2, tc, tc2, tc2, tc2, tc2, tk, tk2, tk2, (congrArg _ hkk'), (pick_I64 hw1 _), (by decide), (by decide), (by decide), hp1, hr1, (Int.natCast_nonneg _), hsl, (i64_pred (by omega)), hpop, nat_in, (i64_pred (by omega)), hpos, trivial⟩ fun zz hz hz1 => hJ' 2 zz hz hz1
      · have happS := appOK (e := eStp) (L := st) (new := [⟨true, 0, 0⟩]) (ty := 23) (n := st.length) (m := 1) (bytes := 24) rfl rfl rfl rfl (Nat.le_refl _) (by rw [List.take_length]) (by omega) (by omega) (by omega)
        have happO := appOK (e := eBox) (L := out) (new := [(Bx.mk a0 b0 a1 b1 a2 b2 a3 b3 a4 b4)]) (ty := 31) (n := out.length) (m := 1) (bytes := 80) rfl rfl rfl rfl (Nat.le_refl _) (by rw [List.take_length]) (by omega) (by omega) (by omega)
        by_cases c1 : k = 5
        · have tk : (k == (5 : Int)) = true := by rw [c1]; rfl
          have tk2 : ((k == (5 : Int)) == false) = false := by rw [tk]; rfl
          exact clAN2 cs o n c b a0 b0 a1 b1 a2 b2 a3 b3 a4 b4 k 0 stk junk out st cuts (f + 1) J hE okL ⟨rfl, ⟨_, hI, hmu, by simp [stN]; first | exact ⟨rfl, rfl, rfl, rfl, rfl⟩ | exact ⟨rfl, rfl, rfl, rfl⟩ | exact ⟨rfl, rfl, rfl⟩ | exact ⟨rfl, rfl⟩ | rfl, by simp [stN, rnr, rnd, rnv, rns]; first | done | rfl | exact ⟨rfl, rfl⟩⟩, happS, happO, tk, tk2, tk2, (congrArg _ hkk'), (pick_I64 hw1 _), (by decide), (by decide), (by decide), hp1, hr1, (Int.natCast_nonneg _), hsl, (i64_pred (by omega)), hpop, nat_in, (i64_pred (by omega)), hpos, trivial⟩ fun zz hz hz1 => hJ' 2 zz hz hz1
        have tk : (k == (5 : Int)) = false := by simpa using c1
        have tk2 : ((k == (5 : Int)) == false) = true := by rw [tk]; rfl
        have hk5 : 0 ≤ k ∧ k < 5 := by omega
        have rlo := lo_read (Bx.mk a0 b0 a1 b1 a2 b2 a3 b3 a4 b4) hk5.1 hk5.2
        have rhi := hi_read (Bx.mk a0 b0 a1 b1 a2 b2 a3 b3 a4 b4) hk5.1 hk5.2
        by_cases c2 : 20 ≤ cuts
        · have tc : decide ((cuts : Int) ≥ 20) = true := decide_eq_true (by omega)
          have tc2 : (decide ((cuts : Int) ≥ 20) == false) = false := by rw [tc]; rfl
          exact clBN2 cs o n c b a0 b0 a1 b1 a2 b2 a3 b3 a4 b4 k 0 stk junk out st cuts (f + 1) J hE okL ⟨rfl, ⟨_, hI, hmu, by simp [stN]; first | exact ⟨rfl, rfl, rfl, rfl, rfl⟩ | exact ⟨rfl, rfl, rfl, rfl⟩ | exact ⟨rfl, rfl, rfl⟩ | exact ⟨rfl, rfl⟩ | rfl, by simp [stN, rnr, rnd, rnv, rns]; first | done | rfl | exact ⟨rfl, rfl⟩⟩, happS, happO, tc, tc2, tc2, tc2, tc2, tk, tk2, tk2, (congrArg _ hkk'), (pick_I64 hw1 _), (by decide), (by decide), (by decide), hp1, hr1, (Int.natCast_nonneg _), hsl, (i64_pred (by omega)), hpop, nat_in, (i64_pred (by omega)), hpos, trivial⟩ fun zz hz hz1 => hJ' 2 zz hz hz1
        have tc : decide ((cuts : Int) ≥ 20) = false := decide_eq_false (by omega)
        have tc2 : (decide ((cuts : Int) ≥ 20) == false) = true := by rw [tc]; rfl
        by_cases c3 : n = 0
        · have tn : ((n : Int) == 0) = true := by rw [c3]; rfl
          have tn2 : (((n : Int) == 0) == false) = false := by rw [tn]; rfl
          exact clCN2 cs o n c b a0 b0 a1 b1 a2 b2 a3 b3 a4 b4 k 0 stk junk out st cuts (f + 1) J hE okL ⟨rfl, ⟨_, hI, hmu, by simp [stN]; first | exact ⟨rfl, rfl, rfl, rfl, rfl⟩ | exact ⟨rfl, rfl, rfl, rfl⟩ | exact ⟨rfl, rfl, rfl⟩ | exact ⟨rfl, rfl⟩ | rfl, by simp [stN, rnr, rnd, rnv, rns]; first | done | rfl | exact ⟨rfl, rfl⟩⟩, happS, happO, tn, tn2, tn2, tn2, tn2, tn2, tn2, tn2, tn2, tn2, tc, tc2, tc2, tc2, tc2, tk, tk2, tk2, (congrArg _ hkk'), (pick_I64 hw1 _), (by decide), (by decide), (by decide), hp1, hr1, (Int.natCast_nonneg _), hsl, (i64_pred (by omega)), hpop, nat_in, (i64_pred (by omega)), hpos, trivial⟩ fun zz hz hz1 => hJ' 2 zz hz hz1
        have tn : ((n : Int) == 0) = false := by rw [beq_eq_false_iff_ne]; omega
        have tn2 : (((n : Int) == 0) == false) = true := by rw [tn]; rfl
        have c4 : (Bx.mk a0 b0 a1 b1 a2 b2 a3 b3 a4 b4).hi k ≤ (Bx.mk a0 b0 a1 b1 a2 b2 a3 b3 a4 b4).lo k := by
          rcases hs with h | h | h | h
          · exact absurd h c1
          · exact absurd h c2
          · exact absurd (hlen ▸ h) c3
          · exact h
        have tl : decide ((Bx.mk a0 b0 a1 b1 a2 b2 a3 b3 a4 b4).lo k ≥ (Bx.mk a0 b0 a1 b1 a2 b2 a3 b3 a4 b4).hi k) = true := decide_eq_true c4
        exact clDN2 cs o n c b a0 b0 a1 b1 a2 b2 a3 b3 a4 b4 k 0 stk junk out st cuts (f + 1) J hE okL ⟨rfl, ⟨_, hI, hmu, by simp [stN]; first | exact ⟨rfl, rfl, rfl, rfl, rfl⟩ | exact ⟨rfl, rfl, rfl, rfl⟩ | exact ⟨rfl, rfl, rfl⟩ | exact ⟨rfl, rfl⟩ | rfl, by simp [stN, rnr, rnd, rnv, rns]; first | done | rfl | exact ⟨rfl, rfl⟩⟩, happS, happO, tl, tn, tn2, tn2, rhi, tn2, tn2, hk5, tn2, tn2, rlo, tn2, tn2, hk5, tn2, tc, tc2, tc2, tc2, tc2, tk, tk2, tk2, (congrArg _ hkk'), (pick_I64 hw1 _), (by decide), (by decide), (by decide), hp1, hr1, (Int.natCast_nonneg _), hsl, (i64_pred (by omega)), hpop, nat_in, (i64_pred (by omega)), hpos, trivial⟩ fun zz hz hz1 => hJ' 2 zz hz hz1
    · rw [if_neg hs] at k6
      have c1 : k ≠ 5 := fun h => hs (Or.inl h)
      have c2 : ¬ 20 ≤ cuts := fun h => hs (Or.inr (Or.inl h))
      have c3 : n ≠ 0 := fun h => hs (Or.inr (Or.inr (Or.inl (by rw [hlen]; exact h))))
      have c4 : ¬ (Bx.mk a0 b0 a1 b1 a2 b2 a3 b3 a4 b4).hi k ≤ (Bx.mk a0 b0 a1 b1 a2 b2 a3 b3 a4 b4).lo k := fun h => hs (Or.inr (Or.inr (Or.inr h)))
      have tk : (k == (5 : Int)) = false := by simpa using c1
      have tk2 : ((k == (5 : Int)) == false) = true := by rw [tk]; rfl
      have hk5 : 0 ≤ k ∧ k < 5 := by omega
      have rlo := lo_read (Bx.mk a0 b0 a1 b1 a2 b2 a3 b3 a4 b4) hk5.1 hk5.2
      have rhi := hi_read (Bx.mk a0 b0 a1 b1 a2 b2 a3 b3 a4 b4) hk5.1 hk5.2
      have tc : decide ((cuts : Int) ≥ 20) = false := decide_eq_false (by omega)
      have tc2 : (decide ((cuts : Int) ≥ 20) == false) = true := by rw [tc]; rfl
      have tn : ((n : Int) == 0) = false := by rw [beq_eq_false_iff_ne]; omega
      have tn2 : (((n : Int) == 0) == false) = true := by rw [tn]; rfl
      have tl : decide ((Bx.mk a0 b0 a1 b1 a2 b2 a3 b3 a4 b4).lo k ≥ (Bx.mk a0 b0 a1 b1 a2 b2 a3 b3 a4 b4).hi k) = false := decide_eq_false c4
      have hsm := ix k hk5.1 hk5.2
      generalize hla : (Bx.mk a0 b0 a1 b1 a2 b2 a3 b3 a4 b4).lo k = la at *
      generalize hha : (Bx.mk a0 b0 a1 b1 a2 b2 a3 b3 a4 b4).hi k = ha at *
      have har := within_range (pickI ([] : List Int) st.length) (lo := la) (hi := ha - 1) (by omega)
      generalize haa : cutA ([] : List Int) (Bx.mk a0 b0 a1 b1 a2 b2 a3 b3 a4 b4) k st.length = a at k6
      have haa' : withinS (pickI ([] : List Int) st.length) la (ha - 1) = a := by rw [← haa, cutA, hla, hha]
      rw [haa'] at har
      have hsetHi := lset_hi (Bx.mk a0 b0 a1 b1 a2 b2 a3 b3 a4 b4) hk5.1 hk5.2 a
      have hsetLo := lset_lo (Bx.mk a0 b0 a1 b1 a2 b2 a3 b3 a4 b4) hk5.1 hk5.2 (a + 1)
      obtain ⟨s1, s2⟩ := small_set (Bx.mk a0 b0 a1 b1 a2 b2 a3 b3 a4 b4) (k := k) (a := a) ix hk5.1 hk5.2 (by omega) (by omega)
      have happK : AppOK (some (.vec (eBox.row (((Bx.mk a0 b0 a1 b1 a2 b2 a3 b3 a4 b4) :: stk).reverse ++ junk)) 31 10)) stk.length mk 10 80 2 (eBox.row [(Bx.mk a0 b0 a1 b1 a2 b2 a3 b3 a4 b4).setLo k (a + 1), (Bx.mk a0 b0 a1 b1 a2 b2 a3 b3 a4 b4).setHi k a]) 0 (eBox.row (stk.reverse ++ [(Bx.mk a0 b0 a1 b1 a2 b2 a3 b3 a4 b4).setLo k (a + 1), (Bx.mk a0 b0 a1 b1 a2 b2 a3 b3 a4 b4).setHi k a])) :=
        appOK (e := eBox) rfl rfl rfl rfl (by simp only [List.length_append, List.length_reverse, List.length_cons]; omega) (by congr 2; simp) (by omega) (by omega) (by omega)
      have hI : ∀ t, (t = 1 ∧ out = [] ∨ t = 2 ∧ out ≠ []) → (stN cs o n c b).inv t ⟨(Bx.mk a0 b0 a1 b1 a2 b2 a3 b3 a4 b4).setHi k a :: (Bx.mk a0 b0 a1 b1 a2 b2 a3 b3 a4 b4).setLo k (a + 1) :: stk, [], out, st ++ [⟨false, k, a⟩], cuts + 1, f⟩ := by
        intro t ht
        simp only [stN]
        refine ⟨by omega, by simp; omega, by simp; omega, by simp; omega, ?_, k6, ?_⟩
        · intro x hx
          simp at hx
          rcases hx with rfl | rfl | hx
          · exact s1
          · exact s2
          · exact istk x hx
        · rcases ht with ⟨rfl, h⟩ | ⟨rfl, h⟩
          · exact ⟨h, by simp, by simp⟩
          · exact ⟨h, by simp⟩
      have hmu : ∀ t, ltO ((stN cs o n c b).mu t ⟨(Bx.mk a0 b0 a1 b1 a2 b2 a3 b3 a4 b4).setHi k a :: (Bx.mk a0 b0 a1 b1 a2 b2 a3 b3 a4 b4).setLo k (a + 1) :: stk, [], out, st ++ [⟨false, k, a⟩], cuts + 1, f⟩) (some (f + 1)) := by intro t; simp only [stN, ltO]; omega
      rcases hz' with rfl | rfl | rfl
      · obtain ⟨rfl, rfl, _⟩ := k7
        have hI := hI 1 (Or.inl ⟨rfl, rfl⟩)
        have hmu := hmu 1
        have happS := appOK_nil (e := eStp) (new := [⟨false, k, a⟩]) (m := 1) (bytes := 24) rfl rfl rfl rfl (by omega) (by omega) (by omega)
        subst hla
        subst hha
        exact cutN0 cs o n c b a0 b0 a1 b1 a2 b2 a3 b3 a4 b4 k a stk junk [] [] cuts (f + 1) J hE okL ⟨rfl, ⟨_, hI, hmu, by simp [stN]; first | exact ⟨rfl, rfl, rfl, rfl, rfl⟩ | exact ⟨rfl, rfl, rfl, rfl⟩ | exact ⟨rfl, rfl, rfl⟩ | exact ⟨rfl, rfl⟩ | rfl, by simp [stN, rnr, rnd, rnv, rns]; first | done | rfl | exact ⟨rfl, rfl⟩⟩, happK, hsetLo, hk5, hsetHi, hk5, (i64_id rfl (by omega) (by omega)), happS, (congrArg _ haa'), (by decide), (by omega), (by omega), (by omega), (i64_id rfl (by omega) (by omega)), rhi, hk5, rlo, hk5, hp0, (i64_succ (by omega)), tl, tn, tn2, tn2, rhi, tn2, tn2, hk5, tn2, tn2, rlo, tn2, tn2, hk5, tn2, tc, tc2, tc2, tc2, tc2, tk, tk2, tk2, (congrArg _ hkk'), (pick_I64 hw1 _), (by decide), (by decide), (by decide), hp1, hr1, (Int.le_refl _), hsl, (i64_pred (by omega)), hpop, nat_in, (i64_pred (by omega)), hpos, trivial⟩ fun zz hz hz1 => hJ' 1 zz hz hz1
      · obtain ⟨rfl, _, _⟩ := k7
        have hI := hI 1 (Or.inl ⟨rfl, rfl⟩)
        have hmu := hmu 1
        have happS := appOK (e := eStp) (L := st) (new := [⟨false, k, a⟩]) (ty := 23) (n := st.length) (m := 1) (bytes := 24) rfl rfl rfl rfl (Nat.le_refl _) (by rw [List.take_length]) (by omega) (by omega) (by omega)
        subst hla
        subst hha
        exact cutN1 cs o n c b a0 b0 a1 b1 a2 b2 a3 b3 a4 b4 k a stk junk [] st cuts (f + 1) J hE okL ⟨rfl, ⟨_, hI, hmu, by simp [stN]; first | exact ⟨rfl, rfl, rfl, rfl, rfl⟩ | exact ⟨rfl, rfl, rfl, rfl⟩ | exact ⟨rfl, rfl, rfl⟩ | exact ⟨rfl, rfl⟩ | rfl, by simp [stN, rnr, rnd, rnv, rns]; first | done | rfl | exact ⟨rfl, rfl⟩⟩, happK, hsetLo, hk5, hsetHi, hk5, (i64_id rfl (by omega) (by omega)), happS, (congrArg _ haa'), (by decide), (by omega), (by omega), (by omega), (i64_id rfl (by omega) (by omega)), rhi, hk5, rlo, hk5, hp0, (i64_succ (by omega)), tl, tn, tn2, tn2, rhi, tn2, tn2, hk5, tn2, tn2, rlo, tn2, tn2, hk5, tn2, tc, tc2, tc2, tc2, tc2, tk, tk2, tk2, (congrArg _ hkk'), (pick_I64 hw1 _), (by decide), (by decide), (by decide), hp1, hr1, (Int.natCast_nonneg _), hsl, (i64_pred (by omega)), hpop, nat_in, (i64_pred (by omega)), hpos, trivial⟩ fun zz hz hz1 => hJ' 1 zz hz hz1
      · have hI := hI 2 (Or.inr ⟨rfl, k7.1⟩)
        have hmu := hmu 2
        have happS := appOK (e := eStp) (L := st) (new := [⟨false, k, a⟩]) (ty := 23) (n := st.length) (m := 1) (bytes := 24) rfl rfl rfl rfl (Nat.le_refl _) (by rw [List.take_length]) (by omega) (by omega) (by omega)
        subst hla
        subst hha
        exact cutN2 cs o n c b a0 b0 a1 b1 a2 b2 a3 b3 a4 b4 k a stk junk out st cuts (f + 1) J hE okL ⟨rfl, ⟨_, hI, hmu, by simp [stN]; first | exact ⟨rfl, rfl, rfl, rfl, rfl⟩ | exact ⟨rfl, rfl, rfl, rfl⟩ | exact ⟨rfl, rfl, rfl⟩ | exact ⟨rfl, rfl⟩ | rfl, by simp [stN, rnr, rnd, rnv, rns]; first | done | rfl | exact ⟨rfl, rfl⟩⟩, happK, hsetLo, hk5, hsetHi, hk5, (i64_id rfl (by omega) (by omega)), happS, (congrArg _ haa'), (by decide), (by omega), (by omega), (by omega), (i64_id rfl (by omega) (by omega)), rhi, hk5, rlo, hk5, hp0, (i64_succ (by omega)), tl, tn, tn2, tn2, rhi, tn2, tn2, hk5, tn2, tn2, rlo, tn2, tn2, hk5, tn2, tc, tc2, tc2, tc2, tc2, tk, tk2, tk2, (congrArg _ hkk'), (pick_I64 hw1 _), (by decide), (by decide), (by decide), hp1, hr1, (Int.natCast_nonneg _), hsl, (i64_pred (by omega)), hpop, nat_in, (i64_pred (by omega)), hpos, trivial⟩ fun zz hz hz1 => hJ' 2 zz hz hz1
theorem stepsI_nil (al : List Int) (b : Bx) : stepsI [] al b = ([b], [⟨true, 0, 0⟩]) := by
  have hs : stays [] b (cutK [] ([] : List Stp).length) 0 := Or.inr (Or.inr (Or.inl rfl))
  unfold stepsI
  rw [stepsGo, if_pos hs, stepsGo_nil]
  rfl
abbrev SIT := List Int → List Int → Bx → List Bx × List Stp
def steps_F (SI : SIT) : RoF := fun xs css => match xs, css with
  | [.agg ⟨[.slice none 0 0, .slice none 0 0]⟩, .agg ⟨[.int .i64 a0, .int .i64 b0, .int .i64 a1, .int .i64 b1, .int .i64 a2, .int .i64 b2, .int .i64 a3, .int .i64 b3, .int .i64 a4, .int .i64 b4]⟩], [] => some (stepsV (SI [] [] (Bx.mk a0 b0 a1 b1 a2 b2 a3 b3 a4 b4)), stepsB (SI [] [] (Bx.mk a0 b0 a1 b1 a2 b2 a3 b3 a4 b4)), [SI = stepsI])
  | [.agg ⟨[.slice none 0 0, .slice (some ⟨0, p, none⟩) m d]⟩, .agg ⟨[.int .i64 a0, .int .i64 b0, .int .i64 a1, .int .i64 b1, .int .i64 a2, .int .i64 b2, .int .i64 a3, .int .i64 b3, .int .i64 a4, .int .i64 b4]⟩], [ds] => some (stepsV (SI [] (intsOf ds p m) (Bx.mk a0 b0 a1 b1 a2 b2 a3 b3 a4 b4)), stepsB (SI [] (intsOf ds p m) (Bx.mk a0 b0 a1 b1 a2 b2 a3 b3 a4 b4)), [SI = stepsI])
  | [.agg ⟨[.slice (some ⟨0, o, none⟩) n c, .slice none 0 0]⟩, .agg ⟨[.int .i64 a0, .int .i64 b0, .int .i64 a1, .int .i64 b1, .int .i64 a2, .int .i64 b2, .int .i64 a3, .int .i64 b3, .int .i64 a4, .int .i64 b4]⟩], [cs] => some (stepsV (SI (intsOf cs o n) [] (Bx.mk a0 b0 a1 b1 a2 b2 a3 b3 a4 b4)), stepsB (SI (intsOf cs o n) [] (Bx.mk a0 b0 a1 b1 a2 b2 a3 b3 a4 b4)), [IntRow .i64 cs o n, ∀ z ∈ intsOf cs o n, I64 z, (Bx.mk a0 b0 a1 b1 a2 b2 a3 b3 a4 b4).Small, SI = stepsI])
  | [.agg ⟨[.slice (some ⟨0, o, none⟩) n c, .slice (some ⟨1, p, none⟩) m d]⟩, .agg ⟨[.int .i64 a0, .int .i64 b0, .int .i64 a1, .int .i64 b1, .int .i64 a2, .int .i64 b2, .int .i64 a3, .int .i64 b3, .int .i64 a4, .int .i64 b4]⟩], [cs, ds] => some (stepsV (SI (intsOf cs o n) (intsOf ds p m) (Bx.mk a0 b0 a1 b1 a2 b2 a3 b3 a4 b4)), stepsB (SI (intsOf cs o n) (intsOf ds p m) (Bx.mk a0 b0 a1 b1 a2 b2 a3 b3 a4 b4)), [IntRow .i64 cs o n, ∀ z ∈ intsOf cs o n, I64 z, IntRow .i64 ds p m, ∀ z ∈ intsOf ds p m, I64 z, (Bx.mk a0 b0 a1 b1 a2 b2 a3 b3 a4 b4).Small, SI = stepsI])
  | _, _ => none
theorem stepsV_ok (R : List Bx × List Stp) (q : Nat) : (stepsB R).length ≤ 4 ∧ (∀ x ∈ stepsB R, x.plain ∧ x.wr = true) ∧ (∀ j ∈ nms (stepsV R), j < q ∨ (100 ≤ j ∧ j < 100 + (stepsB R).length)) := by
  refine ⟨by simp [stepsB], fun x hx => ?_, fun j hj => ?_⟩
  · simp [stepsB] at hx
    rcases hx with rfl | rfl
    · exact ⟨Elt.row_pl _, rfl⟩
    · exact ⟨Elt.row_pl _, rfl⟩
  · simp [stepsV, nms, nmL, nm1, nm0] at hj
    right
    simp [stepsB]
    omega
theorem steps_sum (SI : SIT) : SumOK Try.prog 12 (roSum (steps_F SI)) := by
  refine roSum_ok (en Try.func12 rfl) ?_ (fun xs css r h => ?_)
  · intro xs css v blks ob h hob hpl hl
    unfold steps_F at h
    split at h
    · rename_i a0 b0 a1 b1 a2 b2 a3 b3 a4 b4
      simp only [Option.some.injEq, Prod.mk.injEq] at h
      obtain ⟨rfl, rfl, rfl⟩ := h
      obtain rfl : SI = stepsI := hob _ (by simp)
      have hp0 : plainR [] := fun x hx => by simp at hx
      obtain ⟨h1, h2, h3⟩ := stepsV_ok (stepsI [] [] (Bx.mk a0 b0 a1 b1 a2 b2 a3 b3 a4 b4)) 0
      refine ⟨h1, h2, h3, ?_⟩
      rw [stepsI_nil]
      exact spec_of_sat Try.func12 rfl fun E hE => pnN (Bx.mk a0 b0 a1 b1 a2 b2 a3 b3 a4 b4) hE ⟨⟨rfl, rfl⟩, (by decide), (by decide), (by decide), (by decide), hp0, trivial⟩
    · rename_i p m d a0 b0 a1 b1 a2 b2 a3 b3 a4 b4 ds
      simp only [Option.some.injEq, Prod.mk.injEq] at h
      obtain ⟨rfl, rfl, rfl⟩ := h
      obtain rfl : SI = stepsI := hob _ (by simp)
      obtain ⟨h1, h2, h3⟩ := stepsV_ok (stepsI [] (intsOf ds p m) (Bx.mk a0 b0 a1 b1 a2 b2 a3 b3 a4 b4)) 1
      refine ⟨h1, h2, h3, ?_⟩
      rw [stepsI_nil]
      have hp0 : plainR [] := fun x hx => by simp at hx
      exact spec_of_sat Try.func12 rfl fun E hE => pnS ds p m d (Bx.mk a0 b0 a1 b1 a2 b2 a3 b3 a4 b4) hE ⟨⟨rfl, rfl⟩, (by decide), (by decide), (by decide), (by decide), hp0, trivial⟩
    · rename_i o n c a0 b0 a1 b1 a2 b2 a3 b3 a4 b4 cs
      simp only [Option.some.injEq, Prod.mk.injEq] at h
      obtain ⟨rfl, rfl, rfl⟩ := h
      obtain rfl : SI = stepsI := hob _ (by simp)
      obtain ⟨h1, h2, h3⟩ := stepsV_ok (stepsI (intsOf cs o n) [] (Bx.mk a0 b0 a1 b1 a2 b2 a3 b3 a4 b4)) 1
      refine ⟨h1, h2, h3, ?_⟩
      exact steps_specN cs o n c (Bx.mk a0 b0 a1 b1 a2 b2 a3 b3 a4 b4) (hob (IntRow .i64 cs o n) (by simp)) (hpl cs (by simp)) (hob (∀ z ∈ intsOf cs o n, I64 z) (by simp)) (hob ((Bx.mk a0 b0 a1 b1 a2 b2 a3 b3 a4 b4).Small) (by simp))
    · rename_i o n c p m d a0 b0 a1 b1 a2 b2 a3 b3 a4 b4 cs ds
      simp only [Option.some.injEq, Prod.mk.injEq] at h
      obtain ⟨rfl, rfl, rfl⟩ := h
      obtain rfl : SI = stepsI := hob _ (by simp)
      obtain ⟨h1, h2, h3⟩ := stepsV_ok (stepsI (intsOf cs o n) (intsOf ds p m) (Bx.mk a0 b0 a1 b1 a2 b2 a3 b3 a4 b4)) 2
      refine ⟨h1, h2, h3, ?_⟩
      exact steps_specS cs o n c ds p m d (Bx.mk a0 b0 a1 b1 a2 b2 a3 b3 a4 b4) (hob (IntRow .i64 cs o n) (by simp)) (hpl cs (by simp)) (hob (∀ z ∈ intsOf cs o n, I64 z) (by simp)) (hob (IntRow .i64 ds p m) (by simp)) (hpl ds (by simp)) (hob (∀ z ∈ intsOf ds p m, I64 z) (by simp)) (hob ((Bx.mk a0 b0 a1 b1 a2 b2 a3 b3 a4 b4).Small) (by simp))
    · simp at h
  · unfold steps_F at h
    split at h <;> simp at h <;> simp
noncomputable def t_steps (SI : SIT) (R : Option (List Bx)) : Sums := upd (t_sums R) 12 (some (roSum (steps_F SI)))
theorem t_steps_ok (SI : SIT) (R : Option (List Bx)) : SumsOK Try.prog (t_steps SI R) := sums_cons (t_sums_ok R) (steps_sum SI)

end Go.Proofs.Ytoeehjfblpmljaa.PrA

