/-
  ProofTells: whatever comes in, the call hands back true and leaves all as it was. No condition.
-/
import Derived.Test.YtoeehjfblpmljaaTlC
import Derived.Test.YtoeehjfblpmljaaOpenStep
import Derived.Test.YtoeehjfblpmljaaOpenCan
set_option linter.unusedVariables false
set_option linter.unusedSimpArgs false
set_option maxRecDepth 100000
namespace Go.Proofs.Ytoeehjfblpmljaa.WkProofTells
open Go Go.RowKit Go.Proofs.Ytoeehjfblpmljaa.Ev Go.Proofs.Ytoeehjfblpmljaa.PickE Go.Proofs.Ytoeehjfblpmljaa.BoxF Go.Proofs.Ytoeehjfblpmljaa.Within Go.Proofs.Ytoeehjfblpmljaa.PrA
theorem tl_specF {u0 u1 u2 : Value} {r0 r1 r2 : Option (List Value)} (h0 : CanAt eStp goodStp 0 u0 r0) : CallSpec Try.prog 4 [u0, .agg ⟨[u1, u2]⟩, .bool false] (rows3 r0 r1 r2) 3 (.bool true) (assocN [] []) := by
  refine spec_of_sat Try.func4 rfl fun E hE => ?_
  rcases h0 with ⟨rfl, rfl⟩ | ⟨L, cap, rfl, rfl, hlc, hcm, hg⟩
  · have hpR : plainR [] := fun x hx => by simp at hx
    exact tlNF u1 u2 r1 r2 hE ⟨⟨rfl, rfl⟩, hpR, hpR, hpR, trivial⟩
  · have hm60 : min L.length 60 ≤ L.length := Nat.min_le_left _ _
    have hsl := slOK_ro (size := 3) (k := 0) (off := 0) (n := L.length) (c := cap) (h := min L.length 60) (b := some (.ro (eStp.row L))) hm60 hlc hcm
    have hmin : Value.int .i64 (minI (L.length : Int) 60) = .int .i64 ((min L.length 60 : Nat) : Int) := congrArg _ (by rw [minI_eq]; omega)
    obtain ⟨t1, t2⟩ := (Elt.canon0 (e := eStp) L).1.take hm60
    have hrow := t1
    refine tlSF (eStp.row L) 0 L.length cap (min L.length 60) u1 u2 r1 r2 hE (tlL_ok _ _ _ _ _ (Elt.row_pl _)) ⟨rfl, ⟨⟨0, 1, 1, _⟩, ?_, trivial, rfl, ?_⟩, hsl, hmin, trivial⟩ fun zz hz _ => tl_loop0 (eStp.row L) 0 (min L.length 60) cap hrow (Elt.row_pl _) (by omega) hE zz hz
    · have hl : (eStp.list (eStp.row L) 0 (min L.length 60)).length = min L.length 60 := Elt.list_len _ _ _
      simp only [tlL]
      refine ⟨Nat.zero_le _, ?_, by decide, by decide, by decide, by decide⟩
      rw [List.drop_zero, hl]
      congr 1
      rw [Bool.eq_iff_iff]
      simp only [decide_eq_true_eq]
      omega
    · simp [tlL, Blk.plain.rnB (b := .ro (eStp.row L)) (Elt.row_pl _)]
theorem tl_specT {u0 u1 u2 : Value} {r0 r1 r2 : Option (List Value)} (h0 : CanAt eStp goodStp 0 u0 r0) (h1 : CanAt eInt I64 1 u1 r1) (h2 : CanAt eInt I64 2 u2 r2) : CallSpec Try.prog 4 [u0, .agg ⟨[u1, u2]⟩, .bool true] (rows3 r0 r1 r2) 3 (.bool true) (assocN [] []) := by
  refine spec_of_sat Try.func4 rfl fun E hE => ?_
  have fin : ∀ (pl al : List Int) (st : List Stp), st = (stepsI pl al (Bx.mk 0 9 0 9 0 0 0 0 0 0)).2 → ∀ zz, (tlL [] 0 0 0 st).inv 1 zz → Sat E (atLp (lp Try.f4 0)) ((tlL [] 0 0 0 st).st 1 zz) := by
    intro pl al st hst
    refine tl_loop1 st ?_ hE
    have := stepsGo_len pl al 41 [Bx.mk 0 9 0 9 0 0 0 0 0 0] [] [] 0
    rw [hst]
    unfold stepsI
    simp at this
    omega
  have fin2 : ∀ (cs : List Value) (o m c : Nat) (pl al : List Int) (zz : LF), (tlL cs o m c (stepsI pl al (Bx.mk 0 9 0 9 0 0 0 0 0 0)).2).inv 1 zz → Sat E (atLp (lp Try.f4 0)) ((tlL cs o m c (stepsI pl al (Bx.mk 0 9 0 9 0 0 0 0 0 0)).2).st 1 zz) := fun cs o m c pl al zz hz => fin pl al _ rfl zz hz
  have first : ∀ (cs : List Value) (o m c : Nat) (st : List Stp), (tlL cs o m c st).inv 1 ⟨0, 1, 1, decide (((st.length : Nat) : Int) > 0)⟩ := by
    intro cs o m c st
    simp only [tlL]
    refine ⟨Nat.zero_le _, ?_, by decide, by decide, by decide, by decide⟩
    rw [List.drop_zero]
    congr 1
    rw [Bool.eq_iff_iff]
    simp only [decide_eq_true_eq]
    omega
  have rnr : ∀ (f : Nat → Nat) (l : List Stp), Blk.rnB f (.vec (eStp.row l) 23 3) = .vec (eStp.row l) 23 3 := fun f l => Blk.plain.rnB (b := .vec (eStp.row l) 23 3) (Elt.row_pl _) f

  rcases h0 with ⟨rfl, rfl⟩ | ⟨L, cap, rfl, rfl, hlc, hcm, hg⟩
  · rcases h1 with ⟨rfl, rfl⟩ | ⟨l1, c1, rfl, rfl, hlc1, hcm1, hg1⟩
    · rcases h2 with ⟨rfl, rfl⟩ | ⟨l2, c2, rfl, rfl, hlc2, hcm2, hg2⟩
      · skip
        skip
        have hpR : plainR [] := by
          intro x hx y hy
          simp at hx
          skip
        exact tlNNN stepsI [] 0 0 0 0   hE (tlL_ok _ _ _ _ _ (by simp)) ⟨rfl, ⟨_, first _ _ _ _ _, trivial, rfl, by simp [tlL, rnr]⟩, hpR, rfl, trivial⟩ fun zz hz _ => fin2 [] 0 0 0 [] [] zz hz
      · skip
        obtain ⟨hr2, hw2⟩ := int_row hg2
        have hpR : plainR [eInt.row l2] := by
          intro x hx y hy
          simp at hx
          subst hx; exact Elt.row_pl _ y hy
        exact tlNNS stepsI [] 0 0 0 0  (eInt.row l2) 0 l2.length c2 hE (tlL_ok _ _ _ _ _ (by simp)) ⟨rfl, ⟨_, first _ _ _ _ _, trivial, rfl, by simp [tlL, rnr]⟩, hpR, rfl, trivial⟩ fun zz hz _ => fin2 [] 0 0 0 [] (intsOf (eInt.row l2) 0 l2.length) zz hz
    · rcases h2 with ⟨rfl, rfl⟩ | ⟨l2, c2, rfl, rfl, hlc2, hcm2, hg2⟩
      · obtain ⟨hr1, hw1⟩ := int_row hg1
        skip
        have hpR : plainR [eInt.row l1] := by
          intro x hx y hy
          simp at hx
          subst hx; exact Elt.row_pl _ y hy
        exact tlNSN stepsI [] 0 0 0 0 (eInt.row l1) 0 l1.length c1  hE (tlL_ok _ _ _ _ _ (by simp)) ⟨rfl, ⟨_, first _ _ _ _ _, trivial, rfl, by simp [tlL, rnr]⟩, hpR, hr1, hw1, small09, rfl, trivial⟩ fun zz hz _ => fin2 [] 0 0 0 (intsOf (eInt.row l1) 0 l1.length) [] zz hz
      · obtain ⟨hr1, hw1⟩ := int_row hg1
        obtain ⟨hr2, hw2⟩ := int_row hg2
        have hpR : plainR [eInt.row l1, eInt.row l2] := by
          intro x hx y hy
          simp at hx
          rcases hx with rfl | rfl <;> exact Elt.row_pl _ y hy
        exact tlNSS stepsI [] 0 0 0 0 (eInt.row l1) 0 l1.length c1 (eInt.row l2) 0 l2.length c2 hE (tlL_ok _ _ _ _ _ (by simp)) ⟨rfl, ⟨_, first _ _ _ _ _, trivial, rfl, by simp [tlL, rnr]⟩, hpR, hr1, hw1, hr2, hw2, small09, rfl, trivial⟩ fun zz hz _ => fin2 [] 0 0 0 (intsOf (eInt.row l1) 0 l1.length) (intsOf (eInt.row l2) 0 l2.length) zz hz
  · have hm60 : min L.length 60 ≤ L.length := Nat.min_le_left _ _
    have hsl := slOK_ro (size := 3) (k := 0) (off := 0) (n := L.length) (c := cap) (h := min L.length 60) (b := some (.ro (eStp.row L))) hm60 hlc hcm
    have hmin : Value.int .i64 (minI (L.length : Int) 60) = .int .i64 ((min L.length 60 : Nat) : Int) := congrArg _ (by rw [minI_eq]; omega)
    rcases h1 with ⟨rfl, rfl⟩ | ⟨l1, c1, rfl, rfl, hlc1, hcm1, hg1⟩
    · rcases h2 with ⟨rfl, rfl⟩ | ⟨l2, c2, rfl, rfl, hlc2, hcm2, hg2⟩
      · skip
        skip
        have hpR : plainR [] := by
          intro x hx y hy
          simp at hx
          skip
        exact tlSNN stepsI (eStp.row L) 0 L.length cap (min L.length 60)   hE (tlL_ok _ _ _ _ _ (Elt.row_pl _)) ⟨rfl, ⟨_, first _ _ _ _ _, trivial, rfl, by simp [tlL, rnr]⟩, hpR, rfl, hsl, hmin, trivial⟩ fun zz hz _ => fin2 (eStp.row L) 0 (min L.length 60) cap [] [] zz hz
      · skip
        obtain ⟨hr2, hw2⟩ := int_row hg2
        have hpR : plainR [eInt.row l2] := by
          intro x hx y hy
          simp at hx
          subst hx; exact Elt.row_pl _ y hy
        exact tlSNS stepsI (eStp.row L) 0 L.length cap (min L.length 60)  (eInt.row l2) 0 l2.length c2 hE (tlL_ok _ _ _ _ _ (Elt.row_pl _)) ⟨rfl, ⟨_, first _ _ _ _ _, trivial, rfl, by simp [tlL, rnr]⟩, hpR, rfl, hsl, hmin, trivial⟩ fun zz hz _ => fin2 (eStp.row L) 0 (min L.length 60) cap [] (intsOf (eInt.row l2) 0 l2.length) zz hz
    · rcases h2 with ⟨rfl, rfl⟩ | ⟨l2, c2, rfl, rfl, hlc2, hcm2, hg2⟩
      · obtain ⟨hr1, hw1⟩ := int_row hg1
        skip
        have hpR : plainR [eInt.row l1] := by
          intro x hx y hy
          simp at hx
          subst hx; exact Elt.row_pl _ y hy
        exact tlSSN stepsI (eStp.row L) 0 L.length cap (min L.length 60) (eInt.row l1) 0 l1.length c1  hE (tlL_ok _ _ _ _ _ (Elt.row_pl _)) ⟨rfl, ⟨_, first _ _ _ _ _, trivial, rfl, by simp [tlL, rnr]⟩, hpR, hr1, hw1, small09, rfl, hsl, hmin, trivial⟩ fun zz hz _ => fin2 (eStp.row L) 0 (min L.length 60) cap (intsOf (eInt.row l1) 0 l1.length) [] zz hz
      · obtain ⟨hr1, hw1⟩ := int_row hg1
        obtain ⟨hr2, hw2⟩ := int_row hg2
        have hpR : plainR [eInt.row l1, eInt.row l2] := by
          intro x hx y hy
          simp at hx
          rcases hx with rfl | rfl <;> exact Elt.row_pl _ y hy
        exact tlSSS stepsI (eStp.row L) 0 L.length cap (min L.length 60) (eInt.row l1) 0 l1.length c1 (eInt.row l2) 0 l2.length c2 hE (tlL_ok _ _ _ _ _ (Elt.row_pl _)) ⟨rfl, ⟨_, first _ _ _ _ _, trivial, rfl, by simp [tlL, rnr]⟩, hpR, hr1, hw1, hr2, hw2, small09, rfl, hsl, hmin, trivial⟩ fun zz hz _ => fin2 (eStp.row L) 0 (min L.length 60) cap (intsOf (eInt.row l1) 0 l1.length) (intsOf (eInt.row l2) 0 l2.length) zz hz
theorem walk (W : World) (v0 : Value) (o0 : Opened W eStp goodStp v0) (p a : Value) (op : Opened W eInt I64 p) (oa : Opened W eInt I64 a) (own : Bool) :
    Calls Try.prog 4 #[v0, .agg #[p, a], .bool own] W fun e w' => e = .returned (.bool true) ∧ Below W.heap.size W w' := by
  obtain ⟨u0, r0, ad0, c0, e0, n0, q0⟩ := o0.can 0
  obtain ⟨u1, r1, ad1, c1, e1, n1, q1⟩ := op.can 1
  obtain ⟨u2, r2, ad2, c2, e2, n2, q2⟩ := oa.can 2
  have hspec : CallSpec Try.prog 4 [u0, .agg ⟨[u1, u2]⟩, .bool own] (rows3 r0 r1 r2) 3 (.bool true) (assocN [] []) := by
    cases own with
    | true => exact tl_specT c0 c1 c2
    | false => exact tl_specF c0
  have hrow : ∀ j cs, rows3 r0 r1 r2 j = some (.ro cs) → (j = 0 ∧ r0 = some cs) ∨ (j = 1 ∧ r1 = some cs) ∨ (j = 2 ∧ r2 = some cs) := by
    intro j cs h
    match j with
    | 0 =>
      left
      cases r0 with
      | none => simp [rows3] at h
      | some x => simp [rows3] at h; exact ⟨rfl, by rw [h]⟩
    | 1 =>
      right; left
      cases r1 with
      | none => simp [rows3] at h
      | some x => simp [rows3] at h; exact ⟨rfl, by rw [h]⟩
    | 2 =>
      right; right
      cases r2 with
      | none => simp [rows3] at h
      | some x => simp [rows3] at h; exact ⟨rfl, by rw [h]⟩
    | j + 3 => simp [rows3] at h
  have hro : ∀ j b, rows3 r0 r1 r2 j = some b → ∃ cs, b = .ro cs := by
    intro j b h
    match j with
    | 0 => simp only [rows3] at h; split at h <;> simp at h; exact ⟨_, h.symm⟩
    | 1 => simp only [rows3] at h; split at h <;> simp at h; exact ⟨_, h.symm⟩
    | 2 => simp only [rows3] at h; split at h <;> simp at h; exact ⟨_, h.symm⟩
    | j + 3 => simp [rows3] at h
  have := calls_ro hspec rfl (fun j b hb => by
      obtain ⟨cs, rfl⟩ := hro j b hb
      rcases hrow j cs hb with ⟨rfl, h⟩ | ⟨rfl, h⟩ | ⟨rfl, h⟩
      · exact ⟨by decide, cs, rfl, (q0 cs h).1⟩
      · exact ⟨by decide, cs, rfl, (q1 cs h).1⟩
      · exact ⟨by decide, cs, rfl, (q2 cs h).1⟩)
    (fun u hu j hj => by
      simp at hu
      rcases hu with rfl | rfl | rfl
      · have := n0 j hj; omega
      · simp [nms, nm1, nmL] at hj
        rcases hj with hj | hj
        · have := c1.nm0 j hj; omega
        · have := c2.nm0 j hj; omega
      · simp [nms, nm1, nm0] at hj)
    (W := W) (l := [ad0, ad1, ad2]) (fun j cs hj => by
      rcases hrow j cs hj with ⟨rfl, h⟩ | ⟨rfl, h⟩ | ⟨rfl, h⟩
      · exact (q0 cs h).2 _ rfl
      · exact (q1 cs h).2 _ rfl
      · exact (q2 cs h).2 _ rfl)
  have hmap : ([u0, .agg ⟨[u1, u2]⟩, .bool own].map (ren (Nm.at [ad0, ad1, ad2]))).toArray = #[v0, .agg #[p, a], .bool own] := by
    have g0 := e0 [ad0, ad1, ad2] rfl
    have g1 := e1 [ad0, ad1, ad2] rfl
    have g2 := e2 [ad0, ad1, ad2] rfl
    simp only [List.map_cons, List.map_nil]
    rw [c0.ren, g0]
    simp only [ren_agg, List.map_toArray, List.map_cons, List.map_nil, g1, g2]
    rfl
  rw [hmap] at this
  exact this
end Go.Proofs.Ytoeehjfblpmljaa.WkProofTells

