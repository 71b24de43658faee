/-
  ProofCovers: whatever comes in, the call hands back true and leaves all as it was. No condition.
-/
import Derived.Test.YtoeehjfblpmljaaCvM
import Derived.Test.YtoeehjfblpmljaaOpenInts
import Derived.Test.YtoeehjfblpmljaaBitLib
set_option linter.unusedVariables false
set_option linter.unusedSimpArgs false
set_option maxRecDepth 100000
namespace Go.Proofs.Ytoeehjfblpmljaa.WkProofCovers
open Go Go.RowKit Go.Proofs.Ytoeehjfblpmljaa.Ev Go.Proofs.Ytoeehjfblpmljaa.PickE Go.Proofs.Ytoeehjfblpmljaa.BoxF Go.Proofs.Ytoeehjfblpmljaa.Within Go.Proofs.Ytoeehjfblpmljaa.PrA
theorem deepB {L : List Stp} {n : Nat} (h : 0 < deepI L) (hn : n = L.length) : Value.bool (decide (deepI (eStp.list (eStp.row L) 0 n) > 0)) = .bool true := by
  subst hn; rw [(Elt.canon0 L).2]; exact congrArg _ (decide_eq_true h)
theorem cv_facts (pl al : List Int) : Ran [bxW] (stepsI pl al bxW).2 (stepsI pl al bxW).1 bxW 0 ∧ (stepsI pl al bxW).2.length ≤ 41 ∧ (stepsI pl al bxW).2.length + 1 = 2 * (stepsI pl al bxW).1.length ∧ 0 < deepI (stepsI pl al bxW).2 ∧ sumsI bxW (stepsI pl al bxW).2 = some (stepsI pl al bxW).1 := by
  obtain ⟨S, O, hSO, R⟩ := ran1 pl al bxW smallW
  have h41 := steps_len pl al bxW
  rw [hSO] at h41 ⊢
  have h41 : S.length ≤ 41 := h41
  obtain ⟨h1, h2, h3, h4, e, e1, e2, e3, _⟩ := ran_right R (by omega)
  have := R.len
  simp at this
  exact ⟨R, h41, by simp; omega, by rw [e3]; omega, h4⟩
theorem cv_pt (zl : List Int) (w : Int) : (0 ≤ wI zl 0 0 9 ∧ wI zl 0 0 9 ≤ 9) ∧ (-3 ≤ wI zl 1 (-3) 4 ∧ wI zl 1 (-3) 4 ≤ 4) ∧ (0 ≤ wI zl 2 0 0 ∧ wI zl 2 0 0 ≤ 0) ∧ (0 ≤ wI zl 3 0 0 ∧ wI zl 3 0 0 ≤ 0) ∧ (0 ≤ withinS w 0 9 ∧ withinS w 0 9 ≤ 9) :=
  ⟨within_range (pickI zl 0) (show (0 : Int) ≤ maxI 0 9 by decide), within_range (pickI zl 1) (show (-3 : Int) ≤ maxI (-3) 4 by decide), within_range (pickI zl 2) (show (0 : Int) ≤ maxI 0 0 by decide), within_range (pickI zl 3) (show (0 : Int) ≤ maxI 0 0 by decide), within_range w (show (0 : Int) ≤ 9 by decide)⟩
theorem cv_spec {w : Int} (iw : I64 w) {v0 v1 v2 : Value} {r0 r1 r2 : Option (List Value)} (g0 : CanAt eInt I64 0 v0 r0) (g1 : CanAt eInt I64 1 v1 r1) (g2 : CanAt eInt I64 2 v2 r2) :
    CallSpec Try.prog 7 [.agg ⟨[v0, v1]⟩, v2, .int .i64 w] (rowsL [r0, r1, r2]) 3 (.bool true) (assocN [] []) := by
  refine spec_of_sat Try.func7 rfl fun E hE => ?_
  have rnrB : ∀ (f : Nat → Nat) (l : List Bx), Blk.rnB f (.vec (eBox.row l) 31 10) = .vec (eBox.row l) 31 10 := fun f l => Blk.plain.rnB (b := .vec (eBox.row l) 31 10) (Elt.row_pl _) f
  have hbx : (Bx.mk 0 9 (-3) 4 0 0 0 0 0 9).I64s := by
    refine ⟨?_, ?_, ?_, ?_, ?_, ?_, ?_, ?_, ?_, ?_⟩ <;> exact ⟨by decide, by decide⟩
  have fin : ∀ (pl al zl : List Int) (zz : Nat × Nat), (cvL (stepsI pl al bxW).1 (wI zl 0 0 9) (wI zl 1 (-3) 4) (wI zl 2 0 0) (wI zl 3 0 0) (withinS w 0 9)).inv 0 zz → Sat E (atLp (lp Try.f7 0)) ((cvL (stepsI pl al bxW).1 (wI zl 0 0 9) (wI zl 1 (-3) 4) (wI zl 2 0 0) (wI zl 3 0 0) (withinS w 0 9)).st 0 zz) := by
    intro pl al zl zz hz
    obtain ⟨R, f1, f2, _, _⟩ := cv_facts pl al
    obtain ⟨q1, q2, q3⟩ := cv_plain R (cv_pt zl w)
    exact cv_loop q1 q2 q3 (by omega) hE zz hz
  rcases g0 with ⟨rfl, rfl⟩ | ⟨l0, c0, rfl, rfl, hlc0, hcm0, hg0⟩
  · rcases g1 with ⟨rfl, rfl⟩ | ⟨l1, c1, rfl, rfl, hlc1, hcm1, hg1⟩
    · rcases g2 with ⟨rfl, rfl⟩ | ⟨l2, c2, rfl, rfl, hlc2, hcm2, hg2⟩
      · obtain ⟨R, f1, f2, hdeep, hsum⟩ := cv_facts [] []
        have hm : ((stepsI [] [] bxW).2.length : Int) + 1 = 2 * ((stepsI [] [] bxW).1.length : Int) := by omega
        exact cvNNN stepsI (stepsI [] [] bxW).1 w  (wI [] 0 0 9) (wI [] 1 (-3) 4) (wI [] 2 0 0) (wI [] 3 0 0) (withinS w 0 9) (2 * ((stepsI [] [] bxW).1.length : Int)) ((stepsI [] [] bxW).1.length : Int) ((stepsI [] [] bxW).2.length : Int) hE (cvL_ok _ _ _ _ _ _) ⟨rfl, ⟨(0, 0), ⟨Nat.zero_le _, by simp, Nat.le_refl _⟩, trivial, rfl, by simp [cvL, rnrB]; exact ⟨rfl, rfl⟩⟩, rfl, iw, (by decide), (by decide), (by decide), rfl, (fun x hx => by simp at hx), (by decide), (deepB hdeep rfl), (plain1 (Elt.row_pl _)), (rowN rfl), (congrArg _ (bne_self_eq_false _)), (i64_id hm (by omega) (by omega)), rfl, (i64_id rfl (by omega) (by omega)), rfl, (congrArg _ (decide_eq_true rfl)), (plain2 (Elt.row_pl _) (Elt.row_pl _)), (rowN rfl), (rowN rfl), (by omega), (plain1 (Elt.row_pl _)), (rowN rfl), hbx, (sumL hsum rfl), (fun x hx => by simp at hx), rfl, trivial⟩ fun zz hz _ => fin [] [] [] zz hz
      · obtain ⟨hr2, hw2⟩ := int_row hg2
        obtain ⟨R, f1, f2, hdeep, hsum⟩ := cv_facts [] []
        have hm : ((stepsI [] [] bxW).2.length : Int) + 1 = 2 * ((stepsI [] [] bxW).1.length : Int) := by omega
        exact cvNNS stepsI (stepsI [] [] bxW).1 w (eInt.row l2) 0 l2.length c2 (wI (intsOf (eInt.row l2) 0 l2.length) 0 0 9) (wI (intsOf (eInt.row l2) 0 l2.length) 1 (-3) 4) (wI (intsOf (eInt.row l2) 0 l2.length) 2 0 0) (wI (intsOf (eInt.row l2) 0 l2.length) 3 0 0) (withinS w 0 9) (2 * ((stepsI [] [] bxW).1.length : Int)) ((stepsI [] [] bxW).1.length : Int) ((stepsI [] [] bxW).2.length : Int) hE (cvL_ok _ _ _ _ _ _) ⟨rfl, ⟨(0, 0), ⟨Nat.zero_le _, by simp, Nat.le_refl _⟩, trivial, rfl, by simp [cvL, rnrB]; exact ⟨rfl, rfl⟩⟩, rfl, iw, (by decide), (by decide), (by decide), rfl, (plain1 (Elt.row_pl _)), hr2, hw2, (by decide), (deepB hdeep rfl), (plain1 (Elt.row_pl _)), (rowN rfl), (congrArg _ (bne_self_eq_false _)), (i64_id hm (by omega) (by omega)), rfl, (i64_id rfl (by omega) (by omega)), rfl, (congrArg _ (decide_eq_true rfl)), (plain2 (Elt.row_pl _) (Elt.row_pl _)), (rowN rfl), (rowN rfl), (by omega), (plain1 (Elt.row_pl _)), (rowN rfl), hbx, (sumL hsum rfl), (fun x hx => by simp at hx), rfl, trivial⟩ fun zz hz _ => fin [] [] (intsOf (eInt.row l2) 0 l2.length) zz hz
    · rcases g2 with ⟨rfl, rfl⟩ | ⟨l2, c2, rfl, rfl, hlc2, hcm2, hg2⟩
      · obtain ⟨hr1, hw1⟩ := int_row hg1
        obtain ⟨R, f1, f2, hdeep, hsum⟩ := cv_facts [] (intsOf (eInt.row l1) 0 l1.length)
        have hm : ((stepsI [] (intsOf (eInt.row l1) 0 l1.length) bxW).2.length : Int) + 1 = 2 * ((stepsI [] (intsOf (eInt.row l1) 0 l1.length) bxW).1.length : Int) := by omega
        exact cvNSN stepsI (stepsI [] (intsOf (eInt.row l1) 0 l1.length) bxW).1 w (eInt.row l1) 0 l1.length c1 (wI [] 0 0 9) (wI [] 1 (-3) 4) (wI [] 2 0 0) (wI [] 3 0 0) (withinS w 0 9) (2 * ((stepsI [] (intsOf (eInt.row l1) 0 l1.length) bxW).1.length : Int)) ((stepsI [] (intsOf (eInt.row l1) 0 l1.length) bxW).1.length : Int) ((stepsI [] (intsOf (eInt.row l1) 0 l1.length) bxW).2.length : Int) hE (cvL_ok _ _ _ _ _ _) ⟨rfl, ⟨(0, 0), ⟨Nat.zero_le _, by simp, Nat.le_refl _⟩, trivial, rfl, by simp [cvL, rnrB]; exact ⟨rfl, rfl⟩⟩, rfl, iw, (by decide), (by decide), (by decide), rfl, (fun x hx => by simp at hx), (by decide), (deepB hdeep rfl), (plain1 (Elt.row_pl _)), (rowN rfl), (congrArg _ (bne_self_eq_false _)), (i64_id hm (by omega) (by omega)), rfl, (i64_id rfl (by omega) (by omega)), rfl, (congrArg _ (decide_eq_true rfl)), (plain2 (Elt.row_pl _) (Elt.row_pl _)), (rowN rfl), (rowN rfl), (by omega), (plain1 (Elt.row_pl _)), (rowN rfl), hbx, (sumL hsum rfl), (plain1 (Elt.row_pl _)), rfl, trivial⟩ fun zz hz _ => fin [] (intsOf (eInt.row l1) 0 l1.length) [] zz hz
      · obtain ⟨hr1, hw1⟩ := int_row hg1
        obtain ⟨hr2, hw2⟩ := int_row hg2
        obtain ⟨R, f1, f2, hdeep, hsum⟩ := cv_facts [] (intsOf (eInt.row l1) 0 l1.length)
        have hm : ((stepsI [] (intsOf (eInt.row l1) 0 l1.length) bxW).2.length : Int) + 1 = 2 * ((stepsI [] (intsOf (eInt.row l1) 0 l1.length) bxW).1.length : Int) := by omega
        exact cvNSS stepsI (stepsI [] (intsOf (eInt.row l1) 0 l1.length) bxW).1 w (eInt.row l1) 0 l1.length c1 (eInt.row l2) 0 l2.length c2 (wI (intsOf (eInt.row l2) 0 l2.length) 0 0 9) (wI (intsOf (eInt.row l2) 0 l2.length) 1 (-3) 4) (wI (intsOf (eInt.row l2) 0 l2.length) 2 0 0) (wI (intsOf (eInt.row l2) 0 l2.length) 3 0 0) (withinS w 0 9) (2 * ((stepsI [] (intsOf (eInt.row l1) 0 l1.length) bxW).1.length : Int)) ((stepsI [] (intsOf (eInt.row l1) 0 l1.length) bxW).1.length : Int) ((stepsI [] (intsOf (eInt.row l1) 0 l1.length) bxW).2.length : Int) hE (cvL_ok _ _ _ _ _ _) ⟨rfl, ⟨(0, 0), ⟨Nat.zero_le _, by simp, Nat.le_refl _⟩, trivial, rfl, by simp [cvL, rnrB]; exact ⟨rfl, rfl⟩⟩, rfl, iw, (by decide), (by decide), (by decide), rfl, (plain1 (Elt.row_pl _)), hr2, hw2, (by decide), (deepB hdeep rfl), (plain1 (Elt.row_pl _)), (rowN rfl), (congrArg _ (bne_self_eq_false _)), (i64_id hm (by omega) (by omega)), rfl, (i64_id rfl (by omega) (by omega)), rfl, (congrArg _ (decide_eq_true rfl)), (plain2 (Elt.row_pl _) (Elt.row_pl _)), (rowN rfl), (rowN rfl), (by omega), (plain1 (Elt.row_pl _)), (rowN rfl), hbx, (sumL hsum rfl), (plain1 (Elt.row_pl _)), rfl, trivial⟩ fun zz hz _ => fin [] (intsOf (eInt.row l1) 0 l1.length) (intsOf (eInt.row l2) 0 l2.length) zz hz
  · rcases g1 with ⟨rfl, rfl⟩ | ⟨l1, c1, rfl, rfl, hlc1, hcm1, hg1⟩
    · rcases g2 with ⟨rfl, rfl⟩ | ⟨l2, c2, rfl, rfl, hlc2, hcm2, hg2⟩
      · obtain ⟨hr0, hw0⟩ := int_row hg0
        obtain ⟨R, f1, f2, hdeep, hsum⟩ := cv_facts (intsOf (eInt.row l0) 0 l0.length) []
        have hm : ((stepsI (intsOf (eInt.row l0) 0 l0.length) [] bxW).2.length : Int) + 1 = 2 * ((stepsI (intsOf (eInt.row l0) 0 l0.length) [] bxW).1.length : Int) := by omega
        exact cvSNN stepsI (stepsI (intsOf (eInt.row l0) 0 l0.length) [] bxW).1 w (eInt.row l0) 0 l0.length c0 (wI [] 0 0 9) (wI [] 1 (-3) 4) (wI [] 2 0 0) (wI [] 3 0 0) (withinS w 0 9) (2 * ((stepsI (intsOf (eInt.row l0) 0 l0.length) [] bxW).1.length : Int)) ((stepsI (intsOf (eInt.row l0) 0 l0.length) [] bxW).1.length : Int) ((stepsI (intsOf (eInt.row l0) 0 l0.length) [] bxW).2.length : Int) hE (cvL_ok _ _ _ _ _ _) ⟨rfl, ⟨(0, 0), ⟨Nat.zero_le _, by simp, Nat.le_refl _⟩, trivial, rfl, by simp [cvL, rnrB]; exact ⟨rfl, rfl⟩⟩, rfl, iw, (by decide), (by decide), (by decide), rfl, (fun x hx => by simp at hx), (by decide), (deepB hdeep rfl), (plain1 (Elt.row_pl _)), (rowN rfl), (congrArg _ (bne_self_eq_false _)), (i64_id hm (by omega) (by omega)), rfl, (i64_id rfl (by omega) (by omega)), rfl, (congrArg _ (decide_eq_true rfl)), (plain2 (Elt.row_pl _) (Elt.row_pl _)), (rowN rfl), (rowN rfl), (by omega), (plain1 (Elt.row_pl _)), (rowN rfl), hbx, (sumL hsum rfl), (plain1 (Elt.row_pl _)), hr0, hw0, smallW, rfl, trivial⟩ fun zz hz _ => fin (intsOf (eInt.row l0) 0 l0.length) [] [] zz hz
      · obtain ⟨hr0, hw0⟩ := int_row hg0
        obtain ⟨hr2, hw2⟩ := int_row hg2
        obtain ⟨R, f1, f2, hdeep, hsum⟩ := cv_facts (intsOf (eInt.row l0) 0 l0.length) []
        have hm : ((stepsI (intsOf (eInt.row l0) 0 l0.length) [] bxW).2.length : Int) + 1 = 2 * ((stepsI (intsOf (eInt.row l0) 0 l0.length) [] bxW).1.length : Int) := by omega
        exact cvSNS stepsI (stepsI (intsOf (eInt.row l0) 0 l0.length) [] bxW).1 w (eInt.row l0) 0 l0.length c0 (eInt.row l2) 0 l2.length c2 (wI (intsOf (eInt.row l2) 0 l2.length) 0 0 9) (wI (intsOf (eInt.row l2) 0 l2.length) 1 (-3) 4) (wI (intsOf (eInt.row l2) 0 l2.length) 2 0 0) (wI (intsOf (eInt.row l2) 0 l2.length) 3 0 0) (withinS w 0 9) (2 * ((stepsI (intsOf (eInt.row l0) 0 l0.length) [] bxW).1.length : Int)) ((stepsI (intsOf (eInt.row l0) 0 l0.length) [] bxW).1.length : Int) ((stepsI (intsOf (eInt.row l0) 0 l0.length) [] bxW).2.length : Int) hE (cvL_ok _ _ _ _ _ _) ⟨rfl, ⟨(0, 0), ⟨Nat.zero_le _, by simp, Nat.le_refl _⟩, trivial, rfl, by simp [cvL, rnrB]; exact ⟨rfl, rfl⟩⟩, rfl, iw, (by decide), (by decide), (by decide), rfl, (plain1 (Elt.row_pl _)), hr2, hw2, (by decide), (deepB hdeep rfl), (plain1 (Elt.row_pl _)), (rowN rfl), (congrArg _ (bne_self_eq_false _)), (i64_id hm (by omega) (by omega)), rfl, (i64_id rfl (by omega) (by omega)), rfl, (congrArg _ (decide_eq_true rfl)), (plain2 (Elt.row_pl _) (Elt.row_pl _)), (rowN rfl), (rowN rfl), (by omega), (plain1 (Elt.row_pl _)), (rowN rfl), hbx, (sumL hsum rfl), (plain1 (Elt.row_pl _)), hr0, hw0, smallW, rfl, trivial⟩ fun zz hz _ => fin (intsOf (eInt.row l0) 0 l0.length) [] (intsOf (eInt.row l2) 0 l2.length) zz hz
    · rcases g2 with ⟨rfl, rfl⟩ | ⟨l2, c2, rfl, rfl, hlc2, hcm2, hg2⟩
      · obtain ⟨hr0, hw0⟩ := int_row hg0
        obtain ⟨hr1, hw1⟩ := int_row hg1
        obtain ⟨R, f1, f2, hdeep, hsum⟩ := cv_facts (intsOf (eInt.row l0) 0 l0.length) (intsOf (eInt.row l1) 0 l1.length)
        have hm : ((stepsI (intsOf (eInt.row l0) 0 l0.length) (intsOf (eInt.row l1) 0 l1.length) bxW).2.length : Int) + 1 = 2 * ((stepsI (intsOf (eInt.row l0) 0 l0.length) (intsOf (eInt.row l1) 0 l1.length) bxW).1.length : Int) := by omega
        exact cvSSN stepsI (stepsI (intsOf (eInt.row l0) 0 l0.length) (intsOf (eInt.row l1) 0 l1.length) bxW).1 w (eInt.row l0) 0 l0.length c0 (eInt.row l1) 0 l1.length c1 (wI [] 0 0 9) (wI [] 1 (-3) 4) (wI [] 2 0 0) (wI [] 3 0 0) (withinS w 0 9) (2 * ((stepsI (intsOf (eInt.row l0) 0 l0.length) (intsOf (eInt.row l1) 0 l1.length) bxW).1.length : Int)) ((stepsI (intsOf (eInt.row l0) 0 l0.length) (intsOf (eInt.row l1) 0 l1.length) bxW).1.length : Int) ((stepsI (intsOf (eInt.row l0) 0 l0.length) (intsOf (eInt.row l1) 0 l1.length) bxW).2.length : Int) hE (cvL_ok _ _ _ _ _ _) ⟨rfl, ⟨(0, 0), ⟨Nat.zero_le _, by simp, Nat.le_refl _⟩, trivial, rfl, by simp [cvL, rnrB]; exact ⟨rfl, rfl⟩⟩, rfl, iw, (by decide), (by decide), (by decide), rfl, (fun x hx => by simp at hx), (by decide), (deepB hdeep rfl), (plain1 (Elt.row_pl _)), (rowN rfl), (congrArg _ (bne_self_eq_false _)), (i64_id hm (by omega) (by omega)), rfl, (i64_id rfl (by omega) (by omega)), rfl, (congrArg _ (decide_eq_true rfl)), (plain2 (Elt.row_pl _) (Elt.row_pl _)), (rowN rfl), (rowN rfl), (by omega), (plain1 (Elt.row_pl _)), (rowN rfl), hbx, (sumL hsum rfl), (plain2 (Elt.row_pl _) (Elt.row_pl _)), hr0, hw0, hr1, hw1, smallW, rfl, trivial⟩ fun zz hz _ => fin (intsOf (eInt.row l0) 0 l0.length) (intsOf (eInt.row l1) 0 l1.length) [] zz hz
      · obtain ⟨hr0, hw0⟩ := int_row hg0
        obtain ⟨hr1, hw1⟩ := int_row hg1
        obtain ⟨hr2, hw2⟩ := int_row hg2
        obtain ⟨R, f1, f2, hdeep, hsum⟩ := cv_facts (intsOf (eInt.row l0) 0 l0.length) (intsOf (eInt.row l1) 0 l1.length)
        have hm : ((stepsI (intsOf (eInt.row l0) 0 l0.length) (intsOf (eInt.row l1) 0 l1.length) bxW).2.length : Int) + 1 = 2 * ((stepsI (intsOf (eInt.row l0) 0 l0.length) (intsOf (eInt.row l1) 0 l1.length) bxW).1.length : Int) := by omega
        exact cvSSS stepsI (stepsI (intsOf (eInt.row l0) 0 l0.length) (intsOf (eInt.row l1) 0 l1.length) bxW).1 w (eInt.row l0) 0 l0.length c0 (eInt.row l1) 0 l1.length c1 (eInt.row l2) 0 l2.length c2 (wI (intsOf (eInt.row l2) 0 l2.length) 0 0 9) (wI (intsOf (eInt.row l2) 0 l2.length) 1 (-3) 4) (wI (intsOf (eInt.row l2) 0 l2.length) 2 0 0) (wI (intsOf (eInt.row l2) 0 l2.length) 3 0 0) (withinS w 0 9) (2 * ((stepsI (intsOf (eInt.row l0) 0 l0.length) (intsOf (eInt.row l1) 0 l1.length) bxW).1.length : Int)) ((stepsI (intsOf (eInt.row l0) 0 l0.length) (intsOf (eInt.row l1) 0 l1.length) bxW).1.length : Int) ((stepsI (intsOf (eInt.row l0) 0 l0.length) (intsOf (eInt.row l1) 0 l1.length) bxW).2.length : Int) hE (cvL_ok _ _ _ _ _ _) ⟨rfl, ⟨(0, 0), ⟨Nat.zero_le _, by simp, Nat.le_refl _⟩, trivial, rfl, by simp [cvL, rnrB]; exact ⟨rfl, rfl⟩⟩, rfl, iw, (by decide), (by decide), (by decide), rfl, (plain1 (Elt.row_pl _)), hr2, hw2, (by decide), (deepB hdeep rfl), (plain1 (Elt.row_pl _)), (rowN rfl), (congrArg _ (bne_self_eq_false _)), (i64_id hm (by omega) (by omega)), rfl, (i64_id rfl (by omega) (by omega)), rfl, (congrArg _ (decide_eq_true rfl)), (plain2 (Elt.row_pl _) (Elt.row_pl _)), (rowN rfl), (rowN rfl), (by omega), (plain1 (Elt.row_pl _)), (rowN rfl), hbx, (sumL hsum rfl), (plain2 (Elt.row_pl _) (Elt.row_pl _)), hr0, hw0, hr1, hw1, smallW, rfl, trivial⟩ fun zz hz _ => fin (intsOf (eInt.row l0) 0 l0.length) (intsOf (eInt.row l1) 0 l1.length) (intsOf (eInt.row l2) 0 l2.length) zz hz
theorem walk (W : World) (p0 a0 : Value) (op0 : Opened W eInt I64 p0) (oa0 : Opened W eInt I64 a0) (v1 : Value) (ov1 : Opened W eInt I64 v1) (tw : Int) (w2 : (Lit.int .i64 tw).wf = true) :
    Calls Try.prog 7 #[.agg #[p0, a0], v1, .int .i64 tw] W fun e w' => e = .returned (.bool true) ∧ Below W.heap.size W w' := by
  obtain ⟨u0, r0, ad0, c0, e0, n0, q0⟩ := op0.can 0
  obtain ⟨u1, r1, ad1, c1, e1, n1, q1⟩ := oa0.can 1
  obtain ⟨u2, r2, ad2, c2, e2, n2, q2⟩ := ov1.can 2
  have hspec := cv_spec (BitLib.wf_i64 w2) c0 c1 c2
  have := calls_rows hspec rfl (Nat.le_refl 3)
    (fun u hu j hj => by
      simp at hu
      rcases hu with rfl | rfl | rfl
      · simp [nms, nm1, nmL] at hj
        rcases hj with hj | hj
        · have := c0.nm0 j hj; omega
        · have := c1.nm0 j hj; omega
      · have := c2.nms j hj; omega
      · simp [nms, nm1, nm0] at hj)
    (W := W) (l := [ad0, ad1, ad2]) (fun j r ad hr ha => by
      match j with
      | 0 => simp at hr ha; subst hr; subst ha; exact q0
      | 1 => simp at hr ha; subst hr; subst ha; exact q1
      | 2 => simp at hr ha; subst hr; subst ha; exact q2
      | j + 3 => simp at hr) (Nat.le_refl 3)
  have hmap : ([.agg ⟨[u0, u1]⟩, u2, .int .i64 tw].map (ren (Nm.at [ad0, ad1, ad2]))).toArray = #[.agg #[p0, a0], v1, .int .i64 tw] := by
    have g0 := e0 [ad0, ad1, ad2] rfl
    have g1 := e1 [ad0, ad1, ad2] rfl
    have g2 := e2 [ad0, ad1, ad2] rfl
    simp only [List.map_cons, List.map_nil]
    rw [c2.ren, g2]
    simp only [ren_agg, List.map_toArray, List.map_cons, List.map_nil, g0, g1]
    rfl
  rw [hmap] at this
  exact this
end Go.Proofs.Ytoeehjfblpmljaa.WkProofCovers

