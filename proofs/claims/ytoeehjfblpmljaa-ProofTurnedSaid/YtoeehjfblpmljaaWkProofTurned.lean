/-
  ProofTurned: whatever comes in, the call hands back true and leaves all as it was. No condition.
-/
import Derived.Test.YtoeehjfblpmljaaTuC
import Derived.Test.YtoeehjfblpmljaaOpenStep
import Derived.Test.YtoeehjfblpmljaaBitLib
set_option linter.unusedVariables false
set_option linter.unusedSimpArgs false
set_option maxRecDepth 100000
namespace Go.Proofs.Ytoeehjfblpmljaa.WkProofTurned
open Go Go.RowKit Go.Proofs.Ytoeehjfblpmljaa.Ev Go.Proofs.Ytoeehjfblpmljaa.PickE Go.Proofs.Ytoeehjfblpmljaa.BoxF Go.Proofs.Ytoeehjfblpmljaa.Within Go.Proofs.Ytoeehjfblpmljaa.PrA
theorem smallW : (Bx.mk 0 9 (-3) 4 0 0 0 0 0 9).Small := by
  intro k h0 h5
  rcases five h0 h5 with rfl | rfl | rfl | rfl | rfl <;> decide
theorem tu_spec {w a : Int} (iw : I64 w) (ia : I64 a) {u1 u2 : Value} {r1 r2 : Option (List Value)} (h1 : CanAt eInt I64 1 u1 r1) (h2 : CanAt eInt I64 2 u2 r2) : CallSpec Try.prog 5 [.agg ⟨[u1, u2]⟩, .int .i64 w, .int .i64 a] (rowsL [none, r1, r2]) 3 (.bool true) (assocN [] []) := by
  refine spec_of_sat Try.func5 rfl fun E hE => ?_
  have rnr : ∀ (f : Nat → Nat) (l : List Stp), Blk.rnB f (.vec (eStp.row l) 23 3) = .vec (eStp.row l) 23 3 := fun f l => Blk.plain.rnB (b := .vec (eStp.row l) 23 3) (Elt.row_pl _) f
  have fin : ∀ (pl al : List Int) (zz : Unit), Sat E (fromR Try.f5 3) ((tuL w a (stepsI pl al bxW).2).st 0 zz) := by
    intro pl al zz
    obtain ⟨S, O, hSO, R⟩ := ran1 pl al bxW smallW
    have h41 := steps_len pl al bxW
    rw [hSO] at h41 ⊢
    have h41 : S.length ≤ 41 := h41
    obtain ⟨h1, h2, h3, h4, e, e1, e2, e3, _⟩ := ran_right R (by omega)
    exact tu_fin iw ia h41 h2 h1 (by rw [e3]; omega) hE
  rcases h1 with ⟨rfl, rfl⟩ | ⟨l1, c1, rfl, rfl, hlc1, hcm1, hg1⟩
  · rcases h2 with ⟨rfl, rfl⟩ | ⟨l2, c2, rfl, rfl, hlc2, hcm2, hg2⟩
    · skip
      skip
      have hpR : plainR [] := by
        intro x hx y hy
        simp at hx
        skip
      exact tuNN stepsI w a   hE (tuL_ok _ _ _) ⟨rfl, ⟨(), trivial, trivial, rfl, by simp [tuL, rnr]; rfl⟩, hpR, rfl, trivial⟩ fun zz _ _ => fin [] [] zz
    · skip
      obtain ⟨hr2, hw2⟩ := int_row hg2
      have hpR : plainR [eInt.row l2] := by
        intro x hx y hy
        simp at hx
        subst hx; exact Elt.row_pl _ y hy
      exact tuNS stepsI w a  (eInt.row l2) 0 l2.length c2 hE (tuL_ok _ _ _) ⟨rfl, ⟨(), trivial, trivial, rfl, by simp [tuL, rnr]; rfl⟩, hpR, rfl, trivial⟩ fun zz _ _ => fin [] (intsOf (eInt.row l2) 0 l2.length) zz
  · rcases h2 with ⟨rfl, rfl⟩ | ⟨l2, c2, rfl, rfl, hlc2, hcm2, hg2⟩
    · obtain ⟨hr1, hw1⟩ := int_row hg1
      skip
      have hpR : plainR [eInt.row l1] := by
        intro x hx y hy
        simp at hx
        subst hx; exact Elt.row_pl _ y hy
      exact tuSN stepsI w a (eInt.row l1) 0 l1.length c1  hE (tuL_ok _ _ _) ⟨rfl, ⟨(), trivial, trivial, rfl, by simp [tuL, rnr]; rfl⟩, hpR, hr1, hw1, smallW, rfl, trivial⟩ fun zz _ _ => fin (intsOf (eInt.row l1) 0 l1.length) [] zz
    · obtain ⟨hr1, hw1⟩ := int_row hg1
      obtain ⟨hr2, hw2⟩ := int_row hg2
      have hpR : plainR [eInt.row l1, eInt.row l2] := by
        intro x hx y hy
        simp at hx
        rcases hx with rfl | rfl <;> exact Elt.row_pl _ y hy
      exact tuSS stepsI w a (eInt.row l1) 0 l1.length c1 (eInt.row l2) 0 l2.length c2 hE (tuL_ok _ _ _) ⟨rfl, ⟨(), trivial, trivial, rfl, by simp [tuL, rnr]; rfl⟩, hpR, hr1, hw1, hr2, hw2, smallW, rfl, trivial⟩ fun zz _ _ => fin (intsOf (eInt.row l1) 0 l1.length) (intsOf (eInt.row l2) 0 l2.length) zz
theorem walk (W : World) (p a : Value) (op : Opened W eInt I64 p) (oa : Opened W eInt I64 a) (wh : Int) (w1 : (Lit.int .i64 wh).wf = true) (at_ : Int) (w2 : (Lit.int .i64 at_).wf = true) :
    Calls Try.prog 5 #[.agg #[p, a], .int .i64 wh, .int .i64 at_] W fun e w' => e = .returned (.bool true) ∧ Below W.heap.size W w' := by
  obtain ⟨u1, r1, ad1, c1, e1, n1, q1⟩ := op.can 1
  obtain ⟨u2, r2, ad2, c2, e2, n2, q2⟩ := oa.can 2
  have hspec := tu_spec (BitLib.wf_i64 w1) (BitLib.wf_i64 w2) c1 c2
  have := calls_rows hspec rfl (Nat.le_refl 3)
    (fun u hu j hj => by
      simp at hu
      rcases hu with rfl | rfl | rfl
      · simp [nms, nm1, nmL] at hj
        rcases hj with hj | hj
        · have := c1.nm0 j hj; omega
        · have := c2.nm0 j hj; omega
      · simp [nms, nm1, nm0] at hj
      · simp [nms, nm1, nm0] at hj)
    (W := W) (l := [ad1, ad1, ad2]) (fun j r ad hr ha => by
      match j with
      | 0 => simp at hr; subst hr; exact canQ_none W _ _
      | 1 => simp at hr ha; subst hr; subst ha; exact q1
      | 2 => simp at hr ha; subst hr; subst ha; exact q2
      | j + 3 => simp at hr) (Nat.le_refl 3)
  have hmap : ([.agg ⟨[u1, u2]⟩, .int .i64 wh, .int .i64 at_].map (ren (Nm.at [ad1, ad1, ad2]))).toArray = #[.agg #[p, a], .int .i64 wh, .int .i64 at_] := by
    have g1 := e1 [ad1, ad1, ad2] rfl
    have g2 := e2 [ad1, ad1, ad2] rfl
    simp only [List.map_cons, List.map_nil]
    simp only [ren_agg, List.map_toArray, List.map_cons, List.map_nil, g1, g2]
    rfl
  rw [hmap] at this
  exact this
end Go.Proofs.Ytoeehjfblpmljaa.WkProofTurned

