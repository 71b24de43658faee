/-
  ProofJoin: whatever comes in, the call hands back true and leaves all as it was. No condition.
-/
import Derived.Test.YtoeehjfblpmljaaJnC
import Derived.Test.YtoeehjfblpmljaaOpenStep
import Derived.Test.YtoeehjfblpmljaaBitLib
set_option linter.unusedVariables false
set_option linter.unusedSimpArgs false
set_option maxRecDepth 100000
namespace Go.Proofs.Ytoeehjfblpmljaa.WkProofJoin
open Go Go.RowKit Go.Proofs.Ytoeehjfblpmljaa.Ev Go.Proofs.Ytoeehjfblpmljaa.PickE Go.Proofs.Ytoeehjfblpmljaa.BoxF Go.Proofs.Ytoeehjfblpmljaa.Within Go.Proofs.Ytoeehjfblpmljaa.PrA
theorem jn_vals (w a : Int) : ∃ j k lo hi c : Int, withinS w 0 2 = j ∧ 0 ≤ j ∧ j < 3 ∧ readPart Try.prog 3 [.int .i64 0, .int .i64 1, .int .i64 4] (0 + j.toNat * 1) = some (.int .i64 k) ∧ 0 ≤ k ∧ k < 5 ∧ bxW.lo k = lo ∧ bxW.hi k = hi ∧ lo ≤ hi - 1 ∧ -3 ≤ lo ∧ hi ≤ 9 ∧ withinS a lo (hi - 1) = c ∧ lo ≤ c ∧ c ≤ hi - 1 := by
  have h := within_range w (show (0 : Int) ≤ 2 by decide)
  have hc : withinS w 0 2 = 0 ∨ withinS w 0 2 = 1 ∨ withinS w 0 2 = 2 := by omega
  have r1 := within_range a (show (0 : Int) ≤ 9 - 1 by decide)
  have r2 := within_range a (show (-3 : Int) ≤ 4 - 1 by decide)
  rcases hc with h | h | h
  · exact ⟨0, 0, 0, 9, _, h, by decide, by decide, by kernel_rfl, by decide, by decide, by decide, by decide, by decide, by decide, by decide, rfl, r1.1, r1.2⟩
  · exact ⟨1, 1, -3, 4, _, h, by decide, by decide, by kernel_rfl, by decide, by decide, by decide, by decide, by decide, by decide, by decide, rfl, r2.1, r2.2⟩
  · exact ⟨2, 4, 0, 9, _, h, by decide, by decide, by kernel_rfl, by decide, by decide, by decide, by decide, by decide, by decide, by decide, rfl, r1.1, r1.2⟩
theorem jn_spec {w a : Int} (iw : I64 w) (ia : I64 a) {v0 v1 v2 v3 : Value} {r0 r1 r2 r3 : Option (List Value)} (g0 : CanAt eInt I64 0 v0 r0) (g1 : CanAt eInt I64 1 v1 r1) (g2 : CanAt eInt I64 2 v2 r2) (g3 : CanAt eInt I64 3 v3 r3) :
    CallSpec Try.prog 6 [.agg ⟨[v0, v1]⟩, .agg ⟨[v2, v3]⟩, .int .i64 w, .int .i64 a] (rowsL [r0, r1, r2, r3]) 4 (.bool true) (assocN [] []) := by
  refine spec_of_sat Try.func6 rfl fun E hE => ?_
  have rnrS : ∀ (f : Nat → Nat) (l : List Stp), Blk.rnB f (.vec (eStp.row l) 23 3) = .vec (eStp.row l) 23 3 := fun f l => Blk.plain.rnB (b := .vec (eStp.row l) 23 3) (Elt.row_pl _) f
  have rnrB : ∀ (f : Nat → Nat) (l : List Bx), Blk.rnB f (.vec (eBox.row l) 31 10) = .vec (eBox.row l) 31 10 := fun f l => Blk.plain.rnB (b := .vec (eBox.row l) 31 10) (Elt.row_pl _) f
  obtain ⟨j, k, lo, hi, c, vj, j0, j3, rk, k0, k5, vlo, vhi, hlh, hlo, hhi, vc, hc0, hc1⟩ := jn_vals w a
  have rlo := lo_read bxW (p := k) k0 k5
  have rhi := hi_read bxW (p := k) k0 k5
  rw [vlo] at rlo
  rw [vhi] at rhi
  obtain ⟨cut1, cut2⟩ := cut_in bxW (p := k) (a := c) k0 k5 (by omega) (by omega)
  obtain ⟨sx, sy⟩ := small_set bxW (k := k) (a := c) smallW k0 k5 (by omega) (by omega)
  have fin : ∀ (pl al ql bl : List Int) (zz : Unit), Sat E (fromR Try.f6 7) ((joL k c (stepsI pl al (bxW.setHi k c)).1 (stepsI pl al (bxW.setHi k c)).2 (stepsI ql bl (bxW.setLo k (c + 1))).1 (stepsI ql bl (bxW.setLo k (c + 1))).2).st 0 zz) := by
    intro pl al ql bl zz
    obtain ⟨S, O, hSO, R⟩ := ran1 pl al (bxW.setHi k c) sx
    obtain ⟨S', O', hSO', R'⟩ := ran1 ql bl (bxW.setLo k (c + 1)) sy
    have h41 := steps_len pl al (bxW.setHi k c)
    have h41' := steps_len ql bl (bxW.setLo k (c + 1))
    rw [hSO] at h41 ⊢
    rw [hSO'] at h41' ⊢
    exact jn_fin k0 k5 (by omega) (by omega) R R' h41 h41' hE
  rcases g0 with ⟨rfl, rfl⟩ | ⟨l0, c0, rfl, rfl, hlc0, hcm0, hg0⟩
  · rcases g1 with ⟨rfl, rfl⟩ | ⟨l1, c1, rfl, rfl, hlc1, hcm1, hg1⟩
    · rcases g2 with ⟨rfl, rfl⟩ | ⟨l2, c2, rfl, rfl, hlc2, hcm2, hg2⟩
      · rcases g3 with ⟨rfl, rfl⟩ | ⟨l3, c3, rfl, rfl, hlc3, hcm3, hg3⟩
        · exact jnNNNN stepsI w a  j k lo hi c (bxW.setHi k c).a0 (bxW.setHi k c).b0 (bxW.setHi k c).a1 (bxW.setHi k c).b1 (bxW.setHi k c).a2 (bxW.setHi k c).b2 (bxW.setHi k c).a3 (bxW.setHi k c).b3 (bxW.setHi k c).a4 (bxW.setHi k c).b4 (bxW.setLo k (c + 1)).a0 (bxW.setLo k (c + 1)).b0 (bxW.setLo k (c + 1)).a1 (bxW.setLo k (c + 1)).b1 (bxW.setLo k (c + 1)).a2 (bxW.setLo k (c + 1)).b2 (bxW.setLo k (c + 1)).a3 (bxW.setLo k (c + 1)).b3 (bxW.setLo k (c + 1)).a4 (bxW.setLo k (c + 1)).b4 hE (joL_ok _ _ _ _ _ _) ⟨rfl, ⟨(), trivial, trivial, rfl, by simp [joL, rnrS, rnrB]; rfl⟩, (fun x hx => by simp at hx), rfl, (fun x hx => by simp at hx), rfl, (congrArg (fun b : Bx => Value.agg ⟨b.cs⟩) cut2), (congrArg (fun b : Bx => Value.agg ⟨b.cs⟩) cut1), ⟨by omega, by omega⟩, (by decide), (by decide), (by decide), (by decide), (by decide), (congrArg _ vc), ia, (by omega), (by omega), (by omega), (i64_id rfl (by omega) (by omega)), rhi, ⟨k0, k5⟩, rlo, ⟨k0, k5⟩, rk, ⟨j0, j3⟩, (congrArg _ vj), iw, (by decide), (by decide), (by decide), trivial⟩ fun zz _ _ => fin [] [] [] [] zz
        · obtain ⟨hr3, hw3⟩ := int_row hg3
          exact jnNNNS stepsI w a (eInt.row l3) 0 l3.length c3 j k lo hi c (bxW.setHi k c).a0 (bxW.setHi k c).b0 (bxW.setHi k c).a1 (bxW.setHi k c).b1 (bxW.setHi k c).a2 (bxW.setHi k c).b2 (bxW.setHi k c).a3 (bxW.setHi k c).b3 (bxW.setHi k c).a4 (bxW.setHi k c).b4 (bxW.setLo k (c + 1)).a0 (bxW.setLo k (c + 1)).b0 (bxW.setLo k (c + 1)).a1 (bxW.setLo k (c + 1)).b1 (bxW.setLo k (c + 1)).a2 (bxW.setLo k (c + 1)).b2 (bxW.setLo k (c + 1)).a3 (bxW.setLo k (c + 1)).b3 (bxW.setLo k (c + 1)).a4 (bxW.setLo k (c + 1)).b4 hE (joL_ok _ _ _ _ _ _) ⟨rfl, ⟨(), trivial, trivial, rfl, by simp [joL, rnrS, rnrB]; rfl⟩, (plain1 (Elt.row_pl _)), rfl, (fun x hx => by simp at hx), rfl, (congrArg (fun b : Bx => Value.agg ⟨b.cs⟩) cut2), (congrArg (fun b : Bx => Value.agg ⟨b.cs⟩) cut1), ⟨by omega, by omega⟩, (by decide), (by decide), (by decide), (by decide), (by decide), (congrArg _ vc), ia, (by omega), (by omega), (by omega), (i64_id rfl (by omega) (by omega)), rhi, ⟨k0, k5⟩, rlo, ⟨k0, k5⟩, rk, ⟨j0, j3⟩, (congrArg _ vj), iw, (by decide), (by decide), (by decide), trivial⟩ fun zz _ _ => fin [] [] [] (intsOf (eInt.row l3) 0 l3.length) zz
      · rcases g3 with ⟨rfl, rfl⟩ | ⟨l3, c3, rfl, rfl, hlc3, hcm3, hg3⟩
        · obtain ⟨hr2, hw2⟩ := int_row hg2
          exact jnNNSN stepsI w a (eInt.row l2) 0 l2.length c2 j k lo hi c (bxW.setHi k c).a0 (bxW.setHi k c).b0 (bxW.setHi k c).a1 (bxW.setHi k c).b1 (bxW.setHi k c).a2 (bxW.setHi k c).b2 (bxW.setHi k c).a3 (bxW.setHi k c).b3 (bxW.setHi k c).a4 (bxW.setHi k c).b4 (bxW.setLo k (c + 1)).a0 (bxW.setLo k (c + 1)).b0 (bxW.setLo k (c + 1)).a1 (bxW.setLo k (c + 1)).b1 (bxW.setLo k (c + 1)).a2 (bxW.setLo k (c + 1)).b2 (bxW.setLo k (c + 1)).a3 (bxW.setLo k (c + 1)).b3 (bxW.setLo k (c + 1)).a4 (bxW.setLo k (c + 1)).b4 hE (joL_ok _ _ _ _ _ _) ⟨rfl, ⟨(), trivial, trivial, rfl, by simp [joL, rnrS, rnrB]; rfl⟩, (plain1 (Elt.row_pl _)), hr2, hw2, sy, rfl, (fun x hx => by simp at hx), rfl, (congrArg (fun b : Bx => Value.agg ⟨b.cs⟩) cut2), (congrArg (fun b : Bx => Value.agg ⟨b.cs⟩) cut1), ⟨by omega, by omega⟩, (by decide), (by decide), (by decide), (by decide), (by decide), (congrArg _ vc), ia, (by omega), (by omega), (by omega), (i64_id rfl (by omega) (by omega)), rhi, ⟨k0, k5⟩, rlo, ⟨k0, k5⟩, rk, ⟨j0, j3⟩, (congrArg _ vj), iw, (by decide), (by decide), (by decide), trivial⟩ fun zz _ _ => fin [] [] (intsOf (eInt.row l2) 0 l2.length) [] zz
        · obtain ⟨hr2, hw2⟩ := int_row hg2
          obtain ⟨hr3, hw3⟩ := int_row hg3
          exact jnNNSS stepsI w a (eInt.row l2) 0 l2.length c2 (eInt.row l3) 0 l3.length c3 j k lo hi c (bxW.setHi k c).a0 (bxW.setHi k c).b0 (bxW.setHi k c).a1 (bxW.setHi k c).b1 (bxW.setHi k c).a2 (bxW.setHi k c).b2 (bxW.setHi k c).a3 (bxW.setHi k c).b3 (bxW.setHi k c).a4 (bxW.setHi k c).b4 (bxW.setLo k (c + 1)).a0 (bxW.setLo k (c + 1)).b0 (bxW.setLo k (c + 1)).a1 (bxW.setLo k (c + 1)).b1 (bxW.setLo k (c + 1)).a2 (bxW.setLo k (c + 1)).b2 (bxW.setLo k (c + 1)).a3 (bxW.setLo k (c + 1)).b3 (bxW.setLo k (c + 1)).a4 (bxW.setLo k (c + 1)).b4 hE (joL_ok _ _ _ _ _ _) ⟨rfl, ⟨(), trivial, trivial, rfl, by simp [joL, rnrS, rnrB]; rfl⟩, (plain2 (Elt.row_pl _) (Elt.row_pl _)), hr2, hw2, hr3, hw3, sy, rfl, (fun x hx => by simp at hx), rfl, (congrArg (fun b : Bx => Value.agg ⟨b.cs⟩) cut2), (congrArg (fun b : Bx => Value.agg ⟨b.cs⟩) cut1), ⟨by omega, by omega⟩, (by decide), (by decide), (by decide), (by decide), (by decide), (congrArg _ vc), ia, (by omega), (by omega), (by omega), (i64_id rfl (by omega) (by omega)), rhi, ⟨k0, k5⟩, rlo, ⟨k0, k5⟩, rk, ⟨j0, j3⟩, (congrArg _ vj), iw, (by decide), (by decide), (by decide), trivial⟩ fun zz _ _ => fin [] [] (intsOf (eInt.row l2) 0 l2.length) (intsOf (eInt.row l3) 0 l3.length) zz
    · rcases g2 with ⟨rfl, rfl⟩ | ⟨l2, c2, rfl, rfl, hlc2, hcm2, hg2⟩
      · rcases g3 with ⟨rfl, rfl⟩ | ⟨l3, c3, rfl, rfl, hlc3, hcm3, hg3⟩
        · obtain ⟨hr1, hw1⟩ := int_row hg1
          exact jnNSNN stepsI w a (eInt.row l1) 0 l1.length c1 j k lo hi c (bxW.setHi k c).a0 (bxW.setHi k c).b0 (bxW.setHi k c).a1 (bxW.setHi k c).b1 (bxW.setHi k c).a2 (bxW.setHi k c).b2 (bxW.setHi k c).a3 (bxW.setHi k c).b3 (bxW.setHi k c).a4 (bxW.setHi k c).b4 (bxW.setLo k (c + 1)).a0 (bxW.setLo k (c + 1)).b0 (bxW.setLo k (c + 1)).a1 (bxW.setLo k (c + 1)).b1 (bxW.setLo k (c + 1)).a2 (bxW.setLo k (c + 1)).b2 (bxW.setLo k (c + 1)).a3 (bxW.setLo k (c + 1)).b3 (bxW.setLo k (c + 1)).a4 (bxW.setLo k (c + 1)).b4 hE (joL_ok _ _ _ _ _ _) ⟨rfl, ⟨(), trivial, trivial, rfl, by simp [joL, rnrS, rnrB]; rfl⟩, (fun x hx => by simp at hx), rfl, (plain1 (Elt.row_pl _)), rfl, (congrArg (fun b : Bx => Value.agg ⟨b.cs⟩) cut2), (congrArg (fun b : Bx => Value.agg ⟨b.cs⟩) cut1), ⟨by omega, by omega⟩, (by decide), (by decide), (by decide), (by decide), (by decide), (congrArg _ vc), ia, (by omega), (by omega), (by omega), (i64_id rfl (by omega) (by omega)), rhi, ⟨k0, k5⟩, rlo, ⟨k0, k5⟩, rk, ⟨j0, j3⟩, (congrArg _ vj), iw, (by decide), (by decide), (by decide), trivial⟩ fun zz _ _ => fin [] (intsOf (eInt.row l1) 0 l1.length) [] [] zz
        · obtain ⟨hr1, hw1⟩ := int_row hg1
          obtain ⟨hr3, hw3⟩ := int_row hg3
          exact jnNSNS stepsI w a (eInt.row l1) 0 l1.length c1 (eInt.row l3) 0 l3.length c3 j k lo hi c (bxW.setHi k c).a0 (bxW.setHi k c).b0 (bxW.setHi k c).a1 (bxW.setHi k c).b1 (bxW.setHi k c).a2 (bxW.setHi k c).b2 (bxW.setHi k c).a3 (bxW.setHi k c).b3 (bxW.setHi k c).a4 (bxW.setHi k c).b4 (bxW.setLo k (c + 1)).a0 (bxW.setLo k (c + 1)).b0 (bxW.setLo k (c + 1)).a1 (bxW.setLo k (c + 1)).b1 (bxW.setLo k (c + 1)).a2 (bxW.setLo k (c + 1)).b2 (bxW.setLo k (c + 1)).a3 (bxW.setLo k (c + 1)).b3 (bxW.setLo k (c + 1)).a4 (bxW.setLo k (c + 1)).b4 hE (joL_ok _ _ _ _ _ _) ⟨rfl, ⟨(), trivial, trivial, rfl, by simp [joL, rnrS, rnrB]; rfl⟩, (plain1 (Elt.row_pl _)), rfl, (plain1 (Elt.row_pl _)), rfl, (congrArg (fun b : Bx => Value.agg ⟨b.cs⟩) cut2), (congrArg (fun b : Bx => Value.agg ⟨b.cs⟩) cut1), ⟨by omega, by omega⟩, (by decide), (by decide), (by decide), (by decide), (by decide), (congrArg _ vc), ia, (by omega), (by omega), (by omega), (i64_id rfl (by omega) (by omega)), rhi, ⟨k0, k5⟩, rlo, ⟨k0, k5⟩, rk, ⟨j0, j3⟩, (congrArg _ vj), iw, (by decide), (by decide), (by decide), trivial⟩ fun zz _ _ => fin [] (intsOf (eInt.row l1) 0 l1.length) [] (intsOf (eInt.row l3) 0 l3.length) zz
      · rcases g3 with ⟨rfl, rfl⟩ | ⟨l3, c3, rfl, rfl, hlc3, hcm3, hg3⟩
        · obtain ⟨hr1, hw1⟩ := int_row hg1
          obtain ⟨hr2, hw2⟩ := int_row hg2
          exact jnNSSN stepsI w a (eInt.row l1) 0 l1.length c1 (eInt.row l2) 0 l2.length c2 j k lo hi c (bxW.setHi k c).a0 (bxW.setHi k c).b0 (bxW.setHi k c).a1 (bxW.setHi k c).b1 (bxW.setHi k c).a2 (bxW.setHi k c).b2 (bxW.setHi k c).a3 (bxW.setHi k c).b3 (bxW.setHi k c).a4 (bxW.setHi k c).b4 (bxW.setLo k (c + 1)).a0 (bxW.setLo k (c + 1)).b0 (bxW.setLo k (c + 1)).a1 (bxW.setLo k (c + 1)).b1 (bxW.setLo k (c + 1)).a2 (bxW.setLo k (c + 1)).b2 (bxW.setLo k (c + 1)).a3 (bxW.setLo k (c + 1)).b3 (bxW.setLo k (c + 1)).a4 (bxW.setLo k (c + 1)).b4 hE (joL_ok _ _ _ _ _ _) ⟨rfl, ⟨(), trivial, trivial, rfl, by simp [joL, rnrS, rnrB]; rfl⟩, (plain1 (Elt.row_pl _)), hr2, hw2, sy, rfl, (plain1 (Elt.row_pl _)), rfl, (congrArg (fun b : Bx => Value.agg ⟨b.cs⟩) cut2), (congrArg (fun b : Bx => Value.agg ⟨b.cs⟩) cut1), ⟨by omega, by omega⟩, (by decide), (by decide), (by decide), (by decide), (by decide), (congrArg _ vc), ia, (by omega), (by omega), (by omega), (i64_id rfl (by omega) (by omega)), rhi, ⟨k0, k5⟩, rlo, ⟨k0, k5⟩, rk, ⟨j0, j3⟩, (congrArg _ vj), iw, (by decide), (by decide), (by decide), trivial⟩ fun zz _ _ => fin [] (intsOf (eInt.row l1) 0 l1.length) (intsOf (eInt.row l2) 0 l2.length) [] zz
        · obtain ⟨hr1, hw1⟩ := int_row hg1
          obtain ⟨hr2, hw2⟩ := int_row hg2
          obtain ⟨hr3, hw3⟩ := int_row hg3
          exact jnNSSS stepsI w a (eInt.row l1) 0 l1.length c1 (eInt.row l2) 0 l2.length c2 (eInt.row l3) 0 l3.length c3 j k lo hi c (bxW.setHi k c).a0 (bxW.setHi k c).b0 (bxW.setHi k c).a1 (bxW.setHi k c).b1 (bxW.setHi k c).a2 (bxW.setHi k c).b2 (bxW.setHi k c).a3 (bxW.setHi k c).b3 (bxW.setHi k c).a4 (bxW.setHi k c).b4 (bxW.setLo k (c + 1)).a0 (bxW.setLo k (c + 1)).b0 (bxW.setLo k (c + 1)).a1 (bxW.setLo k (c + 1)).b1 (bxW.setLo k (c + 1)).a2 (bxW.setLo k (c + 1)).b2 (bxW.setLo k (c + 1)).a3 (bxW.setLo k (c + 1)).b3 (bxW.setLo k (c + 1)).a4 (bxW.setLo k (c + 1)).b4 hE (joL_ok _ _ _ _ _ _) ⟨rfl, ⟨(), trivial, trivial, rfl, by simp [joL, rnrS, rnrB]; rfl⟩, (plain2 (Elt.row_pl _) (Elt.row_pl _)), hr2, hw2, hr3, hw3, sy, rfl, (plain1 (Elt.row_pl _)), rfl, (congrArg (fun b : Bx => Value.agg ⟨b.cs⟩) cut2), (congrArg (fun b : Bx => Value.agg ⟨b.cs⟩) cut1), ⟨by omega, by omega⟩, (by decide), (by decide), (by decide), (by decide), (by decide), (congrArg _ vc), ia, (by omega), (by omega), (by omega), (i64_id rfl (by omega) (by omega)), rhi, ⟨k0, k5⟩, rlo, ⟨k0, k5⟩, rk, ⟨j0, j3⟩, (congrArg _ vj), iw, (by decide), (by decide), (by decide), trivial⟩ fun zz _ _ => fin [] (intsOf (eInt.row l1) 0 l1.length) (intsOf (eInt.row l2) 0 l2.length) (intsOf (eInt.row l3) 0 l3.length) zz
  · rcases g1 with ⟨rfl, rfl⟩ | ⟨l1, c1, rfl, rfl, hlc1, hcm1, hg1⟩
    · rcases g2 with ⟨rfl, rfl⟩ | ⟨l2, c2, rfl, rfl, hlc2, hcm2, hg2⟩
      · rcases g3 with ⟨rfl, rfl⟩ | ⟨l3, c3, rfl, rfl, hlc3, hcm3, hg3⟩
        · obtain ⟨hr0, hw0⟩ := int_row hg0
          exact jnSNNN stepsI w a (eInt.row l0) 0 l0.length c0 j k lo hi c (bxW.setHi k c).a0 (bxW.setHi k c).b0 (bxW.setHi k c).a1 (bxW.setHi k c).b1 (bxW.setHi k c).a2 (bxW.setHi k c).b2 (bxW.setHi k c).a3 (bxW.setHi k c).b3 (bxW.setHi k c).a4 (bxW.setHi k c).b4 (bxW.setLo k (c + 1)).a0 (bxW.setLo k (c + 1)).b0 (bxW.setLo k (c + 1)).a1 (bxW.setLo k (c + 1)).b1 (bxW.setLo k (c + 1)).a2 (bxW.setLo k (c + 1)).b2 (bxW.setLo k (c + 1)).a3 (bxW.setLo k (c + 1)).b3 (bxW.setLo k (c + 1)).a4 (bxW.setLo k (c + 1)).b4 hE (joL_ok _ _ _ _ _ _) ⟨rfl, ⟨(), trivial, trivial, rfl, by simp [joL, rnrS, rnrB]; rfl⟩, (fun x hx => by simp at hx), rfl, (plain1 (Elt.row_pl _)), hr0, hw0, sx, rfl, (congrArg (fun b : Bx => Value.agg ⟨b.cs⟩) cut2), (congrArg (fun b : Bx => Value.agg ⟨b.cs⟩) cut1), ⟨by omega, by omega⟩, (by decide), (by decide), (by decide), (by decide), (by decide), (congrArg _ vc), ia, (by omega), (by omega), (by omega), (i64_id rfl (by omega) (by omega)), rhi, ⟨k0, k5⟩, rlo, ⟨k0, k5⟩, rk, ⟨j0, j3⟩, (congrArg _ vj), iw, (by decide), (by decide), (by decide), trivial⟩ fun zz _ _ => fin (intsOf (eInt.row l0) 0 l0.length) [] [] [] zz
        · obtain ⟨hr0, hw0⟩ := int_row hg0
          obtain ⟨hr3, hw3⟩ := int_row hg3
          exact jnSNNS stepsI w a (eInt.row l0) 0 l0.length c0 (eInt.row l3) 0 l3.length c3 j k lo hi c (bxW.setHi k c).a0 (bxW.setHi k c).b0 (bxW.setHi k c).a1 (bxW.setHi k c).b1 (bxW.setHi k c).a2 (bxW.setHi k c).b2 (bxW.setHi k c).a3 (bxW.setHi k c).b3 (bxW.setHi k c).a4 (bxW.setHi k c).b4 (bxW.setLo k (c + 1)).a0 (bxW.setLo k (c + 1)).b0 (bxW.setLo k (c + 1)).a1 (bxW.setLo k (c + 1)).b1 (bxW.setLo k (c + 1)).a2 (bxW.setLo k (c + 1)).b2 (bxW.setLo k (c + 1)).a3 (bxW.setLo k (c + 1)).b3 (bxW.setLo k (c + 1)).a4 (bxW.setLo k (c + 1)).b4 hE (joL_ok _ _ _ _ _ _) ⟨rfl, ⟨(), trivial, trivial, rfl, by simp [joL, rnrS, rnrB]; rfl⟩, (plain1 (Elt.row_pl _)), rfl, (plain1 (Elt.row_pl _)), hr0, hw0, sx, rfl, (congrArg (fun b : Bx => Value.agg ⟨b.cs⟩) cut2), (congrArg (fun b : Bx => Value.agg ⟨b.cs⟩) cut1), ⟨by omega, by omega⟩, (by decide), (by decide), (by decide), (by decide), (by decide), (congrArg _ vc), ia, (by omega), (by omega), (by omega), (i64_id rfl (by omega) (by omega)), rhi, ⟨k0, k5⟩, rlo, ⟨k0, k5⟩, rk, ⟨j0, j3⟩, (congrArg _ vj), iw, (by decide), (by decide), (by decide), trivial⟩ fun zz _ _ => fin (intsOf (eInt.row l0) 0 l0.length) [] [] (intsOf (eInt.row l3) 0 l3.length) zz
      · rcases g3 with ⟨rfl, rfl⟩ | ⟨l3, c3, rfl, rfl, hlc3, hcm3, hg3⟩
        · obtain ⟨hr0, hw0⟩ := int_row hg0
          obtain ⟨hr2, hw2⟩ := int_row hg2
          exact jnSNSN stepsI w a (eInt.row l0) 0 l0.length c0 (eInt.row l2) 0 l2.length c2 j k lo hi c (bxW.setHi k c).a0 (bxW.setHi k c).b0 (bxW.setHi k c).a1 (bxW.setHi k c).b1 (bxW.setHi k c).a2 (bxW.setHi k c).b2 (bxW.setHi k c).a3 (bxW.setHi k c).b3 (bxW.setHi k c).a4 (bxW.setHi k c).b4 (bxW.setLo k (c + 1)).a0 (bxW.setLo k (c + 1)).b0 (bxW.setLo k (c + 1)).a1 (bxW.setLo k (c + 1)).b1 (bxW.setLo k (c + 1)).a2 (bxW.setLo k (c + 1)).b2 (bxW.setLo k (c + 1)).a3 (bxW.setLo k (c + 1)).b3 (bxW.setLo k (c + 1)).a4 (bxW.setLo k (c + 1)).b4 hE (joL_ok _ _ _ _ _ _) ⟨rfl, ⟨(), trivial, trivial, rfl, by simp [joL, rnrS, rnrB]; rfl⟩, (plain1 (Elt.row_pl _)), hr2, hw2, sy, rfl, (plain1 (Elt.row_pl _)), hr0, hw0, sx, rfl, (congrArg (fun b : Bx => Value.agg ⟨b.cs⟩) cut2), (congrArg (fun b : Bx => Value.agg ⟨b.cs⟩) cut1), ⟨by omega, by omega⟩, (by decide), (by decide), (by decide), (by decide), (by decide), (congrArg _ vc), ia, (by omega), (by omega), (by omega), (i64_id rfl (by omega) (by omega)), rhi, ⟨k0, k5⟩, rlo, ⟨k0, k5⟩, rk, ⟨j0, j3⟩, (congrArg _ vj), iw, (by decide), (by decide), (by decide), trivial⟩ fun zz _ _ => fin (intsOf (eInt.row l0) 0 l0.length) [] (intsOf (eInt.row l2) 0 l2.length) [] zz
        · obtain ⟨hr0, hw0⟩ := int_row hg0
          obtain ⟨hr2, hw2⟩ := int_row hg2
          obtain ⟨hr3, hw3⟩ := int_row hg3
          exact jnSNSS stepsI w a (eInt.row l0) 0 l0.length c0 (eInt.row l2) 0 l2.length c2 (eInt.row l3) 0 l3.length c3 j k lo hi c (bxW.setHi k c).a0 (bxW.setHi k c).b0 (bxW.setHi k c).a1 (bxW.setHi k c).b1 (bxW.setHi k c).a2 (bxW.setHi k c).b2 (bxW.setHi k c).a3 (bxW.setHi k c).b3 (bxW.setHi k c).a4 (bxW.setHi k c).b4 (bxW.setLo k (c + 1)).a0 (bxW.setLo k (c + 1)).b0 (bxW.setLo k (c + 1)).a1 (bxW.setLo k (c + 1)).b1 (bxW.setLo k (c + 1)).a2 (bxW.setLo k (c + 1)).b2 (bxW.setLo k (c + 1)).a3 (bxW.setLo k (c + 1)).b3 (bxW.setLo k (c + 1)).a4 (bxW.setLo k (c + 1)).b4 hE (joL_ok _ _ _ _ _ _) ⟨rfl, ⟨(), trivial, trivial, rfl, by simp [joL, rnrS, rnrB]; rfl⟩, (plain2 (Elt.row_pl _) (Elt.row_pl _)), hr2, hw2, hr3, hw3, sy, rfl, (plain1 (Elt.row_pl _)), hr0, hw0, sx, rfl, (congrArg (fun b : Bx => Value.agg ⟨b.cs⟩) cut2), (congrArg (fun b : Bx => Value.agg ⟨b.cs⟩) cut1), ⟨by omega, by omega⟩, (by decide), (by decide), (by decide), (by decide), (by decide), (congrArg _ vc), ia, (by omega), (by omega), (by omega), (i64_id rfl (by omega) (by omega)), rhi, ⟨k0, k5⟩, rlo, ⟨k0, k5⟩, rk, ⟨j0, j3⟩, (congrArg _ vj), iw, (by decide), (by decide), (by decide), trivial⟩ fun zz _ _ => fin (intsOf (eInt.row l0) 0 l0.length) [] (intsOf (eInt.row l2) 0 l2.length) (intsOf (eInt.row l3) 0 l3.length) zz
    · rcases g2 with ⟨rfl, rfl⟩ | ⟨l2, c2, rfl, rfl, hlc2, hcm2, hg2⟩
      · rcases g3 with ⟨rfl, rfl⟩ | ⟨l3, c3, rfl, rfl, hlc3, hcm3, hg3⟩
        · obtain ⟨hr0, hw0⟩ := int_row hg0
          obtain ⟨hr1, hw1⟩ := int_row hg1
          exact jnSSNN stepsI w a (eInt.row l0) 0 l0.length c0 (eInt.row l1) 0 l1.length c1 j k lo hi c (bxW.setHi k c).a0 (bxW.setHi k c).b0 (bxW.setHi k c).a1 (bxW.setHi k c).b1 (bxW.setHi k c).a2 (bxW.setHi k c).b2 (bxW.setHi k c).a3 (bxW.setHi k c).b3 (bxW.setHi k c).a4 (bxW.setHi k c).b4 (bxW.setLo k (c + 1)).a0 (bxW.setLo k (c + 1)).b0 (bxW.setLo k (c + 1)).a1 (bxW.setLo k (c + 1)).b1 (bxW.setLo k (c + 1)).a2 (bxW.setLo k (c + 1)).b2 (bxW.setLo k (c + 1)).a3 (bxW.setLo k (c + 1)).b3 (bxW.setLo k (c + 1)).a4 (bxW.setLo k (c + 1)).b4 hE (joL_ok _ _ _ _ _ _) ⟨rfl, ⟨(), trivial, trivial, rfl, by simp [joL, rnrS, rnrB]; rfl⟩, (fun x hx => by simp at hx), rfl, (plain2 (Elt.row_pl _) (Elt.row_pl _)), hr0, hw0, hr1, hw1, sx, rfl, (congrArg (fun b : Bx => Value.agg ⟨b.cs⟩) cut2), (congrArg (fun b : Bx => Value.agg ⟨b.cs⟩) cut1), ⟨by omega, by omega⟩, (by decide), (by decide), (by decide), (by decide), (by decide), (congrArg _ vc), ia, (by omega), (by omega), (by omega), (i64_id rfl (by omega) (by omega)), rhi, ⟨k0, k5⟩, rlo, ⟨k0, k5⟩, rk, ⟨j0, j3⟩, (congrArg _ vj), iw, (by decide), (by decide), (by decide), trivial⟩ fun zz _ _ => fin (intsOf (eInt.row l0) 0 l0.length) (intsOf (eInt.row l1) 0 l1.length) [] [] zz
        · obtain ⟨hr0, hw0⟩ := int_row hg0
          obtain ⟨hr1, hw1⟩ := int_row hg1
          obtain ⟨hr3, hw3⟩ := int_row hg3
          exact jnSSNS stepsI w a (eInt.row l0) 0 l0.length c0 (eInt.row l1) 0 l1.length c1 (eInt.row l3) 0 l3.length c3 j k lo hi c (bxW.setHi k c).a0 (bxW.setHi k c).b0 (bxW.setHi k c).a1 (bxW.setHi k c).b1 (bxW.setHi k c).a2 (bxW.setHi k c).b2 (bxW.setHi k c).a3 (bxW.setHi k c).b3 (bxW.setHi k c).a4 (bxW.setHi k c).b4 (bxW.setLo k (c + 1)).a0 (bxW.setLo k (c + 1)).b0 (bxW.setLo k (c + 1)).a1 (bxW.setLo k (c + 1)).b1 (bxW.setLo k (c + 1)).a2 (bxW.setLo k (c + 1)).b2 (bxW.setLo k (c + 1)).a3 (bxW.setLo k (c + 1)).b3 (bxW.setLo k (c + 1)).a4 (bxW.setLo k (c + 1)).b4 hE (joL_ok _ _ _ _ _ _) ⟨rfl, ⟨(), trivial, trivial, rfl, by simp [joL, rnrS, rnrB]; rfl⟩, (plain1 (Elt.row_pl _)), rfl, (plain2 (Elt.row_pl _) (Elt.row_pl _)), hr0, hw0, hr1, hw1, sx, rfl, (congrArg (fun b : Bx => Value.agg ⟨b.cs⟩) cut2), (congrArg (fun b : Bx => Value.agg ⟨b.cs⟩) cut1), ⟨by omega, by omega⟩, (by decide), (by decide), (by decide), (by decide), (by decide), (congrArg _ vc), ia, (by omega), (by omega), (by omega), (i64_id rfl (by omega) (by omega)), rhi, ⟨k0, k5⟩, rlo, ⟨k0, k5⟩, rk, ⟨j0, j3⟩, (congrArg _ vj), iw, (by decide), (by decide), (by decide), trivial⟩ fun zz _ _ => fin (intsOf (eInt.row l0) 0 l0.length) (intsOf (eInt.row l1) 0 l1.length) [] (intsOf (eInt.row l3) 0 l3.length) zz
      · rcases g3 with ⟨rfl, rfl⟩ | ⟨l3, c3, rfl, rfl, hlc3, hcm3, hg3⟩
        · obtain ⟨hr0, hw0⟩ := int_row hg0
          obtain ⟨hr1, hw1⟩ := int_row hg1
          obtain ⟨hr2, hw2⟩ := int_row hg2
          exact jnSSSN stepsI w a (eInt.row l0) 0 l0.length c0 (eInt.row l1) 0 l1.length c1 (eInt.row l2) 0 l2.length c2 j k lo hi c (bxW.setHi k c).a0 (bxW.setHi k c).b0 (bxW.setHi k c).a1 (bxW.setHi k c).b1 (bxW.setHi k c).a2 (bxW.setHi k c).b2 (bxW.setHi k c).a3 (bxW.setHi k c).b3 (bxW.setHi k c).a4 (bxW.setHi k c).b4 (bxW.setLo k (c + 1)).a0 (bxW.setLo k (c + 1)).b0 (bxW.setLo k (c + 1)).a1 (bxW.setLo k (c + 1)).b1 (bxW.setLo k (c + 1)).a2 (bxW.setLo k (c + 1)).b2 (bxW.setLo k (c + 1)).a3 (bxW.setLo k (c + 1)).b3 (bxW.setLo k (c + 1)).a4 (bxW.setLo k (c + 1)).b4 hE (joL_ok _ _ _ _ _ _) ⟨rfl, ⟨(), trivial, trivial, rfl, by simp [joL, rnrS, rnrB]; rfl⟩, (plain1 (Elt.row_pl _)), hr2, hw2, sy, rfl, (plain2 (Elt.row_pl _) (Elt.row_pl _)), hr0, hw0, hr1, hw1, sx, rfl, (congrArg (fun b : Bx => Value.agg ⟨b.cs⟩) cut2), (congrArg (fun b : Bx => Value.agg ⟨b.cs⟩) cut1), ⟨by omega, by omega⟩, (by decide), (by decide), (by decide), (by decide), (by decide), (congrArg _ vc), ia, (by omega), (by omega), (by omega), (i64_id rfl (by omega) (by omega)), rhi, ⟨k0, k5⟩, rlo, ⟨k0, k5⟩, rk, ⟨j0, j3⟩, (congrArg _ vj), iw, (by decide), (by decide), (by decide), trivial⟩ fun zz _ _ => fin (intsOf (eInt.row l0) 0 l0.length) (intsOf (eInt.row l1) 0 l1.length) (intsOf (eInt.row l2) 0 l2.length) [] zz
        · obtain ⟨hr0, hw0⟩ := int_row hg0
          obtain ⟨hr1, hw1⟩ := int_row hg1
          obtain ⟨hr2, hw2⟩ := int_row hg2
          obtain ⟨hr3, hw3⟩ := int_row hg3
          exact jnSSSS stepsI w a (eInt.row l0) 0 l0.length c0 (eInt.row l1) 0 l1.length c1 (eInt.row l2) 0 l2.length c2 (eInt.row l3) 0 l3.length c3 j k lo hi c (bxW.setHi k c).a0 (bxW.setHi k c).b0 (bxW.setHi k c).a1 (bxW.setHi k c).b1 (bxW.setHi k c).a2 (bxW.setHi k c).b2 (bxW.setHi k c).a3 (bxW.setHi k c).b3 (bxW.setHi k c).a4 (bxW.setHi k c).b4 (bxW.setLo k (c + 1)).a0 (bxW.setLo k (c + 1)).b0 (bxW.setLo k (c + 1)).a1 (bxW.setLo k (c + 1)).b1 (bxW.setLo k (c + 1)).a2 (bxW.setLo k (c + 1)).b2 (bxW.setLo k (c + 1)).a3 (bxW.setLo k (c + 1)).b3 (bxW.setLo k (c + 1)).a4 (bxW.setLo k (c + 1)).b4 hE (joL_ok _ _ _ _ _ _) ⟨rfl, ⟨(), trivial, trivial, rfl, by simp [joL, rnrS, rnrB]; rfl⟩, (plain2 (Elt.row_pl _) (Elt.row_pl _)), hr2, hw2, hr3, hw3, sy, rfl, (plain2 (Elt.row_pl _) (Elt.row_pl _)), hr0, hw0, hr1, hw1, sx, rfl, (congrArg (fun b : Bx => Value.agg ⟨b.cs⟩) cut2), (congrArg (fun b : Bx => Value.agg ⟨b.cs⟩) cut1), ⟨by omega, by omega⟩, (by decide), (by decide), (by decide), (by decide), (by decide), (congrArg _ vc), ia, (by omega), (by omega), (by omega), (i64_id rfl (by omega) (by omega)), rhi, ⟨k0, k5⟩, rlo, ⟨k0, k5⟩, rk, ⟨j0, j3⟩, (congrArg _ vj), iw, (by decide), (by decide), (by decide), trivial⟩ fun zz _ _ => fin (intsOf (eInt.row l0) 0 l0.length) (intsOf (eInt.row l1) 0 l1.length) (intsOf (eInt.row l2) 0 l2.length) (intsOf (eInt.row l3) 0 l3.length) zz
theorem walk (W : World) (p0 a0 : Value) (op0 : Opened W eInt I64 p0) (oa0 : Opened W eInt I64 a0) (p1 a1 : Value) (op1 : Opened W eInt I64 p1) (oa1 : Opened W eInt I64 a1) (wh : Int) (w1 : (Lit.int .i64 wh).wf = true) (at_ : Int) (w2 : (Lit.int .i64 at_).wf = true) :
    Calls Try.prog 6 #[.agg #[p0, a0], .agg #[p1, a1], .int .i64 wh, .int .i64 at_] W fun e w' => e = .returned (.bool true) ∧ Below W.heap.size W w' := by
  obtain ⟨u0, r0, ad0, c0, e0, n0, q0⟩ := op0.can 0
  obtain ⟨u1, r1, ad1, c1, e1, n1, q1⟩ := oa0.can 1
  obtain ⟨u2, r2, ad2, c2, e2, n2, q2⟩ := op1.can 2
  obtain ⟨u3, r3, ad3, c3, e3, n3, q3⟩ := oa1.can 3
  have hspec := jn_spec (BitLib.wf_i64 w1) (BitLib.wf_i64 w2) c0 c1 c2 c3
  have := calls_rows hspec rfl (Nat.le_refl 4)
    (fun u hu j hj => by
      simp at hu
      rcases hu with rfl | rfl | rfl | rfl
      · simp [nms, nm1, nmL] at hj
        rcases hj with hj | hj
        · have := c0.nm0 j hj; omega
        · have := c1.nm0 j hj; omega
      · simp [nms, nm1, nmL] at hj
        rcases hj with hj | hj
        · have := c2.nm0 j hj; omega
        · have := c3.nm0 j hj; omega
      · simp [nms, nm1, nm0] at hj
      · simp [nms, nm1, nm0] at hj)
    (W := W) (l := [ad0, ad1, ad2, ad3]) (fun j r ad hr ha => by
      match j with
      | 0 => simp at hr ha; subst hr; subst ha; exact q0
      | 1 => simp at hr ha; subst hr; subst ha; exact q1
      | 2 => simp at hr ha; subst hr; subst ha; exact q2
      | 3 => simp at hr ha; subst hr; subst ha; exact q3
      | j + 4 => simp at hr) (Nat.le_refl 4)
  have hmap : ([.agg ⟨[u0, u1]⟩, .agg ⟨[u2, u3]⟩, .int .i64 wh, .int .i64 at_].map (ren (Nm.at [ad0, ad1, ad2, ad3]))).toArray = #[.agg #[p0, a0], .agg #[p1, a1], .int .i64 wh, .int .i64 at_] := by
    have g0 := e0 [ad0, ad1, ad2, ad3] rfl
    have g1 := e1 [ad0, ad1, ad2, ad3] rfl
    have g2 := e2 [ad0, ad1, ad2, ad3] rfl
    have g3 := e3 [ad0, ad1, ad2, ad3] rfl
    simp only [List.map_cons, List.map_nil]
    simp only [ren_agg, List.map_toArray, List.map_cons, List.map_nil, g0, g1, g2, g3]
    rfl
  rw [hmap] at this
  exact this
end Go.Proofs.Ytoeehjfblpmljaa.WkProofJoin

