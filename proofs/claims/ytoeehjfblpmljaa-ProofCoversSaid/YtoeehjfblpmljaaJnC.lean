/-
  ProofJoin behind its cuttings. No condition.
-/
import Derived.Test.YtoeehjfblpmljaaJnB
set_option linter.unusedVariables false
set_option linter.unusedSimpArgs false
set_option maxRecDepth 100000
namespace Go.Proofs.Ytoeehjfblpmljaa.Ev
open Go Go.RowKit
section
variable {α : Type} {e : Elt α}
theorem appC {L M : List α} {ty : TypeId} {own : Option Blk} {n m c size bytes : Nat} {res : List Value} (hown : own = some (.cells (e.row L) ty)) (hs : size = e.s) (hn : n ≤ c) (hc16 : c ≤ 16777216) (hc : c = L.length) (hres : res = e.row (L.take n ++ M))
    (h1 : 1 ≤ m) (hb : n + m ≤ 16777216) (hby : (n + m) * bytes ≤ 140737488355328) (hm : m = M.length := by rfl) : AppOK own n c size bytes m (e.row M) 0 res := by
  subst hs
  subst hres
  subst hown
  subst hc
  subst hm
  refine ⟨e.row (L.take n), e.row M, ?_, ?_, h1, hb, hby, Elt.row_app _ _, ?_⟩
  · rw [sub_of (by rw [Elt.row_len]; omega), List.drop_zero, List.take_of_length_le (by rw [Elt.row_len]; omega)]
  · exact allB_iff.2 fun c hc => leaf_of_leafG (Elt.row_pl _ c hc)
  · exact ⟨Elt.row_len L, hn, hc16, (Elt.row_take L n).symm⟩
theorem plain2 {cs ds : List Value} (h : ∀ x ∈ cs, leafG x = true) (g : ∀ x ∈ ds, leafG x = true) : plainR [cs, ds] := by
  intro x hx
  simp at hx
  rcases hx with rfl | rfl
  · exact h
  · exact g
end
end Go.Proofs.Ytoeehjfblpmljaa.Ev
namespace Go.Proofs.Ytoeehjfblpmljaa.PrA
open Go Go.RowKit Go.Proofs.Ytoeehjfblpmljaa.Ev Go.Proofs.Ytoeehjfblpmljaa.PickE Go.Proofs.Ytoeehjfblpmljaa.BoxF Go.Proofs.Ytoeehjfblpmljaa.Within Go.Proofs.Ytoeehjfblpmljaa.PrA
theorem deepLr {L : List Stp} {n : Nat} {d : Int} (h : deepI L = d) (hn : n = L.length) : deepI (eStp.list (eStp.row L) 0 n) = d := by subst hn; rw [(Elt.canon0 L).2]; exact h
theorem sumL {b : Bx} {L : List Stp} {n : Nat} {O : List Bx} (h : sumsI b L = some O) (hn : n = L.length) : sumsI b (eStp.list (eStp.row L) 0 n) = some O := by subst hn; rw [(Elt.canon0 L).2]; exact h
theorem smallW : bxW.Small := by
  intro k h0 h5
  rcases five h0 h5 with rfl | rfl | rfl | rfl | rfl <;> decide
/-- Two cuttings behind one cut. -/
theorem jn_plain {b : Bx} {k c : Int} (h0 : 0 ≤ k) (h5 : k < 5) (hl : b.lo k ≤ c) (hh : c < b.hi k) {L R : List Stp} {P Q : List Bx} (RL : Ran [b.setHi k c] L P (b.setHi k c) 0) (RR : Ran [b.setLo k (c + 1)] R Q (b.setLo k (c + 1)) 0) (hL : L.length ≤ 41) (hR : R.length ≤ 41) :
    ∃ dl dr D : Int, deepI L = dl ∧ deepI R = dr ∧ maxI (maxI 2 (dl + 1)) dr = D ∧ deepI ([⟨false, k, c⟩] ++ L ++ R) = D ∧ sumsI b ([⟨false, k, c⟩] ++ L ++ R) = some (P ++ Q) ∧ 1 ≤ dl ∧ dl ≤ 21 := by
  obtain ⟨_, _, _, _, dl, l1, l2, l3, l4⟩ := ran_right RL (by omega)
  obtain ⟨_, _, _, _, dr, r1, r2, r3, r4⟩ := ran_right RR (by omega)
  have hrs : rightS ⟨false, k, c⟩ = true := by
    have q1 : k ≤ 4 := by omega
    simp [rightS, h0, q1]
  have hd : deepI ([⟨false, k, c⟩] ++ L ++ R) = maxI (maxI 2 (dl + 1)) dr := by
    refine deepI_of (by simp; omega) ?_ ?_
    · have g1 := l4 R 1 2 (by decide) (by decide)
      have g2 := r4 [] 0 (max 2 (1 + dl)) (by decide) (by omega)
      simp only [List.append_nil, Int.zero_add, deepGo] at g2
      have e : [Stp.mk false k c] ++ L ++ R = ⟨false, k, c⟩ :: (L ++ R) := by simp
      rw [e]
      simp only [deepGo]
      rw [if_neg (by rw [hrs]; simp), if_neg (by simp)]
      have e2 : max (1 : Int) (1 + 1) = 2 := by decide
      rw [e2]
      rw [show (1 : Int) + 1 = 1 + 1 from rfl, g1, g2]
      congr 2
      rw [BoxF.maxI_eq, BoxF.maxI_eq]
      congr 2
      omega
    · rw [BoxF.maxI_eq, BoxF.maxI_eq]; omega
  refine ⟨dl, dr, _, l3, r3, rfl, hd, ?_, l1, l2⟩
  obtain ⟨c1, c2⟩ := cut_in b (p := k) (a := c) h0 h5 hl hh
  unfold sumsI
  rw [if_pos (by rw [hd, BoxF.maxI_eq, BoxF.maxI_eq]; omega)]
  have e : [Stp.mk false k c] ++ L ++ R = ⟨false, k, c⟩ :: (L ++ R) := by simp
  rw [e]
  simp only [sumsGo, Bool.false_eq_true, if_false]
  rw [if_neg (fun h => h.elim (fun h => by omega) (fun h => by omega)), c1, c2]
  have s1 := RL.sums R [b.setLo k (c + 1)] []
  have s2 := RR.sums [] [] P
  simp only [List.cons_append, List.nil_append, List.append_nil, sumsGo] at s1 s2
  rw [s1, s2]
theorem jn_fin {k c : Int} (h0 : 0 ≤ k) (h5 : k < 5) (hl : bxW.lo k ≤ c) (hh : c < bxW.hi k) {L R : List Stp} {P Q : List Bx} (RL : Ran [bxW.setHi k c] L P (bxW.setHi k c) 0) (RR : Ran [bxW.setLo k (c + 1)] R Q (bxW.setLo k (c + 1)) 0) (hL : L.length ≤ 41) (hR : R.length ≤ 41) {E : Env} (hE : EnvOK E Try.prog Try.f6 4 4 (.bool true) [] []) :
    Sat E (fromR Try.f6 7) ((joL k c P L Q R).st 0 ()) := by
  obtain ⟨dl, dr, D, hdl, hdr, hmax, hD, hsum, d1, d2⟩ := jn_plain h0 h5 hl hh RL RR hL hR
  have hlL := RL.len
  have hlR := RR.len
  simp only [List.length_singleton] at hlL hlR
  have hL0 : L ≠ [] := (ran_right RL (by omega)).2.1
  have hR0 : R ≠ [] := (ran_right RR (by omega)).2.1
  have hL1 : 1 ≤ L.length := by cases L with | nil => exact absurd rfl hL0 | cons => simp
  have hR1 : 1 ≤ R.length := by cases R with | nil => exact absurd rfl hR0 | cons => simp
  have hall : 1 + L.length + R.length = ([Stp.mk false k c] ++ L ++ R).length := by simp; omega
  have hboth : 0 + P.length + Q.length = (P ++ Q).length := by simp
  have hsame : Value.bool (decide (eBox.list (eBox.row (P ++ Q)) (Addr.mk 100 0 none).off (P ++ Q).length = eBox.list (eBox.row (P ++ Q)) 0 (0 + P.length + Q.length))) = .bool true := by
    rw [hboth]; exact congrArg _ (decide_eq_true rfl)
  have hbx : (Bx.mk bxW.a0 bxW.b0 bxW.a1 bxW.b1 bxW.a2 bxW.b2 bxW.a3 bxW.b3 bxW.a4 bxW.b4).I64s := by
    refine ⟨?_, ?_, ?_, ?_, ?_, ?_, ?_, ?_, ?_, ?_⟩ <;> exact ⟨by decide, by decide⟩
  exact jnE (P ++ Q) P Q L R k c D dl dr (eStp.row ([⟨false, k, c⟩] ++ L)) (eStp.row ([⟨false, k, c⟩] ++ L ++ R)) (eBox.row P) (eBox.row (P ++ Q)) hE ⟨⟨rfl, rfl⟩, (congrArg _ (beq_self_eq_true _)), (congrArg _ hmax), (congrArg _ (deepLr hdr rfl)), (plain1 (Elt.row_pl _)), (rowN rfl), (i64_id rfl (by omega) (by omega)), (congrArg _ (deepLr hdl rfl)), (plain1 (Elt.row_pl _)), (rowN rfl), (congrArg _ (deepLr hD hall)), (plain1 (Elt.row_pl _)), (rowN hall), hsame, (plain2 (Elt.row_pl _) (Elt.row_pl _)), (rowN rfl), (rowN hboth), (by rw [List.length_append]; omega), (appG (L := P) (M := Q) (Or.inl ⟨rfl, rfl⟩) rfl (k := 0) rfl (by omega) (by omega) (congrArg eBox.row (by rw [List.take_of_length_le (by omega)]; simp)) (by omega) (by omega) (by omega)), (appG (L := []) (M := P) (Or.inr ⟨rfl, rfl, rfl⟩) rfl (k := 0) rfl (by omega) (by simp) (by simp) (by omega) (by omega) (by omega)), (plain1 (Elt.row_pl _)), (rowN hall), hbx, (sumL hsum hall), (appG (L := [⟨false, k, c⟩] ++ L) (M := R) (Or.inl ⟨rfl, rfl⟩) rfl (k := 0) rfl (by omega) (by simp; omega) (congrArg eStp.row (by rw [List.take_of_length_le (by simp; omega)]; simp)) (by omega) (by omega) (by omega)), (appC (e := eStp) (L := [⟨false, k, c⟩]) (M := L) rfl rfl (Nat.le_refl _) (by decide) rfl rfl (by omega) (by omega) (by omega)), trivial⟩
end Go.Proofs.Ytoeehjfblpmljaa.PrA

