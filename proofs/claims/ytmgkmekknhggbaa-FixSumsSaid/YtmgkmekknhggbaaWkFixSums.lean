/-
  FixSums: whatever comes in, the call hands back true and leaves all as it was. No condition.
-/
import Derived.Test.YtmgkmekknhggbaaFsH
import Derived.Test.YtmgkmekknhggbaaOpenInts
set_option linter.unusedVariables false
set_option linter.unusedSimpArgs false
set_option maxRecDepth 100000
namespace Go.Proofs.Ytmgkmekknhggbaa.WkFixSums
open Go Go.RowKit Go.Proofs.Ytmgkmekknhggbaa.Ev Go.Proofs.Ytmgkmekknhggbaa.Within Go.Proofs.Ytmgkmekknhggbaa.FixA Go.Proofs.Ytmgkmekknhggbaa.BitLib Go.Proofs.Ytmgkmekknhggbaa.Fs
theorem minI_eq (x y : Int) : minI x y = min x y := by unfold minI; split <;> omega
theorem fs_spec {a b w : Int} (ia : I64 a) (ib : I64 b) (iw : I64 w) {v0 : Value} {r0 : Option (List Value)} (g0 : CanAt eInt I64 0 v0 r0) :
    CallSpec Try.prog 10 [v0, .int .i64 a, .int .i64 b, .int .i64 w] (rowsL [r0]) 1 (.bool true) (assocN [] []) := by
  refine spec_of_sat Try.func10 rfl fun E hE => ?_
  obtain ⟨fin0, fin1⟩ := fx_fin ia ib iw hE
  rcases g0 with ⟨rfl, rfl⟩ | ⟨L, c, rfl, rfl, hlc, hcm, hg⟩
  · exact fsN a b w hE (fsL_ok _ _ _ _) ⟨rfl, ⟨(), trivial, trivial, rfl, rfl⟩, ⟨rfl, Nat.le_refl _, by decide⟩, trivial⟩ fun zz _ _ => fin0
  · cases L with
    | nil => exact fs0 a b w (eInt.row []) 0 c hE (fsL_ok _ _ _ _) ⟨rfl, ⟨(), trivial, trivial, rfl, rfl⟩, ⟨rfl, Nat.le_refl _, by decide⟩, slOK_ro (h := 0) (Nat.zero_le _) hlc hcm, rfl, trivial⟩ fun zz _ _ => fin0
    | cons x L' =>
      generalize hL : x :: L' = L at *
      have hlen : 0 < L.length := by rw [← hL]; simp
      have hMl : (L.take 40).length = min L.length 40 := by rw [List.length_take]; omega
      have hne : L.take 40 ≠ [] := fun h => by rw [h] at hMl; simp at hMl; omega
      have happ : AppOK (some (Blk.cells [] 3)) 0 0 1 8 (L.take 40).length (eInt.row L) 0 (eInt.row (L.take 40)) :=
        appG (L := []) (M := L) (Or.inr ⟨rfl, rfl, rfl⟩) rfl (k := 0) rfl (by omega) (by simp) (congrArg eInt.row (by rw [List.drop_zero, hMl]; simp [List.take_eq_take_iff]; omega)) (by omega) (by omega) (by omega)
      have hsl : SlOK 1 0 0 L.length c none (some ((L.take 40).length : Int)) (some (.ro (eInt.row L))) (.slice (some ⟨0, 0, none⟩) (L.take 40).length c) := slOK_ro (by omega) hlc hcm
      have hmin : Value.int .i64 (minI (L.length : Int) 40) = .int .i64 ((L.take 40).length : Int) := congrArg _ (by rw [minI_eq, hMl]; omega)
      have rnr : ∀ (f : Nat → Nat) (l : List Int), Blk.rnB f (.vec (eInt.row l) 3 1) = .vec (eInt.row l) 3 1 := fun f l => Blk.plain.rnB (b := .vec (eInt.row l) 3 1) (Elt.row_pl _) f
      exact fs1 a b w (eInt.row L) L.length c (L.take 40) hE (fsL_ok _ _ _ _) ⟨rfl, ⟨(), trivial, trivial, by rw [Nat.zero_add]; rfl, by simp only [fsL, List.map_cons, List.map_nil, rnr]⟩, happ, hsl, hmin, trivial⟩ fun zz _ _ => fin1 _ hne (by omega) fun z hz => hg z (List.mem_of_mem_take hz)
theorem walk (W : World) (v0 : Value) (o0 : Opened W eInt I64 v0) (a : Int) (w1 : (Lit.int .i64 a).wf = true) (b : Int) (w2 : (Lit.int .i64 b).wf = true) (w : Int) (w3 : (Lit.int .i64 w).wf = true) :
    Calls Try.prog 10 #[v0, .int .i64 a, .int .i64 b, .int .i64 w] W fun e w' => e = .returned (.bool true) ∧ Below W.heap.size W w' := by
  obtain ⟨u0, r0, ad0, c0, e0, n0, q0⟩ := o0.can 0
  have hspec := fs_spec (BitLib.wf_i64 w1) (BitLib.wf_i64 w2) (BitLib.wf_i64 w3) c0
  have := calls_rows hspec rfl (Nat.le_refl 1)
    (fun u hu j hj => by
      simp at hu
      rcases hu with rfl | rfl | rfl | rfl
      · have := c0.nms j hj; omega
      · simp [nms, nm1, nm0] at hj
      · simp [nms, nm1, nm0] at hj
      · simp [nms, nm1, nm0] at hj)
    (W := W) (l := [ad0]) (fun j r ad hr ha => by
      match j with
      | 0 => simp at hr ha; subst hr; subst ha; exact q0
      | j + 1 => simp at hr) (Nat.le_refl 1)
  have hmap : ([u0, .int .i64 a, .int .i64 b, .int .i64 w].map (ren (Nm.at [ad0]))).toArray = #[v0, .int .i64 a, .int .i64 b, .int .i64 w] := by
    have g0 := e0 [ad0] rfl
    simp only [List.map_cons, List.map_nil]
    rw [c0.ren, g0]
    rfl
  rw [hmap] at this
  exact this
end Go.Proofs.Ytmgkmekknhggbaa.WkFixSums

