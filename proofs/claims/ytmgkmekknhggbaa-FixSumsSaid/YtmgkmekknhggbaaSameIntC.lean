/-
  Same over Int: what it hands back. No condition.
-/
import Derived.Test.YtmgkmekknhggbaaSameIntB
set_option linter.unusedVariables false
set_option linter.unusedSimpArgs false
set_option maxRecDepth 100000
namespace Go.Proofs.Ytmgkmekknhggbaa.SameInt
open Go Go.RowKit Go.Proofs.Ytmgkmekknhggbaa.Ev Go.Proofs.Ytmgkmekknhggbaa.Ev
theorem same_spec (cs ds : List Value) (o n c p m d : Nat) (r1 : eInt.Row cs o n) (r2 : eInt.Row ds p m) (h1 : ∀ x ∈ cs, leafG x = true) (h2 : ∀ x ∈ ds, leafG x = true) (hn : n ≤ 9223372036854775806) :
    CallSpec Try.prog 37 [.slice (some ⟨0, o, none⟩) n c, .slice (some ⟨1, p, none⟩) m d] (roRows [cs, ds]) 2 (.bool (decide (eInt.list cs o n = eInt.list ds p m))) (assocN [] []) := by
  refine spec_of_sat Try.func37 rfl fun E hE => ?_
  have l1 : (eInt.list cs o n).length = n := Elt.list_len cs o n
  have l2 : (eInt.list ds p m).length = m := Elt.list_len ds p m
  by_cases hnm : n ≠ m
  · have e : decide (eInt.list cs o n = eInt.list ds p m) = false := decide_eq_false fun h => hnm (by rw [← l1, ← l2, h])
    rw [e] at hE
    exact sLen cs ds o n c p m d hE ⟨⟨rfl, rfl⟩, by simpa [bne_iff_ne] using (fun h => hnm (by omega) : ¬ (n : Int) = (m : Int)), trivial⟩
  have hnm : n = m := Decidable.not_not.1 hnm
  refine sIn cs ds o n c p m d hE (sL_ok cs ds o n c p m d h1 h2) ⟨rfl, ⟨0, ⟨Nat.zero_le _, hnm, hn, by simp⟩, trivial, rfl, ?_⟩, by simp [bne_iff_ne, hnm], trivial⟩ fun i hi _ => by_loop (sL cs ds o n c p m d) (lp Try.f37 0) ?_ 0 i hi
  · simp [sL, Blk.plain.rnB (b := .ro cs) h1, Blk.plain.rnB (b := .ro ds) h2]
  rintro b i ⟨k1, k2, k3, k4⟩ J hJ
  show Sat E (inLp (lp Try.f37 0) J) ((sL cs ds o n c p m d).st 0 i)
  by_cases hin : i < n
  · have hlt : decide ((i : Int) < (n : Int)) = true := decide_eq_true (by omega)
    obtain ⟨x, hx⟩ : ∃ x, (eInt.list cs o n)[i]? = some x := ⟨_, List.getElem?_eq_getElem (by rw [l1]; omega)⟩
    obtain ⟨y, hy⟩ : ∃ y, (eInt.list ds p m)[i]? = some y := ⟨_, List.getElem?_eq_getElem (by rw [l2]; omega)⟩
    have g1 := (r1.read1 (P := Try.prog) (ty := 3) (by kernel_rfl) rfl (i := i) hx rfl rfl)
    have g2 := (r2.read1 (P := Try.prog) (ty := 3) (by kernel_rfl) rfl (i := i) hy rfl rfl)
    rw [← Nat.mul_one i] at g1 g2
    by_cases hxy : (x : Int) = y
    · refine sNext cs ds o n c p m d i x y J hE (sL_ok cs ds o n c p m d h1 h2) ⟨rfl, ⟨i + 1, ⟨by omega, k2, k3, ?_⟩, ?_, rfl, ?_⟩, i64_succ (by omega), by simp [hxy], g2, by omega, g1, by omega, hlt, trivial⟩ fun zz hz hz' => hJ 0 zz hz hz'
      · rw [List.take_add_one, List.take_add_one, hx, hy, k4, hxy]
      · simp only [sL, ltO]; omega
      · simp [sL, Blk.plain.rnB (b := .ro cs) h1, Blk.plain.rnB (b := .ro ds) h2]
    · have e : decide (eInt.list cs o n = eInt.list ds p m) = false := decide_eq_false fun h => hxy (by rw [h, hy] at hx; exact (Option.some.inj hx).symm)
      rw [e] at hE
      exact sDiff cs ds o n c p m d i x y J hE ⟨⟨rfl, rfl⟩, bne_iff_ne.2 hxy, g2, by omega, g1, by omega, hlt, trivial⟩
  · have hlt : decide ((i : Int) < (n : Int)) = false := decide_eq_false (by omega)
    have e : decide (eInt.list cs o n = eInt.list ds p m) = true := decide_eq_true (by
      rw [List.take_of_length_le (by omega), List.take_of_length_le (by omega)] at k4
      exact k4)
    rw [e] at hE
    exact sEnd cs ds o n c p m d i J hE ⟨⟨rfl, rfl⟩, hlt, trivial⟩
def same_F : RoF := fun xs css => match xs, css with
  | [.slice none 0 0, .slice none 0 0], [] => some (.bool true, [], [])
  | [.slice none 0 0, .slice (some ⟨0, p, none⟩) m d], [ds] => some (.bool (decide ([] = eInt.list ds p m)), [], [])
  | [.slice (some ⟨0, o, none⟩) n c, .slice none 0 0], [cs] => some (.bool (decide (eInt.list cs o n = [])), [], [])
  | [.slice (some ⟨0, o, none⟩) n c, .slice (some ⟨1, p, none⟩) m d], [cs, ds] => some (.bool (decide (eInt.list cs o n = eInt.list ds p m)), [], [eInt.Row cs o n, eInt.Row ds p m, n ≤ 9223372036854775806])
  | _, _ => none
theorem same_sum : SumOK Try.prog 37 (roSum same_F) := by
  refine roSum_ok (en Try.func37 rfl) ?_ (fun xs css r h => ?_)
  · intro xs css v blks ob h hob hpl hl
    unfold same_F at h
    split at h
    · simp only [Option.some.injEq, Prod.mk.injEq] at h
      obtain ⟨rfl, rfl, rfl⟩ := h
      refine ⟨by simp, by simp, fun j hj => by simp [nms, nm1, nm0] at hj, ?_⟩
      exact spec_of_sat Try.func37 rfl fun E hE => sNN () hE ⟨⟨rfl, rfl⟩, trivial⟩
    · rename_i p m d ds
      simp only [Option.some.injEq, Prod.mk.injEq] at h
      obtain ⟨rfl, rfl, rfl⟩ := h
      refine ⟨by simp, by simp, fun j hj => by simp [nms, nm1, nm0] at hj, ?_⟩
      refine spec_of_sat Try.func37 rfl fun E hE => ?_
      have l2 : (eInt.list ds p m).length = m := Elt.list_len ds p m
      by_cases hm : m = 0
      · have e : decide ([] = eInt.list ds p m) = true := decide_eq_true (List.eq_nil_of_length_eq_zero (by omega)).symm
        rw [e] at hE
        exact sNS0 ds p m d hE ⟨⟨rfl, rfl⟩, by simp [hm], trivial⟩
      · have e : decide ([] = eInt.list ds p m) = false := decide_eq_false fun h => hm (by rw [← l2, ← h]; rfl)
        rw [e] at hE
        exact sNS1 ds p m d hE ⟨⟨rfl, rfl⟩, bne_iff_ne.2 (by show (0 : Int) ≠ (m : Int); omega), trivial⟩
    · rename_i o n c cs
      simp only [Option.some.injEq, Prod.mk.injEq] at h
      obtain ⟨rfl, rfl, rfl⟩ := h
      refine ⟨by simp, by simp, fun j hj => by simp [nms, nm1, nm0] at hj, ?_⟩
      refine spec_of_sat Try.func37 rfl fun E hE => ?_
      have l1 : (eInt.list cs o n).length = n := Elt.list_len cs o n
      by_cases hm : n = 0
      · have e : decide (eInt.list cs o n = []) = true := decide_eq_true (List.eq_nil_of_length_eq_zero (by omega))
        rw [e] at hE
        exact sSN0 cs o n c hE ⟨⟨rfl, rfl⟩, decide_eq_false (by show ¬ (0 : Int) < (n : Int); omega), by simp [hm], trivial⟩
      · have e : decide (eInt.list cs o n = []) = false := decide_eq_false fun h => hm (by rw [← l1, h]; rfl)
        rw [e] at hE
        exact sSN1 cs o n c hE ⟨⟨rfl, rfl⟩, bne_iff_ne.2 (by show (n : Int) ≠ (0 : Int); omega), trivial⟩
    · rename_i o n c p m d cs ds
      simp only [Option.some.injEq, Prod.mk.injEq] at h
      obtain ⟨rfl, rfl, rfl⟩ := h
      refine ⟨by simp, by simp, fun j hj => by simp [nms, nm1, nm0] at hj, ?_⟩
      exact same_spec cs ds o n c p m d (hob _ (by simp)) (hob _ (by simp)) (hpl cs (by simp)) (hpl ds (by simp)) (hob _ (by simp))
    · simp at h
  · unfold same_F at h
    split at h <;> simp at h <;> simp
noncomputable def t_same : Sums := upd t_none 37 (some (roSum same_F))
theorem t_same_ok : SumsOK Try.prog t_same := sums_cons t_none_ok same_sum
end Go.Proofs.Ytmgkmekknhggbaa.SameInt

