/-
  Sum: what it answers. No condition.
-/
import Derived.Test.YtmgkmekknhggbaaFsB
set_option linter.unusedVariables false
set_option linter.unusedSimpArgs false
set_option maxRecDepth 100000
namespace Go.Proofs.Ytmgkmekknhggbaa.Fs
open Go Go.RowKit Go.Proofs.Ytmgkmekknhggbaa.Ev Go.Proofs.Ytmgkmekknhggbaa.Within Go.Proofs.Ytmgkmekknhggbaa.FixA Go.Proofs.Ytmgkmekknhggbaa.BitLib
theorem tot_take {l : List Int} {i : Nat} {x : Int} (h : l[i]? = some x) : tot (l.take (i + 1)) = tot (l.take i) + x := by
  rw [List.take_add_one, h, tot_app]; simp [tot]
theorem sum_spec (cs : List Value) (o n c : Nat) (hr : eInt.Row cs o n) (hpl : ∀ x ∈ cs, leafG x = true) (hI : ∀ z ∈ eInt.list cs o n, I64 z) (hn : n ≤ 65536) :
    CallSpec Try.prog 15 [.slice (some ⟨0, o, none⟩) n c] (roRows [cs]) 1 (.tuple ⟨[.int .i64 (told (tot (eInt.list cs o n))), .bool (fits (tot (eInt.list cs o n)))]⟩) (assocN [] []) := by
  refine spec_of_sat Try.func15 rfl fun E hE => ?_
  have hlen : (eInt.list cs o n).length = n := Elt.list_len _ _ _
  have okL := smL_ok cs o n c hpl
  have rnr : ∀ f : Nat → Nat, Blk.rnB f (.ro cs) = .ro cs := fun f => Blk.plain.rnB (b := .ro cs) hpl f
  refine smIn cs o n c hE okL ⟨rfl, ⟨⟨0, 0, 0⟩, ⟨Nat.zero_le _, by simp [tot], by decide, by decide, by decide⟩, trivial, rfl, by simp [smL, rnr]⟩, trivial⟩ fun zz hz _ => by_loop (smL cs o n c) (lp Try.f15 0) ?_ 0 zz hz
  rintro b ⟨i, hi, lo⟩ hinv J hJ
  have hinv : i ≤ n ∧ hi * 4294967296 + lo = tot ((eInt.list cs o n).take i) ∧ (-(i * 2147483648 : Int) ≤ hi ∧ hi ≤ i * 2147483648) ∧ 0 ≤ lo ∧ lo ≤ i * 4294967296 := hinv
  obtain ⟨k1, k2, ⟨k3, k4⟩, k5, k6⟩ := hinv
  show Sat E (inLp (lp Try.f15 0) J) ((smL cs o n c).st 0 ⟨i, hi, lo⟩)
  have hJ' : ∀ zz, (smL cs o n c).inv 0 zz → ltO ((smL cs o n c).mu 0 zz) (some (n - i)) → Sat E (mkLp (lp Try.f15 0) J) ((smL cs o n c).st 0 zz) := fun zz h1 h2 => hJ 0 zz h1 h2
  by_cases hin : i < n
  · have hlt : decide ((i : Int) < (n : Int)) = true := decide_eq_true (by omega)
    obtain ⟨x, hx⟩ : ∃ x, (eInt.list cs o n)[i]? = some x := ⟨_, List.getElem?_eq_getElem (by rw [hlen]; omega)⟩
    obtain ⟨x0, x1⟩ := hI x (List.mem_of_getElem? hx)
    have hrd := hr.read1 (P := Try.prog) (ty := 3) (by kernel_rfl) rfl (i := i) hx rfl rfl
    rw [← Nat.mul_one i] at hrd
    have hf : x.fdiv 4294967296 = x / 4294967296 := Int.fdiv_eq_ediv_of_nonneg _ (by decide)
    have ht := tot_take hx
    exact smB cs o n c i hi lo x (hi + x / 4294967296) (lo + x % 4294967296) (x / 4294967296) (x % 4294967296) J hE okL
      ⟨rfl, ⟨⟨i + 1, _, _⟩, ⟨by omega, by rw [ht]; omega, ⟨by omega, by omega⟩, by omega, by omega⟩, (by show n - (i + 1) < n - i; omega), rfl, by simp [smL, rnr]⟩, i64_succ (by omega), (i64_id rfl (by omega) (by omega)), (congrArg _ (i64_low32 x)), (i64_id rfl (by omega) (by omega)), (congrArg _ hf), hrd, ⟨Int.natCast_nonneg _, Int.ofNat_lt.2 hin⟩, hlt, trivial⟩ hJ'
  · have hlt : decide ((i : Int) < (n : Int)) = false := decide_eq_false (by omega)
    have hf : lo.fdiv 4294967296 = lo / 4294967296 := Int.fdiv_eq_ediv_of_nonneg _ (by decide)
    have hT : hi * 4294967296 + lo = tot (eInt.list cs o n) := by rw [k2, List.take_of_length_le (by omega)]
    generalize tot (eInt.list cs o n) = T at hE hT
    by_cases hL : hi + lo / 4294967296 < -2147483648
    · rw [told_no (by omega), fits_no (by omega)] at hE
      exact smEL cs o n c i hi lo (lo / 4294967296) (hi + lo / 4294967296) (lo % 4294967296) 0 0 J hE ⟨⟨rfl, rfl⟩, (congrArg _ (decide_eq_true hL)), (congrArg _ (i64_low32 lo)), (i64_id rfl (by omega) (by omega)), (congrArg _ hf), hlt, trivial⟩
    · by_cases hH : hi + lo / 4294967296 ≥ 2147483648
      · rw [told_no (by omega), fits_no (by omega)] at hE
        exact smEH cs o n c i hi lo (lo / 4294967296) (hi + lo / 4294967296) (lo % 4294967296) 0 0 J hE ⟨⟨rfl, rfl⟩, (congrArg _ (decide_eq_true hH)), (congrArg _ (decide_eq_false hL)), (congrArg _ (i64_low32 lo)), (i64_id rfl (by omega) (by omega)), (congrArg _ hf), hlt, trivial⟩
      · have hT2 : (hi + lo / 4294967296) * 4294967296 + lo % 4294967296 = T := by omega
        rw [told_yes (by omega) (by omega), fits_yes (by omega) (by omega)] at hE
        exact smEY cs o n c i hi lo (lo / 4294967296) (hi + lo / 4294967296) (lo % 4294967296) ((hi + lo / 4294967296) * 4294967296) T J hE ⟨⟨rfl, rfl⟩, (congrArg _ ((or_halves _ _ (by omega) (by omega) (by omega) (by omega)).trans hT2)), (i64_id rfl (by omega) (by omega)), (congrArg _ (decide_eq_false hH)), (congrArg _ (decide_eq_false hL)), (congrArg _ (i64_low32 lo)), (i64_id rfl (by omega) (by omega)), (congrArg _ hf), hlt, trivial⟩
def sum_F : RoF := fun xs css => match xs, css with
  | [.slice none 0 0], [] => some (.tuple ⟨[.int .i64 0, .bool true]⟩, [], [])
  | [.slice (some ⟨0, o, none⟩) n c], [cs] => some (.tuple ⟨[.int .i64 (told (tot (eInt.list cs o n))), .bool (fits (tot (eInt.list cs o n)))]⟩, [], [eInt.Row cs o n, ∀ z ∈ eInt.list cs o n, I64 z, n ≤ 65536])
  | _, _ => none
theorem sum_sum : SumOK Try.prog 15 (roSum sum_F) := by
  refine roSum_ok (en Try.func15 rfl) ?_ (fun xs css r h => ?_)
  · intro xs css v blks ob h hob hpl hl
    unfold sum_F at h
    split at h
    · simp only [Option.some.injEq, Prod.mk.injEq] at h
      obtain ⟨rfl, rfl, rfl⟩ := h
      refine ⟨by simp, by simp, fun j hj => by simp [nms, nm1, nmL, nm0] at hj, ?_⟩
      exact spec_of_sat Try.func15 rfl fun E hE => smN () hE ⟨⟨rfl, rfl⟩, trivial⟩
    · rename_i o n c cs
      simp only [Option.some.injEq, Prod.mk.injEq] at h
      obtain ⟨rfl, rfl, rfl⟩ := h
      refine ⟨by simp, by simp, fun j hj => by simp [nms, nm1, nmL, nm0] at hj, ?_⟩
      exact sum_spec cs o n c (hob _ (List.mem_cons_self ..)) (hpl cs (by simp)) (hob _ (List.mem_cons_of_mem _ (List.mem_cons_self ..))) (hob _ (by simp))
    · simp at h
  · unfold sum_F at h
    split at h <;> simp at h <;> simp
noncomputable def t_sum : Sums := upd t_base 15 (some (roSum sum_F))
theorem t_sum_ok : SumsOK Try.prog t_sum := sums_cons t_base_ok sum_sum
end Go.Proofs.Ytmgkmekknhggbaa.Fs

