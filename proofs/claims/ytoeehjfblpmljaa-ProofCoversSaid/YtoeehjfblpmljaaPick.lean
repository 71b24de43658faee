/-
  pick and Within of the statements' own packages. No condition.
-/
import Derived.Test.YtoeehjfblpmljaaElt
set_option linter.unusedVariables false
set_option linter.unusedSimpArgs false
set_option maxRecDepth 100000
namespace Go.Proofs.Ytoeehjfblpmljaa.PickE
open Go Go.RowKit Go.Proofs.Ytoeehjfblpmljaa.Ev
theorem pick0 (cs : List Value) (off n c : Nat) (i : Int)  {E : Env} (hE : EnvOK E Try.prog Try.f20 2 1 (.int .i64 0) [] []) (hob : all [Back (Value.int IntKind.i64 ((0 : Int))) (Value.int IntKind.i64 ((0 : Int))) [] [] [], ((n : Int) == (0 : Int)) = true]) : Sat E [.code (bodyOf Try.f20)] (st0 Try.f20 [.slice (some ⟨0, off, none⟩) n c, .int .i64 i] (roRows [cs]) 1) :=
  by_ret (T := auto0 t_none) (h := hints []) (ws := [.b true]) (nx' := 1) hE hm (auto0_ok t_none_ok) (by omega) (by simp) (by simp) (by kernel_rfl) hob
theorem pick1 (cs : List Value) (off n c : Nat) (i z : Int)  {E : Env} (hE : EnvOK E Try.prog Try.f20 2 1 (.int .i64 z) [] []) (hob : all [Back (Value.int IntKind.i64 z) (Value.int IntKind.i64 z) [] [] [], readPart Try.prog 3 cs (off + (i.tmod ((n : Int))).toNat * 1) = some (Value.int IntKind.i64 z), (0 : Int) ≤ i.tmod ((n : Int)) ∧ i.tmod ((n : Int)) < (n : Int), (n : Int) ≠ (0 : Int), ((n : Int) == (0 : Int)) = false]) : Sat E [.code (bodyOf Try.f20)] (st0 Try.f20 [.slice (some ⟨0, off, none⟩) n c, .int .i64 i] (roRows [cs]) 1) :=
  by_ret (T := auto0 t_none) (h := hints [(3, 4, { p := true }), (3, 5, { p := true }), (3, 6, { o := some (.int .i64 z) })]) (ws := [.b false]) (nx' := 1) hE hm (auto0_ok t_none_ok) (by omega) (by simp) (by simp) (by kernel_rfl) hob
theorem pickN (i : Int)  {E : Env} (hE : EnvOK E Try.prog Try.f20 2 0 (.int .i64 0) [] []) (hob : all [Back (Value.int IntKind.i64 ((0 : Int))) (Value.int IntKind.i64 ((0 : Int))) [] [] []]) : Sat E [.code (bodyOf Try.f20)] (st0 Try.f20 [.slice none 0 0, .int .i64 i] (roRows []) 0) :=
  by_ret (T := auto0 t_none) (h := hints []) (ws := []) (nx' := 0) hE hm (auto0_ok t_none_ok) (by omega) (by simp) (by simp) (by kernel_rfl) hob
def pickI (zs : List Int) (i : Int) : Int := zs.getD (Int.tmod i zs.length).toNat 0
def pick_F : RoF := fun xs css =>
  match xs, css with
  | [.slice none 0 0, .int .i64 i], [] => some (.int .i64 (pickI [] i), [], [])
  | [.slice (some ⟨0, off, none⟩) n c, .int .i64 i], [cs] => some (.int .i64 (pickI (intsOf cs off n) i), [], [IntRow .i64 cs off n, 0 ≤ i])
  | _, _ => none
theorem pick_sum : SumOK Try.prog 20 (roSum pick_F) := by
  refine roSum_ok (en Try.func20 rfl) ?_ (fun xs css r h => ?_)
  · intro xs css v blks ob h hob hpl hl
    unfold pick_F at h
    split at h
    · rename_i i
      simp only [Option.some.injEq, Prod.mk.injEq] at h
      obtain ⟨rfl, rfl, rfl⟩ := h
      refine ⟨by simp, by simp, fun j hj => by simp [nms, nm1, nm0] at hj, ?_⟩
      refine spec_of_sat Try.func20 rfl fun E hE => ?_
      exact pickN i hE ⟨⟨rfl, rfl⟩, trivial⟩
    · rename_i off n c i cs
      simp only [Option.some.injEq, Prod.mk.injEq] at h
      obtain ⟨rfl, rfl, rfl⟩ := h
      refine ⟨by simp, by simp, fun j hj => by simp [nms, nm1, nm0] at hj, ?_⟩
      obtain ⟨h1, h2⟩ := hob _ (List.mem_cons_self ..)
      have h0 : 0 ≤ i := hob _ (by simp)
      refine spec_of_sat Try.func20 rfl fun E hE => ?_
      have hlen := intsOf_len h1
      by_cases hn : n = 0
      · subst hn
        have e : pickI (intsOf cs off 0) i = 0 := by simp [pickI, intsOf]
        rw [e] at hE
        exact pick0 cs off 0 c i hE ⟨⟨rfl, rfl⟩, rfl, trivial⟩
      · have hm0 : 0 ≤ i.tmod (n : Int) := Int.tmod_nonneg _ h0
        have hm1 : i.tmod (n : Int) < (n : Int) := by have := Int.tmod_lt_of_pos i (b := (n : Int)) (by omega); omega
        refine pick1 cs off n c i _ hE ⟨⟨rfl, rfl⟩, ?_, ⟨hm0, hm1⟩, by omega, ?_, trivial⟩
        · refine readPart_one (by kernel_rfl) ?_ rfl
          rw [Nat.mul_one, h2 _ (by omega)]
          simp only [pickI, hlen]
        · have : ((n : Int) == 0) = false := by rw [beq_eq_false_iff_ne]; omega
          exact this
    · simp at h
  · unfold pick_F at h
    split at h <;> simp at h <;> simp
noncomputable def t_pick : Sums := upd t_none 20 (some (roSum pick_F))
theorem t_pick_ok : SumsOK Try.prog t_pick := sums_cons t_none_ok pick_sum
end Go.Proofs.Ytoeehjfblpmljaa.PickE

