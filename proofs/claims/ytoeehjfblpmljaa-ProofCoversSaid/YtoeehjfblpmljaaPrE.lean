/-
  proof.Right and proof.Deep: what they hand back; what proof.Sums reckons; the frames of its loop. No condition.
-/
import Derived.Test.YtoeehjfblpmljaaPrD
set_option linter.unusedVariables false
set_option linter.unusedSimpArgs false
set_option maxRecDepth 100000
namespace Go.Proofs.Ytoeehjfblpmljaa.PrA
open Go Go.RowKit Go.Proofs.Ytoeehjfblpmljaa.Ev Go.Proofs.Ytoeehjfblpmljaa.PickE Go.Proofs.Ytoeehjfblpmljaa.BoxF Go.Proofs.Ytoeehjfblpmljaa.PrA
theorem rtN (u : Unit)  {E : Env} (hE : EnvOK E Try.prog Try.f9 1 0 (.bool false) [] []) (hob : all [Back (Value.bool false) (Value.bool false) [] [] [], plainR []]) : Sat E [.code (bodyOf Try.f9)] (st0 Try.f9 [.slice none 0 0] (roRows []) 0) :=
  by_ret (T := auto0 t_deep) (h := hints []) (ws := []) (nx' := 0) hE hm (auto0_ok t_deep_ok) (by omega) (by simp) (by simp) (by kernel_rfl) hob
theorem rtS (cs : List Value) (off n c : Nat)  {E : Env} (hE : EnvOK E Try.prog Try.f9 1 1 (.bool (decide (deepI (eStp.list cs off n) > 0))) [] []) (hob : all [Back (Value.bool (decide (deepI (eStp.list cs off n) > 0))) (Value.bool (decide (deepI (eStp.list cs off n) > 0))) [] [] [], plainR [cs], eStp.Row cs off n]) : Sat E [.code (bodyOf Try.f9)] (st0 Try.f9 [.slice (some ⟨0, off, none⟩) n c] (roRows [cs]) 1) :=
  by_ret (T := auto0 t_deep) (h := hints []) (ws := []) (nx' := 1) hE hm (auto0_ok t_deep_ok) (by omega) (by simp) (by simp) (by kernel_rfl) hob
theorem dpN (u : Unit)  {E : Env} (hE : EnvOK E Try.prog Try.f10 1 0 (.int .i64 0) [] []) (hob : all [Back (Value.int IntKind.i64 ((0 : Int))) (Value.int IntKind.i64 ((0 : Int))) [] [] [], plainR []]) : Sat E [.code (bodyOf Try.f10)] (st0 Try.f10 [.slice none 0 0] (roRows []) 0) :=
  by_ret (T := auto0 t_deep) (h := hints []) (ws := []) (nx' := 0) hE hm (auto0_ok t_deep_ok) (by omega) (by simp) (by simp) (by kernel_rfl) hob
theorem dpS (cs : List Value) (off n c : Nat)  {E : Env} (hE : EnvOK E Try.prog Try.f10 1 1 (.int .i64 (deepI (eStp.list cs off n))) [] []) (hob : all [Back (Value.int IntKind.i64 (deepI (eStp.list cs off n))) (Value.int IntKind.i64 (deepI (eStp.list cs off n))) [] [] [], plainR [cs], eStp.Row cs off n]) : Sat E [.code (bodyOf Try.f10)] (st0 Try.f10 [.slice (some ⟨0, off, none⟩) n c] (roRows [cs]) 1) :=
  by_ret (T := auto0 t_deep) (h := hints []) (ws := []) (nx' := 1) hE hm (auto0_ok t_deep_ok) (by omega) (by simp) (by simp) (by kernel_rfl) hob
def Right_F : RoF := fun xs css => match xs, css with
  | [.slice none 0 0], [] => some (.bool false, [], [])
  | [.slice (some ⟨0, off, none⟩) n c], [cs] => some (.bool (decide (deepI (eStp.list cs off n) > 0)), [], [eStp.Row cs off n])
  | _, _ => none
theorem Right_sum : SumOK Try.prog 9 (roSum Right_F) := by
  refine roSum_ok (en Try.func9 rfl) ?_ (fun xs css r h => ?_)
  · intro xs css v blks ob h hob hpl hl
    unfold Right_F at h
    split at h
    · simp only [Option.some.injEq, Prod.mk.injEq] at h
      obtain ⟨rfl, rfl, rfl⟩ := h
      refine ⟨by simp, by simp, fun j hj => by simp [nms, nm1, nm0] at hj, ?_⟩
      exact spec_of_sat Try.func9 rfl fun E hE => rtN () hE ⟨⟨rfl, rfl⟩, by intro x hx; simp at hx, trivial⟩
    · rename_i off n c cs
      simp only [Option.some.injEq, Prod.mk.injEq] at h
      obtain ⟨rfl, rfl, rfl⟩ := h
      refine ⟨by simp, by simp, fun j hj => by simp [nms, nm1, nm0] at hj, ?_⟩
      exact spec_of_sat Try.func9 rfl fun E hE => rtS cs off n c hE ⟨⟨rfl, rfl⟩, hpl, hob _ (by simp), trivial⟩
    · simp at h
  · unfold Right_F at h
    split at h <;> simp at h <;> simp
theorem Deep_sum : SumOK Try.prog 10 (roSum deep_F) := by
  refine roSum_ok (en Try.func10 rfl) ?_ (fun xs css r h => ?_)
  · intro xs css v blks ob h hob hpl hl
    unfold deep_F at h
    split at h
    · simp only [Option.some.injEq, Prod.mk.injEq] at h
      obtain ⟨rfl, rfl, rfl⟩ := h
      refine ⟨by simp, by simp, fun j hj => by simp [nms, nm1, nm0] at hj, ?_⟩
      exact spec_of_sat Try.func10 rfl fun E hE => dpN () hE ⟨⟨rfl, rfl⟩, by intro x hx; simp at hx, trivial⟩
    · rename_i off n c cs
      simp only [Option.some.injEq, Prod.mk.injEq] at h
      obtain ⟨rfl, rfl, rfl⟩ := h
      refine ⟨by simp, by simp, fun j hj => by simp [nms, nm1, nm0] at hj, ?_⟩
      exact spec_of_sat Try.func10 rfl fun E hE => dpS cs off n c hE ⟨⟨rfl, rfl⟩, hpl, hob _ (by simp), trivial⟩
    · simp at h
  · unfold deep_F at h
    split at h <;> simp at h <;> simp
noncomputable def t_Right : Sums := upd t_deep 9 (some (roSum Right_F))
theorem t_Right_ok : SumsOK Try.prog t_Right := sums_cons t_deep_ok Right_sum
noncomputable def t_Deep : Sums := upd t_Right 10 (some (roSum deep_F))
theorem t_Deep_ok : SumsOK Try.prog t_Deep := sums_cons t_Right_ok Deep_sum
/-! ### Sums -/
/-- P19.2: what the steps come to, the next box first. -/
def sumsGo : List Stp → List Bx → List Bx → Option (List Bx)
  | [], _, out => some out
  | _ :: _, [], _ => none
  | s :: r, x :: stk, out => if s.sum = true then sumsGo r stk (out ++ [x]) else
    if s.at_ < x.lo s.place ∨ x.hi s.place ≤ s.at_ then none else sumsGo r (x.low s.place s.at_ :: x.high s.place s.at_ :: stk) out
def sumsI (b : Bx) (l : List Stp) : Option (List Bx) := if deepI l > 0 then sumsGo l [b] [] else none
/-- Frames: the steps, the open boxes (the last one is the next), what is closed; b: 0: nothing is closed yet. -/
structure SF where
  i : Nat
  stk : List Bx
  junk : List Bx
  out : List Bx
def sumsL (cs : List Value) (off n c : Nat) (b : Bx) : LoopF SF where
  ts _ := [6, 7, 19, 20, 21]
  hs z := match z with | 0 => [0, 11] | _ => [0, 11, 12]
  tv z := fun ⟨i, stk, junk, out⟩ => [.slice (some ⟨11, 0, none⟩) stk.length mk, (match z with | 0 => .slice none 0 0 | _ => .slice (some ⟨12, 0, none⟩) out.length mk), .slice (some ⟨0, off, none⟩) n c, .int .i64 (n : Int), .int .i64 (i : Int)]
  hv z := fun ⟨i, stk, junk, out⟩ => match z with
    | 0 => [.ro cs, .vec (eBox.row (stk.reverse ++ junk)) 31 10]
    | _ => [.ro cs, .vec (eBox.row (stk.reverse ++ junk)) 31 10, .vec (eBox.row out) 31 10]
  inv z f := f.i ≤ n ∧ n ≤ 65536 ∧ (∃ m, deepGo ((eStp.list cs off n).drop f.i) f.stk.length m = deepGo (eStp.list cs off n) 1 1) ∧ f.stk.length ≤ f.i + 1 ∧ f.out.length ≤ f.i ∧ (∀ x ∈ f.stk, x.I64s) ∧
    sumsGo ((eStp.list cs off n).drop f.i) f.stk f.out = sumsGo (eStp.list cs off n) [b] [] ∧ (match z with | 0 => f.out = [] ∧ f.stk ≠ [] | _ => f.out ≠ [])
  mu _ f := n - f.i
  nx := 13
theorem sumsL_ok (cs : List Value) (off n c : Nat) (b : Bx) (hpl : ∀ x ∈ cs, leafG x = true) : (sumsL cs off n c b).OK 1 := by
  refine ⟨(by decide : 1 ≤ 13), fun z i h k hk => ?_, fun z i h v hv k hk => ?_, fun z i h x hx => ?_⟩
  · show k < 13
    match z with
    | 0 => simp [sumsL] at hk; omega
    | z + 1 => simp [sumsL] at hk; omega
  · show k < 13
    match z with
    | 0 =>
      simp [sumsL] at hv
      rcases hv with rfl | rfl | rfl | rfl | rfl <;> simp [nms, nm1, nm0] at hk <;> omega
    | z + 1 =>
      simp [sumsL] at hv
      rcases hv with rfl | rfl | rfl | rfl | rfl <;> simp [nms, nm1, nm0] at hk <;> omega
  · have hb : ∀ l : List Bx, (Blk.vec (eBox.row l) 31 10).namesLt 13 := fun l => Blk.plain.namesLt (b := .vec _ _ _) (Elt.row_pl l) _
    match z with
    | 0 =>
      simp [sumsL] at hx
      rcases hx with rfl | rfl
      · exact Blk.plain.namesLt (b := .ro cs) hpl _
      · exact hb _
    | z + 1 =>
      simp [sumsL] at hx
      rcases hx with rfl | rfl | rfl
      · exact Blk.plain.namesLt (b := .ro cs) hpl _
      · exact hb _
      · exact hb _
end Go.Proofs.Ytoeehjfblpmljaa.PrA

