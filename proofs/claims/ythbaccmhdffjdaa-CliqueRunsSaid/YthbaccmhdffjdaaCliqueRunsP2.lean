/-
  The row of the law copselaw15.CliqueRuns: for every input the call returns true, and each argument reads afterwards as it read before. No condition beside the form's own.
-/
import Derived.Test.YthbaccmhdffjdaaProg
import Derived.Below
import Derived.RowKit3
import Derived.WalkKit
import Derived.Test.YthbaccmhdffjdaaRows
import Derived.ProofKit
import Derived.OpenShut
import Derived.ShutString
import Derived.ChangeOld
import Derived.SizedLaws
import Derived.Test.YthbaccmhdffjdaaCliqueRunsP1
set_option linter.unusedVariables false
set_option linter.unusedSimpArgs false
set_option maxRecDepth 100000
namespace Go.Proofs.Ythbaccmhdffjdaa.Ev
open Go Go.RowKit
theorem hm : Try.prog.follows .mixedOrders = true := by kernel_rfl
theorem hN : namesB Try.prog = true := by kernel_rfl
abbrev noHint : Nat → Nat → Nat → Hint := fun _ _ _ => {}
noncomputable abbrev auto0 (given : Sums) : Sums := auto Try.prog given (fun _ => []) (fun _ => noHint) 8
theorem auto0_ok {given : Sums} (h : SumsOK Try.prog given) : SumsOK Try.prog (auto0 given) := auto_ok hm hN h _ _ 8
noncomputable abbrev auto1 (given : Sums) : Sums := autoH Try.prog given (fun _ => []) (fun _ => noHint) 8
theorem auto1_ok {given : Sums} (h : SumsOK Try.prog given) : SumsOK Try.prog (auto1 given) := autoH_ok hm hN h _ _ 8
noncomputable abbrev autoM (given : Sums) : Sums := autoR Try.prog given (fun _ => []) (fun _ => noHint) 8
theorem autoM_ok {given : Sums} (h : SumsOK Try.prog given) : SumsOK Try.prog (autoM given) := autoR_ok hm hN h _ _ 8
theorem en {f : FuncId} {fn : Func} {c : Code} (hf : Try.prog.funcs[f]? = some fn) (hb : fn.body = some c) : Enters Try.prog f := enters_of hN hf hb
noncomputable abbrev t_none : Sums := fun _ => none
theorem t_none_ok : SumsOK Try.prog t_none := sums_none
abbrev i64 (n : Int) : Value := .int .i64 n
abbrev sp (a b : Int) : Value := .agg ⟨[.int .i64 a, .int .i64 b]⟩
abbrev I64 (n : Int) : Prop := -9223372036854775808 ≤ n ∧ n ≤ 9223372036854775807
abbrev bb (x y : Bool) : Prop := Value.bool x = Value.bool y
theorem bb_of {x y : Bool} (h : x = y) : bb x y := by rw [h]
abbrev ht (b : Bool) : Hint := { v := some (.bool b) }
theorem cond_ite (b : Bool) {α : Type} (x y : α) : (bif b then x else y) = if b = true then x else y := by cases b <;> rfl
theorem bool_eq {a b : Bool} (h : a = b) : Value.bool a = Value.bool b := by rw [h]
theorem int_eq {k : IntKind} {a b : Int} (h : a = b) : Value.int k a = Value.int k b := by rw [h]
theorem wrap_id {n : Int} (h : I64 n) : IntKind.i64.wrap n = n := by rw [IntKind.wrap_i64]; omega
end Go.Proofs.Ythbaccmhdffjdaa.Ev


set_option linter.unusedVariables false
set_option linter.unusedSimpArgs false
set_option maxRecDepth 100000
namespace Go.Proofs.Ythbaccmhdffjdaa.WkCliqueRuns
open Go Go.RowKit Go.Proofs.Ythbaccmhdffjdaa.Ev
abbrev z (n : Int) : Value := .int .i64 n
def obs : List Prop := [some (Value.agg ⟨[z 4, z 5, z 0, z 0, z 0, z 0, z 0, z 0, z 0, z 0]⟩) = some (Value.agg ⟨[z 4, z 5, z 0, z 0, z 0, z 0, z 0, z 0, z 0, z 0]⟩), some (z 22) = some (z 22), some (z 21) = some (z 21), some (z 11) = some (z 11), some (z 0) = some (z 0), some (z 0) = some (z 0), some (z 0) = some (z 0)]
theorem walk (w : World) : Calls Try.prog 3 #[] w fun e w' => e = .returned (.bool true) ∧ Below w.heap.size w w' :=
  (calls_runO hm (autoM_ok t_none_ok) (hints [(6, 33, { k := some true }), (6, 38, { k := some true })]) [] obs (by kernel_rfl) ⟨rfl, rfl, rfl, rfl, rfl, rfl, rfl, trivial⟩).2.2 w
end Go.Proofs.Ythbaccmhdffjdaa.WkCliqueRuns


set_option linter.unusedVariables false
set_option linter.unusedSimpArgs false
namespace Go.Proofs.Ythbaccmhdffjdaa
open Go Go.RowKit
theorem below_alloc {w W : World} (h : Below w.heap.size w W) (o : Obj) : Below w.heap.size w (W.alloc o) := h.alloc h.size o
theorem below_drew {B : Nat} {w W : World} (h : Below B w W) : Below B w W.drew := ⟨h.os, h.tape, h.output, h.size, h.block⟩
/-- What was there before a call that only adds is there behind it: cells and marks. -/
theorem bcell {W w1 : World} (hb : Below W.heap.size W w1) : (∀ b o, b < W.heap.size → w1.cell? ⟨b, o, none⟩ = W.cell? ⟨b, o, none⟩) ∧ (∀ b o, b < W.heap.size → w1.frozen? ⟨b, o, none⟩ = W.frozen? ⟨b, o, none⟩) :=
  ⟨fun b o h => hb.cell (p := ⟨b, o, none⟩) h, fun b o h => hb.frozen (p := ⟨b, o, none⟩) h⟩
theorem below_call {w X w1 : World} (k : Below X.heap.size X w1) (h : Below w.heap.size w X) : Below w.heap.size w w1 := h.trans (k.mono h.size)
theorem add_plain (g j : Nat) : (⟨g, 0, none⟩ : Addr).add j = ⟨g, j, none⟩ := by unfold Addr.add; split <;> simp_all
/-- A slice reads as a list of numbers of a kind. -/
def ReadsInt (w : World) (k : IntKind) (A : Option Addr) (n : Nat) (xs : List Int) : Prop :=
  xs.length = n ∧ n ≤ 9223372036854775807 ∧ (0 < n → ∃ ad, A = some ad ∧ ∀ j, j < n → w.cell? (ad.add j) = some (.int k (xs.getD j 0)))
theorem reads_alloc (w : World) (xs : List Int) (T : TypeId) (hn : xs.length ≤ 9223372036854775807) : ReadsInt (w.alloc (.cells (xs.map (Value.int .i64)).toArray T)) .i64 (some ⟨w.heap.size, 0, none⟩) xs.length xs := by
  refine ⟨rfl, hn, fun _ => ⟨_, rfl, fun j hj => ?_⟩⟩
  rw [add_plain]
  simp [List.getD, List.getElem?_eq_getElem hj]
/-- The slice reads as these numbers, up to its length. -/
structure ReadsInts (w : World) (A : Option Addr) (n c : Nat) (zs : List Int) : Prop where
  reads : ReadsInt w .i64 A n zs
  cap : n ≤ c
theorem ReadsInts.nil {w : World} : ReadsInts w none 0 0 [] := ⟨⟨rfl, by decide, fun h => absurd h (by decide)⟩, Nat.le_refl _⟩
theorem ReadsInts.of {w : World} {x : Addr} {n c : Nat} {zs : List Int} (hl : n ≤ c) (hm : c ≤ maxLen) (hz : zs.length = c) (hcell : ∀ i, i < zs.length → w.cell? (x.add i) = some (.int .i64 (zs.getD i 0))) :
    ReadsInts w (some x) n c (zs.take n) := by
  refine ⟨⟨by simp; omega, by unfold maxLen at hm; omega, fun _ => ⟨x, rfl, fun j hj => ?_⟩⟩, hl⟩
  rw [hcell j (by omega)]
  simp [List.getD, List.getElem?_take, hj]
end Go.Proofs.Ythbaccmhdffjdaa


namespace Go.Proofs.Ythbaccmhdffjdaa.cliqueRunsRow
open Go.ChangeShapes Go.WideShapes Go.ChangeAt Go.RowKit
open Go.ChangeMaps (open_string shut_string)
set_option linter.unusedVariables false
theorem own : ownKnob Try.prog.godebug = none := by kernel_rfl
theorem laidOut : laidOutB Try.prog = true := by kernel_rfl
set_option maxHeartbeats 4000000 in
set_option maxRecDepth 100000 in
theorem lifted (os : Os) (started : os.Started) (H : Type) (enc : TypeId × Value → H) :
    ReturnsInHanded {} Try.checked os 3 .any (Rows.cliqueRunsSpec.pre6 enc Try.prog Try.f3 Rows.cliqueRunsRow.domain false) (Rows.cliqueRunsSpec.post enc Try.prog Try.f3 false true false false) := by
  refine returnsInHanded_of_change_sized (C := Try.checked) own started (by kernel_rfl) Try.func3
    (ChangeSpec.witness6 (enc := enc) (C := Try.checked) false ⟨#[], #[], []⟩ 8 (by kernel_rfl) (by kernel_rfl) (by kernel_rfl) (by kernel_rfl)) ?_
  intro W base args ds gs before hval0 hW hcnd hsz0 _
  have hsz : (DataW.weightsEach Try.prog (Try.f3.params.toList ++ Rows.cliqueRunsSpec.plain.varTypes Try.prog) (ds ++ gs)).all (· ≤ reachBytes) = true := hsz0
  have hval : ∀ (j : Nat) t v, Try.f3.params[j]? = some t → args[j]? = some v → Value.okWide Try.prog W .any base t v := hval0
  have hW' := hW
  obtain ⟨p, q, hA0, hV, rfl, hfz, hnd⟩ := hW
  have hA : DataW.TrodAll enc Try.prog W 0 (fun _ => true) true Try.f3.params.toList args.toList ds p := hA0
  rw [Try.params3] at hA hval hsz
  obtain ⟨rfl, rfl, rfl⟩ := trodAll_none hA
  obtain ⟨rfl, rfl⟩ := trodVars_none hV
  clear hA0 hval0 hsz0 hsz
  refine (WkCliqueRuns.walk W ).mono fun e W' ⟨he, bel⟩ => ?_
  subst he
  exact ⟨_, rfl, _, _, _, [], _, [], hW', trodAll_mk1 (shut_bool Try.underlying4 _), trodAll_mk0, rfl, bel.frame _, fun h => by cases h⟩
theorem over : Rows.cliqueRunsRow.holds Try.pinned (OpenSpec.ofChange Rows.cliqueRunsSpec) :=
  OpenClaim.holds_of_wide 3 Try.f3 rfl rfl rfl rfl rfl rfl rfl ⟨rfl, rfl, rfl, rfl, rfl⟩ rfl rfl rfl rfl rfl (by kernel_rfl) Try.func3 (by kernel_rfl)
    (of_decide_eq_true (by kernel_rfl)) (by unfold Func.isWrapper; first | (rw [if_pos (by decide +kernel)]; kernel_rfl) | (rw [if_neg (by decide +kernel)]; exact ⟨rfl, rfl⟩))
    (fun os started H enc _ => lifted os started H enc)
end Go.Proofs.Ythbaccmhdffjdaa.cliqueRunsRow
namespace Go.Proofs.Ythbaccmhdffjdaa
theorem cliqueRuns_holds : Rows.CliqueRunsSaid := cliqueRunsRow.over
#print axioms cliqueRuns_holds
end Go.Proofs.Ythbaccmhdffjdaa
