/-
  The evaluator over this program. No condition.
-/
import Derived.Test.YtmgkmekknhggbaaEvRo
import Derived.Test.YtmgkmekknhggbaaProg
set_option linter.unusedVariables false
set_option linter.unusedSimpArgs false
set_option maxRecDepth 100000
namespace Go.Proofs.Ytmgkmekknhggbaa.Ev
open Go Go.RowKit
theorem hm : Try.prog.follows .mixedOrders = true := by kernel_rfl
theorem hN : namesB Try.prog = true := by kernel_rfl
abbrev noHint : Nat → Nat → Nat → Hint := fun _ _ _ => {}
noncomputable abbrev auto0 (given : Sums) : Sums := auto Try.prog given (fun _ => []) (fun _ => noHint) 8
theorem auto0_ok {given : Sums} (h : SumsOK Try.prog given) : SumsOK Try.prog (auto0 given) := auto_ok hm hN h _ _ 8
noncomputable abbrev auto1 (given : Sums) : Sums := autoH Try.prog given (fun _ => []) (fun _ => noHint) 8
theorem auto1_ok {given : Sums} (h : SumsOK Try.prog given) : SumsOK Try.prog (auto1 given) := autoH_ok hm hN h _ _ 8
noncomputable abbrev autoM (given : Sums) : Sums := autoR Try.prog given (fun _ => []) (fun _ => noHint) 8
theorem autoM_ok {given : Sums} (h : SumsOK Try.prog given) : SumsOK Try.prog (autoM given) := autoR_ok hm hN h _ _ 8
theorem en {f : FuncId} {fn : Func} {c : Code} (hf : Try.prog.funcs[f]? = some fn) (hb : fn.body = some c) : Enters Try.prog f := enters_of hN hf hb
noncomputable abbrev t_none : Sums := fun _ => none
theorem t_none_ok : SumsOK Try.prog t_none := sums_none
abbrev i64 (n : Int) : Value := .int .i64 n
abbrev sp (a b : Int) : Value := .agg ⟨[.int .i64 a, .int .i64 b]⟩
abbrev I64 (n : Int) : Prop := -9223372036854775808 ≤ n ∧ n ≤ 9223372036854775807
abbrev bb (x y : Bool) : Prop := Value.bool x = Value.bool y
theorem bb_of {x y : Bool} (h : x = y) : bb x y := by rw [h]
abbrev ht (b : Bool) : Hint := { v := some (.bool b) }
theorem cond_ite (b : Bool) {α : Type} (x y : α) : (bif b then x else y) = if b = true then x else y := by cases b <;> rfl
theorem bool_eq {a b : Bool} (h : a = b) : Value.bool a = Value.bool b := by rw [h]
theorem int_eq {k : IntKind} {a b : Int} (h : a = b) : Value.int k a = Value.int k b := by rw [h]
theorem wrap_id {n : Int} (h : I64 n) : IntKind.i64.wrap n = n := by rw [IntKind.wrap_i64]; omega
end Go.Proofs.Ytmgkmekknhggbaa.Ev

