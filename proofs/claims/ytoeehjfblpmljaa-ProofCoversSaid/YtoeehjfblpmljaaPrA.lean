/-
  proof.right, as the evaluator runs it. No condition.
-/
import Derived.Test.YtoeehjfblpmljaaBoxF
set_option linter.unusedVariables false
set_option linter.unusedSimpArgs false
set_option maxRecDepth 100000
namespace Go.Proofs.Ytoeehjfblpmljaa.PrA
open Go Go.RowKit Go.Proofs.Ytoeehjfblpmljaa.Ev Go.Proofs.Ytoeehjfblpmljaa.PickE Go.Proofs.Ytoeehjfblpmljaa.BoxF
theorem r1 (p a : Int)  {E : Env} (hE : EnvOK E Try.prog Try.f25 1 0 (.bool (keyEq (.agg ⟨[.bool true, .int .i64 p, .int .i64 a]⟩) (.agg ⟨[.bool true, .int .i64 0, .int .i64 0]⟩))) [] []) (hob : all [Back (Value.bool (keyEq (Value.agg (Array.mk [Value.bool true, Value.int IntKind.i64 p, Value.int IntKind.i64 a])) (Value.agg (Array.mk [Value.bool true, Value.int IntKind.i64 0, Value.int IntKind.i64 0])))) (Value.bool (keyEq (Value.agg (Array.mk [Value.bool true, Value.int IntKind.i64 p, Value.int IntKind.i64 a])) (Value.agg (Array.mk [Value.bool true, Value.int IntKind.i64 0, Value.int IntKind.i64 0])))) [] [] []]) : Sat E [.code (bodyOf Try.f25)] (st0 Try.f25 [.agg ⟨[.bool true, .int .i64 p, .int .i64 a]⟩] (roRows []) 0) :=
  by_ret (T := auto0 t_bcut) (h := hints []) (ws := []) (nx' := 0) hE hm (auto0_ok t_bcut_ok) (by omega) (by simp) (by simp) (by kernel_rfl) hob
theorem r2 (p a : Int)  {E : Env} (hE : EnvOK E Try.prog Try.f25 1 0 (.bool (decide (p ≤ 4))) [] []) (hob : all [Back (Value.bool (decide (p ≤ 4))) (Value.bool (decide (p ≤ 4))) [] [] [], decide (p ≥ 0) = true, (decide (p ≥ 0) == true) = true, (decide (p ≥ 0) == true) = true, (decide (p ≥ 0) == true) = true]) : Sat E [.code (bodyOf Try.f25)] (st0 Try.f25 [.agg ⟨[.bool false, .int .i64 p, .int .i64 a]⟩] (roRows []) 0) :=
  by_ret (T := auto0 t_bcut) (h := hints [(3, 4, {g := some true}), (3, 5, {g := some true}), (3, 6, {g := some true}), (3, 7, { k := some true })]) (ws := []) (nx' := 0) hE hm (auto0_ok t_bcut_ok) (by omega) (by simp) (by simp) (by kernel_rfl) hob
theorem r3 (p a : Int)  {E : Env} (hE : EnvOK E Try.prog Try.f25 1 0 (.bool false) [] []) (hob : all [Back (Value.bool false) (Value.bool false) [] [] [], decide (p ≥ 0) = false, (decide (p ≥ 0) == true) = false, (decide (p ≥ 0) == true) = false, (decide (p ≥ 0) == true) = false]) : Sat E [.code (bodyOf Try.f25)] (st0 Try.f25 [.agg ⟨[.bool false, .int .i64 p, .int .i64 a]⟩] (roRows []) 0) :=
  by_ret (T := auto0 t_bcut) (h := hints [(3, 4, {g := some false}), (3, 5, {g := some false}), (3, 6, {g := some false}), (3, 7, { k := some false })]) (ws := []) (nx' := 0) hE hm (auto0_ok t_bcut_ok) (by omega) (by simp) (by simp) (by kernel_rfl) hob
end Go.Proofs.Ytoeehjfblpmljaa.PrA

