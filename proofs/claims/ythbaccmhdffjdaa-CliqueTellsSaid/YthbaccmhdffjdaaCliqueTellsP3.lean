/-
  The row of the law copselaw15.CliqueTells: for every input the call returns true, and each argument reads afterwards as it read before. No condition beside the form's own.
-/
import Derived.Test.YthbaccmhdffjdaaRows
import Derived.WalkKit
import Derived.ProofKit
import Derived.OpenShut
import Derived.ShutString
import Derived.ChangeOld
import Derived.Below
import Derived.SizedLaws
import Derived.Test.YthbaccmhdffjdaaCliqueTellsP2
set_option linter.unusedVariables false
set_option linter.unusedSimpArgs false
set_option maxRecDepth 100000
namespace Go.Proofs.Ythbaccmhdffjdaa.Rp
open Go Go.RowKit Go.Proofs.Ythbaccmhdffjdaa.Ev Go.Proofs.Ythbaccmhdffjdaa.BitLib Go.Proofs.Ythbaccmhdffjdaa.Rp Go.Proofs.Ythbaccmhdffjdaa.SamePc
theorem rmIn (Q : Nat → List Value → Prop) (cs : List Value) (o n c N : Nat) (ln : Int) (zs r : List Value)  {E : Env} {rv : Value} {rhs : List Nat} {rhv : List Blk} (hE : EnvOK E Try.prog Try.f18 2 1 rv rhs rhv) (hL : (rmL N Q).OK 1) (hob : all ([SameK (atLp (lp Try.f18 0)) (atLp (lp Try.f18 0)), Enter (rmL N Q) 0 none [Value.pointer (some (Addr.mk 1 0 none)), Value.slice (some (Addr.mk 21 0 none)) (Int.ofNat N).toNat (Int.ofNat N).toNat, Value.int IntKind.i64 ((n : Int))] [Blk.cells [Value.int IntKind.i64 ((0 : Int)), Value.int IntKind.i64 ((0 : Int)), Value.int IntKind.i64 ((0 : Int)), Value.int IntKind.i64 ((0 : Int)), Value.int IntKind.i64 ((0 : Int)), Value.int IntKind.i64 ((0 : Int)), Value.int IntKind.i64 ((0 : Int)), Value.int IntKind.i64 ((0 : Int)), Value.int IntKind.i64 ((0 : Int)), Value.int IntKind.i64 ((0 : Int)), Value.int IntKind.i64 ((77 : Int))] 27, Blk.cells r 27] [(3, 1), (10, 21)], CopyOK n (Int.ofNat N).toNat 11 0 cs o zs r, MkOK (Int.ofNat N) (Int.ofNat N) 88 [Value.int IntKind.i64 ((0 : Int)), Value.int IntKind.i64 ((0 : Int)), Value.int IntKind.i64 ((0 : Int)), Value.int IntKind.i64 ((0 : Int)), Value.int IntKind.i64 ((0 : Int)), Value.int IntKind.i64 ((0 : Int)), Value.int IntKind.i64 ((0 : Int)), Value.int IntKind.i64 ((0 : Int)), Value.int IntKind.i64 ((0 : Int)), Value.int IntKind.i64 ((0 : Int)), Value.int IntKind.i64 ((0 : Int))] zs, Value.int IntKind.i64 (IntKind.i64.wrap (ln + (80 : Int))) = Value.int IntKind.i64 (Int.ofNat N), Value.int IntKind.i64 ((n : Int)) = Value.int IntKind.i64 ln])) (hK : ∀ zz, (rmL N Q).inv 0 zz → ltO ((rmL N Q).mu 0 zz) none → Sat E (atLp (lp Try.f18 0)) ((rmL N Q).st 0 zz)) : Sat E [.code (bodyOf Try.f18)] (st0 Try.f18 [.slice (some ⟨0, o, none⟩) n c, .agg ⟨[.int .i64 0, .int .i64 0, .int .i64 0, .int .i64 0, .int .i64 0, .int .i64 0, .int .i64 0, .int .i64 0, .int .i64 0, .int .i64 0, .int .i64 77]⟩] (roRows [cs]) 1) :=
  by_to (T := auto0 t_same) (h := hints [(1, 1, {v := some (.int .i64 ln)}), (1, 2, {v := some (.int .i64 (N : Int))}), (1, 3, {c := some zs}), (2, 2, {c := some r})]) (ws := [.stop]) (i0 := (n, r)) hE hm (auto0_ok t_same_ok) hL (by kernel_rfl) hob hK
theorem rmB (Q : Nat → List Value → Prop) (N i : Nat) (r r1 : List Value) (J : Act → World → Prop) {E : Env} {rv : Value} {rhs : List Nat} {rhv : List Blk} (hE : EnvOK E Try.prog Try.f18 2 1 rv rhs rhv) (hL : (rmL N Q).OK 1) (hob : all ([SameK (mkLp (lp Try.f18 0) J) (mkLp (lp Try.f18 0) J), Enter (rmL N Q) 0 (some (N - i)) [Value.pointer (some (Addr.mk 3 0 none)), Value.slice (some (Addr.mk 10 0 none)) N N, Value.int IntKind.i64 (Int.ofNat i.succ)] [Blk.cells [Value.int IntKind.i64 ((0 : Int)), Value.int IntKind.i64 ((0 : Int)), Value.int IntKind.i64 ((0 : Int)), Value.int IntKind.i64 ((0 : Int)), Value.int IntKind.i64 ((0 : Int)), Value.int IntKind.i64 ((0 : Int)), Value.int IntKind.i64 ((0 : Int)), Value.int IntKind.i64 ((0 : Int)), Value.int IntKind.i64 ((0 : Int)), Value.int IntKind.i64 ((0 : Int)), Value.int IntKind.i64 ((77 : Int))] 27, Blk.cells r1 27] [(3, 3), (10, 10)], Value.int IntKind.i64 (IntKind.i64.wrap (Int.ofNat i.succ)) = Value.int IntKind.i64 (Int.ofNat i.succ), lset r (0 + ((i : Int)).toNat * 11) [Value.int IntKind.i64 0, Value.int IntKind.i64 0, Value.int IntKind.i64 0, Value.int IntKind.i64 0, Value.int IntKind.i64 0, Value.int IntKind.i64 0, Value.int IntKind.i64 0, Value.int IntKind.i64 0, Value.int IntKind.i64 0, Value.int IntKind.i64 0, Value.int IntKind.i64 77] = some r1, (0 : Int) ≤ (i : Int) ∧ (i : Int) < Int.ofNat N, decide ((↑i : Int) < (↑N : Int)) = true])) (hK : ∀ zz, (rmL N Q).inv 0 zz → ltO ((rmL N Q).mu 0 zz) (some (N - i)) → Sat E (mkLp (lp Try.f18 0) J) ((rmL N Q).st 0 zz)) : Sat E (inLp (lp Try.f18 0) J) ((rmL N Q).st 0 (i, r)) :=
  by_to (T := auto0 t_same) (h := hints [(6, 3, {p := true}), (6, 4, {c := some r1}), (5, 1, {v := some (.int .i64 ((i + 1 : Nat) : Int))})]) (ws := [.b true]) (i0 := (i + 1, r1)) hE hm (auto0_ok t_same_ok) hL (by kernel_rfl) hob hK
theorem rmE (Q : Nat → List Value → Prop) (N i : Nat) (r : List Value) (hpl : ∀ x ∈ r, leafG x = true) (J : Act → World → Prop) {E : Env} (hE : EnvOK E Try.prog Try.f18 2 1 (.slice (some ⟨100, 0, none⟩) N N) [100] [.cells r 27]) (hob : all ([Back (Value.slice (some (Addr.mk 10 0 none)) N N) (Value.slice (some (Addr.mk 100 0 none)) N N) [Blk.cells r 27] [Blk.cells r 27] [(100, 10)], decide ((↑i : Int) < (↑N : Int)) = false])) : Sat E (inLp (lp Try.f18 0) J) ((rmL N Q).st 0 (i, r)) :=
  by_ret (T := auto0 t_same) (h := hints []) (ws := [.b false]) (nx' := 101) hE hm (auto0_ok t_same_ok) (by omega) (by simp) (by intro x hx; simp at hx; subst hx; exact Blk.plain.namesLt (b := .cells r 27) hpl _) (by kernel_rfl) hob
theorem itIn (cs ds : List Value) (o n c p m d : Nat) (lm : Int)  {E : Env} {rv : Value} {rhs : List Nat} {rhv : List Blk} (hE : EnvOK E Try.prog Try.f21 3 2 rv rhs rhv) (hL : (itL cs o n c m).OK 2) (hob : all ([SameK (atLp (lp Try.f21 0)) (atLp (lp Try.f21 0)), Enter (itL cs o n c m) 0 none [Value.slice (some (Addr.mk 0 o none)) n c, Value.pointer (some (Addr.mk 2 0 none)), Value.int IntKind.i64 ((m : Int))] [Blk.ro cs, Blk.cells [Value.int IntKind.i64 ((0 : Int)), Value.int IntKind.i64 ((0 : Int)), Value.int IntKind.i64 ((0 : Int)), Value.int IntKind.i64 ((0 : Int)), Value.int IntKind.i64 ((0 : Int)), Value.int IntKind.i64 ((0 : Int)), Value.int IntKind.i64 ((0 : Int)), Value.int IntKind.i64 ((0 : Int)), Value.int IntKind.i64 ((0 : Int)), Value.int IntKind.i64 ((0 : Int)), Value.int IntKind.i64 ((77 : Int))] 27] [(0, 0), (5, 2)], Value.bool (decide (ePc.list cs o m = ePc.list ds p m)) = Value.bool true, plainR [cs, ds], ePc.Row cs o m, ePc.Row ds p m, m ≤ 9223372036854775806, SlOK 11 0 o n c none (some ((m : Int))) (some (Blk.ro cs)) (Value.slice (some (Addr.mk 0 o none)) m c), Value.bool ((n : Int) != (n : Int)) = Value.bool false, Value.int IntKind.i64 (IntKind.i64.wrap (lm + (80 : Int))) = Value.int IntKind.i64 ((n : Int)), Value.int IntKind.i64 ((m : Int)) = Value.int IntKind.i64 lm])) (hK : ∀ zz, (itL cs o n c m).inv 0 zz → ltO ((itL cs o n c m).mu 0 zz) none → Sat E (atLp (lp Try.f21 0)) ((itL cs o n c m).st 0 zz)) : Sat E [.code (bodyOf Try.f21)] (st0 Try.f21 [.slice (some ⟨0, o, none⟩) n c, .slice (some ⟨1, p, none⟩) m d, .agg ⟨[.int .i64 0, .int .i64 0, .int .i64 0, .int .i64 0, .int .i64 0, .int .i64 0, .int .i64 0, .int .i64 0, .int .i64 0, .int .i64 0, .int .i64 77]⟩] (roRows [cs, ds]) 2) :=
  by_to (T := auto0 t_same) (h := hints [(1, 4, {v := some (.int .i64 (n : Int))}), (1, 3, {v := some (.int .i64 lm)}), (1, 5, ht false), (1, 10, {o := some (.slice (some ⟨0, o, none⟩) m c)}), (1, 12, ht true)]) (ws := [.go, .stop]) (i0 := m) hE hm (auto0_ok t_same_ok) hL (by kernel_rfl) hob hK
theorem itB (cs : List Value) (o n c : Nat) (m i : Nat) (J : Act → World → Prop) {E : Env} {rv : Value} {rhs : List Nat} {rhv : List Blk} (hE : EnvOK E Try.prog Try.f21 3 2 rv rhs rhv) (hL : (itL cs o n c m).OK 2) (hob : all ([SameK (mkLp (lp Try.f21 0) J) (mkLp (lp Try.f21 0) J), Enter (itL cs o n c m) 0 (some (n - i)) [Value.slice (some (Addr.mk 0 o none)) n c, Value.pointer (some (Addr.mk 5 0 none)), Value.int IntKind.i64 (Int.ofNat i.succ)] [Blk.ro cs, Blk.cells [Value.int IntKind.i64 ((0 : Int)), Value.int IntKind.i64 ((0 : Int)), Value.int IntKind.i64 ((0 : Int)), Value.int IntKind.i64 ((0 : Int)), Value.int IntKind.i64 ((0 : Int)), Value.int IntKind.i64 ((0 : Int)), Value.int IntKind.i64 ((0 : Int)), Value.int IntKind.i64 ((0 : Int)), Value.int IntKind.i64 ((0 : Int)), Value.int IntKind.i64 ((0 : Int)), Value.int IntKind.i64 ((77 : Int))] 27] [(0, 0), (5, 5)], Value.int IntKind.i64 (IntKind.i64.wrap (Int.ofNat i.succ)) = Value.int IntKind.i64 (Int.ofNat i.succ), Value.bool false = Value.bool false, readPart Try.prog 27 cs (o + ((i : Int)).toNat * 11) = some (Value.agg (Array.mk [Value.int IntKind.i64 ((0 : Int)), Value.int IntKind.i64 ((0 : Int)), Value.int IntKind.i64 ((0 : Int)), Value.int IntKind.i64 ((0 : Int)), Value.int IntKind.i64 ((0 : Int)), Value.int IntKind.i64 ((0 : Int)), Value.int IntKind.i64 ((0 : Int)), Value.int IntKind.i64 ((0 : Int)), Value.int IntKind.i64 ((0 : Int)), Value.int IntKind.i64 ((0 : Int)), Value.int IntKind.i64 ((77 : Int))])), (0 : Int) ≤ (i : Int) ∧ (i : Int) < (n : Int), decide ((↑i : Int) < (↑n : Int)) = true])) (hK : ∀ zz, (itL cs o n c m).inv 0 zz → ltO ((itL cs o n c m).mu 0 zz) (some (n - i)) → Sat E (mkLp (lp Try.f21 0) J) ((itL cs o n c m).st 0 zz)) : Sat E (inLp (lp Try.f21 0) J) ((itL cs o n c m).st 0 i) :=
  by_to (T := auto0 t_same) (h := hints [(6, 2, {p := true}), (6, 3, {o := some (.agg ⟨[.int .i64 0, .int .i64 0, .int .i64 0, .int .i64 0, .int .i64 0, .int .i64 0, .int .i64 0, .int .i64 0, .int .i64 0, .int .i64 0, .int .i64 77]⟩)}), (6, 5, ht false), (5, 1, {v := some (.int .i64 ((i + 1 : Nat) : Int))})]) (ws := [.b true, .go]) (i0 := (i + 1)) hE hm (auto0_ok t_same_ok) hL (by kernel_rfl) hob hK
theorem itE (cs : List Value) (o n c : Nat) (m i : Nat) (J : Act → World → Prop) {E : Env} (hE : EnvOK E Try.prog Try.f21 3 2 (.bool true) [] []) (hob : all ([Back (Value.bool true) (Value.bool true) [] [] [], decide ((↑i : Int) < (↑n : Int)) = false])) : Sat E (inLp (lp Try.f21 0) J) ((itL cs o n c m).st 0 i) :=
  by_ret (T := auto0 t_same) (h := hints []) (ws := [.b false]) (nx' := 2) hE hm (auto0_ok t_same_ok) (by omega) (by simp) (by simp) (by kernel_rfl) hob
theorem rmInN (Q : Nat → List Value → Prop) (r : List Value)  {E : Env} {rv : Value} {rhs : List Nat} {rhv : List Blk} (hE : EnvOK E Try.prog Try.f18 2 0 rv rhs rhv) (hL : (rmL 80 Q).OK 0) (hob : all ([SameK (atLp (lp Try.f18 0)) (atLp (lp Try.f18 0)), Enter (rmL 80 Q) 0 none [Value.pointer (some (Addr.mk 0 0 none)), Value.slice (some (Addr.mk 20 0 none)) 80 80, Value.int IntKind.i64 ((0 : Int))] [Blk.cells [Value.int IntKind.i64 ((0 : Int)), Value.int IntKind.i64 ((0 : Int)), Value.int IntKind.i64 ((0 : Int)), Value.int IntKind.i64 ((0 : Int)), Value.int IntKind.i64 ((0 : Int)), Value.int IntKind.i64 ((0 : Int)), Value.int IntKind.i64 ((0 : Int)), Value.int IntKind.i64 ((0 : Int)), Value.int IntKind.i64 ((0 : Int)), Value.int IntKind.i64 ((0 : Int)), Value.int IntKind.i64 ((77 : Int))] 27, Blk.cells r 27] [(3, 0), (10, 20)], MkOK ((80 : Int)) ((80 : Int)) 88 [Value.int IntKind.i64 ((0 : Int)), Value.int IntKind.i64 ((0 : Int)), Value.int IntKind.i64 ((0 : Int)), Value.int IntKind.i64 ((0 : Int)), Value.int IntKind.i64 ((0 : Int)), Value.int IntKind.i64 ((0 : Int)), Value.int IntKind.i64 ((0 : Int)), Value.int IntKind.i64 ((0 : Int)), Value.int IntKind.i64 ((0 : Int)), Value.int IntKind.i64 ((0 : Int)), Value.int IntKind.i64 ((0 : Int))] r, Value.int IntKind.i64 ((80 : Int)) = Value.int IntKind.i64 ((80 : Int)), Value.int IntKind.i64 ((0 : Int)) = Value.int IntKind.i64 ((0 : Int))])) (hK : ∀ zz, (rmL 80 Q).inv 0 zz → ltO ((rmL 80 Q).mu 0 zz) none → Sat E (atLp (lp Try.f18 0)) ((rmL 80 Q).st 0 zz)) : Sat E [.code (bodyOf Try.f18)] (st0 Try.f18 [.slice none 0 0, .agg ⟨[.int .i64 0, .int .i64 0, .int .i64 0, .int .i64 0, .int .i64 0, .int .i64 0, .int .i64 0, .int .i64 0, .int .i64 0, .int .i64 0, .int .i64 77]⟩] (roRows []) 0) :=
  by_to (T := auto0 t_same) (h := hints [(1, 1, {v := some (.int .i64 0)}), (1, 2, {v := some (.int .i64 ((80 : Nat) : Int))}), (1, 3, {c := some r}), (2, 2, {c := some []})]) (ws := [.stop]) (i0 := (0, r)) hE hm (auto0_ok t_same_ok) hL (by kernel_rfl) hob hK
theorem rmB0 (Q : Nat → List Value → Prop) (N i : Nat) (r r1 : List Value) (J : Act → World → Prop) {E : Env} {rv : Value} {rhs : List Nat} {rhv : List Blk} (hE : EnvOK E Try.prog Try.f18 2 0 rv rhs rhv) (hL : (rmL N Q).OK 0) (hob : all ([SameK (mkLp (lp Try.f18 0) J) (mkLp (lp Try.f18 0) J), Enter (rmL N Q) 0 (some (N - i)) [Value.pointer (some (Addr.mk 3 0 none)), Value.slice (some (Addr.mk 10 0 none)) N N, Value.int IntKind.i64 (Int.ofNat i.succ)] [Blk.cells [Value.int IntKind.i64 ((0 : Int)), Value.int IntKind.i64 ((0 : Int)), Value.int IntKind.i64 ((0 : Int)), Value.int IntKind.i64 ((0 : Int)), Value.int IntKind.i64 ((0 : Int)), Value.int IntKind.i64 ((0 : Int)), Value.int IntKind.i64 ((0 : Int)), Value.int IntKind.i64 ((0 : Int)), Value.int IntKind.i64 ((0 : Int)), Value.int IntKind.i64 ((0 : Int)), Value.int IntKind.i64 ((77 : Int))] 27, Blk.cells r1 27] [(3, 3), (10, 10)], Value.int IntKind.i64 (IntKind.i64.wrap (Int.ofNat i.succ)) = Value.int IntKind.i64 (Int.ofNat i.succ), lset r (0 + ((i : Int)).toNat * 11) [Value.int IntKind.i64 0, Value.int IntKind.i64 0, Value.int IntKind.i64 0, Value.int IntKind.i64 0, Value.int IntKind.i64 0, Value.int IntKind.i64 0, Value.int IntKind.i64 0, Value.int IntKind.i64 0, Value.int IntKind.i64 0, Value.int IntKind.i64 0, Value.int IntKind.i64 77] = some r1, (0 : Int) ≤ (i : Int) ∧ (i : Int) < Int.ofNat N, decide ((↑i : Int) < (↑N : Int)) = true])) (hK : ∀ zz, (rmL N Q).inv 0 zz → ltO ((rmL N Q).mu 0 zz) (some (N - i)) → Sat E (mkLp (lp Try.f18 0) J) ((rmL N Q).st 0 zz)) : Sat E (inLp (lp Try.f18 0) J) ((rmL N Q).st 0 (i, r)) :=
  by_to (T := auto0 t_same) (h := hints [(6, 3, {p := true}), (6, 4, {c := some r1}), (5, 1, {v := some (.int .i64 ((i + 1 : Nat) : Int))})]) (ws := [.b true]) (i0 := (i + 1, r1)) hE hm (auto0_ok t_same_ok) hL (by kernel_rfl) hob hK
theorem rmE0 (Q : Nat → List Value → Prop) (N i : Nat) (r : List Value) (hpl : ∀ x ∈ r, leafG x = true) (J : Act → World → Prop) {E : Env} (hE : EnvOK E Try.prog Try.f18 2 0 (.slice (some ⟨100, 0, none⟩) N N) [100] [.cells r 27]) (hob : all ([Back (Value.slice (some (Addr.mk 10 0 none)) N N) (Value.slice (some (Addr.mk 100 0 none)) N N) [Blk.cells r 27] [Blk.cells r 27] [(100, 10)], decide ((↑i : Int) < (↑N : Int)) = false])) : Sat E (inLp (lp Try.f18 0) J) ((rmL N Q).st 0 (i, r)) :=
  by_ret (T := auto0 t_same) (h := hints []) (ws := [.b false]) (nx' := 101) hE hm (auto0_ok t_same_ok) (by omega) (by simp) (by intro x hx; simp at hx; subst hx; exact Blk.plain.namesLt (b := .cells r 27) hpl _) (by kernel_rfl) hob
theorem itInN (cs : List Value) (o n c : Nat)  {E : Env} {rv : Value} {rhs : List Nat} {rhv : List Blk} (hE : EnvOK E Try.prog Try.f21 3 1 rv rhs rhv) (hL : (itL cs o n c 0).OK 1) (hob : all ([SameK (atLp (lp Try.f21 0)) (atLp (lp Try.f21 0)), Enter (itL cs o n c 0) 0 none [Value.slice (some (Addr.mk 0 o none)) n c, Value.pointer (some (Addr.mk 1 0 none)), Value.int IntKind.i64 ((0 : Int))] [Blk.ro cs, Blk.cells [Value.int IntKind.i64 ((0 : Int)), Value.int IntKind.i64 ((0 : Int)), Value.int IntKind.i64 ((0 : Int)), Value.int IntKind.i64 ((0 : Int)), Value.int IntKind.i64 ((0 : Int)), Value.int IntKind.i64 ((0 : Int)), Value.int IntKind.i64 ((0 : Int)), Value.int IntKind.i64 ((0 : Int)), Value.int IntKind.i64 ((0 : Int)), Value.int IntKind.i64 ((0 : Int)), Value.int IntKind.i64 ((77 : Int))] 27] [(0, 0), (5, 1)], Value.bool true = Value.bool true, plainR [cs], SlOK 11 0 o n c none (some ((0 : Int))) (some (Blk.ro cs)) (Value.slice (some (Addr.mk 0 o none)) 0 c), Value.bool ((n : Int) != (n : Int)) = Value.bool false, Value.int IntKind.i64 ((80 : Int)) = Value.int IntKind.i64 ((n : Int)), Value.int IntKind.i64 ((0 : Int)) = Value.int IntKind.i64 ((0 : Int))])) (hK : ∀ zz, (itL cs o n c 0).inv 0 zz → ltO ((itL cs o n c 0).mu 0 zz) none → Sat E (atLp (lp Try.f21 0)) ((itL cs o n c 0).st 0 zz)) : Sat E [.code (bodyOf Try.f21)] (st0 Try.f21 [.slice (some ⟨0, o, none⟩) n c, .slice none 0 0, .agg ⟨[.int .i64 0, .int .i64 0, .int .i64 0, .int .i64 0, .int .i64 0, .int .i64 0, .int .i64 0, .int .i64 0, .int .i64 0, .int .i64 0, .int .i64 77]⟩] (roRows [cs]) 1) :=
  by_to (T := auto0 t_same) (h := hints [(1, 4, {v := some (.int .i64 (n : Int))}), (1, 3, {v := some (.int .i64 0)}), (1, 5, ht false), (1, 10, {o := some (.slice (some ⟨0, o, none⟩) 0 c)}), (1, 12, ht true)]) (ws := [.go, .stop]) (i0 := 0) hE hm (auto0_ok t_same_ok) hL (by kernel_rfl) hob hK
theorem itB0 (cs : List Value) (o n c : Nat) (m i : Nat) (J : Act → World → Prop) {E : Env} {rv : Value} {rhs : List Nat} {rhv : List Blk} (hE : EnvOK E Try.prog Try.f21 3 1 rv rhs rhv) (hL : (itL cs o n c m).OK 1) (hob : all ([SameK (mkLp (lp Try.f21 0) J) (mkLp (lp Try.f21 0) J), Enter (itL cs o n c m) 0 (some (n - i)) [Value.slice (some (Addr.mk 0 o none)) n c, Value.pointer (some (Addr.mk 5 0 none)), Value.int IntKind.i64 (Int.ofNat i.succ)] [Blk.ro cs, Blk.cells [Value.int IntKind.i64 ((0 : Int)), Value.int IntKind.i64 ((0 : Int)), Value.int IntKind.i64 ((0 : Int)), Value.int IntKind.i64 ((0 : Int)), Value.int IntKind.i64 ((0 : Int)), Value.int IntKind.i64 ((0 : Int)), Value.int IntKind.i64 ((0 : Int)), Value.int IntKind.i64 ((0 : Int)), Value.int IntKind.i64 ((0 : Int)), Value.int IntKind.i64 ((0 : Int)), Value.int IntKind.i64 ((77 : Int))] 27] [(0, 0), (5, 5)], Value.int IntKind.i64 (IntKind.i64.wrap (Int.ofNat i.succ)) = Value.int IntKind.i64 (Int.ofNat i.succ), Value.bool false = Value.bool false, readPart Try.prog 27 cs (o + ((i : Int)).toNat * 11) = some (Value.agg (Array.mk [Value.int IntKind.i64 ((0 : Int)), Value.int IntKind.i64 ((0 : Int)), Value.int IntKind.i64 ((0 : Int)), Value.int IntKind.i64 ((0 : Int)), Value.int IntKind.i64 ((0 : Int)), Value.int IntKind.i64 ((0 : Int)), Value.int IntKind.i64 ((0 : Int)), Value.int IntKind.i64 ((0 : Int)), Value.int IntKind.i64 ((0 : Int)), Value.int IntKind.i64 ((0 : Int)), Value.int IntKind.i64 ((77 : Int))])), (0 : Int) ≤ (i : Int) ∧ (i : Int) < (n : Int), decide ((↑i : Int) < (↑n : Int)) = true])) (hK : ∀ zz, (itL cs o n c m).inv 0 zz → ltO ((itL cs o n c m).mu 0 zz) (some (n - i)) → Sat E (mkLp (lp Try.f21 0) J) ((itL cs o n c m).st 0 zz)) : Sat E (inLp (lp Try.f21 0) J) ((itL cs o n c m).st 0 i) :=
  by_to (T := auto0 t_same) (h := hints [(6, 2, {p := true}), (6, 3, {o := some (.agg ⟨[.int .i64 0, .int .i64 0, .int .i64 0, .int .i64 0, .int .i64 0, .int .i64 0, .int .i64 0, .int .i64 0, .int .i64 0, .int .i64 0, .int .i64 77]⟩)}), (6, 5, ht false), (5, 1, {v := some (.int .i64 ((i + 1 : Nat) : Int))})]) (ws := [.b true, .go]) (i0 := (i + 1)) hE hm (auto0_ok t_same_ok) hL (by kernel_rfl) hob hK
theorem itE0 (cs : List Value) (o n c : Nat) (m i : Nat) (J : Act → World → Prop) {E : Env} (hE : EnvOK E Try.prog Try.f21 3 1 (.bool true) [] []) (hob : all ([Back (Value.bool true) (Value.bool true) [] [] [], decide ((↑i : Int) < (↑n : Int)) = false])) : Sat E (inLp (lp Try.f21 0) J) ((itL cs o n c m).st 0 i) :=
  by_ret (T := auto0 t_same) (h := hints []) (ws := [.b false]) (nx' := 1) hE hm (auto0_ok t_same_ok) (by omega) (by simp) (by simp) (by kernel_rfl) hob
end Go.Proofs.Ythbaccmhdffjdaa.Rp


set_option linter.unusedVariables false
set_option linter.unusedSimpArgs false
set_option maxRecDepth 100000
namespace Go.Proofs.Ythbaccmhdffjdaa.Rp
open Go Go.RowKit Go.Proofs.Ythbaccmhdffjdaa.Ev Go.Proofs.Ythbaccmhdffjdaa.BitLib Go.Proofs.Ythbaccmhdffjdaa.Rp Go.Proofs.Ythbaccmhdffjdaa.SamePc
def Z0 : Pc := ⟨⟨0, 0, 0, 0, 0, 0, 0, 0, 0, 0⟩, 0⟩
def K77 : Pc := ⟨⟨0, 0, 0, 0, 0, 0, 0, 0, 0, 0⟩, 77⟩
theorem rmL_ok0 (N : Nat) (Q : Nat → List Value → Prop) (hQ : ∀ i r, Q i r → ∀ x ∈ r, leafG x = true) : (rmL N Q).OK 0 := by
  obtain ⟨_, h1, h2, h3⟩ := rmL_ok N Q hQ
  exact ⟨Nat.zero_le _, h1, h2, h3⟩
theorem itL_ok1 (cs : List Value) (o n c : Nat) (m : Nat) (h1 : ∀ x ∈ cs, leafG x = true) : (itL cs o n c m).OK 1 := by
  obtain ⟨_, h1, h2, h3⟩ := itL_ok cs o n c m h1
  exact ⟨(by decide : 1 ≤ 6), h1, h2, h3⟩
def fullR (L : List Pc) (i : Nat) : List Value := ePc.row (L ++ List.replicate (i - L.length) K77 ++ List.replicate (L.length + 80 - i) Z0)
theorem roomy_spec (cs : List Value) (o n c : Nat) (hr : ePc.Row cs o n) (hpl : ∀ x ∈ cs, leafG x = true) (hn : n ≤ 65536) :
    CallSpec Try.prog 18 [.slice (some ⟨0, o, none⟩) n c, .agg ⟨[.int .i64 0, .int .i64 0, .int .i64 0, .int .i64 0, .int .i64 0, .int .i64 0, .int .i64 0, .int .i64 0, .int .i64 0, .int .i64 0, .int .i64 77]⟩] (roRows [cs]) 1 (.slice (some ⟨100, 0, none⟩) (n + 80) (n + 80)) (assocN [100] [.cells (ePc.row (ePc.list cs o n ++ List.replicate 80 K77)) 27]) := by
  refine spec_of_sat Try.func18 rfl fun E hE => ?_
  have hlen : (ePc.list cs o n).length = n := Elt.list_len _ _ _
  let Q : Nat → List Value → Prop := fun i r => n ≤ i ∧ i ≤ n + 80 ∧ r = fullR (ePc.list cs o n) i
  have hQ : ∀ i r, Q i r → ∀ x ∈ r, leafG x = true := fun i r h => by rw [h.2.2]; exact Elt.row_pl _
  have okL := rmL_ok (n + 80) Q hQ
  have rnr : ∀ (f : Nat → Nat) (l : List Pc), Blk.rnB f (.cells (ePc.row l) 27) = .cells (ePc.row l) 27 := fun f l => Blk.plain.rnB (b := .cells (ePc.row l) 27) (Elt.row_pl _) f
  have rnk : ∀ f : Nat → Nat, Blk.rnB f (.cells [.int .i64 0, .int .i64 0, .int .i64 0, .int .i64 0, .int .i64 0, .int .i64 0, .int .i64 0, .int .i64 0, .int .i64 0, .int .i64 0, .int .i64 77] 27) = .cells [.int .i64 0, .int .i64 0, .int .i64 0, .int .i64 0, .int .i64 0, .int .i64 0, .int .i64 0, .int .i64 0, .int .i64 0, .int .i64 0, .int .i64 77] 27 := fun f => Blk.plain.rnB (b := .cells [.int .i64 0, .int .i64 0, .int .i64 0, .int .i64 0, .int .i64 0, .int .i64 0, .int .i64 0, .int .i64 0, .int .i64 0, .int .i64 0, .int .i64 77] 27) (fun v hv => by simp at hv; rcases hv with rfl | rfl <;> rfl) f
  have hz : repl [.int .i64 0, .int .i64 0, .int .i64 0, .int .i64 0, .int .i64 0, .int .i64 0, .int .i64 0, .int .i64 0, .int .i64 0, .int .i64 0, .int .i64 0] (n + 80) = ePc.row (List.replicate (n + 80) Z0) := repl_row (e := ePc) (x := Z0) rfl _
  have hcopy : CopyOK n (n + 80) 11 0 cs o (ePc.row (List.replicate (n + 80) Z0)) (fullR (ePc.list cs o n) n) := copyOK (e := ePc) hr rfl (by omega) (by simp) hpl (congrArg ePc.row (by rw [hlen, Nat.sub_self]; simp [List.drop_replicate]))
  refine rmIn Q cs o n c (n + 80) (n : Int) (ePc.row (List.replicate (n + 80) Z0)) (fullR (ePc.list cs o n) n) hE okL
    ⟨rfl, ⟨(n, _), ⟨Nat.le_refl _, by omega, rfl⟩, trivial, rfl, by simp [rmL, fullR, rnr, rnk]⟩, hcopy, ⟨rfl, by show (0 : Int) ≤ ((n + 80 : Nat) : Int); omega, by show ((n + 80 : Nat) : Int) ≤ _; omega, by show (88 : Int) * ((n + 80 : Nat) : Int) ≤ _; omega, hz.symm⟩, (i64_id (by show (n : Int) + 80 = ((n + 80 : Nat) : Int); omega) (by show _ ≤ ((n + 80 : Nat) : Int); omega) (by show ((n + 80 : Nat) : Int) ≤ _; omega)), rfl, trivial⟩ fun zz hz _ => by_loop (rmL (n + 80) Q) (lp Try.f18 0) ?_ 0 zz hz
  rintro b ⟨i, r⟩ hinv J hJ
  have hinv : n ≤ i ∧ i ≤ n + 80 ∧ r = fullR (ePc.list cs o n) i := hinv
  obtain ⟨k1, k2, k3⟩ := hinv
  show Sat E (inLp (lp Try.f18 0) J) ((rmL (n + 80) Q).st 0 (i, r))
  have hJ' : ∀ zz, (rmL (n + 80) Q).inv 0 zz → ltO ((rmL (n + 80) Q).mu 0 zz) (some (n + 80 - i)) → Sat E (mkLp (lp Try.f18 0) J) ((rmL (n + 80) Q).st 0 zz) := fun zz h1 h2 => hJ 0 zz h1 h2
  by_cases hin : i < n + 80
  · have hlt : decide ((i : Int) < ((n + 80 : Nat) : Int)) = true := decide_eq_true (by omega)
    have hset : lset r (0 + ((i : Int)).toNat * 11) [.int .i64 0, .int .i64 0, .int .i64 0, .int .i64 0, .int .i64 0, .int .i64 0, .int .i64 0, .int .i64 0, .int .i64 0, .int .i64 0, .int .i64 77] = some (fullR (ePc.list cs o n) (i + 1)) := by
      rw [k3]
      have hget : (ePc.list cs o n ++ List.replicate (i - (ePc.list cs o n).length) K77 ++ List.replicate ((ePc.list cs o n).length + 80 - i) Z0)[i]? = some Z0 := by
        rw [hlen, List.getElem?_append_right (by simp [hlen]; omega)]
        rw [List.getElem?_replicate, if_pos (by simp [hlen]; omega)]
      have := lsetE (e := ePc) (x := K77) (f := 0) (vs := [.int .i64 0, .int .i64 0, .int .i64 0, .int .i64 0, .int .i64 0, .int .i64 0, .int .i64 0, .int .i64 0, .int .i64 0, .int .i64 0, .int .i64 77]) (o := 0 + ((i : Int)).toNat * 11) hget rfl (by simp [ePc])
      unfold fullR
      rw [this]
      congr 2
      rw [hlen, show n + 80 - i = (n + 80 - (i + 1)) + 1 by omega, show i + 1 - n = (i - n) + 1 by omega, List.replicate_succ, List.replicate_succ']
      rw [List.set_append_right _ _ (by simp [hlen]; omega)]
      have : i - (ePc.list cs o n ++ List.replicate (i - n) K77).length = 0 := by simp [hlen]; omega
      rw [this]
      simp
    exact rmB Q (n + 80) i r _ J hE okL ⟨rfl, ⟨(i + 1, _), ⟨by omega, by omega, rfl⟩, (by show n + 80 - (i + 1) < n + 80 - i; omega), rfl, by simp [rmL, fullR, rnr, rnk]⟩, i64_succ (by omega), hset, ⟨Int.natCast_nonneg _, Int.ofNat_lt.2 hin⟩, hlt, trivial⟩ hJ'
  · have hlt : decide ((i : Int) < ((n + 80 : Nat) : Int)) = false := decide_eq_false (by omega)
    have hi : i = n + 80 := by omega
    have hfin : r = ePc.row (ePc.list cs o n ++ List.replicate 80 K77) := by
      rw [k3, hi]; unfold fullR; rw [hlen]; congr 1; simp
    subst hfin
    exact rmE Q (n + 80) i _ (Elt.row_pl _) J hE ⟨⟨rfl, by simp [rnr, rnk]⟩, hlt, trivial⟩
theorem roomy_nil :
    CallSpec Try.prog 18 [.slice none 0 0, .agg ⟨[.int .i64 0, .int .i64 0, .int .i64 0, .int .i64 0, .int .i64 0, .int .i64 0, .int .i64 0, .int .i64 0, .int .i64 0, .int .i64 0, .int .i64 77]⟩] (roRows []) 0 (.slice (some ⟨100, 0, none⟩) 80 80) (assocN [100] [.cells (ePc.row (([] : List Pc) ++ List.replicate 80 K77)) 27]) := by
  refine spec_of_sat Try.func18 rfl fun E hE => ?_
  have hlen : ([] : List Pc).length = 0 := rfl
  let Q : Nat → List Value → Prop := fun i r => 0 ≤ i ∧ i ≤ 80 ∧ r = fullR (([] : List Pc)) i
  have hQ : ∀ i r, Q i r → ∀ x ∈ r, leafG x = true := fun i r h => by rw [h.2.2]; exact Elt.row_pl _
  have okL : (rmL 80 Q).OK 0 := rmL_ok0 80 Q hQ
  have rnr : ∀ (f : Nat → Nat) (l : List Pc), Blk.rnB f (.cells (ePc.row l) 27) = .cells (ePc.row l) 27 := fun f l => Blk.plain.rnB (b := .cells (ePc.row l) 27) (Elt.row_pl _) f
  have rnk : ∀ f : Nat → Nat, Blk.rnB f (.cells [.int .i64 0, .int .i64 0, .int .i64 0, .int .i64 0, .int .i64 0, .int .i64 0, .int .i64 0, .int .i64 0, .int .i64 0, .int .i64 0, .int .i64 77] 27) = .cells [.int .i64 0, .int .i64 0, .int .i64 0, .int .i64 0, .int .i64 0, .int .i64 0, .int .i64 0, .int .i64 0, .int .i64 0, .int .i64 0, .int .i64 77] 27 := fun f => Blk.plain.rnB (b := .cells [.int .i64 0, .int .i64 0, .int .i64 0, .int .i64 0, .int .i64 0, .int .i64 0, .int .i64 0, .int .i64 0, .int .i64 0, .int .i64 0, .int .i64 77] 27) (fun v hv => by simp at hv; rcases hv with rfl | rfl <;> rfl) f
  have hz : repl [.int .i64 0, .int .i64 0, .int .i64 0, .int .i64 0, .int .i64 0, .int .i64 0, .int .i64 0, .int .i64 0, .int .i64 0, .int .i64 0, .int .i64 0] 80 = ePc.row (List.replicate 80 Z0) := repl_row (e := ePc) (x := Z0) rfl _
  refine rmInN Q (fullR ([] : List Pc) 0) hE okL
    ⟨rfl, ⟨(0, _), ⟨Nat.le_refl _, by omega, rfl⟩, trivial, rfl, by simp only [rmL, List.map_cons, List.map_nil, fullR, rnr, rnk]⟩, ⟨rfl, by decide, by decide, by decide, hz.symm⟩, rfl, rfl, trivial⟩ fun zz hz _ => by_loop (rmL 80 Q) (lp Try.f18 0) ?_ 0 zz hz
  rintro b ⟨i, r⟩ hinv J hJ
  have hinv : 0 ≤ i ∧ i ≤ 80 ∧ r = fullR (([] : List Pc)) i := hinv
  obtain ⟨k1, k2, k3⟩ := hinv
  show Sat E (inLp (lp Try.f18 0) J) ((rmL 80 Q).st 0 (i, r))
  have hJ' : ∀ zz, (rmL 80 Q).inv 0 zz → ltO ((rmL 80 Q).mu 0 zz) (some (80 - i)) → Sat E (mkLp (lp Try.f18 0) J) ((rmL 80 Q).st 0 zz) := fun zz h1 h2 => hJ 0 zz h1 h2
  by_cases hin : i < 80
  · have hlt : decide ((i : Int) < ((80 : Nat) : Int)) = true := decide_eq_true (by omega)
    have hset : lset r (0 + ((i : Int)).toNat * 11) [.int .i64 0, .int .i64 0, .int .i64 0, .int .i64 0, .int .i64 0, .int .i64 0, .int .i64 0, .int .i64 0, .int .i64 0, .int .i64 0, .int .i64 77] = some (fullR ([] : List Pc) (i + 1)) := by
      have e : fullR ([] : List Pc) i = ePc.row (List.replicate i K77 ++ List.replicate (80 - i) Z0) := by simp [fullR]
      have e' : fullR ([] : List Pc) (i + 1) = ePc.row (List.replicate (i + 1) K77 ++ List.replicate (80 - (i + 1)) Z0) := by simp [fullR]
      rw [k3, e, e']
      have hget : (List.replicate i K77 ++ List.replicate (80 - i) Z0)[i]? = some Z0 := by
        rw [List.getElem?_append_right (by simp), List.getElem?_replicate, if_pos (by simp <;> omega)]
      have := lsetE (e := ePc) (x := K77) (f := 0) (vs := [.int .i64 0, .int .i64 0, .int .i64 0, .int .i64 0, .int .i64 0, .int .i64 0, .int .i64 0, .int .i64 0, .int .i64 0, .int .i64 0, .int .i64 77]) (o := 0 + ((i : Int)).toNat * 11) hget rfl (by simp [ePc])
      rw [this]
      congr 2
      rw [show 80 - i = (80 - (i + 1)) + 1 by omega, List.replicate_succ, List.replicate_succ', List.set_append_right _ _ (by simp)]
      simp
    exact rmB0 Q 80 i r _ J hE okL ⟨rfl, ⟨(i + 1, _), ⟨by omega, by omega, rfl⟩, (by show 80 - (i + 1) < 80 - i; omega), rfl, by simp [rmL, fullR, rnr, rnk]⟩, i64_succ (by omega), hset, ⟨Int.natCast_nonneg _, Int.ofNat_lt.2 hin⟩, hlt, trivial⟩ hJ'
  · have hlt : decide ((i : Int) < ((80 : Nat) : Int)) = false := decide_eq_false (by omega)
    have hi : i = 80 := by omega
    have hfin : r = ePc.row (([] : List Pc) ++ List.replicate 80 K77) := by
      rw [k3, hi]; unfold fullR; rw [hlen]; congr 1
    subst hfin
    exact rmE0 Q 80 i _ (Elt.row_pl _) J hE ⟨⟨rfl, by simp [rnr, rnk]⟩, hlt, trivial⟩
def roomy_F (N8 : Nat → Nat) : RoF := fun xs css => match xs, css with
  | [.slice (some ⟨0, o, none⟩) n c, .agg ⟨[.int .i64 0, .int .i64 0, .int .i64 0, .int .i64 0, .int .i64 0, .int .i64 0, .int .i64 0, .int .i64 0, .int .i64 0, .int .i64 0, .int .i64 77]⟩], [cs] => some (.slice (some ⟨100, 0, none⟩) (N8 n) (N8 n), [.cells (ePc.row (ePc.list cs o n ++ List.replicate 80 K77)) 27], [ePc.Row cs o n, n ≤ 65536, N8 = fun n => n + 80])
  | [.slice none 0 0, .agg ⟨[.int .i64 0, .int .i64 0, .int .i64 0, .int .i64 0, .int .i64 0, .int .i64 0, .int .i64 0, .int .i64 0, .int .i64 0, .int .i64 0, .int .i64 77]⟩], [] => some (.slice (some ⟨100, 0, none⟩) (N8 0) (N8 0), [.cells (ePc.row (List.replicate (N8 0) K77)) 27], [N8 = fun n => n + 80])
  | _, _ => none
theorem roomy_sum (N8 : Nat → Nat) : SumOK Try.prog 18 (roSum (roomy_F N8)) := by
  refine roSum_ok (en Try.func18 rfl) ?_ (fun xs css r h => ?_)
  · intro xs css v blks ob h hob hpl hl
    unfold roomy_F at h
    split at h
    · rename_i o n c cs
      simp only [Option.some.injEq, Prod.mk.injEq] at h
      obtain ⟨rfl, rfl, rfl⟩ := h
      obtain rfl : N8 = fun n => n + 80 := hob _ (by simp)
      refine ⟨by simp, fun x hx => by simp at hx; subst hx; exact ⟨Elt.row_pl _, rfl⟩, fun j hj => by simp [nms, nm1, nm0] at hj; subst hj; simp, ?_⟩
      exact roomy_spec cs o n c (hob _ (List.mem_cons_self ..)) (hpl cs (by simp)) (hob _ (by simp))
    · skip
      simp only [Option.some.injEq, Prod.mk.injEq] at h
      obtain ⟨rfl, rfl, rfl⟩ := h
      obtain rfl : N8 = fun n => n + 80 := hob _ (by simp)
      refine ⟨by simp, fun x hx => by simp at hx; subst hx; exact ⟨Elt.row_pl _, rfl⟩, fun j hj => by simp [nms, nm1, nm0] at hj; subst hj; simp, ?_⟩
      exact roomy_nil
    · simp at h
  · unfold roomy_F at h
    split at h <;> simp at h <;> simp
/-- Intact, where it says true. -/
theorem intact_spec (cs ds : List Value) (o n c p m d : Nat) (hr : ePc.Row cs o n) (hr2 : ePc.Row ds p m) (hpl : ∀ x ∈ cs, leafG x = true) (hpl2 : ∀ x ∈ ds, leafG x = true) (hn : n ≤ 65536) (hnc : n ≤ c) (hcm : c ≤ 16777216) (heq : ePc.list cs o n = ePc.list ds p m ++ List.replicate 80 K77) :
    CallSpec Try.prog 21 [.slice (some ⟨0, o, none⟩) n c, .slice (some ⟨1, p, none⟩) m d, .agg ⟨[.int .i64 0, .int .i64 0, .int .i64 0, .int .i64 0, .int .i64 0, .int .i64 0, .int .i64 0, .int .i64 0, .int .i64 0, .int .i64 0, .int .i64 77]⟩] (roRows [cs, ds]) 2 (.bool true) (assocN [] []) := by
  refine spec_of_sat Try.func21 rfl fun E hE => ?_
  have hlen : (ePc.list cs o n).length = n := Elt.list_len _ _ _
  have hlen2 : (ePc.list ds p m).length = m := Elt.list_len _ _ _
  have hnm : n = m + 80 := by have := congrArg List.length heq; simp [hlen, hlen2] at this; omega
  obtain ⟨hrm, htake⟩ := hr.take (m := m) (by omega)
  have hsame : ePc.list cs o m = ePc.list ds p m := by rw [htake, heq, List.take_left' hlen2]
  have okL := itL_ok cs o n c m hpl
  have rnr : ∀ f : Nat → Nat, Blk.rnB f (.ro cs) = .ro cs := fun f => Blk.plain.rnB (b := .ro cs) hpl f
  have rnk : ∀ f : Nat → Nat, Blk.rnB f (.cells [.int .i64 0, .int .i64 0, .int .i64 0, .int .i64 0, .int .i64 0, .int .i64 0, .int .i64 0, .int .i64 0, .int .i64 0, .int .i64 0, .int .i64 77] 27) = .cells [.int .i64 0, .int .i64 0, .int .i64 0, .int .i64 0, .int .i64 0, .int .i64 0, .int .i64 0, .int .i64 0, .int .i64 0, .int .i64 0, .int .i64 77] 27 := fun f => Blk.plain.rnB (b := .cells [.int .i64 0, .int .i64 0, .int .i64 0, .int .i64 0, .int .i64 0, .int .i64 0, .int .i64 0, .int .i64 0, .int .i64 0, .int .i64 0, .int .i64 77] 27) (fun v hv => by simp at hv; rcases hv with rfl | rfl <;> rfl) f
  have hcm' : c < Ev.mark := by unfold Ev.mark; omega
  refine itIn cs ds o n c p m d (m : Int) hE okL ⟨rfl, ⟨m, ⟨Nat.le_refl _, by omega⟩, trivial, rfl, by simp [itL, rnr, rnk]⟩, (congrArg _ (decide_eq_true hsame)), plain2 hpl hpl2, hrm, hr2, (by omega),
    ⟨0, m, rfl, rfl, Nat.zero_le _, by omega, Or.inr ⟨hcm', hnc, if h0 : c = 0 then Or.inl ⟨h0, by simp⟩ else Or.inr ⟨h0, by simp⟩⟩⟩, (congrArg _ (bne_self_eq_false _)), (i64_id (by show (m : Int) + 80 = (n : Int); omega) (by show _ ≤ (n : Int); omega) (by show (n : Int) ≤ _; omega)), rfl, trivial⟩ fun zz hz _ => by_loop (itL cs o n c m) (lp Try.f21 0) ?_ 0 zz hz
  rintro b i hinv J hJ
  have hinv : m ≤ i ∧ i ≤ n := hinv
  obtain ⟨k1, k2⟩ := hinv
  show Sat E (inLp (lp Try.f21 0) J) ((itL cs o n c m).st 0 i)
  have hJ' : ∀ zz, (itL cs o n c m).inv 0 zz → ltO ((itL cs o n c m).mu 0 zz) (some (n - i)) → Sat E (mkLp (lp Try.f21 0) J) ((itL cs o n c m).st 0 zz) := fun zz h1 h2 => hJ 0 zz h1 h2
  by_cases hin : i < n
  · have hlt : decide ((i : Int) < (n : Int)) = true := decide_eq_true (by omega)
    have hx : (ePc.list cs o n)[i]? = some K77 := by
      rw [heq, List.getElem?_append_right (by omega), List.getElem?_replicate, if_pos (by omega)]
    have hrd := hr.read (P := Try.prog) (ty := 27) (by kernel_rfl) (by kernel_rfl) (i := i) hx
    exact itB cs o n c m i J hE okL ⟨rfl, ⟨i + 1, ⟨by omega, by omega⟩, (by show n - (i + 1) < n - i; omega), rfl, by simp [itL, rnr, rnk]⟩, i64_succ (by omega), rfl, hrd, ⟨Int.natCast_nonneg _, Int.ofNat_lt.2 hin⟩, hlt, trivial⟩ hJ'
  · have hlt : decide ((i : Int) < (n : Int)) = false := decide_eq_false (by omega)
    exact itE cs o n c m i J hE ⟨⟨rfl, rfl⟩, hlt, trivial⟩
theorem intact_nil (cs : List Value) (o n c : Nat) (hr : ePc.Row cs o n) (hpl : ∀ x ∈ cs, leafG x = true) (hn : n ≤ 65536) (hnc : n ≤ c) (hcm : c ≤ 16777216) (heq : ePc.list cs o n = ([] : List Pc) ++ List.replicate 80 K77) :
    CallSpec Try.prog 21 [.slice (some ⟨0, o, none⟩) n c, .slice none 0 0, .agg ⟨[.int .i64 0, .int .i64 0, .int .i64 0, .int .i64 0, .int .i64 0, .int .i64 0, .int .i64 0, .int .i64 0, .int .i64 0, .int .i64 0, .int .i64 77]⟩] (roRows [cs]) 1 (.bool true) (assocN [] []) := by
  refine spec_of_sat Try.func21 rfl fun E hE => ?_
  have hlen : (ePc.list cs o n).length = n := Elt.list_len _ _ _
  have hlen2 : ([] : List Pc).length = 0 := rfl
  have hnm : n = 80 := by have := congrArg List.length heq; simp [hlen, hlen2] at this; omega
  obtain ⟨hrm, htake⟩ := hr.take (m := 0) (by omega)
  have okL := itL_ok1 cs o n c 0 hpl
  have rnr : ∀ f : Nat → Nat, Blk.rnB f (.ro cs) = .ro cs := fun f => Blk.plain.rnB (b := .ro cs) hpl f
  have rnk : ∀ f : Nat → Nat, Blk.rnB f (.cells [.int .i64 0, .int .i64 0, .int .i64 0, .int .i64 0, .int .i64 0, .int .i64 0, .int .i64 0, .int .i64 0, .int .i64 0, .int .i64 0, .int .i64 77] 27) = .cells [.int .i64 0, .int .i64 0, .int .i64 0, .int .i64 0, .int .i64 0, .int .i64 0, .int .i64 0, .int .i64 0, .int .i64 0, .int .i64 0, .int .i64 77] 27 := fun f => Blk.plain.rnB (b := .cells [.int .i64 0, .int .i64 0, .int .i64 0, .int .i64 0, .int .i64 0, .int .i64 0, .int .i64 0, .int .i64 0, .int .i64 0, .int .i64 0, .int .i64 77] 27) (fun v hv => by simp at hv; rcases hv with rfl | rfl <;> rfl) f
  have hcm' : c < Ev.mark := by unfold Ev.mark; omega
  refine itInN cs o n c hE okL ⟨rfl, ⟨0, ⟨Nat.le_refl _, by omega⟩, trivial, rfl, by simp only [itL, List.map_cons, List.map_nil, rnr, rnk]⟩, rfl, plain1 hpl,
    ⟨0, 0, rfl, rfl, Nat.zero_le _, by omega, Or.inr ⟨hcm', hnc, if h0 : c = 0 then Or.inl ⟨h0, by simp⟩ else Or.inr ⟨h0, by simp⟩⟩⟩, (congrArg _ (bne_self_eq_false _)), (congrArg _ (by rw [hnm]; rfl)), rfl, trivial⟩ fun zz hz _ => by_loop (itL cs o n c 0) (lp Try.f21 0) ?_ 0 zz hz
  rintro b i hinv J hJ
  have hinv : 0 ≤ i ∧ i ≤ n := hinv
  obtain ⟨k1, k2⟩ := hinv
  show Sat E (inLp (lp Try.f21 0) J) ((itL cs o n c 0).st 0 i)
  have hJ' : ∀ zz, (itL cs o n c 0).inv 0 zz → ltO ((itL cs o n c 0).mu 0 zz) (some (n - i)) → Sat E (mkLp (lp Try.f21 0) J) ((itL cs o n c 0).st 0 zz) := fun zz h1 h2 => hJ 0 zz h1 h2
  by_cases hin : i < n
  · have hlt : decide ((i : Int) < (n : Int)) = true := decide_eq_true (by omega)
    have hx : (ePc.list cs o n)[i]? = some K77 := by
      rw [heq, List.getElem?_append_right (by omega), List.getElem?_replicate, if_pos (by omega)]
    have hrd := hr.read (P := Try.prog) (ty := 27) (by kernel_rfl) (by kernel_rfl) (i := i) hx
    exact itB0 cs o n c 0 i J hE okL ⟨rfl, ⟨i + 1, ⟨by omega, by omega⟩, (by show n - (i + 1) < n - i; omega), rfl, by simp [itL, rnr, rnk]⟩, i64_succ (by omega), rfl, hrd, ⟨Int.natCast_nonneg _, Int.ofNat_lt.2 hin⟩, hlt, trivial⟩ hJ'
  · have hlt : decide ((i : Int) < (n : Int)) = false := decide_eq_false (by omega)
    exact itE0 cs o n c 0 i J hE ⟨⟨rfl, rfl⟩, hlt, trivial⟩
def intact_F : RoF := fun xs css => match xs, css with
  | [.slice (some ⟨0, o, none⟩) n c, .slice (some ⟨1, p, none⟩) m d, .agg ⟨[.int .i64 0, .int .i64 0, .int .i64 0, .int .i64 0, .int .i64 0, .int .i64 0, .int .i64 0, .int .i64 0, .int .i64 0, .int .i64 0, .int .i64 77]⟩], [cs, ds] => some (.bool true, [], [ePc.Row cs o n, ePc.Row ds p m, n ≤ 65536, n ≤ c, c ≤ 16777216, ePc.list cs o n = ePc.list ds p m ++ List.replicate 80 K77])
  | [.slice (some ⟨0, o, none⟩) n c, .slice none 0 0, .agg ⟨[.int .i64 0, .int .i64 0, .int .i64 0, .int .i64 0, .int .i64 0, .int .i64 0, .int .i64 0, .int .i64 0, .int .i64 0, .int .i64 0, .int .i64 77]⟩], [cs] => some (.bool true, [], [ePc.Row cs o n, n ≤ 65536, n ≤ c, c ≤ 16777216, n = 80, ∀ z ∈ ePc.list cs o n, z = K77])
  | _, _ => none
theorem intact_sum : SumOK Try.prog 21 (roSum intact_F) := by
  refine roSum_ok (en Try.func21 rfl) ?_ (fun xs css r h => ?_)
  · intro xs css v blks ob h hob hpl hl
    unfold intact_F at h
    split at h
    · rename_i o n c p m d cs ds
      simp only [Option.some.injEq, Prod.mk.injEq] at h
      obtain ⟨rfl, rfl, rfl⟩ := h
      refine ⟨by simp, by simp, fun j hj => by simp [nms, nm1, nm0] at hj, ?_⟩
      exact intact_spec cs ds o n c p m d (hob _ (by simp)) (hob _ (by simp)) (hpl cs (by simp)) (hpl ds (by simp)) (hob _ (by simp)) (hob _ (by simp)) (hob _ (by simp)) (hob _ (by simp))
    · rename_i o n c cs
      simp only [Option.some.injEq, Prod.mk.injEq] at h
      obtain ⟨rfl, rfl, rfl⟩ := h
      refine ⟨by simp, by simp, fun j hj => by simp [nms, nm1, nm0] at hj, ?_⟩
      have hn80 : n = 80 := hob _ (by simp)
      have hall : ∀ z ∈ ePc.list cs o n, z = K77 := hob _ (List.mem_cons_of_mem _ (List.mem_cons_of_mem _ (List.mem_cons_of_mem _ (List.mem_cons_of_mem _ (List.mem_cons_of_mem _ (List.mem_cons_self ..))))))
      exact intact_nil cs o n c (hob _ (by simp)) (hpl cs (by simp)) (hob _ (by simp)) (hob _ (by simp)) (hob _ (by simp)) (by rw [List.nil_append]; exact List.eq_replicate_iff.2 ⟨by rw [Elt.list_len]; exact hn80, hall⟩)
    · simp at h
  · unfold intact_F at h
    split at h <;> simp at h <;> simp
end Go.Proofs.Ythbaccmhdffjdaa.Rp


set_option linter.unusedVariables false
set_option linter.unusedSimpArgs false
namespace Go.Proofs.Ythbaccmhdffjdaa.Ev
open Go Go.RowKit
/-- A block that is read alone tells less. -/
def Blk.le (b' b : Blk) : Prop := b' = b ∨ ∃ cs, b.row = some cs ∧ b' = .ro cs
theorem sat_weak {E : Env} {K : List Ctl} {T T' : Tm} {H H' : Heap} {nx c c' : Nat} {ob ob' : List Prop} (hT : ∀ i v, T' i = some v → T i = some v) (hH : ∀ k b, H' k = some b → ∃ b0, H k = some b0 ∧ b.le b0)
    (h : Sat E K ⟨T', H', nx, c', ob'⟩) : Sat E K ⟨T, H, nx, c, ob⟩ := by
  intro g a w hc
  refine h g a w ?_
  obtain ⟨B, hB, hrc⟩ := hc
  refine ⟨B, hB, ⟨⟨hrc.hc.below, fun k b hb => ?_, fun k b hb => ?_, fun k b hb => ?_, fun k b hb hw => ?_, fun k l b x hb hx hw he => ?_⟩, hrc.size, hrc.defers, fun t v hv => hrc.tm t v (hT t v hv), hrc.anch, hrc.sub⟩⟩
  · obtain ⟨b0, h0, _⟩ := hH k b hb
    exact hrc.hc.dom k b0 h0
  · obtain ⟨b0, h0, hl⟩ := hH k b hb
    rcases hl with rfl | ⟨cs, hr, rfl⟩
    · exact hrc.hc.scope k _ h0
    · have := hrc.hc.scope k b0 h0
      cases b0 <;> simp only [Blk.row, Option.some.injEq, reduceCtorEq] at hr <;> subst hr <;> exact this
  · obtain ⟨b0, h0, hl⟩ := hH k b hb
    rcases hl with rfl | ⟨cs, hr, rfl⟩
    · exact hrc.hc.holds k _ h0
    · exact ro_of_row (hrc.hc.holds k b0 h0) hr
  · obtain ⟨b0, h0, hl⟩ := hH k b hb
    rcases hl with rfl | ⟨cs, hr, rfl⟩
    · exact hrc.hc.own k _ h0 hw
    · simp [Blk.wr] at hw
  · obtain ⟨b0, h0, hl⟩ := hH k b hb
    obtain ⟨x0, h1, _⟩ := hH l x hx
    rcases hl with rfl | ⟨cs, hr, rfl⟩
    · exact hrc.hc.inj k l _ x0 h0 h1 hw he
    · simp [Blk.wr] at hw
theorem assoc_le : ∀ {hs : List Nat} {hv hv' : List Blk}, hv.length = hv'.length → (∀ (i : Nat) b b', hv[i]? = some b → hv'[i]? = some b' → b'.le b) → ∀ k b', assocN hs hv' k = some b' → ∃ b, assocN hs hv k = some b ∧ b'.le b
  | [], hv, hv', _, _, k, b', h => by simp [assocN] at h
  | t :: ts, [], [], _, _, k, b', h => by simp [assocN] at h
  | t :: ts, [], x :: l, hl, _, k, b', h => by simp at hl
  | t :: ts, x :: l, [], hl, _, k, b', h => by simp at hl
  | t :: ts, x :: l, y :: m, hl, hle, k, b', h => by
    simp only [assocN] at h ⊢
    cases e : Nat.beq k t <;> rw [e] at h
    · simp only [cond_false] at h ⊢
      exact assoc_le (by simpa using hl) (fun i b b' h1 h2 => hle (i + 1) b b' (by simpa using h1) (by simpa using h2)) k b' h
    · simp only [cond_true, Option.some.injEq] at h ⊢
      subst h
      exact ⟨x, rfl, hle 0 x y rfl rfl⟩
/-- Two frames of the same temporaries, of which one tells its blocks as rows that are read alone. -/
theorem sat_ro {E : Env} {K : List Ctl} {ts hs : List Nat} {tv : List Value} {hv hv' : List Blk} {nx c c' : Nat} {ob ob' : List Prop} (hl : hv.length = hv'.length) (hle : ∀ (i : Nat) b b', hv[i]? = some b → hv'[i]? = some b' → b'.le b)
    (h : Sat E K ⟨assocN ts tv, assocN hs hv', nx, c', ob'⟩) : Sat E K ⟨assocN ts tv, assocN hs hv, nx, c, ob⟩ :=
  sat_weak (fun _ _ h => h) (assoc_le hl hle) h
end Go.Proofs.Ythbaccmhdffjdaa.Ev


set_option linter.unusedVariables false
set_option linter.unusedSimpArgs false
set_option maxRecDepth 100000
namespace Go.Proofs.Ythbaccmhdffjdaa.Ct
open Go Go.RowKit Go.Proofs.Ythbaccmhdffjdaa.Ev Go.Proofs.Ythbaccmhdffjdaa.Mg Go.Proofs.Ythbaccmhdffjdaa.Mt Go.Proofs.Ythbaccmhdffjdaa.Rp Go.Proofs.Ythbaccmhdffjdaa.BoxF Go.Proofs.Ythbaccmhdffjdaa.Within Go.Proofs.Ythbaccmhdffjdaa.Cm

theorem few_row (cs : List Value) (n c : Nat) (h1 : cs = ePc.row (ePc.list cs 0 n)) (h3 : n ≤ c) (h4 : c ≤ maxLen) (h0 : 1 ≤ n := by omega) :
    CallSpec Try.prog 17 [.slice (some ⟨0, 0, none⟩) n c] (roRows [cs]) 1 (.slice (some ⟨100, 0, none⟩) (min n 8) mk) (assocN [100] [.vec (ePc.row ((ePc.list cs 0 n).take 8)) 27 11]) := by
  have hlen : (ePc.list cs 0 n).length = n := Elt.list_len _ _ _
  generalize ePc.list cs 0 n = L at h1 hlen
  subst h1
  have hmin : Value.int .i64 (minI (n : Int) 8) = .int .i64 ((min n 8 : Nat) : Int) := congrArg _ (by unfold minI; split <;> omega)
  have htk : L.take 8 = L.take (min n 8) := by
    by_cases h : n ≤ 8
    · rw [Nat.min_eq_left h, List.take_of_length_le (by omega), List.take_of_length_le (by omega)]
    · rw [Nat.min_eq_right (by omega)]
  refine spec_of_sat Try.func17 rfl fun E hE => ?_
  have rnv : ∀ (f : Nat → Nat) (l : List Pc), Blk.rnB f (.vec (ePc.row l) 27 11) = .vec (ePc.row l) 27 11 := fun f l => Blk.plain.rnB (b := .vec (ePc.row l) 27 11) (Elt.row_pl _) f
  exact fwN (ePc.row L) 0 n c (min n 8) (L.take 8) hE ⟨⟨by rw [Nat.zero_add]; rfl, by simp only [List.map_cons, List.map_nil, rnv]⟩, appG (e := ePc) (L := []) (M := L) (k := 0) (Or.inr ⟨rfl, rfl, rfl⟩) rfl (by rw [Nat.zero_mul]) (by omega) (Nat.zero_le _) (by rw [htk]; simp) (by omega) (by omega) (by omega), slOK_ro (by omega) h3 h4, hmin, trivial⟩
def few3_F (FK : Nat → Nat) (FL : List Value → Nat → List Pc) : RoF := fun xs css => match xs, css with
  | [.slice (some ⟨0, 0, none⟩) n c], [cs] => match n with
    | 0 => some (.slice (some ⟨100, 0, none⟩) 0 0, [.cells [] 27], [c ≤ maxLen])
    | m + 1 => some (.slice (some ⟨100, 0, none⟩) (FK (Nat.succ m)) mk, [.vec (ePc.row (FL cs (Nat.succ m))) 27 11], [FK = (fun n => min n 8), FL = (fun cs n => (ePc.list cs 0 n).take 8), cs = ePc.row (ePc.list cs 0 (Nat.succ m)), Nat.succ m ≤ c, c ≤ maxLen])
  | [.slice none 0 0], [] => some (.slice (some ⟨100, 0, none⟩) 0 0, [.cells [] 27], [])
  | _, _ => none
theorem few3_sum (FK : Nat → Nat) (FL : List Value → Nat → List Pc) : SumOK Try.prog 17 (roSum (few3_F FK FL)) := by
  have zok : ∀ k : Nat, ZeroOK 0 (.slice (some ⟨k, 0, none⟩) 0 0) (some (.cells [] 27)) := fun k => ⟨rfl, Nat.le_refl _, by decide⟩
  refine roSum_ok (en Try.func17 rfl) ?_ (fun xs css r h => ?_)
  · intro xs css v blks ob h hob hpl hl
    unfold few3_F at h
    split at h
    · rename_i n c cs
      cases n with
      | zero =>
        simp only [Option.some.injEq, Prod.mk.injEq] at h
        obtain ⟨rfl, rfl, rfl⟩ := h
        refine ⟨by simp, fun x hx => by simp at hx; subst hx; exact ⟨fun c hc => by simp at hc, rfl⟩, fun j hj => by simp [nms, nm1, nm0] at hj; subst hj; simp, ?_⟩
        exact spec_of_sat Try.func17 rfl fun E hE => fw0 cs 0 0 c hE ⟨⟨rfl, rfl⟩, zok _, slOK_ro (h := 0) (Nat.le_refl _) (Nat.zero_le _) (hob _ (by simp)), rfl, trivial⟩
      | succ n0 =>
        simp only [Option.some.injEq, Prod.mk.injEq] at h
        obtain ⟨rfl, rfl, rfl⟩ := h
        obtain rfl : FK = (fun n => min n 8) := hob _ (List.mem_cons_self ..)
        obtain rfl : FL = (fun cs n => (ePc.list cs 0 n).take 8) := hob _ (List.mem_cons_of_mem _ (List.mem_cons_self ..))
        have h1 : cs = ePc.row (ePc.list cs 0 (n0 + 1)) := hob _ (List.mem_cons_of_mem _ (List.mem_cons_of_mem _ (List.mem_cons_self ..)))
        have h3 := hob (n0 + 1 ≤ c) (by simp)
        have h4 := hob (c ≤ maxLen) (by simp)
        have hlen : (ePc.list cs 0 (n0 + 1)).length = n0 + 1 := Elt.list_len _ _ _
        refine ⟨by simp, fun x hx => by simp at hx; subst hx; exact ⟨Elt.row_pl _, rfl⟩, fun j hj => by simp [nms, nm1, nm0] at hj; subst hj; simp, ?_⟩
        exact few_row cs (n0 + 1) c h1 h3 h4
    · simp only [Option.some.injEq, Prod.mk.injEq] at h
      obtain ⟨rfl, rfl, rfl⟩ := h
      refine ⟨by simp, fun x hx => by simp at hx; subst hx; exact ⟨fun c hc => by simp at hc, rfl⟩, fun j hj => by simp [nms, nm1, nm0] at hj; subst hj; simp, ?_⟩
      exact spec_of_sat Try.func17 rfl fun E hE => fwNil () hE ⟨⟨rfl, rfl⟩, zok _, trivial⟩
    · simp at h
  · unfold few3_F at h
    split at h
    · rename_i n c cs
      cases n <;> simp at h <;> simp
    all_goals (simp at h <;> simp)

noncomputable def t_few3 (FK : Nat → Nat) (FL : List Value → Nat → List Pc) : Sums := upd t_cruns 17 (some (roSum (few3_F FK FL)))
theorem t_few3_ok (FK : Nat → Nat) (FL : List Value → Nat → List Pc) : SumsOK Try.prog (t_few3 FK FL) := sums_cons t_cruns_ok (few3_sum FK FL)
noncomputable def t_ct1 (FK : Nat → Nat) (FL : List Value → Nat → List Pc) (N8 : Nat → Nat) : Sums := upd (upd (upd (t_few3 FK FL) 18 (some (roSum (roomy_F N8)))) 21 (some (roSum intact_F))) 15 (some (roSum SamePc.same_F))
theorem t_ct1_ok (FK : Nat → Nat) (FL : List Value → Nat → List Pc) (N8 : Nat → Nat) : SumsOK Try.prog (t_ct1 FK FL N8) := sums_cons (sums_cons (sums_cons (t_few3_ok FK FL) (roomy_sum N8)) intact_sum) SamePc.same_sum
noncomputable def t_ct (FK : Nat → Nat) (FL : List Value → Nat → List Pc) (N8 : Nat → Nat) (ML : List Pc → List EB) (MC : List Pc → Nat) (R : MR) : Sums := upd (upd (upd (t_ct1 FK FL N8) 16 (some (roSum (merge_F ML MC)))) 13 (some (roSum (meet_F R)))) 20 (some (roSum (meet_F R)))
theorem t_ct_ok (FK : Nat → Nat) (FL : List Value → Nat → List Pc) (N8 : Nat → Nat) (ML : List Pc → List EB) (MC : List Pc → Nat) (R : MR) : SumsOK Try.prog (t_ct FK FL N8 ML MC R) := sums_cons (sums_cons (sums_cons (t_ct1_ok FK FL N8) (merge_sum ML MC)) (cmeet_sum R)) (rmeet_sum R)
/-- Behind few. -/
def ct1 (bx bY : Blk) (kx px ky py : Nat) (most : Int) : LoopF Unit where
  ts _ := [2, 7, 8]
  hs _ := [10, 11]
  tv _ _ := [.int .i64 most, .slice (some ⟨10, 0, none⟩) kx px, .slice (some ⟨11, 0, none⟩) ky py]
  hv _ _ := [bx, bY]
  inv _ _ := True
  mu _ _ := 0
  nx := 14
theorem ct1_ok (bx bY : Blk) (kx px ky py : Nat) (most : Int) (h1 : bx.plain) (h2 : bY.plain) : (ct1 bx bY kx px ky py most).OK 2 := by
  refine ⟨(by decide : 2 ≤ 14), fun z i h k hk => ?_, fun z i h v hv k hk => ?_, fun z i h x hx => ?_⟩
  · show k < 14
    simp [ct1] at hk; omega
  · show k < 14
    simp [ct1] at hv
    rcases hv with rfl | rfl | rfl <;> simp [nms, nm1, nm0] at hk <;> omega
  · simp [ct1] at hx
    rcases hx with rfl | rfl
    · exact h1.namesLt _
    · exact h2.namesLt _
/-- Along the pieces. -/
structure CQ where
  i : Nat
  l : List EB
  c : Nat
def ct2 (X : List Pc) (px : Nat) (ml : List EB) (mc : Nat) (Q : CQ → Prop) : LoopF CQ where
  ts _ := [15, 16, 68, 69, 70]
  hs _ := [10, 20, 21]
  tv _ := fun ⟨i, l, c⟩ => [.map (some 20), .map (some 21), .slice (some ⟨10, 0, none⟩) X.length px, .int .i64 (X.length : Int), .int .i64 (i : Int)]
  hv _ := fun ⟨i, l, c⟩ => [.ro (ePc.row X), .map L10 true (some .i64) (esB ml) mc, .map L10 true (some .i64) (esB l) c]
  inv _ := Q
  mu _ := fun ⟨i, l, c⟩ => X.length - i
  nx := 24
theorem ct2_ok (X : List Pc) (px : Nat) (ml : List EB) (mc : Nat) (Q : CQ → Prop) : (ct2 X px ml mc Q).OK 2 := by
  refine ⟨(by decide : 2 ≤ 24), fun z i h k hk => ?_, fun z i h v hv k hk => ?_, fun z i h x hx => ?_⟩
  · show k < 24
    simp [ct2] at hk; omega
  · show k < 24
    simp [ct2] at hv
    rcases hv with rfl | rfl | rfl | rfl | rfl <;> simp [nms, nm1, nm0] at hk <;> omega
  · simp [ct2] at hx
    rcases hx with rfl | rfl | rfl
    · exact Blk.plain.namesLt (b := .ro _) (Elt.row_pl _) _
    · trivial
    · trivial
/-- Along the sums. -/
def ct3 (ml l : List EB) (mc c : Nat) (Q : List Nat → Prop) : LoopF (List Nat) where
  ts _ := [15, 16, 86]
  hs _ := [20, 21, 22]
  tv _ _ := [.map (some 20), .map (some 21), .pointer (some ⟨22, 0, none⟩)]
  hv _ seen := [.map L10 true (some .i64) (esB ml) mc, .map L10 true (some .i64) (esB l) c, .it 21 c seen c]
  inv _ := Q
  mu _ seen := l.length - seen.length
  nx := 24
theorem ct3_ok (ml l : List EB) (mc c : Nat) (Q : List Nat → Prop) : (ct3 ml l mc c Q).OK 2 := by
  refine ⟨(by decide : 2 ≤ 24), fun z i h k hk => ?_, fun z i h v hv k hk => ?_, fun z i h x hx => ?_⟩
  · show k < 24
    simp [ct3] at hk; omega
  · show k < 24
    simp [ct3] at hv
    rcases hv with rfl | rfl | rfl <;> simp [nms, nm1, nm0] at hk <;> omega
  · simp [ct3] at hx
    rcases hx with rfl | rfl | rfl
    · trivial
    · trivial
    · show 21 < 24; omega
end Go.Proofs.Ythbaccmhdffjdaa.Ct


set_option linter.unusedVariables false
set_option linter.unusedSimpArgs false
set_option maxRecDepth 100000
namespace Go.Proofs.Ythbaccmhdffjdaa.Ct
open Go Go.RowKit Go.Proofs.Ythbaccmhdffjdaa.Ev Go.Proofs.Ythbaccmhdffjdaa.Mg Go.Proofs.Ythbaccmhdffjdaa.Mt Go.Proofs.Ythbaccmhdffjdaa.Rp Go.Proofs.Ythbaccmhdffjdaa.BoxF Go.Proofs.Ythbaccmhdffjdaa.Within Go.Proofs.Ythbaccmhdffjdaa.Cm Go.Proofs.Ythbaccmhdffjdaa.Ct

theorem ciNN (FK : Nat → Nat) (FL : List Value → Nat → List Pc) (N8 : Nat → Nat) (ML : List Pc → List EB) (MC : List Pc → Nat) (R : MR)   (most : Int)  {E : Env} {rv : Value} {rhs : List Nat} {rhv : List Blk} (hE : EnvOK E Try.prog Try.f4 3 2 rv rhs rhv) (hL : (ct1 (.cells [] 27) (.cells [] 27) 0 0 0 0 most).OK 2) (hob : all ([SameK (fromR Try.f4 2) (fromR Try.f4 2), Enter (ct1 (Blk.cells [] 27) (Blk.cells [] 27) 0 0 0 0 most) 0 none [Value.int IntKind.i64 most, Value.slice (some (Addr.mk 10 0 none)) 0 0, Value.slice (some (Addr.mk 18 0 none)) 0 0] [Blk.cells [] 27, Blk.cells [] 27] [(10, 10), (11, 18)], plainR [], plainR []])) (hK : ∀ zz, (ct1 (.cells [] 27) (.cells [] 27) 0 0 0 0 most).inv 0 zz → ltO ((ct1 (.cells [] 27) (.cells [] 27) 0 0 0 0 most).mu 0 zz) none → Sat E (fromR Try.f4 2) ((ct1 (.cells [] 27) (.cells [] 27) 0 0 0 0 most).st 0 zz)) : Sat E [.code (bodyOf Try.f4)] (st0 Try.f4 [.slice none 0 0, .slice none 0 0, .int .i64 most] (rowsL [none, none]) 2) :=
  by_to (T := auto0 (t_ct FK FL N8 ML MC R)) (h := hints []) (ws := [.at 2]) (i0 := ()) hE hm (auto0_ok (t_ct_ok FK FL N8 ML MC R)) hL (by kernel_rfl) hob hK
theorem ciNE (FK : Nat → Nat) (FL : List Value → Nat → List Pc) (N8 : Nat → Nat) (ML : List Pc → List EB) (MC : List Pc → Nat) (R : MR)  (L1 : List Pc) (c1 : Nat) (most : Int)  {E : Env} {rv : Value} {rhs : List Nat} {rhv : List Blk} (hE : EnvOK E Try.prog Try.f4 3 2 rv rhs rhv) (hL : (ct1 (.cells [] 27) (.cells [] 27) 0 0 0 0 most).OK 2) (hob : all ([SameK (fromR Try.f4 2) (fromR Try.f4 2), Enter (ct1 (Blk.cells [] 27) (Blk.cells [] 27) 0 0 0 0 most) 0 none [Value.int IntKind.i64 most, Value.slice (some (Addr.mk 10 0 none)) 0 0, Value.slice (some (Addr.mk 18 0 none)) 0 0] [Blk.cells [] 27, Blk.cells [] 27] [(10, 10), (11, 18)], plainR [ePc.row L1], c1 ≤ 9223372036854775807, plainR []])) (hK : ∀ zz, (ct1 (.cells [] 27) (.cells [] 27) 0 0 0 0 most).inv 0 zz → ltO ((ct1 (.cells [] 27) (.cells [] 27) 0 0 0 0 most).mu 0 zz) none → Sat E (fromR Try.f4 2) ((ct1 (.cells [] 27) (.cells [] 27) 0 0 0 0 most).st 0 zz)) : Sat E [.code (bodyOf Try.f4)] (st0 Try.f4 [.slice none 0 0, .slice (some ⟨1, 0, none⟩) 0 c1, .int .i64 most] (rowsL [none, some (ePc.row L1)]) 2) :=
  by_to (T := auto0 (t_ct FK FL N8 ML MC R)) (h := hints []) (ws := [.at 2]) (i0 := ()) hE hm (auto0_ok (t_ct_ok FK FL N8 ML MC R)) hL (by kernel_rfl) hob hK
theorem ciNV (FK : Nat → Nat) (FL : List Value → Nat → List Pc) (N8 : Nat → Nat) (ML : List Pc → List EB) (MC : List Pc → Nat) (R : MR)  (L1 : List Pc) (n1 c1 k1 : Nat) (X1 : List Pc) (most : Int)  {E : Env} {rv : Value} {rhs : List Nat} {rhv : List Blk} (hE : EnvOK E Try.prog Try.f4 3 2 rv rhs rhv) (hL : (ct1 (.cells [] 27) (.vec (ePc.row X1) 27 11) 0 0 k1 mk most).OK 2) (hob : all ([SameK (fromR Try.f4 2) (fromR Try.f4 2), Enter (ct1 (Blk.cells [] 27) (Blk.vec (ePc.row X1) 27 11) 0 0 k1 mk most) 0 none [Value.int IntKind.i64 most, Value.slice (some (Addr.mk 10 0 none)) 0 0, Value.slice (some (Addr.mk 18 0 none)) (FK n1.succ) 1267650600228229401496703205376] [Blk.cells [] 27, Blk.vec (ePc.row (FL (ePc.row L1) n1.succ)) 27 11] [(10, 10), (11, 18)], plainR [ePc.row L1], FK = fun n => min n 8, FL = fun cs n => List.take 8 (ePc.list cs 0 n), ePc.row L1 = ePc.row (ePc.list (ePc.row L1) 0 n1.succ), n1.succ ≤ c1, c1 ≤ 9223372036854775807, plainR []])) (hK : ∀ zz, (ct1 (.cells [] 27) (.vec (ePc.row X1) 27 11) 0 0 k1 mk most).inv 0 zz → ltO ((ct1 (.cells [] 27) (.vec (ePc.row X1) 27 11) 0 0 k1 mk most).mu 0 zz) none → Sat E (fromR Try.f4 2) ((ct1 (.cells [] 27) (.vec (ePc.row X1) 27 11) 0 0 k1 mk most).st 0 zz)) : Sat E [.code (bodyOf Try.f4)] (st0 Try.f4 [.slice none 0 0, .slice (some ⟨1, 0, none⟩) (Nat.succ n1) c1, .int .i64 most] (rowsL [none, some (ePc.row L1)]) 2) :=
  by_to (T := auto0 (t_ct FK FL N8 ML MC R)) (h := hints []) (ws := [.at 2]) (i0 := ()) hE hm (auto0_ok (t_ct_ok FK FL N8 ML MC R)) hL (by kernel_rfl) hob hK
theorem ciEN (FK : Nat → Nat) (FL : List Value → Nat → List Pc) (N8 : Nat → Nat) (ML : List Pc → List EB) (MC : List Pc → Nat) (R : MR) (L0 : List Pc) (c0 : Nat)  (most : Int)  {E : Env} {rv : Value} {rhs : List Nat} {rhv : List Blk} (hE : EnvOK E Try.prog Try.f4 3 2 rv rhs rhv) (hL : (ct1 (.cells [] 27) (.cells [] 27) 0 0 0 0 most).OK 2) (hob : all ([SameK (fromR Try.f4 2) (fromR Try.f4 2), Enter (ct1 (Blk.cells [] 27) (Blk.cells [] 27) 0 0 0 0 most) 0 none [Value.int IntKind.i64 most, Value.slice (some (Addr.mk 10 0 none)) 0 0, Value.slice (some (Addr.mk 18 0 none)) 0 0] [Blk.cells [] 27, Blk.cells [] 27] [(10, 10), (11, 18)], plainR [], plainR [ePc.row L0], c0 ≤ 9223372036854775807])) (hK : ∀ zz, (ct1 (.cells [] 27) (.cells [] 27) 0 0 0 0 most).inv 0 zz → ltO ((ct1 (.cells [] 27) (.cells [] 27) 0 0 0 0 most).mu 0 zz) none → Sat E (fromR Try.f4 2) ((ct1 (.cells [] 27) (.cells [] 27) 0 0 0 0 most).st 0 zz)) : Sat E [.code (bodyOf Try.f4)] (st0 Try.f4 [.slice (some ⟨0, 0, none⟩) 0 c0, .slice none 0 0, .int .i64 most] (rowsL [some (ePc.row L0), none]) 2) :=
  by_to (T := auto0 (t_ct FK FL N8 ML MC R)) (h := hints []) (ws := [.at 2]) (i0 := ()) hE hm (auto0_ok (t_ct_ok FK FL N8 ML MC R)) hL (by kernel_rfl) hob hK
theorem ciEE (FK : Nat → Nat) (FL : List Value → Nat → List Pc) (N8 : Nat → Nat) (ML : List Pc → List EB) (MC : List Pc → Nat) (R : MR) (L0 : List Pc) (c0 : Nat) (L1 : List Pc) (c1 : Nat) (most : Int)  {E : Env} {rv : Value} {rhs : List Nat} {rhv : List Blk} (hE : EnvOK E Try.prog Try.f4 3 2 rv rhs rhv) (hL : (ct1 (.cells [] 27) (.cells [] 27) 0 0 0 0 most).OK 2) (hob : all ([SameK (fromR Try.f4 2) (fromR Try.f4 2), Enter (ct1 (Blk.cells [] 27) (Blk.cells [] 27) 0 0 0 0 most) 0 none [Value.int IntKind.i64 most, Value.slice (some (Addr.mk 10 0 none)) 0 0, Value.slice (some (Addr.mk 18 0 none)) 0 0] [Blk.cells [] 27, Blk.cells [] 27] [(10, 10), (11, 18)], plainR [ePc.row L1], c1 ≤ 9223372036854775807, plainR [ePc.row L0], c0 ≤ 9223372036854775807])) (hK : ∀ zz, (ct1 (.cells [] 27) (.cells [] 27) 0 0 0 0 most).inv 0 zz → ltO ((ct1 (.cells [] 27) (.cells [] 27) 0 0 0 0 most).mu 0 zz) none → Sat E (fromR Try.f4 2) ((ct1 (.cells [] 27) (.cells [] 27) 0 0 0 0 most).st 0 zz)) : Sat E [.code (bodyOf Try.f4)] (st0 Try.f4 [.slice (some ⟨0, 0, none⟩) 0 c0, .slice (some ⟨1, 0, none⟩) 0 c1, .int .i64 most] (rowsL [some (ePc.row L0), some (ePc.row L1)]) 2) :=
  by_to (T := auto0 (t_ct FK FL N8 ML MC R)) (h := hints []) (ws := [.at 2]) (i0 := ()) hE hm (auto0_ok (t_ct_ok FK FL N8 ML MC R)) hL (by kernel_rfl) hob hK
theorem ciEV (FK : Nat → Nat) (FL : List Value → Nat → List Pc) (N8 : Nat → Nat) (ML : List Pc → List EB) (MC : List Pc → Nat) (R : MR) (L0 : List Pc) (c0 : Nat) (L1 : List Pc) (n1 c1 k1 : Nat) (X1 : List Pc) (most : Int)  {E : Env} {rv : Value} {rhs : List Nat} {rhv : List Blk} (hE : EnvOK E Try.prog Try.f4 3 2 rv rhs rhv) (hL : (ct1 (.cells [] 27) (.vec (ePc.row X1) 27 11) 0 0 k1 mk most).OK 2) (hob : all ([SameK (fromR Try.f4 2) (fromR Try.f4 2), Enter (ct1 (Blk.cells [] 27) (Blk.vec (ePc.row X1) 27 11) 0 0 k1 mk most) 0 none [Value.int IntKind.i64 most, Value.slice (some (Addr.mk 10 0 none)) 0 0, Value.slice (some (Addr.mk 18 0 none)) (FK n1.succ) 1267650600228229401496703205376] [Blk.cells [] 27, Blk.vec (ePc.row (FL (ePc.row L1) n1.succ)) 27 11] [(10, 10), (11, 18)], plainR [ePc.row L1], FK = fun n => min n 8, FL = fun cs n => List.take 8 (ePc.list cs 0 n), ePc.row L1 = ePc.row (ePc.list (ePc.row L1) 0 n1.succ), n1.succ ≤ c1, c1 ≤ 9223372036854775807, plainR [ePc.row L0], c0 ≤ 9223372036854775807])) (hK : ∀ zz, (ct1 (.cells [] 27) (.vec (ePc.row X1) 27 11) 0 0 k1 mk most).inv 0 zz → ltO ((ct1 (.cells [] 27) (.vec (ePc.row X1) 27 11) 0 0 k1 mk most).mu 0 zz) none → Sat E (fromR Try.f4 2) ((ct1 (.cells [] 27) (.vec (ePc.row X1) 27 11) 0 0 k1 mk most).st 0 zz)) : Sat E [.code (bodyOf Try.f4)] (st0 Try.f4 [.slice (some ⟨0, 0, none⟩) 0 c0, .slice (some ⟨1, 0, none⟩) (Nat.succ n1) c1, .int .i64 most] (rowsL [some (ePc.row L0), some (ePc.row L1)]) 2) :=
  by_to (T := auto0 (t_ct FK FL N8 ML MC R)) (h := hints []) (ws := [.at 2]) (i0 := ()) hE hm (auto0_ok (t_ct_ok FK FL N8 ML MC R)) hL (by kernel_rfl) hob hK
theorem ciVN (FK : Nat → Nat) (FL : List Value → Nat → List Pc) (N8 : Nat → Nat) (ML : List Pc → List EB) (MC : List Pc → Nat) (R : MR) (L0 : List Pc) (n0 c0 k0 : Nat) (X0 : List Pc)  (most : Int)  {E : Env} {rv : Value} {rhs : List Nat} {rhv : List Blk} (hE : EnvOK E Try.prog Try.f4 3 2 rv rhs rhv) (hL : (ct1 (.vec (ePc.row X0) 27 11) (.cells [] 27) k0 mk 0 0 most).OK 2) (hob : all ([SameK (fromR Try.f4 2) (fromR Try.f4 2), Enter (ct1 (Blk.vec (ePc.row X0) 27 11) (Blk.cells [] 27) k0 mk 0 0 most) 0 none [Value.int IntKind.i64 most, Value.slice (some (Addr.mk 10 0 none)) (FK n0.succ) 1267650600228229401496703205376, Value.slice (some (Addr.mk 18 0 none)) 0 0] [Blk.vec (ePc.row (FL (ePc.row L0) n0.succ)) 27 11, Blk.cells [] 27] [(10, 10), (11, 18)], plainR [], plainR [ePc.row L0], FK = fun n => min n 8, FL = fun cs n => List.take 8 (ePc.list cs 0 n), ePc.row L0 = ePc.row (ePc.list (ePc.row L0) 0 n0.succ), n0.succ ≤ c0, c0 ≤ 9223372036854775807])) (hK : ∀ zz, (ct1 (.vec (ePc.row X0) 27 11) (.cells [] 27) k0 mk 0 0 most).inv 0 zz → ltO ((ct1 (.vec (ePc.row X0) 27 11) (.cells [] 27) k0 mk 0 0 most).mu 0 zz) none → Sat E (fromR Try.f4 2) ((ct1 (.vec (ePc.row X0) 27 11) (.cells [] 27) k0 mk 0 0 most).st 0 zz)) : Sat E [.code (bodyOf Try.f4)] (st0 Try.f4 [.slice (some ⟨0, 0, none⟩) (Nat.succ n0) c0, .slice none 0 0, .int .i64 most] (rowsL [some (ePc.row L0), none]) 2) :=
  by_to (T := auto0 (t_ct FK FL N8 ML MC R)) (h := hints []) (ws := [.at 2]) (i0 := ()) hE hm (auto0_ok (t_ct_ok FK FL N8 ML MC R)) hL (by kernel_rfl) hob hK
theorem ciVE (FK : Nat → Nat) (FL : List Value → Nat → List Pc) (N8 : Nat → Nat) (ML : List Pc → List EB) (MC : List Pc → Nat) (R : MR) (L0 : List Pc) (n0 c0 k0 : Nat) (X0 : List Pc) (L1 : List Pc) (c1 : Nat) (most : Int)  {E : Env} {rv : Value} {rhs : List Nat} {rhv : List Blk} (hE : EnvOK E Try.prog Try.f4 3 2 rv rhs rhv) (hL : (ct1 (.vec (ePc.row X0) 27 11) (.cells [] 27) k0 mk 0 0 most).OK 2) (hob : all ([SameK (fromR Try.f4 2) (fromR Try.f4 2), Enter (ct1 (Blk.vec (ePc.row X0) 27 11) (Blk.cells [] 27) k0 mk 0 0 most) 0 none [Value.int IntKind.i64 most, Value.slice (some (Addr.mk 10 0 none)) (FK n0.succ) 1267650600228229401496703205376, Value.slice (some (Addr.mk 18 0 none)) 0 0] [Blk.vec (ePc.row (FL (ePc.row L0) n0.succ)) 27 11, Blk.cells [] 27] [(10, 10), (11, 18)], plainR [ePc.row L1], c1 ≤ 9223372036854775807, plainR [ePc.row L0], FK = fun n => min n 8, FL = fun cs n => List.take 8 (ePc.list cs 0 n), ePc.row L0 = ePc.row (ePc.list (ePc.row L0) 0 n0.succ), n0.succ ≤ c0, c0 ≤ 9223372036854775807])) (hK : ∀ zz, (ct1 (.vec (ePc.row X0) 27 11) (.cells [] 27) k0 mk 0 0 most).inv 0 zz → ltO ((ct1 (.vec (ePc.row X0) 27 11) (.cells [] 27) k0 mk 0 0 most).mu 0 zz) none → Sat E (fromR Try.f4 2) ((ct1 (.vec (ePc.row X0) 27 11) (.cells [] 27) k0 mk 0 0 most).st 0 zz)) : Sat E [.code (bodyOf Try.f4)] (st0 Try.f4 [.slice (some ⟨0, 0, none⟩) (Nat.succ n0) c0, .slice (some ⟨1, 0, none⟩) 0 c1, .int .i64 most] (rowsL [some (ePc.row L0), some (ePc.row L1)]) 2) :=
  by_to (T := auto0 (t_ct FK FL N8 ML MC R)) (h := hints []) (ws := [.at 2]) (i0 := ()) hE hm (auto0_ok (t_ct_ok FK FL N8 ML MC R)) hL (by kernel_rfl) hob hK
theorem ciVV (FK : Nat → Nat) (FL : List Value → Nat → List Pc) (N8 : Nat → Nat) (ML : List Pc → List EB) (MC : List Pc → Nat) (R : MR) (L0 : List Pc) (n0 c0 k0 : Nat) (X0 : List Pc) (L1 : List Pc) (n1 c1 k1 : Nat) (X1 : List Pc) (most : Int)  {E : Env} {rv : Value} {rhs : List Nat} {rhv : List Blk} (hE : EnvOK E Try.prog Try.f4 3 2 rv rhs rhv) (hL : (ct1 (.vec (ePc.row X0) 27 11) (.vec (ePc.row X1) 27 11) k0 mk k1 mk most).OK 2) (hob : all ([SameK (fromR Try.f4 2) (fromR Try.f4 2), Enter (ct1 (Blk.vec (ePc.row X0) 27 11) (Blk.vec (ePc.row X1) 27 11) k0 mk k1 mk most) 0 none [Value.int IntKind.i64 most, Value.slice (some (Addr.mk 10 0 none)) (FK n0.succ) 1267650600228229401496703205376, Value.slice (some (Addr.mk 18 0 none)) (FK n1.succ) 1267650600228229401496703205376] [Blk.vec (ePc.row (FL (ePc.row L0) n0.succ)) 27 11, Blk.vec (ePc.row (FL (ePc.row L1) n1.succ)) 27 11] [(10, 10), (11, 18)], plainR [ePc.row L1], FK = fun n => min n 8, FL = fun cs n => List.take 8 (ePc.list cs 0 n), ePc.row L1 = ePc.row (ePc.list (ePc.row L1) 0 n1.succ), n1.succ ≤ c1, c1 ≤ 9223372036854775807, plainR [ePc.row L0], FK = fun n => min n 8, FL = fun cs n => List.take 8 (ePc.list cs 0 n), ePc.row L0 = ePc.row (ePc.list (ePc.row L0) 0 n0.succ), n0.succ ≤ c0, c0 ≤ 9223372036854775807])) (hK : ∀ zz, (ct1 (.vec (ePc.row X0) 27 11) (.vec (ePc.row X1) 27 11) k0 mk k1 mk most).inv 0 zz → ltO ((ct1 (.vec (ePc.row X0) 27 11) (.vec (ePc.row X1) 27 11) k0 mk k1 mk most).mu 0 zz) none → Sat E (fromR Try.f4 2) ((ct1 (.vec (ePc.row X0) 27 11) (.vec (ePc.row X1) 27 11) k0 mk k1 mk most).st 0 zz)) : Sat E [.code (bodyOf Try.f4)] (st0 Try.f4 [.slice (some ⟨0, 0, none⟩) (Nat.succ n0) c0, .slice (some ⟨1, 0, none⟩) (Nat.succ n1) c1, .int .i64 most] (rowsL [some (ePc.row L0), some (ePc.row L1)]) 2) :=
  by_to (T := auto0 (t_ct FK FL N8 ML MC R)) (h := hints []) (ws := [.at 2]) (i0 := ()) hE hm (auto0_ok (t_ct_ok FK FL N8 ML MC R)) hL (by kernel_rfl) hob hK
theorem cgN (FK : Nat → Nat) (FL : List Value → Nat → List Pc) (N8 : Nat → Nat) (ML : List Pc → List EB) (MC : List Pc → Nat)  (X Y : List Pc) (px py cf ky : Nat) (most k : Int) (ml : List EB) (mc : Nat) (Q : CQ → Prop)  {E : Env} {rv : Value} {rhs : List Nat} {rhv : List Blk} (hE : EnvOK E Try.prog Try.f4 3 2 rv rhs rhv) (hL : (ct2 X px ml mc Q).OK 2) (hob : all ([SameK (atLp (lp Try.f4 0)) (atLp (lp Try.f4 0)), Enter (ct2 X px ml mc Q) 0 none [Value.map (some 194), Value.map (some 202), Value.slice (some (Addr.mk 10 0 none)) X.length px, Value.int IntKind.i64 (Int.ofNat X.length), Value.int IntKind.i64 ((0 : Int))] [Blk.ro (ePc.row X), Blk.map [some IntKind.i64, some IntKind.i64, some IntKind.i64, some IntKind.i64, some IntKind.i64, some IntKind.i64, some IntKind.i64, some IntKind.i64, some IntKind.i64, some IntKind.i64] true (some IntKind.i64) (esB (ML (ePc.list (ePc.row X) 0 X.length))) (MC (ePc.list (ePc.row X) 0 X.length)), Blk.map [some IntKind.i64, some IntKind.i64, some IntKind.i64, some IntKind.i64, some IntKind.i64, some IntKind.i64, some IntKind.i64, some IntKind.i64, some IntKind.i64, some IntKind.i64] true (some IntKind.i64) [] 0] [(20, 194), (21, 202), (10, 10)], plainR [ePc.row X], ML = Ythbaccmhdffjdaa.Mg.mergeL, MC = mergeC, ePc.Row (ePc.row X) 0 X.length, X.length ≤ 65536, plainR [ePc.row (ePc.list (ePc.row X) 0 X.length ++ List.replicate 80 K77), ePc.row X], ePc.Row (ePc.row (ePc.list (ePc.row X) 0 X.length ++ List.replicate 80 K77)) 0 (N8 X.length), ePc.Row (ePc.row X) 0 X.length, N8 X.length ≤ 65536, N8 X.length ≤ N8 X.length, N8 X.length ≤ 16777216, ePc.list (ePc.row (ePc.list (ePc.row X) 0 X.length ++ List.replicate 80 K77)) 0 (N8 X.length) = ePc.list (ePc.row X) 0 X.length ++ List.replicate 80 K77, plainR [], plainR [ePc.row X, ePc.row Y], meetL (ePc.list (ePc.row X) 0 X.length) (ePc.list (ePc.row Y) 0 ky) k = none, MR.few.ok, ePc.Row (ePc.row X) 0 X.length, ePc.Row (ePc.row Y) 0 ky, X.length ≤ 100000, ky ≤ 100000, k ≤ (100000 : Int), plainR [ePc.row (ePc.list (ePc.row X) 0 X.length ++ List.replicate 80 K77), ePc.row Y], meetL (ePc.list (ePc.row (ePc.list (ePc.row X) 0 X.length ++ List.replicate 80 K77)) 0 X.length) (ePc.list (ePc.row Y) 0 ky) k = none, MR.few.ok, ePc.Row (ePc.row (ePc.list (ePc.row X) 0 X.length ++ List.replicate 80 K77)) 0 X.length, ePc.Row (ePc.row Y) 0 ky, X.length ≤ 100000, ky ≤ 100000, k ≤ (100000 : Int), SlOK 11 22 0 (N8 X.length) (N8 X.length) none (some (Int.ofNat X.length)) (some (Blk.cells (ePc.row (ePc.list (ePc.row X) 0 X.length ++ List.replicate 80 K77)) 27)) (Value.slice (some (Addr.mk 22 0 none)) X.length cf), Value.int IntKind.i64 (withinS most ((0 : Int)) ((40 : Int))) = Value.int IntKind.i64 k, I64 most, (-2305843009213693952 : Int) ≤ (0 : Int), (0 : Int) ≤ (40 : Int), (40 : Int) ≤ (2305843009213693952 : Int), plainR [ePc.row X], ePc.Row (ePc.row X) 0 X.length, X.length ≤ 65536, N8 = fun n => n + 80])) (hK : ∀ zz, (ct2 X px ml mc Q).inv 0 zz → ltO ((ct2 X px ml mc Q).mu 0 zz) none → Sat E (atLp (lp Try.f4 0)) ((ct2 X px ml mc Q).st 0 zz)) : Sat E (fromR Try.f4 2) ((ct1 (.ro (ePc.row X)) (.ro (ePc.row Y)) X.length px ky py most).st 0 ()) :=
  by_to (T := auto0 (t_ct FK FL N8 ML MC MR.few)) (h := hints [(3, 1, {v := some (.int .i64 k)}), (4, 3, {o := some (.slice (some ⟨22, 0, none⟩) X.length cf)})]) (ws := [.go, .stop]) (i0 := ⟨0, [], 0⟩) hE hm (auto0_ok (t_ct_ok FK FL N8 ML MC MR.few)) hL (by kernel_rfl) hob hK
theorem cgE (FK : Nat → Nat) (FL : List Value → Nat → List Pc) (N8 : Nat → Nat) (ML : List Pc → List EB) (MC : List Pc → Nat)  (X Y : List Pc) (px py cf ky : Nat) (most k : Int) (ml : List EB) (mc : Nat) (Q : CQ → Prop)  {E : Env} {rv : Value} {rhs : List Nat} {rhv : List Blk} (hE : EnvOK E Try.prog Try.f4 3 2 rv rhs rhv) (hL : (ct2 X px ml mc Q).OK 2) (hob : all ([SameK (atLp (lp Try.f4 0)) (atLp (lp Try.f4 0)), Enter (ct2 X px ml mc Q) 0 none [Value.map (some 194), Value.map (some 202), Value.slice (some (Addr.mk 10 0 none)) X.length px, Value.int IntKind.i64 (Int.ofNat X.length), Value.int IntKind.i64 ((0 : Int))] [Blk.ro (ePc.row X), Blk.map [some IntKind.i64, some IntKind.i64, some IntKind.i64, some IntKind.i64, some IntKind.i64, some IntKind.i64, some IntKind.i64, some IntKind.i64, some IntKind.i64, some IntKind.i64] true (some IntKind.i64) (esB (ML (ePc.list (ePc.row X) 0 X.length))) (MC (ePc.list (ePc.row X) 0 X.length)), Blk.map [some IntKind.i64, some IntKind.i64, some IntKind.i64, some IntKind.i64, some IntKind.i64, some IntKind.i64, some IntKind.i64, some IntKind.i64, some IntKind.i64, some IntKind.i64] true (some IntKind.i64) [] 0] [(20, 194), (21, 202), (10, 10)], plainR [ePc.row X], ML = Ythbaccmhdffjdaa.Mg.mergeL, MC = mergeC, ePc.Row (ePc.row X) 0 X.length, X.length ≤ 65536, plainR [ePc.row (ePc.list (ePc.row X) 0 X.length ++ List.replicate 80 K77), ePc.row X], ePc.Row (ePc.row (ePc.list (ePc.row X) 0 X.length ++ List.replicate 80 K77)) 0 (N8 X.length), ePc.Row (ePc.row X) 0 X.length, N8 X.length ≤ 65536, N8 X.length ≤ N8 X.length, N8 X.length ≤ 16777216, ePc.list (ePc.row (ePc.list (ePc.row X) 0 X.length ++ List.replicate 80 K77)) 0 (N8 X.length) = ePc.list (ePc.row X) 0 X.length ++ List.replicate 80 K77, plainR [], plainR [ePc.row X, ePc.row Y], meetL (ePc.list (ePc.row X) 0 X.length) (ePc.list (ePc.row Y) 0 ky) k = some [], MR.nil.ok, ePc.Row (ePc.row X) 0 X.length, ePc.Row (ePc.row Y) 0 ky, X.length ≤ 100000, ky ≤ 100000, k ≤ (100000 : Int), plainR [ePc.row (ePc.list (ePc.row X) 0 X.length ++ List.replicate 80 K77), ePc.row Y], meetL (ePc.list (ePc.row (ePc.list (ePc.row X) 0 X.length ++ List.replicate 80 K77)) 0 X.length) (ePc.list (ePc.row Y) 0 ky) k = some [], MR.nil.ok, ePc.Row (ePc.row (ePc.list (ePc.row X) 0 X.length ++ List.replicate 80 K77)) 0 X.length, ePc.Row (ePc.row Y) 0 ky, X.length ≤ 100000, ky ≤ 100000, k ≤ (100000 : Int), SlOK 11 22 0 (N8 X.length) (N8 X.length) none (some (Int.ofNat X.length)) (some (Blk.cells (ePc.row (ePc.list (ePc.row X) 0 X.length ++ List.replicate 80 K77)) 27)) (Value.slice (some (Addr.mk 22 0 none)) X.length cf), Value.int IntKind.i64 (withinS most ((0 : Int)) ((40 : Int))) = Value.int IntKind.i64 k, I64 most, (-2305843009213693952 : Int) ≤ (0 : Int), (0 : Int) ≤ (40 : Int), (40 : Int) ≤ (2305843009213693952 : Int), plainR [ePc.row X], ePc.Row (ePc.row X) 0 X.length, X.length ≤ 65536, N8 = fun n => n + 80])) (hK : ∀ zz, (ct2 X px ml mc Q).inv 0 zz → ltO ((ct2 X px ml mc Q).mu 0 zz) none → Sat E (atLp (lp Try.f4 0)) ((ct2 X px ml mc Q).st 0 zz)) : Sat E (fromR Try.f4 2) ((ct1 (.ro (ePc.row X)) (.ro (ePc.row Y)) X.length px ky py most).st 0 ()) :=
  by_to (T := auto0 (t_ct FK FL N8 ML MC MR.nil)) (h := hints [(3, 1, {v := some (.int .i64 k)}), (4, 3, {o := some (.slice (some ⟨22, 0, none⟩) X.length cf)})]) (ws := [.go, .stop]) (i0 := ⟨0, [], 0⟩) hE hm (auto0_ok (t_ct_ok FK FL N8 ML MC MR.nil)) hL (by kernel_rfl) hob hK
theorem cgV (FK : Nat → Nat) (FL : List Value → Nat → List Pc) (N8 : Nat → Nat) (ML : List Pc → List EB) (MC : List Pc → Nat) (Z : List Pc) (X Y : List Pc) (px py cf ky : Nat) (most k : Int) (ml : List EB) (mc : Nat) (Q : CQ → Prop)  {E : Env} {rv : Value} {rhs : List Nat} {rhv : List Blk} (hE : EnvOK E Try.prog Try.f4 3 2 rv rhs rhv) (hL : (ct2 X px ml mc Q).OK 2) (hob : all ([SameK (atLp (lp Try.f4 0)) (atLp (lp Try.f4 0)), Enter (ct2 X px ml mc Q) 0 none [Value.map (some 194), Value.map (some 202), Value.slice (some (Addr.mk 10 0 none)) X.length px, Value.int IntKind.i64 (Int.ofNat X.length), Value.int IntKind.i64 ((0 : Int))] [Blk.ro (ePc.row X), Blk.map [some IntKind.i64, some IntKind.i64, some IntKind.i64, some IntKind.i64, some IntKind.i64, some IntKind.i64, some IntKind.i64, some IntKind.i64, some IntKind.i64, some IntKind.i64] true (some IntKind.i64) (esB (ML (ePc.list (ePc.row X) 0 X.length))) (MC (ePc.list (ePc.row X) 0 X.length)), Blk.map [some IntKind.i64, some IntKind.i64, some IntKind.i64, some IntKind.i64, some IntKind.i64, some IntKind.i64, some IntKind.i64, some IntKind.i64, some IntKind.i64, some IntKind.i64] true (some IntKind.i64) [] 0] [(20, 194), (21, 202), (10, 10)], plainR [ePc.row X], ML = Ythbaccmhdffjdaa.Mg.mergeL, MC = mergeC, ePc.Row (ePc.row X) 0 X.length, X.length ≤ 65536, plainR [ePc.row (ePc.list (ePc.row X) 0 X.length ++ List.replicate 80 K77), ePc.row X], ePc.Row (ePc.row (ePc.list (ePc.row X) 0 X.length ++ List.replicate 80 K77)) 0 (N8 X.length), ePc.Row (ePc.row X) 0 X.length, N8 X.length ≤ 65536, N8 X.length ≤ N8 X.length, N8 X.length ≤ 16777216, ePc.list (ePc.row (ePc.list (ePc.row X) 0 X.length ++ List.replicate 80 K77)) 0 (N8 X.length) = ePc.list (ePc.row X) 0 X.length ++ List.replicate 80 K77, Value.bool (decide (ePc.list (ePc.row Z) (Addr.mk 100 0 none).off Z.length = ePc.list (ePc.row Z) (Addr.mk 100 0 none).off Z.length)) = Value.bool true, plainR [ePc.row Z, ePc.row Z], ePc.Row (ePc.row Z) 0 Z.length, ePc.Row (ePc.row Z) 0 Z.length, Z.length ≤ 9223372036854775806, plainR [ePc.row X, ePc.row Y], meetL (ePc.list (ePc.row X) 0 X.length) (ePc.list (ePc.row Y) 0 ky) k = some Z, (MR.row Z).ok, ePc.Row (ePc.row X) 0 X.length, ePc.Row (ePc.row Y) 0 ky, X.length ≤ 100000, ky ≤ 100000, k ≤ (100000 : Int), plainR [ePc.row (ePc.list (ePc.row X) 0 X.length ++ List.replicate 80 K77), ePc.row Y], meetL (ePc.list (ePc.row (ePc.list (ePc.row X) 0 X.length ++ List.replicate 80 K77)) 0 X.length) (ePc.list (ePc.row Y) 0 ky) k = some Z, (MR.row Z).ok, ePc.Row (ePc.row (ePc.list (ePc.row X) 0 X.length ++ List.replicate 80 K77)) 0 X.length, ePc.Row (ePc.row Y) 0 ky, X.length ≤ 100000, ky ≤ 100000, k ≤ (100000 : Int), SlOK 11 22 0 (N8 X.length) (N8 X.length) none (some (Int.ofNat X.length)) (some (Blk.cells (ePc.row (ePc.list (ePc.row X) 0 X.length ++ List.replicate 80 K77)) 27)) (Value.slice (some (Addr.mk 22 0 none)) X.length cf), Value.int IntKind.i64 (withinS most ((0 : Int)) ((40 : Int))) = Value.int IntKind.i64 k, I64 most, (-2305843009213693952 : Int) ≤ (0 : Int), (0 : Int) ≤ (40 : Int), (40 : Int) ≤ (2305843009213693952 : Int), plainR [ePc.row X], ePc.Row (ePc.row X) 0 X.length, X.length ≤ 65536, N8 = fun n => n + 80])) (hK : ∀ zz, (ct2 X px ml mc Q).inv 0 zz → ltO ((ct2 X px ml mc Q).mu 0 zz) none → Sat E (atLp (lp Try.f4 0)) ((ct2 X px ml mc Q).st 0 zz)) : Sat E (fromR Try.f4 2) ((ct1 (.ro (ePc.row X)) (.ro (ePc.row Y)) X.length px ky py most).st 0 ()) :=
  by_to (T := auto0 (t_ct FK FL N8 ML MC (MR.row Z))) (h := hints [(3, 1, {v := some (.int .i64 k)}), (4, 3, {o := some (.slice (some ⟨22, 0, none⟩) X.length cf)}), (6, 2, ht true)]) (ws := [.go, .stop]) (i0 := ⟨0, [], 0⟩) hE hm (auto0_ok (t_ct_ok FK FL N8 ML MC (MR.row Z))) hL (by kernel_rfl) hob hK
theorem cbB (FK : Nat → Nat) (FL : List Value → Nat → List Pc) (N8 : Nat → Nat) (ML : List Pc → List EB) (MC : List Pc → Nat) (R : MR) (X : List Pc) (px : Nat) (ml : List EB) (mc : Nat) (Q : CQ → Prop) (i : Nat) (l l2 : List EB) (c : Nat) (bo : Bx) (v g nn : Int) (J : Act → World → Prop) {E : Env} {rv : Value} {rhs : List Nat} {rhv : List Blk} (hE : EnvOK E Try.prog Try.f4 3 2 rv rhs rhv) (hL : (ct2 X px ml mc Q).OK 2) (hob : all ([SameK (mkLp (lp Try.f4 0) J) (mkLp (lp Try.f4 0) J), Enter (ct2 X px ml mc Q) 0 (some (X.length - i)) [Value.map (some 20), Value.map (some 21), Value.slice (some (Addr.mk 10 0 none)) X.length px, Value.int IntKind.i64 (Int.ofNat X.length), Value.int IntKind.i64 (Int.ofNat i.succ)] [Blk.ro (ePc.row X), Blk.map [some IntKind.i64, some IntKind.i64, some IntKind.i64, some IntKind.i64, some IntKind.i64, some IntKind.i64, some IntKind.i64, some IntKind.i64, some IntKind.i64, some IntKind.i64] true (some IntKind.i64) (esB ml) mc, Blk.map [some IntKind.i64, some IntKind.i64, some IntKind.i64, some IntKind.i64, some IntKind.i64, some IntKind.i64, some IntKind.i64, some IntKind.i64, some IntKind.i64, some IntKind.i64] true (some IntKind.i64) (esB l2) (bif mhas (Value.agg (Array.mk [Value.int IntKind.i64 bo.a0, Value.int IntKind.i64 bo.b0, Value.int IntKind.i64 bo.a1, Value.int IntKind.i64 bo.b1, Value.int IntKind.i64 bo.a2, Value.int IntKind.i64 bo.b2, Value.int IntKind.i64 bo.a3, Value.int IntKind.i64 bo.b3, Value.int IntKind.i64 bo.a4, Value.int IntKind.i64 bo.b4])) (esB l) then c else c + 1)] [(20, 20), (21, 21), (10, 10)], Value.int IntKind.i64 (IntKind.i64.wrap (Int.ofNat i.succ)) = Value.int IntKind.i64 (Int.ofNat i.succ), mput (Value.agg (Array.mk [Value.int IntKind.i64 bo.a0, Value.int IntKind.i64 bo.b0, Value.int IntKind.i64 bo.a1, Value.int IntKind.i64 bo.b1, Value.int IntKind.i64 bo.a2, Value.int IntKind.i64 bo.b2, Value.int IntKind.i64 bo.a3, Value.int IntKind.i64 bo.b3, Value.int IntKind.i64 bo.a4, Value.int IntKind.i64 bo.b4])) (Value.int IntKind.i64 nn) c (esB l) = esB l2, Value.int IntKind.i64 (IntKind.i64.wrap (g + v)) = Value.int IntKind.i64 nn, Value.int IntKind.i64 (mgetI (Value.agg (Array.mk [Value.int IntKind.i64 bo.a0, Value.int IntKind.i64 bo.b0, Value.int IntKind.i64 bo.a1, Value.int IntKind.i64 bo.b1, Value.int IntKind.i64 bo.a2, Value.int IntKind.i64 bo.b2, Value.int IntKind.i64 bo.a3, Value.int IntKind.i64 bo.b3, Value.int IntKind.i64 bo.a4, Value.int IntKind.i64 bo.b4])) (esB l)) = Value.int IntKind.i64 g, readPart Try.prog 27 (ePc.row X) (0 + ((i : Int)).toNat * 11) = some (Value.agg (Array.mk [Value.int IntKind.i64 bo.a0, Value.int IntKind.i64 bo.b0, Value.int IntKind.i64 bo.a1, Value.int IntKind.i64 bo.b1, Value.int IntKind.i64 bo.a2, Value.int IntKind.i64 bo.b2, Value.int IntKind.i64 bo.a3, Value.int IntKind.i64 bo.b3, Value.int IntKind.i64 bo.a4, Value.int IntKind.i64 bo.b4, Value.int IntKind.i64 v])), (0 : Int) ≤ (i : Int) ∧ (i : Int) < Int.ofNat X.length, decide ((↑i : Int) < (↑X.length : Int)) = true])) (hK : ∀ zz, (ct2 X px ml mc Q).inv 0 zz → ltO ((ct2 X px ml mc Q).mu 0 zz) (some (X.length - i)) → Sat E (mkLp (lp Try.f4 0) J) ((ct2 X px ml mc Q).st 0 zz)) : Sat E (inLp (lp Try.f4 0) J) ((ct2 X px ml mc Q).st 0 ⟨i, l, c⟩) :=
  by_to (T := auto0 (t_ct FK FL N8 ML MC R)) (h := hints [(12, 0, {p := true}), (12, 1, {o := some (.agg ⟨bo.cs ++ [.int .i64 v]⟩)}), (13, 6, {v := some (.int .i64 g)}), (13, 9, {v := some (.int .i64 nn)}), (13, 10, {e := some (esB l2)}), (14, 0, {v := some (.int .i64 ((i + 1 : Nat) : Int))})]) (ws := [.b true]) (i0 := ⟨i + 1, l2, c⟩) hE hm (auto0_ok (t_ct_ok FK FL N8 ML MC R)) hL (by kernel_rfl) hob hK
theorem cbX (FK : Nat → Nat) (FL : List Value → Nat → List Pc) (N8 : Nat → Nat) (ML : List Pc → List EB) (MC : List Pc → Nat) (R : MR) (X : List Pc) (px : Nat) (ml : List EB) (mc : Nat) (Q : CQ → Prop) (Q3 : List Nat → Prop) (i : Nat) (l : List EB) (c : Nat) (J : Act → World → Prop) {E : Env} {rv : Value} {rhs : List Nat} {rhv : List Blk} (hE : EnvOK E Try.prog Try.f4 3 2 rv rhs rhv) (hL : (ct3 ml l mc c Q3).OK 2) (hob : all ([SameK (atLp (lp Try.f4 1)) (atLp (lp Try.f4 1)), Enter (ct3 ml l mc c Q3) 0 none [Value.map (some 20), Value.map (some 21), Value.pointer (some (Addr.mk 32 0 none))] [Blk.map [some IntKind.i64, some IntKind.i64, some IntKind.i64, some IntKind.i64, some IntKind.i64, some IntKind.i64, some IntKind.i64, some IntKind.i64, some IntKind.i64, some IntKind.i64] true (some IntKind.i64) (esB ml) mc, Blk.map [some IntKind.i64, some IntKind.i64, some IntKind.i64, some IntKind.i64, some IntKind.i64, some IntKind.i64, some IntKind.i64, some IntKind.i64, some IntKind.i64, some IntKind.i64] true (some IntKind.i64) (esB l) c, Blk.it 21 c [] c] [(20, 20), (21, 21), (22, 32)], decide ((↑i : Int) < (↑X.length : Int)) = false])) (hK : ∀ zz, (ct3 ml l mc c Q3).inv 0 zz → ltO ((ct3 ml l mc c Q3).mu 0 zz) none → Sat E (atLp (lp Try.f4 1)) ((ct3 ml l mc c Q3).st 0 zz)) : Sat E (inLp (lp Try.f4 0) J) ((ct2 X px ml mc Q).st 0 ⟨i, l, c⟩) :=
  by_to (T := auto0 (t_ct FK FL N8 ML MC R)) (h := hints []) (ws := [.b false, .stop]) (i0 := []) hE hm (auto0_ok (t_ct_ok FK FL N8 ML MC R)) hL (by kernel_rfl) hob hK
theorem ccY (FK : Nat → Nat) (FL : List Value → Nat → List Pc) (N8 : Nat → Nat) (ML : List Pc → List EB) (MC : List Pc → Nat) (R : MR) (ml l : List EB) (mc c : Nat) (Q : List Nat → Prop) (seen : List Nat) (bo : Bx) (n : Int) (s : Nat) (J : Act → World → Prop) {E : Env} {rv : Value} {rhs : List Nat} {rhv : List Blk} (hE : EnvOK E Try.prog Try.f4 3 2 rv rhs rhv) (hL : (ct3 ml l mc c Q).OK 2) (hob : all ([SameK (mkLp (lp Try.f4 1) J) (mkLp (lp Try.f4 1) J), Enter (ct3 ml l mc c Q) 0 (some (l.length - seen.length)) [Value.map (some 20), Value.map (some 21), Value.pointer (some (Addr.mk 22 0 none))] [Blk.map [some IntKind.i64, some IntKind.i64, some IntKind.i64, some IntKind.i64, some IntKind.i64, some IntKind.i64, some IntKind.i64, some IntKind.i64, some IntKind.i64, some IntKind.i64] true (some IntKind.i64) (esB ml) mc, Blk.map [some IntKind.i64, some IntKind.i64, some IntKind.i64, some IntKind.i64, some IntKind.i64, some IntKind.i64, some IntKind.i64, some IntKind.i64, some IntKind.i64, some IntKind.i64] true (some IntKind.i64) (esB l) c, Blk.it 21 c (seen ++ [(EB.mk bo n s).ent.snd.snd]) c] [(20, 20), (21, 21), (22, 22)], Value.bool (n != n) = Value.bool false, Value.tuple (Array.mk [Value.int IntKind.i64 (mgetI (Value.agg (Array.mk [Value.int IntKind.i64 bo.a0, Value.int IntKind.i64 bo.b0, Value.int IntKind.i64 bo.a1, Value.int IntKind.i64 bo.b1, Value.int IntKind.i64 bo.a2, Value.int IntKind.i64 bo.b2, Value.int IntKind.i64 bo.a3, Value.int IntKind.i64 bo.b3, Value.int IntKind.i64 bo.a4, Value.int IntKind.i64 bo.b4])) (esB ml)), Value.bool (mhas (Value.agg (Array.mk [Value.int IntKind.i64 bo.a0, Value.int IntKind.i64 bo.b0, Value.int IntKind.i64 bo.a1, Value.int IntKind.i64 bo.b1, Value.int IntKind.i64 bo.a2, Value.int IntKind.i64 bo.b2, Value.int IntKind.i64 bo.a3, Value.int IntKind.i64 bo.b3, Value.int IntKind.i64 bo.a4, Value.int IntKind.i64 bo.b4])) (esB ml))]) = Value.tuple (Array.mk [Value.int IntKind.i64 n, Value.bool true]), EntryOK (esB l) (seen ++ [(EB.mk bo n s).ent.snd.snd]) c c (Value.tuple (Array.mk [Value.agg (Array.mk [Value.int IntKind.i64 bo.a0, Value.int IntKind.i64 bo.b0, Value.int IntKind.i64 bo.a1, Value.int IntKind.i64 bo.b1, Value.int IntKind.i64 bo.a2, Value.int IntKind.i64 bo.b2, Value.int IntKind.i64 bo.a3, Value.int IntKind.i64 bo.b3, Value.int IntKind.i64 bo.a4, Value.int IntKind.i64 bo.b4]), Value.int IntKind.i64 n]))])) (hK : ∀ zz, (ct3 ml l mc c Q).inv 0 zz → ltO ((ct3 ml l mc c Q).mu 0 zz) (some (l.length - seen.length)) → Sat E (mkLp (lp Try.f4 1) J) ((ct3 ml l mc c Q).st 0 zz)) : Sat E (afterN (inLp (lp Try.f4 1) J)) (stYes ((ct3 ml l mc c Q).st 0 seen) 87 88 22 21 c seen c (EB.ent ⟨bo, n, s⟩)) :=
  by_to (T := auto0 (t_ct FK FL N8 ML MC R)) (h := hints [(17, 0, {o := some (.tuple ⟨[kB bo, .int .i64 n]⟩)}), (18, 2, {v := some (.tuple ⟨[.int .i64 n, .bool true]⟩)}), (19, 5, ht false)]) (ws := []) (i0 := (seen ++ [s])) hE hm (auto0_ok (t_ct_ok FK FL N8 ML MC R)) hL (by kernel_rfl) hob hK
theorem ccN (FK : Nat → Nat) (FL : List Value → Nat → List Pc) (N8 : Nat → Nat) (ML : List Pc → List EB) (MC : List Pc → Nat) (R : MR) (ml l : List EB) (mc c : Nat) (Q : List Nat → Prop) (seen : List Nat) (J : Act → World → Prop) {E : Env} (hE : EnvOK E Try.prog Try.f4 3 2 (.bool true) [] []) (hob : all ([Back (Value.bool true) (Value.bool true) [] [] [], Value.bool (Int.ofNat (esB ml).length == Int.ofNat (esB l).length) = Value.bool true])) : Sat E (afterN (inLp (lp Try.f4 1) J)) (stNo ((ct3 ml l mc c Q).st 0 seen) 87 88) :=
  by_ret (T := auto0 (t_ct FK FL N8 ML MC R)) (h := hints [(21, 4, ht true)]) (ws := [.go]) (nx' := 2) hE hm (auto0_ok (t_ct_ok FK FL N8 ML MC R)) (by omega) (by simp) (by simp) (by kernel_rfl) hob
end Go.Proofs.Ythbaccmhdffjdaa.Ct


set_option linter.unusedVariables false
set_option linter.unusedSimpArgs false
set_option maxRecDepth 100000
namespace Go.Proofs.Ythbaccmhdffjdaa.OpenBx
open Go Go.RowKit Go.ChangeShapes Go.WideShapes Go.Proofs.Ythbaccmhdffjdaa.Ev
section
variable {H : Type} {enc : TypeId × Value → H} {P : Program} {W : World} {base : Nat} {spare : Nat → Bool} {held : Bool}
def fieldsOf (P : Program) (t : TypeId) : Array Field := match P.underlying t with
  | some (.struct fs) => fs
  | _ => #[]
theorem field_of {fs : Array Field} {i o : Nat} {c : Nat} {ty : TypeId} (h : (fs[i]?).map (fun f => (f.offset, f.type)) = some (o, ty)) :
    ∃ f, fs[i]? = some f ∧ f.offset = o ∧ f.type = ty := by
  cases hf : fs[i]? with
  | none => rw [hf] at h; simp at h
  | some f =>
    rw [hf] at h
    simp at h
    exact ⟨f, rfl, h.1, h.2⟩
theorem xs_get {α : Type} {xs : List α} {i : Nat} (h : i < xs.length) : ∃ y, xs[i]? = some y := ⟨xs[i], List.getElem?_eq_getElem h⟩
end
theorem wf64 {n : Int} (h : (Lit.int .i64 n).wf = true) : I64 n := by
  have := h
  simp [Lit.wf, IntKind.has, IntKind.min, IntKind.max, IntKind.signed, IntKind.bits] at this
  unfold I64
  omega
section
variable {H : Type} {enc : TypeId × Value → H} {W : World} {base : Nat} {spare : Nat → Bool} {held : Bool}
theorem elem_one {n : Nat} {cs : List Value} {z : DataW H × List MemPlace} (h : DataW.trod enc Try.prog W base spare held n 3 cs = some z) : ∃ m : Int, cs = [.int .i64 m] ∧ I64 m := by
  have hi : Try.prog.underlying 3 = some (.int .i64) := by kernel_rfl
  obtain ⟨m, e, _, w⟩ := DataW.trod_int hi h
  exact ⟨m, e, wf64 w⟩
theorem elem_span {n : Nat} {cs : List Value} {z : DataW H × List MemPlace} (h : DataW.trod enc Try.prog W base spare held n 23 cs = some z) : ∃ a b : Int, cs = [.int .i64 a, .int .i64 b] ∧ I64 a ∧ I64 b := by
  obtain ⟨xs, k, _, _, hl, hlen, hf⟩ := DataW.trod_struct (P := Try.prog) (fs := fieldsOf Try.prog 23) (by kernel_rfl) h
  have hl2 : cs.length = 2 := by rw [hl]; kernel_rfl
  have hx2 : xs.length = 2 := by rw [hlen]; kernel_rfl
  obtain ⟨f0, e0, o0, t0⟩ := field_of (c := 0) (fs := fieldsOf Try.prog 23) (i := 0) (o := 0) (ty := 3) (by kernel_rfl)
  obtain ⟨f1, e1, o1, t1⟩ := field_of (c := 0) (fs := fieldsOf Try.prog 23) (i := 1) (o := 1) (ty := 3) (by kernel_rfl)
  have g0 := hf 0 f0 e0
  have g1 := hf 1 f1 e1
  obtain ⟨y0, hy0⟩ := xs_get (xs := xs) (i := 0) (by omega)
  obtain ⟨y1, hy1⟩ := xs_get (xs := xs) (i := 1) (by omega)
  have c1 : Try.prog.cellsOf 3 = 1 := by kernel_rfl
  rw [o0, t0, c1, hy0] at g0
  rw [o1, t1, c1, hy1] at g1
  obtain ⟨a, q0, w0⟩ := elem_one g0
  obtain ⟨b, q1, w1⟩ := elem_one g1
  match cs, hl2 with
  | [v0, v1], _ =>
    simp at q0 q1
    subst q0
    subst q1
    exact ⟨a, b, rfl, w0, w1⟩
theorem take_eq {l : List Value} {a b c d e : List Value} (hl : l.length = 10) (h0 : (l.drop (0 * 2)).take 2 = a) (h1 : (l.drop (1 * 2)).take 2 = b) (h2 : (l.drop (2 * 2)).take 2 = c) (h3 : (l.drop (3 * 2)).take 2 = d) (h4 : (l.drop (4 * 2)).take 2 = e) : l = a ++ b ++ c ++ d ++ e := by
  subst h0 h1 h2 h3 h4
  match l, hl with
  | [_, _, _, _, _, _, _, _, _, _], _ => rfl
theorem elem_box (n : Nat) (cs : List Value) (z : DataW H × List MemPlace) (h : DataW.trod enc Try.prog W base spare held n 25 cs = some z) : ∃ x : Bx, cs = eBox.cells x ∧ (I64 x.a0 ∧ I64 x.b0 ∧ I64 x.a1 ∧ I64 x.b1 ∧ I64 x.a2 ∧ I64 x.b2 ∧ I64 x.a3 ∧ I64 x.b3 ∧ I64 x.a4 ∧ I64 x.b4) := by
  have hu : Try.prog.underlying 25 = some (.array 5 23) := by kernel_rfl
  obtain ⟨xs, k, _, _, hl, hlen, hf⟩ := DataW.trod_array hu h
  have hl10 : cs.length = 10 := by rw [hl]; kernel_rfl
  have c2 : Try.prog.cellsOf 23 = 2 := by kernel_rfl
  rw [c2] at hf
  have key : ∀ i, i < 5 → ∃ a b : Int, (cs.drop (i * 2)).take 2 = [.int .i64 a, .int .i64 b] ∧ I64 a ∧ I64 b := fun i hi => by
    obtain ⟨y, hy⟩ := xs_get (xs := xs) (i := i) (by omega)
    have := hf i hi
    rw [hy] at this
    exact elem_span this
  obtain ⟨a0, b0, q0, u0, v0⟩ := key 0 (by omega)
  obtain ⟨a1, b1, q1, u1, v1⟩ := key 1 (by omega)
  obtain ⟨a2, b2, q2, u2, v2⟩ := key 2 (by omega)
  obtain ⟨a3, b3, q3, u3, v3⟩ := key 3 (by omega)
  obtain ⟨a4, b4, q4, u4, v4⟩ := key 4 (by omega)
  exact ⟨⟨a0, b0, a1, b1, a2, b2, a3, b3, a4, b4⟩, take_eq hl10 q0 q1 q2 q3 q4, u0, v0, u1, v1, u2, v2, u3, v3, u4, v4⟩
def BxOK (x : Bx) : Prop := I64 x.a0 ∧ I64 x.b0 ∧ I64 x.a1 ∧ I64 x.b1 ∧ I64 x.a2 ∧ I64 x.b2 ∧ I64 x.a3 ∧ I64 x.b3 ∧ I64 x.a4 ∧ I64 x.b4
theorem open_boxes {r : Reach} {b0 : Nat} {v : Value} {d : DataW H} {ps : List MemPlace} (hv : Value.okWide Try.prog W r b0 65 v) (h : DataW.Trod enc Try.prog W base spare held 65 v d ps) : Opened W eBox BxOK v := by
  have hu : Try.prog.underlying 65 = some (.slice 25) := by kernel_rfl
  obtain ⟨fuel, hf⟩ := h
  simp only [Value.okWide, hu] at hv
  have hcs : v.cells.toList = [v] := by
    obtain ⟨a, l, c, rfl⟩ : ∃ a l c, v = .slice a l c := by
      simp only [Cell.okWide, hu, Cell.ok] at hv
      cases v <;> simp_all
    rfl
  rw [hcs] at hf
  exact open_row hu (by kernel_rfl) elem_box hv hf
theorem elem_pc (n : Nat) (cs : List Value) (z : DataW H × List MemPlace) (h : DataW.trod enc Try.prog W base spare held n 27 cs = some z) : ∃ x : Pc, cs = ePc.cells x ∧ (BxOK x.box ∧ I64 x.val) := by
  obtain ⟨xs, k, _, _, hl, hlen, hf⟩ := DataW.trod_struct (P := Try.prog) (fs := fieldsOf Try.prog 27) (by kernel_rfl) h
  have hl2 : cs.length = 11 := by rw [hl]; kernel_rfl
  have hx2 : xs.length = 2 := by rw [hlen]; kernel_rfl
  obtain ⟨f0, e0, o0, t0⟩ := field_of (c := 0) (fs := fieldsOf Try.prog 27) (i := 0) (o := 0) (ty := 25) (by kernel_rfl)
  obtain ⟨f1, e1, o1, t1⟩ := field_of (c := 0) (fs := fieldsOf Try.prog 27) (i := 1) (o := 10) (ty := 3) (by kernel_rfl)
  have g0 := hf 0 f0 e0
  have g1 := hf 1 f1 e1
  obtain ⟨y0, hy0⟩ := xs_get (xs := xs) (i := 0) (by omega)
  obtain ⟨y1, hy1⟩ := xs_get (xs := xs) (i := 1) (by omega)
  have c1 : Try.prog.cellsOf 3 = 1 := by kernel_rfl
  have c10 : Try.prog.cellsOf 25 = 10 := by kernel_rfl
  rw [o0, t0, c10, hy0] at g0
  rw [o1, t1, c1, hy1] at g1
  obtain ⟨x, q0, w0⟩ := elem_box _ _ _ g0
  obtain ⟨b, q1, w1⟩ := elem_one g1
  refine ⟨⟨x, b⟩, ?_, w0, w1⟩
  show cs = eBox.cells x ++ [.int .i64 b]
  rw [← q0, ← q1, List.drop_zero, List.take_of_length_le (l := cs.drop 10) (by rw [List.length_drop]; omega), List.take_append_drop]
theorem open_pieces {r : Reach} {b0 : Nat} {v : Value} {d : DataW H} {ps : List MemPlace} (hv : Value.okWide Try.prog W r b0 28 v) (h : DataW.Trod enc Try.prog W base spare held 28 v d ps) : Opened W ePc (fun x => BxOK x.box ∧ I64 x.val) v := by
  have hu : Try.prog.underlying 28 = some (.slice 27) := by kernel_rfl
  obtain ⟨fuel, hf⟩ := h
  simp only [Value.okWide, hu] at hv
  have hcs : v.cells.toList = [v] := by
    obtain ⟨a, l, c, rfl⟩ : ∃ a l c, v = .slice a l c := by
      simp only [Cell.okWide, hu, Cell.ok] at hv
      cases v <;> simp_all
    rfl
  rw [hcs] at hf
  exact open_row hu (by kernel_rfl) elem_pc hv hf
end
end Go.Proofs.Ythbaccmhdffjdaa.OpenBx


set_option linter.unusedVariables false
set_option linter.unusedSimpArgs false
set_option maxRecDepth 100000
namespace Go.Proofs.Ythbaccmhdffjdaa.Mg
open Go Go.RowKit Go.Proofs.Ythbaccmhdffjdaa.Ev
def vsum : List Pc → Int
  | [] => 0
  | x :: l => x.val + vsum l
def wsum (b : Bx) : List Pc → Int
  | [] => 0
  | x :: l => (if b = x.box then x.val else 0) + wsum b l
def nsum : List EB → Int
  | [] => 0
  | e :: l => e.n + nsum l
def small (ps : List Pc) : Prop := ∀ x ∈ ps, -1000 ≤ x.val ∧ x.val ≤ 1000
theorem vsum_app : ∀ (l m : List Pc), vsum (l ++ m) = vsum l + vsum m
  | [], m => by simp [vsum]
  | x :: l, m => by simp only [List.cons_append, vsum, vsum_app l m]; omega
theorem wsum_app (b : Bx) : ∀ (l m : List Pc), wsum b (l ++ m) = wsum b l + wsum b m
  | [], m => by simp [wsum]
  | x :: l, m => by simp only [List.cons_append, wsum, wsum_app b l m]; omega
theorem wsum_le (b : Bx) : ∀ {l : List Pc}, small l → -1000 * (l.length : Int) ≤ wsum b l ∧ wsum b l ≤ 1000 * (l.length : Int)
  | [], _ => by simp [wsum]
  | x :: l, h => by
    have ih := wsum_le b (l := l) fun y hy => h y (List.mem_cons_of_mem _ hy)
    have hx := h x (List.mem_cons_self ..)
    simp only [wsum, List.length_cons]
    split <;> omega
theorem vsum_le : ∀ {l : List Pc}, small l → -1000 * (l.length : Int) ≤ vsum l ∧ vsum l ≤ 1000 * (l.length : Int)
  | [], _ => by simp [vsum]
  | x :: l, h => by
    have ih := vsum_le (l := l) fun y hy => h y (List.mem_cons_of_mem _ hy)
    have hx := h x (List.mem_cons_self ..)
    simp only [vsum, List.length_cons]
    omega
theorem mgGo_snoc (l : List Pc) (x : Pc) : mgGo (l ++ [x]) = mgS (mgGo l) x := by unfold mgGo; rw [List.foldl_append]; rfl
theorem small_app {l m : List Pc} (h : small (l ++ m)) : small l ∧ small m := ⟨fun x hx => h x (List.mem_append_left _ hx), fun x hx => h x (List.mem_append_right _ hx)⟩
theorem nsum_put (b : Bx) (v : Int) (c : Nat) : ∀ l : List EB, nsum (putB b (getK b l + v) c l) = nsum l + v
  | [] => by simp [putB, getK, nsum]
  | e :: l => by
    by_cases h : b = e.b
    · simp only [putB, getK, if_pos h, nsum]; omega
    · simp only [putB, getK, if_neg h, nsum]; rw [nsum_put b v c l]; omega
/-- What a merged row tells. -/
theorem merge_tells : ∀ (n : Nat) (l : List Pc), l.length = n → small l → n ≤ 1000000 →
    (∀ b, getK b (mgGo l).1 = wsum b l) ∧ (∀ b, hasK b (mgGo l).1 = l.any fun x => decide (b = x.box)) ∧ nsum (mgGo l).1 = vsum l ∧ (mgGo l).1.length ≤ l.length := by
  intro n
  induction n with
  | zero =>
    intro l hl _ _
    obtain rfl := List.eq_nil_of_length_eq_zero hl
    exact ⟨fun b => rfl, fun b => rfl, rfl, Nat.le_refl _⟩
  | succ n ih =>
    intro l hl hs hn
    obtain ⟨m, x, rfl⟩ : ∃ m x, l = m ++ [x] := ⟨l.dropLast, l.getLast (by intro h; rw [h] at hl; simp at hl), (List.dropLast_concat_getLast _).symm⟩
    have hm : m.length = n := by simpa using hl
    obtain ⟨s1, s2⟩ := small_app hs
    obtain ⟨h1, h2, h3, h4⟩ := ih m hm s1 (by omega)
    have hx := s2 x (by simp)
    have hb := wsum_le x.box s1
    have hw : IntKind.i64.wrap (getK x.box (mgGo m).1 + x.val) = getK x.box (mgGo m).1 + x.val := by
      rw [h1]
      exact wrap_id ⟨by omega, by omega⟩
    rw [mgGo_snoc]
    unfold mgS
    simp only [hw]
    refine ⟨fun b => ?_, fun b => ?_, ?_, ?_⟩
    · rw [getK_put, wsum_app, h1, h1]
      simp only [wsum]
      split
      · rename_i e; subst e; omega
      · omega
    · rw [hasK_put, h2]
      simp [List.any_append, Bool.or_comm]
    · rw [nsum_put, h3, vsum_app]
      simp [vsum]
    · rw [len_put]
      simp only [List.length_append, List.length_cons, List.length_nil]
      cases hasK x.box (mgGo m).1 <;> simp <;> omega
/-- Rows doubled have the same boxes. -/
theorem keys_same : ∀ (m l : List Pc), (∀ x ∈ m, hasK x.box (mgGo l).1 = true) → (mgGo (l ++ m)).1.map (·.b) = (mgGo l).1.map (·.b)
  | [], l, _ => by rw [List.append_nil]
  | x :: m, l, h => by
    have hx := h x (List.mem_cons_self ..)
    have e : l ++ x :: m = (l ++ [x]) ++ m := by simp
    have hk : (mgGo (l ++ [x])).1.map (·.b) = (mgGo l).1.map (·.b) := by
      rw [mgGo_snoc]
      unfold mgS
      rw [put_keys, hx]
      rfl
    rw [e, keys_same m (l ++ [x]) fun y hy => ?_, hk]
    rw [hasK_iff, hk, ← hasK_iff]
    exact h y (List.mem_cons_of_mem _ hy)
theorem twice_len (l : List Pc) (h : small l) (hn : l.length ≤ 1000) : (mergeL (l ++ l)).length = (mergeL l).length := by
  have := congrArg List.length (keys_same l l fun x hx => by
    rw [(merge_tells l.length l rfl h (by omega)).2.1 x.box]
    exact List.any_eq_true.2 ⟨x, hx, by simp⟩)
  rw [List.length_map, List.length_map] at this
  exact this
/-! ### What an iterator has handed out -/
def ssum (seen : List Nat) : List EB → Int
  | [] => 0
  | e :: l => (if e.s ∈ seen then e.n else 0) + ssum seen l
theorem ssum_nil : ∀ l : List EB, ssum [] l = 0
  | [] => rfl
  | e :: l => by simp [ssum, ssum_nil l]
theorem ssum_all {seen : List Nat} : ∀ {l : List EB}, (∀ e ∈ l, e.s ∈ seen) → ssum seen l = nsum l
  | [], _ => rfl
  | e :: l, h => by
    simp only [ssum, nsum, if_pos (h e (List.mem_cons_self ..))]
    rw [ssum_all fun x hx => h x (List.mem_cons_of_mem _ hx)]
theorem ssum_out {seen : List Nat} {s : Nat} : ∀ {l : List EB}, (∀ e ∈ l, e.s ≠ s) → ssum (seen ++ [s]) l = ssum seen l
  | [], _ => rfl
  | e :: l, h => by
    have := h e (List.mem_cons_self ..)
    simp only [ssum, List.mem_append, List.mem_singleton, this, or_false]
    rw [ssum_out fun x hx => h x (List.mem_cons_of_mem _ hx)]
theorem ssum_in {seen : List Nat} : ∀ {l : List EB}, l.Pairwise (fun a b => a.s < b.s) → ∀ e ∈ l, e.s ∉ seen → ssum (seen ++ [e.s]) l = ssum seen l + e.n
  | [], _, e, he, _ => by simp at he
  | x :: l, hp, e, he, hs => by
    obtain ⟨p1, p2⟩ := List.pairwise_cons.1 hp
    rcases List.mem_cons.1 he with rfl | he
    · simp only [ssum, List.mem_append, List.mem_singleton, or_true, if_true, if_neg hs]
      rw [ssum_out fun y hy => by have := p1 y hy; omega]
      omega
    · have hne : x.s ≠ e.s := by have := p1 e he; omega
      simp only [ssum, List.mem_append, List.mem_singleton, hne, or_false]
      rw [ssum_in p2 e he hs]
      omega
theorem ssum_le {seen : List Nat} {B : Int} (hB : 0 ≤ B) : ∀ {l : List EB}, (∀ e ∈ l, -B ≤ e.n ∧ e.n ≤ B) → -B * (l.length : Int) ≤ ssum seen l ∧ ssum seen l ≤ B * (l.length : Int)
  | [], _ => by simp [ssum]
  | e :: l, h => by
    have ih := ssum_le (seen := seen) hB (l := l) fun x hx => h x (List.mem_cons_of_mem _ hx)
    have he := h e (List.mem_cons_self ..)
    simp only [ssum, List.length_cons]
    rw [show B * ((l.length + 1 : Nat) : Int) = B * (l.length : Int) + B by rw [Int.natCast_add, Int.mul_add]; simp, show -B * ((l.length + 1 : Nat) : Int) = -B * (l.length : Int) - B by rw [Int.natCast_add, Int.mul_add]; simp; omega]
    split <;> omega
theorem nodup_len : ∀ {xs ys : List Nat}, xs.Nodup → (∀ x ∈ xs, x ∈ ys) → xs.length ≤ ys.length
  | [], _, _, _ => Nat.zero_le _
  | x :: xs, ys, hn, hs => by
    obtain ⟨h1, h2⟩ := List.nodup_cons.1 hn
    have hx := hs x (List.mem_cons_self ..)
    have := nodup_len (xs := xs) (ys := ys.erase x) h2 fun y hy => by
      have hne : y ≠ x := fun e => h1 (e ▸ hy)
      exact (List.mem_erase_of_ne hne).2 (hs y (List.mem_cons_of_mem _ hy))
    rw [List.length_erase_of_mem hx] at this
    have hpos : 1 ≤ ys.length := by cases ys with | nil => simp at hx | cons _ _ => simp
    simp only [List.length_cons]
    omega
theorem find_stamp {l : List EB} (hp : l.Pairwise fun a b => a.s < b.s) {e : EB} (he : e ∈ l) : (esB l).find? (fun x => x.2.2 == e.s) = some e.ent := by
  induction l with
  | nil => simp at he
  | cons x l ih =>
    obtain ⟨p1, p2⟩ := List.pairwise_cons.1 hp
    show List.find? _ (x.ent :: esB l) = _
    rw [List.find?_cons]
    rcases List.mem_cons.1 he with rfl | he
    · simp [EB.ent]
    · have : (x.ent.2.2 == e.s) = false := by
        rw [beq_eq_false_iff_ne]
        have := p1 e he
        show x.s ≠ e.s
        omega
      rw [this]
      exact ih p2 he
end Go.Proofs.Ythbaccmhdffjdaa.Mg


set_option linter.unusedVariables false
set_option linter.unusedSimpArgs false
set_option maxRecDepth 100000
namespace Go.Proofs.Ythbaccmhdffjdaa.WkCliqueTells
open Go Go.RowKit Go.Proofs.Ythbaccmhdffjdaa.Ev Go.Proofs.Ythbaccmhdffjdaa.Mg Go.Proofs.Ythbaccmhdffjdaa.Mt Go.Proofs.Ythbaccmhdffjdaa.Rp Go.Proofs.Ythbaccmhdffjdaa.BoxF Go.Proofs.Ythbaccmhdffjdaa.Within Go.Proofs.Ythbaccmhdffjdaa.Cm Go.Proofs.Ythbaccmhdffjdaa.Ct Go.Proofs.Ythbaccmhdffjdaa.OpenBx Go.Proofs.Ythbaccmhdffjdaa.BitLib

/-- Along the map. -/
def Q3 (l : List EB) : List Nat → Prop := fun seen => seen.Nodup ∧ (∀ x ∈ seen, x ∈ l.map (·.s))
theorem loop3 (FK : Nat → Nat) (FL : List Value → Nat → List Pc) (N8 : Nat → Nat) (ML : List Pc → List EB) (MC : List Pc → Nat) (R : MR) {E : Env} (hE : EnvOK E Try.prog Try.f4 3 2 (.bool true) [] []) {l : List EB} {c : Nat} (ok : OKB l c) : ∀ zz, Q3 l zz → Sat E (atLp (lp Try.f4 1)) ((ct3 l l c c (Q3 l)).st 0 zz) := by
  intro zz hz
  refine by_loop (ct3 l l c c (Q3 l)) (lp Try.f4 1) (fun b seen hinv J hJ => ?_) 0 zz hz
  show Sat E (inLp (lp Try.f4 1) J) ((ct3 l l c c (Q3 l)).st 0 seen)
  have okL := ct3_ok l l c c (Q3 l)
  have rnm : ∀ (f : Nat → Nat) (es : List Ent) (c : Nat), Blk.rnB f (.map L10 true (some .i64) es c) = .map L10 true (some .i64) es c := fun f es c => rfl
  have rni : ∀ (f : Nat → Nat) (k s : Nat) (x : List Nat) (c : Nat), Blk.rnB f (.it k s x c) = .it (f k) s x c := fun f k s x c => rfl
  have hinv : Q3 l seen := hinv
  obtain ⟨q1, q2⟩ := hinv
  have hEn : 88 < E.n := by rw [hE.n]; decide
  refine sat_nextB (tx := 86) (t0 := 87) (t1 := 88) (j := 22) (k := 21) (since := c) (c := c) (clock := c) (seen := seen) (lay := L10) (agg := true) (ek := some .i64) (es := esB l) (by kernel_rfl) (by omega) hEn (by kernel_rfl) (by kernel_rfl) (by kernel_rfl) (fun e he => ?_) (Nat.le_refl _) (fun hall => ?_) (fun e he hne => ?_)
  · obtain ⟨x, hx, rfl⟩ := List.mem_map.1 he
    exact ok.clock x hx
  · exact ccN FK FL N8 ML MC R l l c c (Q3 l) seen J hE ⟨⟨rfl, rfl⟩, congrArg Value.bool (beq_self_eq_true _), trivial⟩
  · obtain ⟨x, hx, rfl⟩ := List.mem_map.1 he
    have hne : x.s ∉ seen := hne
    obtain ⟨bo, n, s⟩ := x
    have hg := getK_mem ok hx
    have hnd : (seen ++ [s]).Nodup := by
      rw [List.nodup_append]
      exact ⟨q1, by simp, fun a ha b hb => by simp at hb; subst hb; intro e; subst e; exact hne ha⟩
    have hsub : ∀ y ∈ seen ++ [s], y ∈ l.map (·.s) := fun y hy => by
      rcases List.mem_append.1 hy with h | h
      · exact q2 y h
      · simp at h; subst h; exact List.mem_map.2 ⟨_, hx, rfl⟩
    have hcnt := nodup_len hnd hsub
    rw [List.length_append, List.length_map] at hcnt
    have hcnt : seen.length + 1 ≤ l.length := hcnt
    have hfd : EntryOK (esB l) (seen ++ [s]) c c (.tuple ⟨[kB bo, .int .i64 n]⟩) := ⟨rfl, EB.ent ⟨bo, n, s⟩, by simp [EB.ent], find_stamp ok.borns hx, rfl⟩
    have htp : Value.tuple ⟨[.int .i64 (mgetI (kB bo) (esB l)), .bool (mhas (kB bo) (esB l))]⟩ = .tuple ⟨[.int .i64 n, .bool true]⟩ := by
      rw [mget_esB, mhas_esB]
      have h1 : getK bo l = n := hg.1
      have h2 : hasK bo l = true := hg.2
      rw [h1, h2]
    exact ccY FK FL N8 ML MC R l l c c (Q3 l) seen bo n s J hE okL ⟨rfl, ⟨seen ++ [s], ⟨hnd, hsub⟩, (by show l.length - (seen ++ [s]).length < l.length - seen.length; rw [List.length_append]; simp only [List.length_cons, List.length_nil]; omega), rfl, by simp only [ct3, List.map_cons, List.map_nil, rnm, rni]; rfl⟩, (congrArg Value.bool (by simp)), htp, hfd, trivial⟩ fun zz h1 h2 => hJ 0 zz h1 h2
/-- Along the pieces. -/
theorem loop2 (FK : Nat → Nat) (FL : List Value → Nat → List Pc) (N8 : Nat → Nat) (ML : List Pc → List EB) (MC : List Pc → Nat) (R : MR) {E : Env} (hE : EnvOK E Try.prog Try.f4 3 2 (.bool true) [] []) {X : List Pc} {px : Nat} (hX : X.length ≤ 8) : ∀ zz : CQ, (zz.i ≤ X.length ∧ (zz.l, zz.c) = mgGo (X.take zz.i) : Prop) → Sat E (atLp (lp Try.f4 0)) ((ct2 X px (Mg.mergeL X) (mergeC X) (fun zz => zz.i ≤ X.length ∧ (zz.l, zz.c) = mgGo (X.take zz.i))).st 0 zz) := by
  intro zz hz
  generalize hQ : (fun zz : CQ => zz.i ≤ X.length ∧ (zz.l, zz.c) = mgGo (X.take zz.i)) = Q
  have hQi : ∀ zz, Q zz ↔ (zz.i ≤ X.length ∧ (zz.l, zz.c) = mgGo (X.take zz.i)) := fun zz => by rw [← hQ]
  have okL := ct2_ok X px (Mg.mergeL X) (mergeC X) Q
  have rnm : ∀ (f : Nat → Nat) (es : List Ent) (c : Nat), Blk.rnB f (.map L10 true (some .i64) es c) = .map L10 true (some .i64) es c := fun f es c => rfl
  have rno : ∀ (f : Nat → Nat) (l : List Pc), Blk.rnB f (.ro (ePc.row l)) = .ro (ePc.row l) := fun f l => Blk.plain.rnB (b := .ro (ePc.row l)) (Elt.row_pl _) f
  have rni : ∀ (f : Nat → Nat) (k s : Nat) (x : List Nat) (c : Nat), Blk.rnB f (.it k s x c) = .it (f k) s x c := fun f k s x c => rfl
  refine by_loop (ct2 X px (Mg.mergeL X) (mergeC X) Q) (lp Try.f4 0) ?_ 0 zz ((hQi _).2 hz)
  rintro b ⟨i, l, c⟩ hinv J hJ
  obtain ⟨k1, k2⟩ := (hQi _).1 hinv
  simp only at k1 k2
  show Sat E (inLp (lp Try.f4 0) J) ((ct2 X px (Mg.mergeL X) (mergeC X) Q).st 0 ⟨i, l, c⟩)
  by_cases hin : i < X.length
  · have hlt : decide ((i : Int) < (X.length : Int)) = true := decide_eq_true (by omega)
    obtain ⟨y, hy⟩ : ∃ y, X[i]? = some y := ⟨_, List.getElem?_eq_getElem hin⟩
    have htk : X.take (i + 1) = X.take i ++ [y] := by rw [List.take_add_one, hy]; rfl
    have hnx : mgGo (X.take (i + 1)) = mgS (l, c) y := by rw [htk]; unfold mgGo; rw [List.foldl_append]; unfold mgGo at k2; rw [← k2]; rfl
    have hpc := read_row (e := ePc) (P := Try.prog) (ty := 27) (by kernel_rfl) (by kernel_rfl) hy
    exact cbB FK FL N8 ML MC R X px (Mg.mergeL X) (mergeC X) Q i l (mgS (l, c) y).1 c y.box y.val (getK y.box l) (IntKind.i64.wrap (getK y.box l + y.val)) J hE okL ⟨rfl, ⟨⟨i + 1, (mgS (l, c) y).1, (mgS (l, c) y).2⟩, (hQi _).2 ⟨hin, hnx.symm⟩, (by show X.length - (i + 1) < X.length - i; omega), rfl, (by
      simp only [ct2, List.map_cons, List.map_nil, rno, rnm]
      show [_, _, Blk.map L10 true (some .i64) (esB (mgS (l, c) y).1) (bif mhas (kB y.box) (esB l) then c else c + 1)] = _
      rw [mhas_esB]
      rfl)⟩, i64_succ (by omega), mput_esB _ _ _ _, rfl, (congrArg (Value.int .i64) (mget_esB _ _)), hpc, ⟨Int.natCast_nonneg _, Int.ofNat_lt.2 hin⟩, hlt, trivial⟩ fun zz h1 h2 => hJ 0 zz h1 h2
  · have hlt : decide ((i : Int) < (X.length : Int)) = false := decide_eq_false (by omega)
    rw [List.take_of_length_le (by omega)] at k2
    have e1 : Mg.mergeL X = l := by unfold Mg.mergeL; rw [← k2]
    have e2 : mergeC X = c := by unfold mergeC; rw [← k2]
    rw [e1, e2]
    have ok : OKB l c := by have := mg_ok X; rw [← k2] at this; exact this
    exact cbX FK FL N8 ML MC R X px l c Q (Q3 l) i l c J hE (ct3_ok _ _ _ _ _) ⟨rfl, ⟨[], ⟨List.nodup_nil, fun x hx => by simp at hx⟩, trivial, rfl, by simp only [ct3, List.map_cons, List.map_nil, rnm, rni]; rfl⟩, hlt, trivial⟩ fun zz hz _ => loop3 FK FL N8 ML MC R hE ok zz hz

/-- From behind few on. -/
theorem from2 (FK : Nat → Nat) (FL : List Value → Nat → List Pc) {N8 : Nat → Nat} {ML : List Pc → List EB} {MC : List Pc → Nat} (h8 : N8 = fun n => n + 80) (hML : ML = Mg.mergeL) (hMC : MC = mergeC) {X Y : List Pc} (hX : X.length ≤ 8) (hY : Y.length ≤ 8) {most : Int} (hmost : I64 most) (px py : Nat)
    {E : Env} (hE : EnvOK E Try.prog Try.f4 3 2 (.bool true) [] []) : Sat E (fromR Try.f4 2) ((ct1 (.ro (ePc.row X)) (.ro (ePc.row Y)) X.length px Y.length py most).st 0 ()) := by
  obtain ⟨R, hR, hok⟩ := MR.of (meetL X Y (withinS most 0 40))
  have rnm : ∀ (f : Nat → Nat) (es : List Ent) (c : Nat), Blk.rnB f (.map L10 true (some .i64) es c) = .map L10 true (some .i64) es c := fun f es c => rfl
  have rno : ∀ (f : Nat → Nat) (l : List Pc), Blk.rnB f (.ro (ePc.row l)) = .ro (ePc.row l) := fun f l => Blk.plain.rnB (b := .ro (ePc.row l)) (Elt.row_pl _) f
  have eX : ePc.list (ePc.row X) 0 X.length = X := (Elt.canon0 X).2
  have eY : ePc.list (ePc.row Y) 0 Y.length = Y := (Elt.canon0 Y).2
  have plX : plainR [ePc.row X] := plain1 (Elt.row_pl _)
  have plXY : plainR [ePc.row X, ePc.row Y] := plain2 (Elt.row_pl _) (Elt.row_pl _)
  have pl0 : plainR [] := fun x hx => by simp at hx
  have rowX : ePc.Row (ePc.row X) 0 X.length := rowN rfl
  have rowY : ePc.Row (ePc.row Y) 0 Y.length := rowN rfl
  have hAl : (ePc.list (ePc.row X) 0 X.length ++ List.replicate 80 K77).length = X.length + 80 := by rw [List.length_append, Elt.list_len, List.length_replicate]
  have n0 : N8 X.length = X.length + 80 := by rw [h8]
  have plAX : plainR [ePc.row (ePc.list (ePc.row X) 0 X.length ++ List.replicate 80 K77), ePc.row X] := plain2 (Elt.row_pl _) (Elt.row_pl _)
  have plAY : plainR [ePc.row (ePc.list (ePc.row X) 0 X.length ++ List.replicate 80 K77), ePc.row Y] := plain2 (Elt.row_pl _) (Elt.row_pl _)
  have rowA : ePc.Row (ePc.row (ePc.list (ePc.row X) 0 X.length ++ List.replicate 80 K77)) 0 (N8 X.length) := rowN (by rw [hAl, n0])
  have rowA1 : ePc.Row (ePc.row (ePc.list (ePc.row X) 0 X.length ++ List.replicate 80 K77)) 0 X.length := rowM (by omega)
  have lstA : ePc.list (ePc.row (ePc.list (ePc.row X) 0 X.length ++ List.replicate 80 K77)) 0 (N8 X.length) = ePc.list (ePc.row X) 0 X.length ++ List.replicate 80 K77 := by rw [listM (by omega), List.take_of_length_le (by omega)]
  have lstA1 : ePc.list (ePc.row (ePc.list (ePc.row X) 0 X.length ++ List.replicate 80 K77)) 0 X.length = X := by
    rw [listM (by omega), eX, List.take_append_of_le_length (Nat.le_refl _), List.take_length]
  have hN1 : N8 X.length ≤ 65536 := by omega
  have hN2 : N8 X.length ≤ 16777216 := by omega
  have hwi := within_range most (show (0 : Int) ≤ 40 by decide)
  have hk : withinS most 0 40 ≤ 100000 := by omega
  have hm1 : meetL (ePc.list (ePc.row X) 0 X.length) (ePc.list (ePc.row Y) 0 Y.length) (withinS most 0 40) = R.opt := by rw [eX, eY]; exact hR
  have hm2 : meetL (ePc.list (ePc.row (ePc.list (ePc.row X) 0 X.length ++ List.replicate 80 K77)) 0 X.length) (ePc.list (ePc.row Y) 0 Y.length) (withinS most 0 40) = R.opt := by rw [lstA1, eY]; exact hR
  have hsl : SlOK 11 22 0 (N8 X.length) (N8 X.length) none (some (X.length : Int)) (some (.cells (ePc.row (ePc.list (ePc.row X) 0 X.length ++ List.replicate 80 K77)) 27)) (.slice (some ⟨22, 0, none⟩) X.length (N8 X.length)) :=
    ⟨0, X.length, rfl, rfl, Nat.zero_le _, by omega, Or.inr ⟨by unfold Ev.mark; omega, Nat.le_refl _, Or.inr ⟨by omega, by simp⟩⟩⟩
  have hl2 : ∀ zz : CQ, (zz.i ≤ X.length ∧ (zz.l, zz.c) = mgGo (X.take zz.i) : Prop) → Sat E (atLp (lp Try.f4 0)) ((ct2 X px (ML (ePc.list (ePc.row X) 0 X.length)) (MC (ePc.list (ePc.row X) 0 X.length)) (fun zz => zz.i ≤ X.length ∧ (zz.l, zz.c) = mgGo (X.take zz.i))).st 0 zz) := by
    rw [hML, hMC, eX]
    exact loop2 FK FL N8 ML MC R hE hX
  have hlen := fun (Z : List Pc) (hz : R = .row Z) => mtO_len (show mtO (withinS most 0 40) Y [] X = some Z by have h : meetL X Y (withinS most 0 40) = R.opt := hR; rw [hz] at h; exact h)
  cases R with
  | few => exact cgN FK FL N8 ML MC X Y px py (N8 X.length) Y.length most (withinS most 0 40) (ML (ePc.list (ePc.row X) 0 X.length)) (MC (ePc.list (ePc.row X) 0 X.length)) (fun zz => zz.i ≤ X.length ∧ (zz.l, zz.c) = mgGo (X.take zz.i)) hE (ct2_ok _ _ _ _ _) ⟨rfl, ⟨⟨0, [], 0⟩, ⟨Nat.zero_le _, rfl⟩, trivial, rfl, by simp only [ct2, List.map_cons, List.map_nil, rno, rnm]; rfl⟩, plX, hML, hMC, rowX, (by omega), plAX, rowA, rowX, hN1, Nat.le_refl _, hN2, lstA, pl0, plXY, hm1, hok, rowX, rowY, (by omega), (by omega), hk, plAY, hm2, hok, rowA1, rowY, (by omega), (by omega), hk, hsl, rfl, hmost, by decide, by decide, by decide, plX, rowX, (by omega), h8, trivial⟩ fun zz hz _ => hl2 zz hz
  | nil => exact cgE FK FL N8 ML MC X Y px py (N8 X.length) Y.length most (withinS most 0 40) (ML (ePc.list (ePc.row X) 0 X.length)) (MC (ePc.list (ePc.row X) 0 X.length)) (fun zz => zz.i ≤ X.length ∧ (zz.l, zz.c) = mgGo (X.take zz.i)) hE (ct2_ok _ _ _ _ _) ⟨rfl, ⟨⟨0, [], 0⟩, ⟨Nat.zero_le _, rfl⟩, trivial, rfl, by simp only [ct2, List.map_cons, List.map_nil, rno, rnm]; rfl⟩, plX, hML, hMC, rowX, (by omega), plAX, rowA, rowX, hN1, Nat.le_refl _, hN2, lstA, pl0, plXY, hm1, hok, rowX, rowY, (by omega), (by omega), hk, plAY, hm2, hok, rowA1, rowY, (by omega), (by omega), hk, hsl, rfl, hmost, by decide, by decide, by decide, plX, rowX, (by omega), h8, trivial⟩ fun zz hz _ => hl2 zz hz
  | row Z =>
    have hZ := hlen Z rfl
    simp only [List.length_nil] at hZ
    have plZZ : plainR [ePc.row Z, ePc.row Z] := plain2 (Elt.row_pl _) (Elt.row_pl _)
    have rowZ : ePc.Row (ePc.row Z) 0 Z.length := rowN rfl
    exact cgV FK FL N8 ML MC Z X Y px py (N8 X.length) Y.length most (withinS most 0 40) (ML (ePc.list (ePc.row X) 0 X.length)) (MC (ePc.list (ePc.row X) 0 X.length)) (fun zz => zz.i ≤ X.length ∧ (zz.l, zz.c) = mgGo (X.take zz.i)) hE (ct2_ok _ _ _ _ _) ⟨rfl, ⟨⟨0, [], 0⟩, ⟨Nat.zero_le _, rfl⟩, trivial, rfl, by simp only [ct2, List.map_cons, List.map_nil, rno, rnm]; rfl⟩, plX, hML, hMC, rowX, (by omega), plAX, rowA, rowX, hN1, Nat.le_refl _, hN2, lstA, (congrArg Value.bool (decide_eq_true rfl)), plZZ, rowZ, rowZ, (by omega), plXY, hm1, hok, rowX, rowY, (by omega), (by omega), hk, plAY, hm2, hok, rowA1, rowY, (by omega), (by omega), hk, hsl, rfl, hmost, by decide, by decide, by decide, plX, rowX, (by omega), h8, trivial⟩ fun zz hz _ => hl2 zz hz

theorem spec {u0 u1 : Value} {x0 x1 : Option (List Value)} (c0 : CanAt ePc (fun x => BxOK x.box ∧ I64 x.val) 0 u0 x0) (c1 : CanAt ePc (fun x => BxOK x.box ∧ I64 x.val) 1 u1 x1) (most : Int) (hmost : I64 most) :
    CallSpec Try.prog 4 [u0, u1, .int .i64 most] (rowsL [x0, x1]) 2 (.bool true) (assocN [] []) := by
  refine spec_of_sat Try.func4 rfl fun E hE => ?_
  obtain ⟨FK, hFK⟩ : ∃ FK : Nat → Nat, FK = fun n => min n 8 := ⟨_, rfl⟩
  obtain ⟨FL, hFL⟩ : ∃ FL : List Value → Nat → List Pc, FL = fun cs n => (ePc.list cs 0 n).take 8 := ⟨_, rfl⟩
  obtain ⟨N8, h8⟩ : ∃ N8 : Nat → Nat, N8 = fun n => n + 80 := ⟨_, rfl⟩
  have rnv : ∀ (f : Nat → Nat) (l : List Pc), Blk.rnB f (.vec (ePc.row l) 27 11) = .vec (ePc.row l) 27 11 := fun f l => Blk.plain.rnB (b := .vec (ePc.row l) 27 11) (Elt.row_pl _) f
  have rnc : ∀ f : Nat → Nat, Blk.rnB f (.cells [] 27) = .cells [] 27 := fun f => rfl
  have pl0 : plainR [] := fun x hx => by simp at hx
  rcases c0 with ⟨rfl, rfl⟩ | ⟨L0, c0, rfl, rfl, hlc0, hcm0, hg0⟩
  · rcases c1 with ⟨rfl, rfl⟩ | ⟨L1, c1, rfl, rfl, hlc1, hcm1, hg1⟩
    · refine ciNN FK FL N8 Mg.mergeL mergeC MR.nil   most hE (ct1_ok _ _ _ _ _ _ _ (show Blk.plain (.cells [] _) from fun c hc => by simp at hc) (show Blk.plain (.cells [] _) from fun c hc => by simp at hc)) ⟨rfl, ⟨(), trivial, trivial, rfl, by simp only [ct1, List.map_cons, List.map_nil, rnv, rnc]⟩, pl0, pl0, trivial⟩ fun zz _ _ => ?_
      exact sat_ro (hv' := [.ro (ePc.row []), .ro (ePc.row [])]) rfl (fun i b b' h1 h2 => by
        match i with
        | 0 => simp [ct1] at h1 h2; subst h1; subst h2; exact Or.inr ⟨[], rfl, rfl⟩
        | 1 => simp [ct1] at h1 h2; subst h1; subst h2; exact Or.inr ⟨[], rfl, rfl⟩
        | i + 2 => simp [ct1] at h1) (from2 FK FL h8 rfl rfl (X := []) (Y := []) (by simp) (by simp) hmost 0 0 hE)
    · have plL1 : plainR [ePc.row L1] := plain1 (Elt.row_pl _)
      have eL1 := (Elt.canon0 (e := ePc) L1).2
      generalize hl1 : L1.length = n1 at hlc1 eL1
      cases n1 with
      | zero =>
        refine ciNE FK FL N8 Mg.mergeL mergeC MR.nil  L1 c1 most hE (ct1_ok _ _ _ _ _ _ _ (show Blk.plain (.cells [] _) from fun c hc => by simp at hc) (show Blk.plain (.cells [] _) from fun c hc => by simp at hc)) ⟨rfl, ⟨(), trivial, trivial, rfl, by simp only [ct1, List.map_cons, List.map_nil, rnv, rnc]⟩, plL1, hcm1, pl0, trivial⟩ fun zz _ _ => ?_
        exact sat_ro (hv' := [.ro (ePc.row []), .ro (ePc.row [])]) rfl (fun i b b' h1 h2 => by
          match i with
          | 0 => simp [ct1] at h1 h2; subst h1; subst h2; exact Or.inr ⟨[], rfl, rfl⟩
          | 1 => simp [ct1] at h1 h2; subst h1; subst h2; exact Or.inr ⟨[], rfl, rfl⟩
          | i + 2 => simp [ct1] at h1) (from2 FK FL h8 rfl rfl (X := []) (Y := []) (by simp) (by simp) hmost 0 0 hE)
      | succ n1 =>
        have fl1 : FL (ePc.row L1) (Nat.succ n1) = L1.take 8 := by rw [hFL]; show (ePc.list (ePc.row L1) 0 (n1 + 1)).take 8 = _; rw [eL1]
        have eL1 : ePc.row (ePc.list (ePc.row L1) 0 (n1 + 1)) = ePc.row L1 := by rw [eL1]
        refine ciNV FK FL N8 Mg.mergeL mergeC MR.nil  L1 n1 c1 (FK (Nat.succ n1)) (FL (ePc.row L1) (Nat.succ n1)) most hE (ct1_ok _ _ _ _ _ _ _ (show Blk.plain (.cells [] _) from fun c hc => by simp at hc) (show Blk.plain (.vec _ _ _) from Elt.row_pl _)) ⟨rfl, ⟨(), trivial, trivial, rfl, by simp only [ct1, List.map_cons, List.map_nil, rnv, rnc]⟩, plL1, hFK, hFL, eL1.symm, hlc1, hcm1, pl0, trivial⟩ fun zz _ _ => ?_
        have ek1 : FK (Nat.succ n1) = (L1.take 8).length := by rw [hFK]; show min (Nat.succ n1) 8 = _; rw [List.length_take, hl1]; omega
        rw [ek1, fl1]
        exact sat_ro (hv' := [.ro (ePc.row []), .ro (ePc.row (L1.take 8))]) rfl (fun i b b' h1 h2 => by
          match i with
          | 0 => simp [ct1] at h1 h2; subst h1; subst h2; exact Or.inr ⟨[], rfl, rfl⟩
          | 1 => simp [ct1] at h1 h2; subst h1; subst h2; exact Or.inr ⟨_, rfl, rfl⟩
          | i + 2 => simp [ct1] at h1) (from2 FK FL h8 rfl rfl (X := []) (Y := (L1.take 8)) (by simp) (by rw [List.length_take]; omega) hmost 0 mk hE)
  · have plL0 : plainR [ePc.row L0] := plain1 (Elt.row_pl _)
    have eL0 := (Elt.canon0 (e := ePc) L0).2
    generalize hl0 : L0.length = n0 at hlc0 eL0
    cases n0 with
    | zero =>
      rcases c1 with ⟨rfl, rfl⟩ | ⟨L1, c1, rfl, rfl, hlc1, hcm1, hg1⟩
      · refine ciEN FK FL N8 Mg.mergeL mergeC MR.nil L0 c0  most hE (ct1_ok _ _ _ _ _ _ _ (show Blk.plain (.cells [] _) from fun c hc => by simp at hc) (show Blk.plain (.cells [] _) from fun c hc => by simp at hc)) ⟨rfl, ⟨(), trivial, trivial, rfl, by simp only [ct1, List.map_cons, List.map_nil, rnv, rnc]⟩, pl0, plL0, hcm0, trivial⟩ fun zz _ _ => ?_
        exact sat_ro (hv' := [.ro (ePc.row []), .ro (ePc.row [])]) rfl (fun i b b' h1 h2 => by
          match i with
          | 0 => simp [ct1] at h1 h2; subst h1; subst h2; exact Or.inr ⟨[], rfl, rfl⟩
          | 1 => simp [ct1] at h1 h2; subst h1; subst h2; exact Or.inr ⟨[], rfl, rfl⟩
          | i + 2 => simp [ct1] at h1) (from2 FK FL h8 rfl rfl (X := []) (Y := []) (by simp) (by simp) hmost 0 0 hE)
      · have plL1 : plainR [ePc.row L1] := plain1 (Elt.row_pl _)
        have eL1 := (Elt.canon0 (e := ePc) L1).2
        generalize hl1 : L1.length = n1 at hlc1 eL1
        cases n1 with
        | zero =>
          refine ciEE FK FL N8 Mg.mergeL mergeC MR.nil L0 c0 L1 c1 most hE (ct1_ok _ _ _ _ _ _ _ (show Blk.plain (.cells [] _) from fun c hc => by simp at hc) (show Blk.plain (.cells [] _) from fun c hc => by simp at hc)) ⟨rfl, ⟨(), trivial, trivial, rfl, by simp only [ct1, List.map_cons, List.map_nil, rnv, rnc]⟩, plL1, hcm1, plL0, hcm0, trivial⟩ fun zz _ _ => ?_
          exact sat_ro (hv' := [.ro (ePc.row []), .ro (ePc.row [])]) rfl (fun i b b' h1 h2 => by
            match i with
            | 0 => simp [ct1] at h1 h2; subst h1; subst h2; exact Or.inr ⟨[], rfl, rfl⟩
            | 1 => simp [ct1] at h1 h2; subst h1; subst h2; exact Or.inr ⟨[], rfl, rfl⟩
            | i + 2 => simp [ct1] at h1) (from2 FK FL h8 rfl rfl (X := []) (Y := []) (by simp) (by simp) hmost 0 0 hE)
        | succ n1 =>
          have fl1 : FL (ePc.row L1) (Nat.succ n1) = L1.take 8 := by rw [hFL]; show (ePc.list (ePc.row L1) 0 (n1 + 1)).take 8 = _; rw [eL1]
          have eL1 : ePc.row (ePc.list (ePc.row L1) 0 (n1 + 1)) = ePc.row L1 := by rw [eL1]
          refine ciEV FK FL N8 Mg.mergeL mergeC MR.nil L0 c0 L1 n1 c1 (FK (Nat.succ n1)) (FL (ePc.row L1) (Nat.succ n1)) most hE (ct1_ok _ _ _ _ _ _ _ (show Blk.plain (.cells [] _) from fun c hc => by simp at hc) (show Blk.plain (.vec _ _ _) from Elt.row_pl _)) ⟨rfl, ⟨(), trivial, trivial, rfl, by simp only [ct1, List.map_cons, List.map_nil, rnv, rnc]⟩, plL1, hFK, hFL, eL1.symm, hlc1, hcm1, plL0, hcm0, trivial⟩ fun zz _ _ => ?_
          have ek1 : FK (Nat.succ n1) = (L1.take 8).length := by rw [hFK]; show min (Nat.succ n1) 8 = _; rw [List.length_take, hl1]; omega
          rw [ek1, fl1]
          exact sat_ro (hv' := [.ro (ePc.row []), .ro (ePc.row (L1.take 8))]) rfl (fun i b b' h1 h2 => by
            match i with
            | 0 => simp [ct1] at h1 h2; subst h1; subst h2; exact Or.inr ⟨[], rfl, rfl⟩
            | 1 => simp [ct1] at h1 h2; subst h1; subst h2; exact Or.inr ⟨_, rfl, rfl⟩
            | i + 2 => simp [ct1] at h1) (from2 FK FL h8 rfl rfl (X := []) (Y := (L1.take 8)) (by simp) (by rw [List.length_take]; omega) hmost 0 mk hE)
    | succ n0 =>
      have fl0 : FL (ePc.row L0) (Nat.succ n0) = L0.take 8 := by rw [hFL]; show (ePc.list (ePc.row L0) 0 (n0 + 1)).take 8 = _; rw [eL0]
      have eL0 : ePc.row (ePc.list (ePc.row L0) 0 (n0 + 1)) = ePc.row L0 := by rw [eL0]
      rcases c1 with ⟨rfl, rfl⟩ | ⟨L1, c1, rfl, rfl, hlc1, hcm1, hg1⟩
      · refine ciVN FK FL N8 Mg.mergeL mergeC MR.nil L0 n0 c0 (FK (Nat.succ n0)) (FL (ePc.row L0) (Nat.succ n0))  most hE (ct1_ok _ _ _ _ _ _ _ (show Blk.plain (.vec _ _ _) from Elt.row_pl _) (show Blk.plain (.cells [] _) from fun c hc => by simp at hc)) ⟨rfl, ⟨(), trivial, trivial, rfl, by simp only [ct1, List.map_cons, List.map_nil, rnv, rnc]⟩, pl0, plL0, hFK, hFL, eL0.symm, hlc0, hcm0, trivial⟩ fun zz _ _ => ?_
        have ek0 : FK (Nat.succ n0) = (L0.take 8).length := by rw [hFK]; show min (Nat.succ n0) 8 = _; rw [List.length_take, hl0]; omega
        rw [ek0, fl0]
        exact sat_ro (hv' := [.ro (ePc.row (L0.take 8)), .ro (ePc.row [])]) rfl (fun i b b' h1 h2 => by
          match i with
          | 0 => simp [ct1] at h1 h2; subst h1; subst h2; exact Or.inr ⟨_, rfl, rfl⟩
          | 1 => simp [ct1] at h1 h2; subst h1; subst h2; exact Or.inr ⟨[], rfl, rfl⟩
          | i + 2 => simp [ct1] at h1) (from2 FK FL h8 rfl rfl (X := (L0.take 8)) (Y := []) (by rw [List.length_take]; omega) (by simp) hmost mk 0 hE)
      · have plL1 : plainR [ePc.row L1] := plain1 (Elt.row_pl _)
        have eL1 := (Elt.canon0 (e := ePc) L1).2
        generalize hl1 : L1.length = n1 at hlc1 eL1
        cases n1 with
        | zero =>
          refine ciVE FK FL N8 Mg.mergeL mergeC MR.nil L0 n0 c0 (FK (Nat.succ n0)) (FL (ePc.row L0) (Nat.succ n0)) L1 c1 most hE (ct1_ok _ _ _ _ _ _ _ (show Blk.plain (.vec _ _ _) from Elt.row_pl _) (show Blk.plain (.cells [] _) from fun c hc => by simp at hc)) ⟨rfl, ⟨(), trivial, trivial, rfl, by simp only [ct1, List.map_cons, List.map_nil, rnv, rnc]⟩, plL1, hcm1, plL0, hFK, hFL, eL0.symm, hlc0, hcm0, trivial⟩ fun zz _ _ => ?_
          have ek0 : FK (Nat.succ n0) = (L0.take 8).length := by rw [hFK]; show min (Nat.succ n0) 8 = _; rw [List.length_take, hl0]; omega
          rw [ek0, fl0]
          exact sat_ro (hv' := [.ro (ePc.row (L0.take 8)), .ro (ePc.row [])]) rfl (fun i b b' h1 h2 => by
            match i with
            | 0 => simp [ct1] at h1 h2; subst h1; subst h2; exact Or.inr ⟨_, rfl, rfl⟩
            | 1 => simp [ct1] at h1 h2; subst h1; subst h2; exact Or.inr ⟨[], rfl, rfl⟩
            | i + 2 => simp [ct1] at h1) (from2 FK FL h8 rfl rfl (X := (L0.take 8)) (Y := []) (by rw [List.length_take]; omega) (by simp) hmost mk 0 hE)
        | succ n1 =>
          have fl1 : FL (ePc.row L1) (Nat.succ n1) = L1.take 8 := by rw [hFL]; show (ePc.list (ePc.row L1) 0 (n1 + 1)).take 8 = _; rw [eL1]
          have eL1 : ePc.row (ePc.list (ePc.row L1) 0 (n1 + 1)) = ePc.row L1 := by rw [eL1]
          refine ciVV FK FL N8 Mg.mergeL mergeC MR.nil L0 n0 c0 (FK (Nat.succ n0)) (FL (ePc.row L0) (Nat.succ n0)) L1 n1 c1 (FK (Nat.succ n1)) (FL (ePc.row L1) (Nat.succ n1)) most hE (ct1_ok _ _ _ _ _ _ _ (show Blk.plain (.vec _ _ _) from Elt.row_pl _) (show Blk.plain (.vec _ _ _) from Elt.row_pl _)) ⟨rfl, ⟨(), trivial, trivial, rfl, by simp only [ct1, List.map_cons, List.map_nil, rnv, rnc]⟩, plL1, hFK, hFL, eL1.symm, hlc1, hcm1, plL0, hFK, hFL, eL0.symm, hlc0, hcm0, trivial⟩ fun zz _ _ => ?_
          have ek0 : FK (Nat.succ n0) = (L0.take 8).length := by rw [hFK]; show min (Nat.succ n0) 8 = _; rw [List.length_take, hl0]; omega
          rw [ek0, fl0]
          have ek1 : FK (Nat.succ n1) = (L1.take 8).length := by rw [hFK]; show min (Nat.succ n1) 8 = _; rw [List.length_take, hl1]; omega
          rw [ek1, fl1]
          exact sat_ro (hv' := [.ro (ePc.row (L0.take 8)), .ro (ePc.row (L1.take 8))]) rfl (fun i b b' h1 h2 => by
            match i with
            | 0 => simp [ct1] at h1 h2; subst h1; subst h2; exact Or.inr ⟨_, rfl, rfl⟩
            | 1 => simp [ct1] at h1 h2; subst h1; subst h2; exact Or.inr ⟨_, rfl, rfl⟩
            | i + 2 => simp [ct1] at h1) (from2 FK FL h8 rfl rfl (X := (L0.take 8)) (Y := (L1.take 8)) (by rw [List.length_take]; omega) (by rw [List.length_take]; omega) hmost mk mk hE)

theorem walk (W : World) (v0 : Value) (o0 : Opened W ePc (fun x => BxOK x.box ∧ I64 x.val) v0) (v1 : Value) (o1 : Opened W ePc (fun x => BxOK x.box ∧ I64 x.val) v1) (most : Int) (hmost : (Lit.int .i64 most).wf = true) :
    Calls Try.prog 4 #[v0, v1, .int .i64 most] W fun e w' => e = .returned (.bool true) ∧ Below W.heap.size W w' := by
  obtain ⟨u0, x0, ad0, c0, e0, n0, g0⟩ := o0.can 0
  obtain ⟨u1, x1, ad1, c1, e1, n1, g1⟩ := o1.can 1
  have hspec := spec c0 c1 most (wf_i64 hmost)
  have := calls_rows hspec rfl (Nat.le_refl 2)
    (fun u hu j hj => by
      simp at hu
      rcases hu with rfl | rfl | rfl
      · have := c0.nms j hj; omega
      · have := c1.nms j hj; omega
      · simp [nms, nm1, nm0] at hj)
    (W := W) (l := [ad0, ad1]) (fun j r ad hr ha => by
      match j with
      | 0 => simp at hr ha; subst hr; subst ha; exact g0
      | 1 => simp at hr ha; subst hr; subst ha; exact g1
      | j + 2 => simp at hr) (Nat.le_refl 2)
  have hmap : ([u0, u1, .int .i64 most].map (ren (Nm.at [ad0, ad1]))).toArray = #[v0, v1, .int .i64 most] := by
    have g0 := e0 [ad0, ad1] rfl
    have g1 := e1 [ad0, ad1] rfl
    simp only [List.map_cons, List.map_nil]
    simp only [c0.ren, c1.ren, g0, g1]
    rfl
  rw [hmap] at this
  exact this
end Go.Proofs.Ythbaccmhdffjdaa.WkCliqueTells


namespace Go.Proofs.Ythbaccmhdffjdaa.cliqueTellsRow
open Go.ChangeShapes Go.WideShapes Go.ChangeAt Go.RowKit
open Go.ChangeMaps (open_string shut_string)
set_option linter.unusedVariables false
theorem own : ownKnob Try.prog.godebug = none := by kernel_rfl
theorem laidOut : laidOutB Try.prog = true := by kernel_rfl
set_option maxHeartbeats 4000000 in
set_option maxRecDepth 100000 in
theorem lifted (os : Os) (started : os.Started) (H : Type) (enc : TypeId × Value → H) :
    ReturnsInHanded {} Try.checked os 4 .any (Rows.cliqueTellsSpec.pre6 enc Try.prog Try.f4 Rows.cliqueTellsRow.domain false) (Rows.cliqueTellsSpec.post enc Try.prog Try.f4 false true false false) := by
  refine returnsInHanded_of_change_sized (C := Try.checked) own started (by kernel_rfl) Try.func4
    (ChangeSpec.witness6 (enc := enc) (C := Try.checked) false ⟨#[], #[.slice none 0 0, .slice none 0 0, .int .i64 0], []⟩ 8 (by kernel_rfl) (by kernel_rfl) (by kernel_rfl) (by kernel_rfl)) ?_
  intro W base args ds gs before hval0 hW hcnd hsz0 _
  have hsz : (DataW.weightsEach Try.prog (Try.f4.params.toList ++ Rows.cliqueTellsSpec.plain.varTypes Try.prog) (ds ++ gs)).all (· ≤ reachBytes) = true := hsz0
  have hval : ∀ (j : Nat) t v, Try.f4.params[j]? = some t → args[j]? = some v → Value.okWide Try.prog W .any base t v := hval0
  have hW' := hW
  obtain ⟨p, q, hA0, hV, rfl, hfz, hnd⟩ := hW
  have hA : DataW.TrodAll enc Try.prog W 0 (fun _ => true) true Try.f4.params.toList args.toList ds p := hA0
  rw [Try.params4] at hA hval hsz
  obtain ⟨v0, vs0, d0, ds0, p0, q0, hargs, rfl, rfl, h0, r0⟩ := trodAll_cons hA
  obtain ⟨v1, vs1, d1, ds1, p1, q1, rfl, rfl, rfl, h1, r1⟩ := trodAll_cons r0
  obtain ⟨v2, vs2, d2, ds2, p2, q2, rfl, rfl, rfl, h2, r2⟩ := trodAll_cons r1
  obtain ⟨rfl, rfl, rfl⟩ := trodAll_nil r2
  obtain rfl : args = #[v0, v1, v2] := by cases args; simp_all
  obtain ⟨rfl, rfl⟩ := trodVars_none hV
  have k0 := h0
  have lt0 : ∀ x ∈ p0, x.block < W.heap.size := by obtain ⟨m, hm⟩ := k0; exact DataW.trod_lt m _ _ _ hm
  have w0 := OpenBx.open_pieces (hval 0 28 v0 rfl rfl) h0
  have k1 := h1
  have lt1 : ∀ x ∈ p1, x.block < W.heap.size := by obtain ⟨m, hm⟩ := k1; exact DataW.trod_lt m _ _ _ hm
  have w1 := OpenBx.open_pieces (hval 1 28 v1 rfl rfl) h1
  obtain ⟨a2, rfl, rfl, rfl, w2⟩ := open_int Try.underlying3 (hval 2 3 v2 rfl rfl) h2
  clear hA0 hval0 hsz0 hsz
  refine (WkCliqueTells.walk W v0 w0 v1 w1 a2 w2).mono fun e W' ⟨he, bel⟩ => ?_
  subst he
  exact ⟨_, rfl, _, _, _, [], _, [], hW', trodAll_mk1 (shut_bool Try.underlying4 _), (trodAll_cons_mk (Below.trod laidOut (by kernel_rfl) (of_decide_eq_true (by kernel_rfl)) k0 bel lt0) (trodAll_cons_mk (Below.trod laidOut (by kernel_rfl) (of_decide_eq_true (by kernel_rfl)) k1 bel lt1) (trodAll_cons_mk (shut_int Try.underlying3 w2) trodAll_mk0))), rfl, bel.frame _, fun h => by cases h⟩
theorem over : Rows.cliqueTellsRow.holds Try.pinned (OpenSpec.ofChange Rows.cliqueTellsSpec) :=
  OpenClaim.holds_of_wide 4 Try.f4 rfl rfl rfl rfl rfl rfl rfl ⟨rfl, rfl, rfl, rfl, rfl⟩ rfl rfl rfl rfl rfl (by kernel_rfl) Try.func4 (by kernel_rfl)
    (of_decide_eq_true (by kernel_rfl)) (by unfold Func.isWrapper; first | (rw [if_pos (by decide +kernel)]; kernel_rfl) | (rw [if_neg (by decide +kernel)]; exact ⟨rfl, rfl⟩))
    (fun os started H enc _ => lifted os started H enc)
end Go.Proofs.Ythbaccmhdffjdaa.cliqueTellsRow
namespace Go.Proofs.Ythbaccmhdffjdaa
theorem cliqueTells_holds : Rows.CliqueTellsSaid := cliqueTellsRow.over
#print axioms cliqueTells_holds
end Go.Proofs.Ythbaccmhdffjdaa
