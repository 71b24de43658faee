/-
  The row of the law copselaw13.LeavesTell: for every input the call returns true, and each argument reads afterwards as it read before. No condition beside the form's own.
-/
import Derived.Test.YthbaccmhdffjdaaRows
import Derived.WalkKit
import Derived.ProofKit
import Derived.KernelRfl
import Derived.Lib.SmallJoins
import Derived.OpenShut
import Derived.ShutString
import Derived.ChangeOld
import Derived.Below
import Derived.SizedLaws
import Derived.Test.YthbaccmhdffjdaaLeavesTellP3
set_option linter.unusedVariables false
set_option linter.unusedSimpArgs false
set_option maxRecDepth 100000
namespace Go.Proofs.Ythbaccmhdffjdaa.Tr
open Go Go.RowKit Go.Proofs.Ythbaccmhdffjdaa.Ev Go.Proofs.Ythbaccmhdffjdaa.NodeE Go.Proofs.Ythbaccmhdffjdaa.Within Go.Proofs.Ythbaccmhdffjdaa.PickE Go.Proofs.Ythbaccmhdffjdaa.Tn Go.Proofs.Ythbaccmhdffjdaa.Tr Go.Proofs.Ythbaccmhdffjdaa.BoxF

theorem ltN (NI : List Int → List Int → List Int → List Int → Int → List Nd) (PL RL : List Int → Bx → List Pc) (cl : Int) (b : Bx) (r0 r1 r2 r3 : Rw)   {E : Env} {rv : Value} {rhs : List Nat} {rhv : List Blk} (hE : EnvOK E Try.prog Try.f7 4 5 rv rhs rhv) (hL : (ltL [] 0 0 b).OK 5) (hob : all ([SameK (fromR Try.f7 4) (fromR Try.f7 4), Enter (ltL [] 0 0 b) 0 none [Value.slice none 0 0, Value.pointer (some (Addr.mk 9 0 none))] [Blk.cells [Value.int IntKind.i64 b.a0, Value.int IntKind.i64 b.b0, Value.int IntKind.i64 b.a1, Value.int IntKind.i64 b.b1, Value.int IntKind.i64 b.a2, Value.int IntKind.i64 b.b2, Value.int IntKind.i64 b.a3, Value.int IntKind.i64 b.b3, Value.int IntKind.i64 b.a4, Value.int IntKind.i64 b.b4] 25] [(10, 9)]])) (hK : ∀ zz, (ltL [] 0 0 b).inv 0 zz → ltO ((ltL [] 0 0 b).mu 0 zz) none → Sat E (fromR Try.f7 4) ((ltL [] 0 0 b).st 0 zz)) : Sat E [.code (bodyOf Try.f7)] (st0 Try.f7 [.slice none 0 0, .agg ⟨vsP 1 cl r0 r1 r2 r3⟩, .agg ⟨b.cs⟩, .bool false] (rowsL [none, r0.o, r1.o, r2.o, r3.o]) 5) :=
  by
  obtain ⟨z0, cs0, n0, c0⟩ := r0
  obtain ⟨z1, cs1, n1, c1⟩ := r1
  obtain ⟨z2, cs2, n2, c2⟩ := r2
  obtain ⟨z3, cs3, n3, c3⟩ := r3
  cases z0 <;> cases z1 <;> cases z2 <;> cases z3 <;> exact by_to (T := auto0 (t_lt NI PL RL true)) (h := hints []) (ws := [.go, .at 4]) (i0 := ()) hE hm (auto0_ok (t_lt_ok NI PL RL true)) hL (by kernel_rfl) hob hK
theorem ltON (NI : List Int → List Int → List Int → List Int → Int → List Nd) (PL RL : List Int → Bx → List Pc) (cl : Int) (b : Bx) (r0 r1 r2 r3 : Rw) (W : List Int) (k : Nat)   {E : Env} {rv : Value} {rhs : List Nat} {rhv : List Blk} (hE : EnvOK E Try.prog Try.f7 4 5 rv rhs rhv) (hL : (ltL W k 0 b).OK 5) (hob : all ([SameK (fromR Try.f7 4) (fromR Try.f7 4), Enter (ltL W k 0 b) 2 none [Value.slice (some (Addr.mk 49 0 none)) (NI (Rw.l r0) (Rw.l r1) (Rw.l r2) (Rw.l r3) 4).length 1267650600228229401496703205376, Value.pointer (some (Addr.mk 9 0 none))] [Blk.cells [Value.int IntKind.i64 b.a0, Value.int IntKind.i64 b.b0, Value.int IntKind.i64 b.a1, Value.int IntKind.i64 b.b1, Value.int IntKind.i64 b.a2, Value.int IntKind.i64 b.b2, Value.int IntKind.i64 b.a3, Value.int IntKind.i64 b.b3, Value.int IntKind.i64 b.a4, Value.int IntKind.i64 b.b4] 25, Blk.vec (eWord.row (List.map packN (NI (Rw.l r0) (Rw.l r1) (Rw.l r2) (Rw.l r3) 4))) 83 1] [(11, 49), (10, 9)], plainR (cssZ r0 r1 r2 r3), NI = nodesI, (1 : Int) ≤ (4 : Int) ∧ (4 : Int) ≤ (1000 : Int)] ++ (Rw.ob2 r0 ++ (Rw.ob2 r1 ++ (Rw.ob2 r2 ++ (Rw.ob2 r3)))))) (hK : ∀ zz, (ltL W k 0 b).inv 2 zz → ltO ((ltL W k 0 b).mu 2 zz) none → Sat E (fromR Try.f7 4) ((ltL W k 0 b).st 2 zz)) : Sat E [.code (bodyOf Try.f7)] (st0 Try.f7 [.slice none 0 0, .agg ⟨vsP 1 cl r0 r1 r2 r3⟩, .agg ⟨b.cs⟩, .bool true] (rowsL [none, r0.o, r1.o, r2.o, r3.o]) 5) :=
  by
  obtain ⟨z0, cs0, n0, c0⟩ := r0
  obtain ⟨z1, cs1, n1, c1⟩ := r1
  obtain ⟨z2, cs2, n2, c2⟩ := r2
  obtain ⟨z3, cs3, n3, c3⟩ := r3
  cases z0 <;> cases z1 <;> cases z2 <;> cases z3 <;> exact by_to (T := auto0 (t_lt NI PL RL true)) (h := hints []) (ws := [.go, .at 4]) (i0 := ()) hE hm (auto0_ok (t_lt_ok NI PL RL true)) hL (by kernel_rfl) hob hK
theorem ltS (NI : List Int → List Int → List Int → List Int → Int → List Nd) (PL RL : List Int → Bx → List Pc) (cl : Int) (b : Bx) (r0 r1 r2 r3 : Rw) (L : List Int) (n m c : Nat)  {E : Env} {rv : Value} {rhs : List Nat} {rhv : List Blk} (hE : EnvOK E Try.prog Try.f7 4 5 rv rhs rhv) (hL : (ltL L m c b).OK 5) (hob : all ([SameK (fromR Try.f7 4) (fromR Try.f7 4), Enter (ltL L m c b) 1 none [Value.slice (some (Addr.mk 0 0 none)) m c, Value.pointer (some (Addr.mk 9 0 none))] [Blk.cells [Value.int IntKind.i64 b.a0, Value.int IntKind.i64 b.b0, Value.int IntKind.i64 b.a1, Value.int IntKind.i64 b.b1, Value.int IntKind.i64 b.a2, Value.int IntKind.i64 b.b2, Value.int IntKind.i64 b.a3, Value.int IntKind.i64 b.b3, Value.int IntKind.i64 b.a4, Value.int IntKind.i64 b.b4] 25, Blk.ro (eWord.row L)] [(0, 0), (10, 9)], SlOK 1 0 0 n c none (some ((m : Int))) (some (Blk.ro (eWord.row L))) (Value.slice (some (Addr.mk 0 0 none)) m c), Value.int IntKind.i64 (minI ((n : Int)) ((35 : Int))) = Value.int IntKind.i64 ((m : Int))])) (hK : ∀ zz, (ltL L m c b).inv 1 zz → ltO ((ltL L m c b).mu 1 zz) none → Sat E (fromR Try.f7 4) ((ltL L m c b).st 1 zz)) : Sat E [.code (bodyOf Try.f7)] (st0 Try.f7 [.slice (some ⟨0, 0, none⟩) n c, .agg ⟨vsP 1 cl r0 r1 r2 r3⟩, .agg ⟨b.cs⟩, .bool false] (rowsL [some (eWord.row L), r0.o, r1.o, r2.o, r3.o]) 5) :=
  by
  obtain ⟨z0, cs0, n0, c0⟩ := r0
  obtain ⟨z1, cs1, n1, c1⟩ := r1
  obtain ⟨z2, cs2, n2, c2⟩ := r2
  obtain ⟨z3, cs3, n3, c3⟩ := r3
  cases z0 <;> cases z1 <;> cases z2 <;> cases z3 <;> exact by_to (T := auto0 (t_lt NI PL RL true)) (h := hints [(1, 3, {v := some (.int .i64 (m : Int))}), (1, 4, {o := some (.slice (some ⟨0, 0, none⟩) m c)})]) (ws := [.go, .at 4]) (i0 := ()) hE hm (auto0_ok (t_lt_ok NI PL RL true)) hL (by kernel_rfl) hob hK
theorem ltOS (NI : List Int → List Int → List Int → List Int → Int → List Nd) (PL RL : List Int → Bx → List Pc) (cl : Int) (b : Bx) (r0 r1 r2 r3 : Rw) (W : List Int) (k : Nat) (L : List Int) (n m c : Nat)  {E : Env} {rv : Value} {rhs : List Nat} {rhv : List Blk} (hE : EnvOK E Try.prog Try.f7 4 5 rv rhs rhv) (hL : (ltL W k 0 b).OK 5) (hob : all ([SameK (fromR Try.f7 4) (fromR Try.f7 4), Enter (ltL W k 0 b) 2 none [Value.slice (some (Addr.mk 49 0 none)) (NI (Rw.l r0) (Rw.l r1) (Rw.l r2) (Rw.l r3) 4).length 1267650600228229401496703205376, Value.pointer (some (Addr.mk 9 0 none))] [Blk.cells [Value.int IntKind.i64 b.a0, Value.int IntKind.i64 b.b0, Value.int IntKind.i64 b.a1, Value.int IntKind.i64 b.b1, Value.int IntKind.i64 b.a2, Value.int IntKind.i64 b.b2, Value.int IntKind.i64 b.a3, Value.int IntKind.i64 b.b3, Value.int IntKind.i64 b.a4, Value.int IntKind.i64 b.b4] 25, Blk.vec (eWord.row (List.map packN (NI (Rw.l r0) (Rw.l r1) (Rw.l r2) (Rw.l r3) 4))) 83 1] [(11, 49), (10, 9)], plainR (cssZ r0 r1 r2 r3), NI = nodesI, (1 : Int) ≤ (4 : Int) ∧ (4 : Int) ≤ (1000 : Int)] ++ (Rw.ob2 r0 ++ (Rw.ob2 r1 ++ (Rw.ob2 r2 ++ (Rw.ob2 r3 ++ ([SlOK 1 0 0 n c none (some ((m : Int))) (some (Blk.ro (eWord.row L))) (Value.slice (some (Addr.mk 0 0 none)) m c), Value.int IntKind.i64 (minI ((n : Int)) ((35 : Int))) = Value.int IntKind.i64 ((m : Int))]))))))) (hK : ∀ zz, (ltL W k 0 b).inv 2 zz → ltO ((ltL W k 0 b).mu 2 zz) none → Sat E (fromR Try.f7 4) ((ltL W k 0 b).st 2 zz)) : Sat E [.code (bodyOf Try.f7)] (st0 Try.f7 [.slice (some ⟨0, 0, none⟩) n c, .agg ⟨vsP 1 cl r0 r1 r2 r3⟩, .agg ⟨b.cs⟩, .bool true] (rowsL [some (eWord.row L), r0.o, r1.o, r2.o, r3.o]) 5) :=
  by
  obtain ⟨z0, cs0, n0, c0⟩ := r0
  obtain ⟨z1, cs1, n1, c1⟩ := r1
  obtain ⟨z2, cs2, n2, c2⟩ := r2
  obtain ⟨z3, cs3, n3, c3⟩ := r3
  cases z0 <;> cases z1 <;> cases z2 <;> cases z3 <;> exact by_to (T := auto0 (t_lt NI PL RL true)) (h := hints [(1, 3, {v := some (.int .i64 (m : Int))}), (1, 4, {o := some (.slice (some ⟨0, 0, none⟩) m c)})]) (ws := [.go, .at 4]) (i0 := ()) hE hm (auto0_ok (t_lt_ok NI PL RL true)) hL (by kernel_rfl) hob hK
theorem ltE0 (NI : List Int → List Int → List Int → List Int → Int → List Nd) (PL RL : List Int → Bx → List Pc) (L : List Int) (m c : Nat) (b : Bx)  {E : Env} (hE : EnvOK E Try.prog Try.f7 4 5 (.bool true) [] []) (hob : all ([Back (Value.bool true) (Value.bool true) [] [] [], Value.bool (emptyB b.a0 b.b0 b.a1 b.b1 b.a2 b.b2 b.a3 b.b3 b.a4 b.b4) = Value.bool true, plainR []])) : Sat E (fromR Try.f7 4) ((ltL [] 0 0 b).st 0 ()) :=
  by_ret (T := auto0 (t_lt NI PL RL false)) (h := hints [(5, 1, {v := some (.bool true)})]) (ws := [.go]) (nx' := 5) hE hm (auto0_ok (t_lt_ok NI PL RL false)) (by omega) (by simp) (by simp) (by kernel_rfl) hob
theorem ltK0 (NI : List Int → List Int → List Int → List Int → Int → List Nd) (PL RL : List Int → Bx → List Pc) (L : List Int) (m c : Nat) (b : Bx)  {E : Env} (hE : EnvOK E Try.prog Try.f7 4 5 (.bool true) [] []) (hob : all ([Back (Value.bool true) (Value.bool true) [] [] [], plainR [], plainR [], Value.bool (emptyB b.a0 b.b0 b.a1 b.b1 b.a2 b.b2 b.a3 b.b3 b.a4 b.b4) = Value.bool false, plainR []])) : Sat E (fromR Try.f7 4) ((ltL [] 0 0 b).st 0 ()) :=
  by_ret (T := auto0 (t_lt NI PL RL false)) (h := hints [(5, 1, {v := some (.bool false)})]) (ws := [.go]) (nx' := 5) hE hm (auto0_ok (t_lt_ok NI PL RL false)) (by omega) (by simp) (by simp) (by kernel_rfl) hob
theorem ltE1 (NI : List Int → List Int → List Int → List Int → Int → List Nd) (PL RL : List Int → Bx → List Pc) (L : List Int) (m c : Nat) (b : Bx)  {E : Env} (hE : EnvOK E Try.prog Try.f7 4 5 (.bool true) [] []) (hob : all ([Back (Value.bool true) (Value.bool true) [] [] [], Value.bool (emptyB b.a0 b.b0 b.a1 b.b1 b.a2 b.b2 b.a3 b.b3 b.a4 b.b4) = Value.bool true, plainR [eWord.row L], PL = listP, PL (eWord.list (eWord.row L) 0 m) (Bx.mk b.a0 b.b0 b.a1 b.b1 b.a2 b.b2 b.a3 b.b3 b.a4 b.b4) = [], eWord.Row (eWord.row L) 0 m, ∀ (w : Int), w ∈ eWord.list (eWord.row L) 0 m → U64 w, m ≤ 65536, (Bx.mk b.a0 b.b0 b.a1 b.b1 b.a2 b.b2 b.a3 b.b3 b.a4 b.b4).I64s])) : Sat E (fromR Try.f7 4) ((ltL L m c b).st 1 ()) :=
  by_ret (T := auto0 (t_lt NI PL RL false)) (h := hints [(5, 1, {v := some (.bool true)})]) (ws := [.go]) (nx' := 5) hE hm (auto0_ok (t_lt_ok NI PL RL false)) (by omega) (by simp) (by simp) (by kernel_rfl) hob
theorem ltK1 (NI : List Int → List Int → List Int → List Int → Int → List Nd) (PL RL : List Int → Bx → List Pc) (L : List Int) (m c : Nat) (b : Bx)  {E : Env} (hE : EnvOK E Try.prog Try.f7 4 5 (.bool true) [] []) (hob : all ([Back (Value.bool true) (Value.bool true) [] [] [], plainR [], plainR [eWord.row L], RL = rlvP, RL (eWord.list (eWord.row L) 0 m) (Bx.mk b.a0 b.b0 b.a1 b.b1 b.a2 b.b2 b.a3 b.b3 b.a4 b.b4) = [], eWord.Row (eWord.row L) 0 m, ∀ (w : Int), w ∈ eWord.list (eWord.row L) 0 m → U64 w, m ≤ 65536, (Bx.mk b.a0 b.b0 b.a1 b.b1 b.a2 b.b2 b.a3 b.b3 b.a4 b.b4).I64s, Value.bool (emptyB b.a0 b.b0 b.a1 b.b1 b.a2 b.b2 b.a3 b.b3 b.a4 b.b4) = Value.bool false, plainR [eWord.row L], PL = listP, PL (eWord.list (eWord.row L) 0 m) (Bx.mk b.a0 b.b0 b.a1 b.b1 b.a2 b.b2 b.a3 b.b3 b.a4 b.b4) = [], eWord.Row (eWord.row L) 0 m, ∀ (w : Int), w ∈ eWord.list (eWord.row L) 0 m → U64 w, m ≤ 65536, (Bx.mk b.a0 b.b0 b.a1 b.b1 b.a2 b.b2 b.a3 b.b3 b.a4 b.b4).I64s])) : Sat E (fromR Try.f7 4) ((ltL L m c b).st 1 ()) :=
  by_ret (T := auto0 (t_lt NI PL RL false)) (h := hints [(5, 1, {v := some (.bool false)})]) (ws := [.go]) (nx' := 5) hE hm (auto0_ok (t_lt_ok NI PL RL false)) (by omega) (by simp) (by simp) (by kernel_rfl) hob
theorem ltR1 (NI : List Int → List Int → List Int → List Int → Int → List Nd) (PL RL : List Int → Bx → List Pc) (L : List Int) (m c : Nat) (b : Bx)  {E : Env} (hE : EnvOK E Try.prog Try.f7 4 5 (.bool true) [] []) (hob : all ([Back (Value.bool true) (Value.bool true) [] [] [], Value.bool (decide (ePc.list (ePc.row (PL (eWord.list (eWord.row L) 0 m) (Bx.mk b.a0 b.b0 b.a1 b.b1 b.a2 b.b2 b.a3 b.b3 b.a4 b.b4))) (Addr.mk 100 0 none).off (PL (eWord.list (eWord.row L) 0 m) (Bx.mk b.a0 b.b0 b.a1 b.b1 b.a2 b.b2 b.a3 b.b3 b.a4 b.b4)).length = ePc.list (ePc.row (RL (eWord.list (eWord.row L) 0 m) (Bx.mk b.a0 b.b0 b.a1 b.b1 b.a2 b.b2 b.a3 b.b3 b.a4 b.b4))) (Addr.mk 100 0 none).off (RL (eWord.list (eWord.row L) 0 m) (Bx.mk b.a0 b.b0 b.a1 b.b1 b.a2 b.b2 b.a3 b.b3 b.a4 b.b4)).length)) = Value.bool true, plainR [ePc.row (PL (eWord.list (eWord.row L) 0 m) (Bx.mk b.a0 b.b0 b.a1 b.b1 b.a2 b.b2 b.a3 b.b3 b.a4 b.b4)), ePc.row (RL (eWord.list (eWord.row L) 0 m) (Bx.mk b.a0 b.b0 b.a1 b.b1 b.a2 b.b2 b.a3 b.b3 b.a4 b.b4))], ePc.Row (ePc.row (PL (eWord.list (eWord.row L) 0 m) (Bx.mk b.a0 b.b0 b.a1 b.b1 b.a2 b.b2 b.a3 b.b3 b.a4 b.b4))) 0 (PL (eWord.list (eWord.row L) 0 m) (Bx.mk b.a0 b.b0 b.a1 b.b1 b.a2 b.b2 b.a3 b.b3 b.a4 b.b4)).length, ePc.Row (ePc.row (RL (eWord.list (eWord.row L) 0 m) (Bx.mk b.a0 b.b0 b.a1 b.b1 b.a2 b.b2 b.a3 b.b3 b.a4 b.b4))) 0 (RL (eWord.list (eWord.row L) 0 m) (Bx.mk b.a0 b.b0 b.a1 b.b1 b.a2 b.b2 b.a3 b.b3 b.a4 b.b4)).length, (PL (eWord.list (eWord.row L) 0 m) (Bx.mk b.a0 b.b0 b.a1 b.b1 b.a2 b.b2 b.a3 b.b3 b.a4 b.b4)).length ≤ 9223372036854775806, plainR [eWord.row L], RL = rlvP, RL (eWord.list (eWord.row L) 0 m) (Bx.mk b.a0 b.b0 b.a1 b.b1 b.a2 b.b2 b.a3 b.b3 b.a4 b.b4) ≠ [], eWord.Row (eWord.row L) 0 m, ∀ (w : Int), w ∈ eWord.list (eWord.row L) 0 m → U64 w, m ≤ 65536, (Bx.mk b.a0 b.b0 b.a1 b.b1 b.a2 b.b2 b.a3 b.b3 b.a4 b.b4).I64s, Value.bool (emptyB b.a0 b.b0 b.a1 b.b1 b.a2 b.b2 b.a3 b.b3 b.a4 b.b4) = Value.bool false, plainR [eWord.row L], PL = listP, PL (eWord.list (eWord.row L) 0 m) (Bx.mk b.a0 b.b0 b.a1 b.b1 b.a2 b.b2 b.a3 b.b3 b.a4 b.b4) ≠ [], eWord.Row (eWord.row L) 0 m, ∀ (w : Int), w ∈ eWord.list (eWord.row L) 0 m → U64 w, m ≤ 65536, (Bx.mk b.a0 b.b0 b.a1 b.b1 b.a2 b.b2 b.a3 b.b3 b.a4 b.b4).I64s])) : Sat E (fromR Try.f7 4) ((ltL L m c b).st 1 ()) :=
  by_ret (T := auto0 (t_lt NI PL RL true)) (h := hints [(5, 1, {v := some (.bool false)}), (7, 4, {v := some (.bool true)})]) (ws := [.go]) (nx' := 5) hE hm (auto0_ok (t_lt_ok NI PL RL true)) (by omega) (by simp) (by simp) (by kernel_rfl) hob
theorem ltE2 (NI : List Int → List Int → List Int → List Int → Int → List Nd) (PL RL : List Int → Bx → List Pc) (L : List Int) (m c : Nat) (b : Bx)  {E : Env} (hE : EnvOK E Try.prog Try.f7 4 5 (.bool true) [] []) (hob : all ([Back (Value.bool true) (Value.bool true) [] [] [], Value.bool (emptyB b.a0 b.b0 b.a1 b.b1 b.a2 b.b2 b.a3 b.b3 b.a4 b.b4) = Value.bool true, plainR [eWord.row L], PL = listP, PL (eWord.list (eWord.row L) 0 m) (Bx.mk b.a0 b.b0 b.a1 b.b1 b.a2 b.b2 b.a3 b.b3 b.a4 b.b4) = [], eWord.Row (eWord.row L) 0 m, ∀ (w : Int), w ∈ eWord.list (eWord.row L) 0 m → U64 w, m ≤ 65536, (Bx.mk b.a0 b.b0 b.a1 b.b1 b.a2 b.b2 b.a3 b.b3 b.a4 b.b4).I64s])) : Sat E (fromR Try.f7 4) ((ltL L m c b).st 2 ()) :=
  by_ret (T := auto0 (t_lt NI PL RL false)) (h := hints [(5, 1, {v := some (.bool true)})]) (ws := [.go]) (nx' := 5) hE hm (auto0_ok (t_lt_ok NI PL RL false)) (by omega) (by simp) (by simp) (by kernel_rfl) hob
theorem ltK2 (NI : List Int → List Int → List Int → List Int → Int → List Nd) (PL RL : List Int → Bx → List Pc) (L : List Int) (m c : Nat) (b : Bx)  {E : Env} (hE : EnvOK E Try.prog Try.f7 4 5 (.bool true) [] []) (hob : all ([Back (Value.bool true) (Value.bool true) [] [] [], plainR [], plainR [eWord.row L], RL = rlvP, RL (eWord.list (eWord.row L) 0 m) (Bx.mk b.a0 b.b0 b.a1 b.b1 b.a2 b.b2 b.a3 b.b3 b.a4 b.b4) = [], eWord.Row (eWord.row L) 0 m, ∀ (w : Int), w ∈ eWord.list (eWord.row L) 0 m → U64 w, m ≤ 65536, (Bx.mk b.a0 b.b0 b.a1 b.b1 b.a2 b.b2 b.a3 b.b3 b.a4 b.b4).I64s, Value.bool (emptyB b.a0 b.b0 b.a1 b.b1 b.a2 b.b2 b.a3 b.b3 b.a4 b.b4) = Value.bool false, plainR [eWord.row L], PL = listP, PL (eWord.list (eWord.row L) 0 m) (Bx.mk b.a0 b.b0 b.a1 b.b1 b.a2 b.b2 b.a3 b.b3 b.a4 b.b4) = [], eWord.Row (eWord.row L) 0 m, ∀ (w : Int), w ∈ eWord.list (eWord.row L) 0 m → U64 w, m ≤ 65536, (Bx.mk b.a0 b.b0 b.a1 b.b1 b.a2 b.b2 b.a3 b.b3 b.a4 b.b4).I64s])) : Sat E (fromR Try.f7 4) ((ltL L m c b).st 2 ()) :=
  by_ret (T := auto0 (t_lt NI PL RL false)) (h := hints [(5, 1, {v := some (.bool false)})]) (ws := [.go]) (nx' := 5) hE hm (auto0_ok (t_lt_ok NI PL RL false)) (by omega) (by simp) (by simp) (by kernel_rfl) hob
theorem ltR2 (NI : List Int → List Int → List Int → List Int → Int → List Nd) (PL RL : List Int → Bx → List Pc) (L : List Int) (m c : Nat) (b : Bx)  {E : Env} (hE : EnvOK E Try.prog Try.f7 4 5 (.bool true) [] []) (hob : all ([Back (Value.bool true) (Value.bool true) [] [] [], Value.bool (decide (ePc.list (ePc.row (PL (eWord.list (eWord.row L) 0 m) (Bx.mk b.a0 b.b0 b.a1 b.b1 b.a2 b.b2 b.a3 b.b3 b.a4 b.b4))) (Addr.mk 100 0 none).off (PL (eWord.list (eWord.row L) 0 m) (Bx.mk b.a0 b.b0 b.a1 b.b1 b.a2 b.b2 b.a3 b.b3 b.a4 b.b4)).length = ePc.list (ePc.row (RL (eWord.list (eWord.row L) 0 m) (Bx.mk b.a0 b.b0 b.a1 b.b1 b.a2 b.b2 b.a3 b.b3 b.a4 b.b4))) (Addr.mk 100 0 none).off (RL (eWord.list (eWord.row L) 0 m) (Bx.mk b.a0 b.b0 b.a1 b.b1 b.a2 b.b2 b.a3 b.b3 b.a4 b.b4)).length)) = Value.bool true, plainR [ePc.row (PL (eWord.list (eWord.row L) 0 m) (Bx.mk b.a0 b.b0 b.a1 b.b1 b.a2 b.b2 b.a3 b.b3 b.a4 b.b4)), ePc.row (RL (eWord.list (eWord.row L) 0 m) (Bx.mk b.a0 b.b0 b.a1 b.b1 b.a2 b.b2 b.a3 b.b3 b.a4 b.b4))], ePc.Row (ePc.row (PL (eWord.list (eWord.row L) 0 m) (Bx.mk b.a0 b.b0 b.a1 b.b1 b.a2 b.b2 b.a3 b.b3 b.a4 b.b4))) 0 (PL (eWord.list (eWord.row L) 0 m) (Bx.mk b.a0 b.b0 b.a1 b.b1 b.a2 b.b2 b.a3 b.b3 b.a4 b.b4)).length, ePc.Row (ePc.row (RL (eWord.list (eWord.row L) 0 m) (Bx.mk b.a0 b.b0 b.a1 b.b1 b.a2 b.b2 b.a3 b.b3 b.a4 b.b4))) 0 (RL (eWord.list (eWord.row L) 0 m) (Bx.mk b.a0 b.b0 b.a1 b.b1 b.a2 b.b2 b.a3 b.b3 b.a4 b.b4)).length, (PL (eWord.list (eWord.row L) 0 m) (Bx.mk b.a0 b.b0 b.a1 b.b1 b.a2 b.b2 b.a3 b.b3 b.a4 b.b4)).length ≤ 9223372036854775806, plainR [eWord.row L], RL = rlvP, RL (eWord.list (eWord.row L) 0 m) (Bx.mk b.a0 b.b0 b.a1 b.b1 b.a2 b.b2 b.a3 b.b3 b.a4 b.b4) ≠ [], eWord.Row (eWord.row L) 0 m, ∀ (w : Int), w ∈ eWord.list (eWord.row L) 0 m → U64 w, m ≤ 65536, (Bx.mk b.a0 b.b0 b.a1 b.b1 b.a2 b.b2 b.a3 b.b3 b.a4 b.b4).I64s, Value.bool (emptyB b.a0 b.b0 b.a1 b.b1 b.a2 b.b2 b.a3 b.b3 b.a4 b.b4) = Value.bool false, plainR [eWord.row L], PL = listP, PL (eWord.list (eWord.row L) 0 m) (Bx.mk b.a0 b.b0 b.a1 b.b1 b.a2 b.b2 b.a3 b.b3 b.a4 b.b4) ≠ [], eWord.Row (eWord.row L) 0 m, ∀ (w : Int), w ∈ eWord.list (eWord.row L) 0 m → U64 w, m ≤ 65536, (Bx.mk b.a0 b.b0 b.a1 b.b1 b.a2 b.b2 b.a3 b.b3 b.a4 b.b4).I64s])) : Sat E (fromR Try.f7 4) ((ltL L m c b).st 2 ()) :=
  by_ret (T := auto0 (t_lt NI PL RL true)) (h := hints [(5, 1, {v := some (.bool false)}), (7, 4, {v := some (.bool true)})]) (ws := [.go]) (nx' := 5) hE hm (auto0_ok (t_lt_ok NI PL RL true)) (by omega) (by simp) (by simp) (by kernel_rfl) hob
end Go.Proofs.Ythbaccmhdffjdaa.Tr


set_option linter.unusedVariables false
set_option linter.unusedSimpArgs false
set_option maxRecDepth 100000
namespace Go.Proofs.Ythbaccmhdffjdaa.OpenAgg
open Go Go.RowKit Go.ChangeShapes Go.WideShapes

theorem cell_int {w : World} {r : Reach} {b : Nat} {v : Value} (h : Cell.okWide Try.prog w r b 3 v) : ∃ n : Int, v = .int .i64 n ∧ (-9223372036854775808 ≤ n ∧ n ≤ 9223372036854775807) := by
  simp only [Cell.okWide, Try.underlying3] at h
  simp only [Cell.ok, Try.underlying3] at h
  split at h <;> first | (rename_i e; cases e; done) | skip
  all_goals first | exact h.elim | skip
  all_goals first
    | (rename_i e1; injection e1 with e1; injection e1 with e1; subst e1; obtain ⟨rfl, hh⟩ := h; exact ⟨_, rfl, by simpa [IntKind.has, IntKind.min, IntKind.max, IntKind.signed, IntKind.bits] using hh⟩)
    | (rename_i e1; cases e1)
/-- The cells of a value whose cells are all numbers. -/
theorem cells_int {t : TypeId} {n : Nat} {w : World} {r : Reach} {b : Nat} {cs : Array Value} (hct : Try.prog.cellTypes Try.prog.depth t = some (List.replicate n 3)) (hn : 0 < n) (h : Row.okWide Try.prog w r b t cs) :
    ∀ (i : Nat) (v : Value), cs[i]? = some v → ∃ m : Int, v = .int .i64 m ∧ (-9223372036854775808 ≤ m ∧ m ≤ 9223372036854775807) := by
  obtain ⟨ts, h1, _, h2⟩ := h
  rw [hct] at h1
  injection h1 with h1
  subst h1
  intro i v hv
  obtain ⟨u, hu, hc⟩ := h2 i v hv
  rw [List.length_replicate, List.getElem?_replicate] at hu
  rw [if_pos (Nat.mod_lt _ hn)] at hu
  injection hu with hu
  subst hu
  exact cell_int hc
theorem open_span {w : World} {b : Nat} {v : Value} (hv : Value.okWide Try.prog w .any b 23 v) :
    ∃ x y : Int, v = .agg #[.int .i64 x, .int .i64 y] ∧ (-9223372036854775808 ≤ x ∧ x ≤ 9223372036854775807) ∧ (-9223372036854775808 ≤ y ∧ y ≤ 9223372036854775807) := by
  simp only [Value.okWide, Try.underlying23] at hv
  obtain ⟨cs, rfl, hs, hr⟩ := hv
  have hC : Try.prog.cellsOf 23 = 2 := by kernel_rfl
  have hc := cells_int (n := 2) (t := 23) (by kernel_rfl) (by decide) hr
  rw [hC] at hs
  obtain ⟨c0, c1, rfl⟩ := Joins.array2 hs
  obtain ⟨x, rfl, hx⟩ := hc 0 _ rfl
  obtain ⟨y, rfl, hy⟩ := hc 1 _ rfl
  exact ⟨x, y, rfl, hx, hy⟩
theorem open_box {w : World} {b : Nat} {v : Value} (hv : Value.okWide Try.prog w .any b 25 v) :
    ∃ x0 x1 x2 x3 x4 x5 x6 x7 x8 x9 : Int, v = .agg #[.int .i64 x0, .int .i64 x1, .int .i64 x2, .int .i64 x3, .int .i64 x4, .int .i64 x5, .int .i64 x6, .int .i64 x7, .int .i64 x8, .int .i64 x9] ∧ (-9223372036854775808 ≤ x0 ∧ x0 ≤ 9223372036854775807) ∧ (-9223372036854775808 ≤ x1 ∧ x1 ≤ 9223372036854775807) ∧ (-9223372036854775808 ≤ x2 ∧ x2 ≤ 9223372036854775807) ∧ (-9223372036854775808 ≤ x3 ∧ x3 ≤ 9223372036854775807) ∧ (-9223372036854775808 ≤ x4 ∧ x4 ≤ 9223372036854775807) ∧ (-9223372036854775808 ≤ x5 ∧ x5 ≤ 9223372036854775807) ∧ (-9223372036854775808 ≤ x6 ∧ x6 ≤ 9223372036854775807) ∧ (-9223372036854775808 ≤ x7 ∧ x7 ≤ 9223372036854775807) ∧ (-9223372036854775808 ≤ x8 ∧ x8 ≤ 9223372036854775807) ∧ (-9223372036854775808 ≤ x9 ∧ x9 ≤ 9223372036854775807) := by
  simp only [Value.okWide, Try.underlying25] at hv
  obtain ⟨cs, rfl, hs, hr⟩ := hv
  have hC : Try.prog.cellsOf 25 = 10 := by kernel_rfl
  have hc := cells_int (n := 10) (t := 25) (by kernel_rfl) (by decide) hr
  rw [hC] at hs
  obtain ⟨l⟩ := cs
  have hl : l.length = 10 := by simpa using hs
  obtain ⟨x0, e0, r0⟩ := hc 0 (l[0]'(by omega)) (by simp)
  obtain ⟨x1, e1, r1⟩ := hc 1 (l[1]'(by omega)) (by simp)
  obtain ⟨x2, e2, r2⟩ := hc 2 (l[2]'(by omega)) (by simp)
  obtain ⟨x3, e3, r3⟩ := hc 3 (l[3]'(by omega)) (by simp)
  obtain ⟨x4, e4, r4⟩ := hc 4 (l[4]'(by omega)) (by simp)
  obtain ⟨x5, e5, r5⟩ := hc 5 (l[5]'(by omega)) (by simp)
  obtain ⟨x6, e6, r6⟩ := hc 6 (l[6]'(by omega)) (by simp)
  obtain ⟨x7, e7, r7⟩ := hc 7 (l[7]'(by omega)) (by simp)
  obtain ⟨x8, e8, r8⟩ := hc 8 (l[8]'(by omega)) (by simp)
  obtain ⟨x9, e9, r9⟩ := hc 9 (l[9]'(by omega)) (by simp)
  refine ⟨x0, x1, x2, x3, x4, x5, x6, x7, x8, x9, ?_, r0, r1, r2, r3, r4, r5, r6, r7, r8, r9⟩
  congr 1
  apply Array.ext'
  apply List.ext_getElem (by simpa using hl)
  intro i h1 h2
  have h3 : i < 10 := by simpa [hl] using h1
  by_cases c0 : i = 0
  · subst c0; simpa using e0
  by_cases c1 : i = 1
  · subst c1; simpa using e1
  by_cases c2 : i = 2
  · subst c2; simpa using e2
  by_cases c3 : i = 3
  · subst c3; simpa using e3
  by_cases c4 : i = 4
  · subst c4; simpa using e4
  by_cases c5 : i = 5
  · subst c5; simpa using e5
  by_cases c6 : i = 6
  · subst c6; simpa using e6
  by_cases c7 : i = 7
  · subst c7; simpa using e7
  by_cases c8 : i = 8
  · subst c8; simpa using e8
  by_cases c9 : i = 9
  · subst c9; simpa using e9
  omega
theorem open_point {w : World} {b : Nat} {v : Value} (hv : Value.okWide Try.prog w .any b 72 v) :
    ∃ x0 x1 x2 x3 : Int, v = .agg #[.int .i64 x0, .int .i64 x1, .int .i64 x2, .int .i64 x3] ∧ (-9223372036854775808 ≤ x0 ∧ x0 ≤ 9223372036854775807) ∧ (-9223372036854775808 ≤ x1 ∧ x1 ≤ 9223372036854775807) ∧ (-9223372036854775808 ≤ x2 ∧ x2 ≤ 9223372036854775807) ∧ (-9223372036854775808 ≤ x3 ∧ x3 ≤ 9223372036854775807) := by
  simp only [Value.okWide, Try.underlying72] at hv
  obtain ⟨cs, rfl, hs, hr⟩ := hv
  have hC : Try.prog.cellsOf 72 = 4 := by kernel_rfl
  have hc := cells_int (n := 4) (t := 72) (by kernel_rfl) (by decide) hr
  rw [hC] at hs
  obtain ⟨l⟩ := cs
  have hl : l.length = 4 := by simpa using hs
  obtain ⟨x0, e0, r0⟩ := hc 0 (l[0]'(by omega)) (by simp)
  obtain ⟨x1, e1, r1⟩ := hc 1 (l[1]'(by omega)) (by simp)
  obtain ⟨x2, e2, r2⟩ := hc 2 (l[2]'(by omega)) (by simp)
  obtain ⟨x3, e3, r3⟩ := hc 3 (l[3]'(by omega)) (by simp)
  refine ⟨x0, x1, x2, x3, ?_, r0, r1, r2, r3⟩
  congr 1
  apply Array.ext'
  apply List.ext_getElem (by simpa using hl)
  intro i h1 h2
  have h3 : i < 4 := by simpa [hl] using h1
  by_cases c0 : i = 0
  · subst c0; simpa using e0
  by_cases c1 : i = 1
  · subst c1; simpa using e1
  by_cases c2 : i = 2
  · subst c2; simpa using e2
  by_cases c3 : i = 3
  · subst c3; simpa using e3
  omega
end Go.Proofs.Ythbaccmhdffjdaa.OpenAgg


set_option linter.unusedVariables false
set_option linter.unusedSimpArgs false
set_option maxRecDepth 100000
namespace Go.Proofs.Ythbaccmhdffjdaa.WkLeavesTell
open Go Go.RowKit Go.Proofs.Ythbaccmhdffjdaa.Ev Go.Proofs.Ythbaccmhdffjdaa.NodeE Go.Proofs.Ythbaccmhdffjdaa.Within Go.Proofs.Ythbaccmhdffjdaa.PickE Go.Proofs.Ythbaccmhdffjdaa.Tn Go.Proofs.Ythbaccmhdffjdaa.Tr Go.Proofs.Ythbaccmhdffjdaa.BoxF Go.Proofs.Ythbaccmhdffjdaa.BitLib

theorem bxGo_len : ∀ (ws : List Int) (i : Nat) (s : List Bx × List Pc), (bxGo i ws s).2.length ≤ s.2.length + ws.length
  | [], i, s => Nat.le_refl _
  | w :: ws, i, s => by
    have := bxGo_len ws (i + 1) (bxS i w s)
    have h1 : (bxS i w s).2.length ≤ s.2.length + 1 := by
      simp only [bxS]
      cases lfB w
      · exact Nat.le_succ _
      · cases (s.1.getD i Bx.zero).emp <;> simp
    simp only [bxGo, List.length_cons]
    omega
theorem pcs_len (ws : List Int) (b : Bx) : (pcsI ws b).length ≤ ws.length := by
  have := bxGo_len ws 0 (bx0 ws.length b)
  simp only [bx0, List.length_nil, Nat.zero_add] at this
  exact this
theorem list_len (ws : List Int) (b : Bx) : (listP ws b).length ≤ ws.length := by
  unfold listP
  cases rightI ws 4 && !b.emp
  · exact Nat.zero_le _
  · exact pcs_len ws b
theorem list_em {ws : List Int} {b : Bx} (h : b.emp = true) : listP ws b = [] := by simp only [listP, h, Bool.not_true, Bool.and_false, cond_false]
theorem list_rl {ws : List Int} {b : Bx} (h : b.emp = false) : rlvP ws b = listP ws b := by simp only [rlvP, listP, h, Bool.not_false, Bool.and_true]
theorem fin0 {E : Env} (NI : List Int → List Int → List Int → List Int → Int → List Nd) (PL RL : List Int → Bx → List Pc) {b : Bx} (hE : EnvOK E Try.prog Try.f7 4 5 (.bool true) [] []) (zz : Unit) : Sat E (fromR Try.f7 4) ((ltL [] 0 0 b).st 0 zz) := by
  have pl0 : plainR [] := fun x hx => by simp at hx
  cases he : b.emp
  · exact ltK0 NI PL RL [] 0 0 b hE ⟨⟨rfl, rfl⟩, pl0, pl0, congrArg Value.bool he, pl0, trivial⟩
  · exact ltE0 NI PL RL [] 0 0 b hE ⟨⟨rfl, rfl⟩, congrArg Value.bool he, pl0, trivial⟩

theorem fin1 {E : Env} (NI : List Int → List Int → List Int → List Int → Int → List Nd) (PL RL : List Int → Bx → List Pc) {L : List Int} {m c : Nat} {b : Bx} (hP : PL = listP) (hQ : RL = rlvP) (hb : b.I64s) (hm : m ≤ L.length) (h40 : m ≤ 40) (hU : ∀ w ∈ L.take m, U64 w) (hE : EnvOK E Try.prog Try.f7 4 5 (.bool true) [] []) (zz : Unit) : Sat E (fromR Try.f7 4) ((ltL L m c b).st 1 zz) := by
  have hX : eWord.list (eWord.row L) 0 m = L.take m := listM hm
  have hXl : (L.take m).length = m := by rw [List.length_take, Nat.min_eq_left hm]
  have row0 : eWord.Row (eWord.row L) 0 m := rowM hm
  have uX : ∀ w ∈ eWord.list (eWord.row L) 0 m, U64 w := by rw [hX]; exact hU
  have pl0 : plainR [eWord.row L] := plain1 (Elt.row_pl _)
  have m65 : m ≤ 65536 := by omega
  have pln : plainR [] := fun x hx => by simp at hx
  cases he : b.emp
  · have hrl : RL (eWord.list (eWord.row L) 0 m) b = PL (eWord.list (eWord.row L) 0 m) b := by rw [hP, hQ]; exact list_rl he
    by_cases hz : PL (eWord.list (eWord.row L) 0 m) b = []
    · exact ltK1 NI PL RL L m c b hE ⟨⟨rfl, rfl⟩, pln, pl0, hQ, hrl.trans hz, row0, uX, m65, hb, congrArg Value.bool he, pl0, hP, hz, row0, uX, m65, hb, trivial⟩
    · have hl : (PL (eWord.list (eWord.row L) 0 m) b).length ≤ 9223372036854775806 := by
        have := list_len (eWord.list (eWord.row L) 0 m) b
        rw [Elt.list_len] at this
        rw [hP]
        omega
      refine ltR1 NI PL RL L m c b hE ⟨⟨rfl, rfl⟩, ?_, plain2 (Elt.row_pl _) (Elt.row_pl _), (Elt.canon0 _).1, (Elt.canon0 _).1, hl, pl0, hQ, fun h => hz (hrl.symm.trans h), row0, uX, m65, hb, congrArg Value.bool he, pl0, hP, hz, row0, uX, m65, hb, trivial⟩
      show Value.bool (decide (ePc.list (ePc.row (PL (eWord.list (eWord.row L) 0 m) b)) 0 (PL (eWord.list (eWord.row L) 0 m) b).length = ePc.list (ePc.row (RL (eWord.list (eWord.row L) 0 m) b)) 0 (RL (eWord.list (eWord.row L) 0 m) b).length)) = _
      rw [hrl]
      exact congrArg Value.bool (decide_eq_true rfl)
  · exact ltE1 NI PL RL L m c b hE ⟨⟨rfl, rfl⟩, congrArg Value.bool he, pl0, hP, (by rw [hP]; exact list_em he), row0, uX, m65, hb, trivial⟩

theorem fin2 {E : Env} (NI : List Int → List Int → List Int → List Int → Int → List Nd) (PL RL : List Int → Bx → List Pc) {L : List Int} {m c : Nat} {b : Bx} (hP : PL = listP) (hQ : RL = rlvP) (hb : b.I64s) (hm : m ≤ L.length) (h40 : m ≤ 40) (hU : ∀ w ∈ L.take m, U64 w) (hE : EnvOK E Try.prog Try.f7 4 5 (.bool true) [] []) (zz : Unit) : Sat E (fromR Try.f7 4) ((ltL L m c b).st 2 zz) := by
  have hX : eWord.list (eWord.row L) 0 m = L.take m := listM hm
  have hXl : (L.take m).length = m := by rw [List.length_take, Nat.min_eq_left hm]
  have row0 : eWord.Row (eWord.row L) 0 m := rowM hm
  have uX : ∀ w ∈ eWord.list (eWord.row L) 0 m, U64 w := by rw [hX]; exact hU
  have pl0 : plainR [eWord.row L] := plain1 (Elt.row_pl _)
  have m65 : m ≤ 65536 := by omega
  have pln : plainR [] := fun x hx => by simp at hx
  cases he : b.emp
  · have hrl : RL (eWord.list (eWord.row L) 0 m) b = PL (eWord.list (eWord.row L) 0 m) b := by rw [hP, hQ]; exact list_rl he
    by_cases hz : PL (eWord.list (eWord.row L) 0 m) b = []
    · exact ltK2 NI PL RL L m c b hE ⟨⟨rfl, rfl⟩, pln, pl0, hQ, hrl.trans hz, row0, uX, m65, hb, congrArg Value.bool he, pl0, hP, hz, row0, uX, m65, hb, trivial⟩
    · have hl : (PL (eWord.list (eWord.row L) 0 m) b).length ≤ 9223372036854775806 := by
        have := list_len (eWord.list (eWord.row L) 0 m) b
        rw [Elt.list_len] at this
        rw [hP]
        omega
      refine ltR2 NI PL RL L m c b hE ⟨⟨rfl, rfl⟩, ?_, plain2 (Elt.row_pl _) (Elt.row_pl _), (Elt.canon0 _).1, (Elt.canon0 _).1, hl, pl0, hQ, fun h => hz (hrl.symm.trans h), row0, uX, m65, hb, congrArg Value.bool he, pl0, hP, hz, row0, uX, m65, hb, trivial⟩
      show Value.bool (decide (ePc.list (ePc.row (PL (eWord.list (eWord.row L) 0 m) b)) 0 (PL (eWord.list (eWord.row L) 0 m) b).length = ePc.list (ePc.row (RL (eWord.list (eWord.row L) 0 m) b)) 0 (RL (eWord.list (eWord.row L) 0 m) b).length)) = _
      rw [hrl]
      exact congrArg Value.bool (decide_eq_true rfl)
  · exact ltE2 NI PL RL L m c b hE ⟨⟨rfl, rfl⟩, congrArg Value.bool he, pl0, hP, (by rw [hP]; exact list_em he), row0, uX, m65, hb, trivial⟩

theorem spec {cl : Int} {b : Bx} {own : Bool} {u0 u1 u2 u3 u4 : Value} {x0 x1 x2 x3 x4 : Option (List Value)} (hb : b.I64s) (c0 : CanAt eWord U64 0 u0 x0) (c1 : CanAt eInt I64 1 u1 x1) (c2 : CanAt eInt I64 2 u2 x2) (c3 : CanAt eInt I64 3 u3 x3) (c4 : CanAt eInt I64 4 u4 x4) :
    CallSpec Try.prog 7 [u0, .agg ⟨[.int .i64 cl, u1, u2, u3, u4]⟩, .agg ⟨b.cs⟩, .bool own] (rowsL [x0, x1, x2, x3, x4]) 5 (.bool true) (assocN [] []) := by
  refine spec_of_sat Try.func7 rfl fun E hE => ?_
  obtain ⟨r0, rfl, rfl, h0⟩ := can_fam c1
  obtain ⟨r1, rfl, rfl, h1⟩ := can_fam c2
  obtain ⟨r2, rfl, rfl, h2⟩ := can_fam c3
  obtain ⟨r3, rfl, rfl, h3⟩ := can_fam c4
  obtain ⟨NI, hNI⟩ : ∃ NI : List Int → List Int → List Int → List Int → Int → List Nd, NI = nodesI := ⟨_, rfl⟩
  obtain ⟨PL, hP⟩ : ∃ PL : List Int → Bx → List Pc, PL = listP := ⟨_, rfl⟩
  obtain ⟨RL, hQ⟩ : ∃ RL : List Int → Bx → List Pc, RL = rlvP := ⟨_, rfl⟩
  obtain ⟨x1, hUn, x3⟩ := nodes_right r0.l r1.l r2.l r3.l (dim := 4) ⟨by decide, by decide⟩
  simp only [wordsI, ← hNI] at x1 hUn x3
  have hlen : (NI r0.l r1.l r2.l r3.l 4).length ≤ 40 := by rw [List.length_map] at x3; omega
  have rnw : ∀ (ws : List Int) (f : Nat → Nat), Blk.rnB f (.vec (eWord.row ws) 83 1) = .vec (eWord.row ws) 83 1 := fun ws f => Blk.plain.rnB (b := .vec (eWord.row ws) 83 1) (Elt.row_pl _) f
  have rnr : ∀ (ws : List Int) (f : Nat → Nat), Blk.rnB f (.ro (eWord.row ws)) = .ro (eWord.row ws) := fun ws f => Blk.plain.rnB (b := .ro (eWord.row ws)) (Elt.row_pl _) f
  have rnp : ∀ (f : Nat → Nat) (b : Bx), Blk.rnB f (.cells b.cs 25) = .cells [.int .i64 b.a0, .int .i64 b.b0, .int .i64 b.a1, .int .i64 b.b1, .int .i64 b.a2, .int .i64 b.b2, .int .i64 b.a3, .int .i64 b.b3, .int .i64 b.a4, .int .i64 b.b4] 25 := fun f b => rfl
  rcases c0 with ⟨rfl, rfl⟩ | ⟨L, c, rfl, rfl, hlc, hcm, hg⟩
  · cases own
    · exact ltN NI PL RL cl b r0 r1 r2 r3 hE (ltL_ok _ _ _ _) ⟨rfl, ⟨(), trivial, trivial, rfl, by simp only [ltL, List.map_cons, List.map_nil, rnp]⟩, trivial⟩ fun zz _ _ => fin0 NI PL RL hE zz
    · exact ltON NI PL RL cl b r0 r1 r2 r3 ((NI r0.l r1.l r2.l r3.l 4).map packN) (NI r0.l r1.l r2.l r3.l 4).length hE (ltL_ok _ _ _ _) (all_app ⟨rfl, ⟨(), trivial, trivial, rfl, by simp only [ltL, List.map_cons, List.map_nil, rnw, rnp]⟩, cssZ_pl h0 h1 h2 h3, hNI, ⟨by decide, by decide⟩, trivial⟩ (all_app h0.ob2 (all_app h1.ob2 (all_app h2.ob2 h3.ob2)))) fun zz _ _ => fin2 NI PL RL hP hQ hb (by simp) hlen (by rw [List.take_of_length_le (by simp)]; exact hUn) hE zz
  · have hmin : Value.int .i64 (minI (L.length : Int) 35) = .int .i64 ((min L.length 35 : Nat) : Int) := congrArg _ (by unfold minI; split <;> omega)
    have hsl : SlOK 1 0 0 L.length c none (some ((min L.length 35 : Nat) : Int)) (some (.ro (eWord.row L))) (.slice (some ⟨0, 0, none⟩) (min L.length 35) c) := slOK_ro (by omega) hlc hcm
    cases own
    · exact ltS NI PL RL cl b r0 r1 r2 r3 L L.length (min L.length 35) c hE (ltL_ok _ _ _ _) ⟨rfl, ⟨(), trivial, trivial, rfl, by simp only [ltL, List.map_cons, List.map_nil, rnp, rnr]⟩, hsl, hmin, trivial⟩ fun zz _ _ => fin1 NI PL RL hP hQ hb (by omega) (by omega) (fun w hw => hg w (List.mem_of_mem_take hw)) hE zz
    · exact ltOS NI PL RL cl b r0 r1 r2 r3 ((NI r0.l r1.l r2.l r3.l 4).map packN) (NI r0.l r1.l r2.l r3.l 4).length L L.length (min L.length 35) c hE (ltL_ok _ _ _ _) (all_app ⟨rfl, ⟨(), trivial, trivial, rfl, by simp only [ltL, List.map_cons, List.map_nil, rnw, rnp]⟩, cssZ_pl h0 h1 h2 h3, hNI, ⟨by decide, by decide⟩, trivial⟩ (all_app h0.ob2 (all_app h1.ob2 (all_app h2.ob2 (all_app h3.ob2 ⟨hsl, hmin, trivial⟩))))) fun zz _ _ => fin2 NI PL RL hP hQ hb (by simp) hlen (by rw [List.take_of_length_le (by simp)]; exact hUn) hE zz

theorem walk (W : World) (v0 : Value) (o0 : Opened W eWord U64 v0) (cl : Int) (v1 v2 v3 v4 : Value) (o1 : Opened W eInt I64 v1) (o2 : Opened W eInt I64 v2) (o3 : Opened W eInt I64 v3) (o4 : Opened W eInt I64 v4) (x0 x1 x2 x3 x4 x5 x6 x7 x8 x9 : Int) (w2 : (-9223372036854775808 ≤ x0 ∧ x0 ≤ 9223372036854775807) ∧ (-9223372036854775808 ≤ x1 ∧ x1 ≤ 9223372036854775807) ∧ (-9223372036854775808 ≤ x2 ∧ x2 ≤ 9223372036854775807) ∧ (-9223372036854775808 ≤ x3 ∧ x3 ≤ 9223372036854775807) ∧ (-9223372036854775808 ≤ x4 ∧ x4 ≤ 9223372036854775807) ∧ (-9223372036854775808 ≤ x5 ∧ x5 ≤ 9223372036854775807) ∧ (-9223372036854775808 ≤ x6 ∧ x6 ≤ 9223372036854775807) ∧ (-9223372036854775808 ≤ x7 ∧ x7 ≤ 9223372036854775807) ∧ (-9223372036854775808 ≤ x8 ∧ x8 ≤ 9223372036854775807) ∧ (-9223372036854775808 ≤ x9 ∧ x9 ≤ 9223372036854775807)) (own : Bool) :
    Calls Try.prog 7 #[v0, .agg #[.int .i64 cl, v1, v2, v3, v4], .agg #[.int .i64 x0, .int .i64 x1, .int .i64 x2, .int .i64 x3, .int .i64 x4, .int .i64 x5, .int .i64 x6, .int .i64 x7, .int .i64 x8, .int .i64 x9], .bool own] W fun e w' => e = .returned (.bool true) ∧ Below W.heap.size W w' := by
  obtain ⟨u0, y0, ad0, c0, e0, n0, g0⟩ := o0.can 0
  obtain ⟨u1, y1, ad1, c1, e1, n1, g1⟩ := o1.can 1
  obtain ⟨u2, y2, ad2, c2, e2, n2, g2⟩ := o2.can 2
  obtain ⟨u3, y3, ad3, c3, e3, n3, g3⟩ := o3.can 3
  obtain ⟨u4, y4, ad4, c4, e4, n4, g4⟩ := o4.can 4
  have hspec := spec (cl := cl) (b := ⟨x0, x1, x2, x3, x4, x5, x6, x7, x8, x9⟩) (own := own) w2 c0 c1 c2 c3 c4
  have := calls_rows hspec rfl (Nat.le_refl 5)
    (fun u hu j hj => by
      simp at hu
      rcases hu with rfl | rfl | rfl | rfl
      · have := c0.nms j hj; omega
      · simp [nms, nm1, nmL, nm0] at hj
        rcases hj with hj | hj | hj | hj
        · have := c1.nm0 j hj; omega
        · have := c2.nm0 j hj; omega
        · have := c3.nm0 j hj; omega
        · have := c4.nm0 j hj; omega
      · simp [nms, nm1, nm0, nmL, Bx.cs] at hj
      · simp [nms, nm1, nm0] at hj)
    (W := W) (l := [ad0, ad1, ad2, ad3, ad4]) (fun j r ad hr ha => by
      match j with
      | 0 => simp at hr ha; subst hr; subst ha; exact g0
      | 1 => simp at hr ha; subst hr; subst ha; exact g1
      | 2 => simp at hr ha; subst hr; subst ha; exact g2
      | 3 => simp at hr ha; subst hr; subst ha; exact g3
      | 4 => simp at hr ha; subst hr; subst ha; exact g4
      | j + 5 => simp at hr) (Nat.le_refl 5)
  have hmap : ([u0, .agg ⟨[.int .i64 cl, u1, u2, u3, u4]⟩, .agg ⟨Bx.cs ⟨x0, x1, x2, x3, x4, x5, x6, x7, x8, x9⟩⟩, .bool own].map (ren (Nm.at [ad0, ad1, ad2, ad3, ad4]))).toArray = #[v0, .agg #[.int .i64 cl, v1, v2, v3, v4], .agg #[.int .i64 x0, .int .i64 x1, .int .i64 x2, .int .i64 x3, .int .i64 x4, .int .i64 x5, .int .i64 x6, .int .i64 x7, .int .i64 x8, .int .i64 x9], .bool own] := by
    have g0 := e0 [ad0, ad1, ad2, ad3, ad4] rfl
    have g1 := e1 [ad0, ad1, ad2, ad3, ad4] rfl
    have g2 := e2 [ad0, ad1, ad2, ad3, ad4] rfl
    have g3 := e3 [ad0, ad1, ad2, ad3, ad4] rfl
    have g4 := e4 [ad0, ad1, ad2, ad3, ad4] rfl
    simp only [List.map_cons, List.map_nil]
    simp only [c0.ren, ren_agg, List.map_toArray, List.map_cons, List.map_nil, g0, g1, g2, g3, g4]
    rfl
  rw [hmap] at this
  exact this
end Go.Proofs.Ythbaccmhdffjdaa.WkLeavesTell


set_option linter.unusedVariables false
set_option linter.unusedSimpArgs false
set_option maxRecDepth 100000
namespace Go.Proofs.Ythbaccmhdffjdaa.Ev
open Go Go.RowKit Go.ChangeShapes Go.WideShapes Go.Proofs.Ythbaccmhdffjdaa.NodeE
theorem elem_u64 {H : Type} {enc : TypeId × Value → H} {W : World} {base : Nat} {spare : Nat → Bool} {held : Bool} (n : Nat) (cs : List Value) (z : DataW H × List MemPlace) (h : DataW.trod enc Try.prog W base spare held n 83 cs = some z) : ∃ x : Int, cs = eWord.cells x ∧ U64 x := by
  obtain ⟨x, h1, h2⟩ := elem_int (P := Try.prog) (k := .u64) (by kernel_rfl) n cs z h
  exact ⟨x, h1, BitLib.wf_u64 h2⟩
theorem open_words {H : Type} {enc : TypeId × Value → H} {W : World} {base : Nat} {spare : Nat → Bool} {held : Bool} {r : Reach} {b0 : Nat} {v : Value} {d : DataW H} {ps : List MemPlace} (hv : Value.okWide Try.prog W r b0 45 v) (h : DataW.Trod enc Try.prog W base spare held 45 v d ps) : Opened W eWord U64 v := by
  have hu : Try.prog.underlying 45 = some (.slice 83) := by kernel_rfl
  obtain ⟨fuel, hf⟩ := h
  simp only [Value.okWide, hu] at hv
  have hcs : v.cells.toList = [v] := by
    obtain ⟨a, l, c, rfl⟩ : ∃ a l c, v = .slice a l c := by
      simp only [Cell.okWide, hu, Cell.ok] at hv
      cases v <;> simp_all
    rfl
  rw [hcs] at hf
  exact open_row hu (by kernel_rfl) elem_u64 hv hf
end Go.Proofs.Ythbaccmhdffjdaa.Ev


set_option linter.unusedVariables false
set_option linter.unusedSimpArgs false
set_option maxRecDepth 100000
namespace Go.Proofs.Ythbaccmhdffjdaa.Ev
open Go Go.RowKit Go.ChangeShapes Go.WideShapes
theorem elem_i64 {H : Type} {enc : TypeId × Value → H} {W : World} {base : Nat} {spare : Nat → Bool} {held : Bool} (n : Nat) (cs : List Value) (z : DataW H × List MemPlace) (h : DataW.trod enc Try.prog W base spare held n 3 cs = some z) : ∃ x : Int, cs = eInt.cells x ∧ I64 x := by
  obtain ⟨x, h1, h2⟩ := elem_int (P := Try.prog) (k := .i64) (by kernel_rfl) n cs z h
  exact ⟨x, h1, wf64 h2⟩
theorem open_ints64 {H : Type} {enc : TypeId × Value → H} {W : World} {base : Nat} {spare : Nat → Bool} {held : Bool} {r : Reach} {b0 : Nat} {v : Value} {d : DataW H} {ps : List MemPlace} (hv : Value.okWide Try.prog W r b0 43 v) (h : DataW.Trod enc Try.prog W base spare held 43 v d ps) : Opened W eInt I64 v := by
  have hu : Try.prog.underlying 43 = some (.slice 3) := by kernel_rfl
  obtain ⟨fuel, hf⟩ := h
  simp only [Value.okWide, hu] at hv
  have hcs : v.cells.toList = [v] := by
    obtain ⟨a, l, c, rfl⟩ : ∃ a l c, v = .slice a l c := by
      simp only [Cell.okWide, hu, Cell.ok] at hv
      cases v <;> simp_all
    rfl
  rw [hcs] at hf
  exact open_row hu (by kernel_rfl) elem_i64 hv hf
end Go.Proofs.Ythbaccmhdffjdaa.Ev


set_option linter.unusedVariables false
set_option linter.unusedSimpArgs false
set_option maxRecDepth 100000
namespace Go.Proofs.Ythbaccmhdffjdaa.Ev
open Go Go.RowKit Go.ChangeShapes Go.WideShapes
def fieldsOf (P : Program) (t : TypeId) : Array Field := match P.underlying t with
  | some (.struct fs) => fs
  | _ => #[]
section
variable {H : Type} {enc : TypeId × Value → H} {P : Program} {W : World} {base : Nat} {spare : Nat → Bool} {held : Bool}
theorem field_of {fs : Array Field} {i o c : Nat} {d : TypeDesc} (h : (fs[i]?).map (fun f => (f.offset, P.cellsOf f.type)) = some (o, c)) (hd : (fs[i]?).bind (fun f => P.underlying f.type) = some d) :
    ∃ f, fs[i]? = some f ∧ f.offset = o ∧ P.cellsOf f.type = c ∧ P.underlying f.type = some d := by
  cases hf : fs[i]? with
  | none => rw [hf] at h; simp at h
  | some f =>
    rw [hf] at h hd
    simp at h hd
    exact ⟨f, rfl, h.1, h.2, hd⟩
theorem xs_get {α : Type} {xs : List α} {i : Nat} (h : i < xs.length) : ∃ y, xs[i]? = some y := ⟨xs[i], List.getElem?_eq_getElem h⟩
end
/-- A struct of a number and four slices of numbers. -/
theorem open_tree {H : Type} {enc : TypeId × Value → H} {W : World} {base : Nat} {spare : Nat → Bool} {held : Bool} {r : Reach} {b0 : Nat} {v : Value} {d : DataW H} {ps : List MemPlace} (hv : Value.okWide Try.prog W r b0 55 v) (h : DataW.Trod enc Try.prog W base spare held 55 v d ps) :
    ∃ (cl : Int) (a1 a2 a3 a4 : Value), v = .agg #[.int .i64 cl, a1, a2, a3, a4] ∧ Opened W eInt I64 a1 ∧ Opened W eInt I64 a2 ∧ Opened W eInt I64 a3 ∧ Opened W eInt I64 a4 := by
  have hu : Try.prog.underlying 55 = some (.struct (fieldsOf Try.prog 55)) := by kernel_rfl
  obtain ⟨fuel, hf⟩ := h
  simp only [Value.okWide, hu] at hv
  obtain ⟨⟨l⟩, rfl, hs, ts, ht1, _, ht2⟩ := hv
  have hl5 : l.length = 5 := by
    have : Try.prog.cellsOf 55 = 5 := by kernel_rfl
    rw [this] at hs
    simpa using hs
  have hct : Try.prog.cellTypes Try.prog.depth 55 = some [3, 43, 43, 43, 43] := by kernel_rfl
  rw [hct] at ht1
  injection ht1 with ht1
  subst ht1
  obtain ⟨xs, k, _, _, hl, hlen, hf⟩ := DataW.trod_struct (P := Try.prog) hu hf
  have hx5 : xs.length = 5 := by rw [hlen]; kernel_rfl
  have hsl : Try.prog.underlying 43 = some (.slice 3) := by kernel_rfl
  obtain ⟨f0, e0, o0, c0, u0⟩ := field_of (P := Try.prog) (fs := fieldsOf Try.prog 55) (i := 0) (o := 0) (c := 1) (d := .int .i64) (by kernel_rfl) (by kernel_rfl)
  obtain ⟨f1, e1, o1, c1, u1⟩ := field_of (P := Try.prog) (fs := fieldsOf Try.prog 55) (i := 1) (o := 1) (c := 1) (d := .slice 3) (by kernel_rfl) (by kernel_rfl)
  obtain ⟨f2, e2, o2, c2, u2⟩ := field_of (P := Try.prog) (fs := fieldsOf Try.prog 55) (i := 2) (o := 2) (c := 1) (d := .slice 3) (by kernel_rfl) (by kernel_rfl)
  obtain ⟨f3, e3, o3, c3, u3⟩ := field_of (P := Try.prog) (fs := fieldsOf Try.prog 55) (i := 3) (o := 3) (c := 1) (d := .slice 3) (by kernel_rfl) (by kernel_rfl)
  obtain ⟨f4, e4, o4, c4, u4⟩ := field_of (P := Try.prog) (fs := fieldsOf Try.prog 55) (i := 4) (o := 4) (c := 1) (d := .slice 3) (by kernel_rfl) (by kernel_rfl)
  have g0 := hf 0 f0 e0
  have g1 := hf 1 f1 e1
  have g2 := hf 2 f2 e2
  have g3 := hf 3 f3 e3
  have g4 := hf 4 f4 e4
  obtain ⟨y0, hy0⟩ := xs_get (xs := xs) (i := 0) (by omega)
  obtain ⟨y1, hy1⟩ := xs_get (xs := xs) (i := 1) (by omega)
  obtain ⟨y2, hy2⟩ := xs_get (xs := xs) (i := 2) (by omega)
  obtain ⟨y3, hy3⟩ := xs_get (xs := xs) (i := 3) (by omega)
  obtain ⟨y4, hy4⟩ := xs_get (xs := xs) (i := 4) (by omega)
  rw [o0, c0, hy0] at g0
  rw [o1, c1, hy1] at g1
  rw [o2, c2, hy2] at g2
  rw [o3, c3, hy3] at g3
  rw [o4, c4, hy4] at g4
  match l, hl5 with
  | [p0, p1, p2, p3, p4], _ =>
    obtain ⟨cl, q0, _, _⟩ := DataW.trod_int u0 g0
    have q1 : [p0] = [Value.int .i64 cl] := q0
    injection q1 with q1 _
    subst q1
    obtain ⟨t1, hq1, w1⟩ := ht2 1 p1 rfl
    simp at hq1
    subst hq1
    obtain ⟨t2, hq2, w2⟩ := ht2 2 p2 rfl
    simp at hq2
    subst hq2
    obtain ⟨t3, hq3, w3⟩ := ht2 3 p3 rfl
    simp at hq3
    subst hq3
    obtain ⟨t4, hq4, w4⟩ := ht2 4 p4 rfl
    simp at hq4
    subst hq4
    have hcell : ∀ (x : Value) (ft : TypeId), Try.prog.underlying ft = some (.slice 3) → Cell.okWide Try.prog W r b0 43 x → Cell.okWide Try.prog W r b0 ft x := by
      intro x ft hft hx
      simp only [Cell.okWide, hsl, hft, Cell.ok] at hx ⊢
      exact hx
    exact ⟨cl, p1, p2, p3, p4, rfl, open_row u1 (by kernel_rfl) elem_i64 (hcell p1 _ u1 w1) g1, open_row u2 (by kernel_rfl) elem_i64 (hcell p2 _ u2 w2) g2, open_row u3 (by kernel_rfl) elem_i64 (hcell p3 _ u3 w3) g3, open_row u4 (by kernel_rfl) elem_i64 (hcell p4 _ u4 w4) g4⟩
end Go.Proofs.Ythbaccmhdffjdaa.Ev


namespace Go.Proofs.Ythbaccmhdffjdaa.leavesTellRow
open Go.ChangeShapes Go.WideShapes Go.ChangeAt Go.RowKit
open Go.ChangeMaps (open_string shut_string)
set_option linter.unusedVariables false
theorem own : ownKnob Try.prog.godebug = none := by kernel_rfl
theorem laidOut : laidOutB Try.prog = true := by kernel_rfl
set_option maxHeartbeats 4000000 in
set_option maxRecDepth 100000 in
theorem lifted (os : Os) (started : os.Started) (H : Type) (enc : TypeId × Value → H) :
    ReturnsInHanded {} Try.checked os 7 .any (Rows.leavesTellSpec.pre6 enc Try.prog Try.f7 Rows.leavesTellRow.domain false) (Rows.leavesTellSpec.post enc Try.prog Try.f7 false true false false) := by
  refine returnsInHanded_of_change_sized (C := Try.checked) own started (by kernel_rfl) Try.func7
    (ChangeSpec.witness6 (enc := enc) (C := Try.checked) false ⟨#[], #[.slice none 0 0, .agg #[.int .i64 0, .slice none 0 0, .slice none 0 0, .slice none 0 0, .slice none 0 0], .agg #[.int .i64 0, .int .i64 0, .int .i64 0, .int .i64 0, .int .i64 0, .int .i64 0, .int .i64 0, .int .i64 0, .int .i64 0, .int .i64 0], .bool false], []⟩ 8 (by kernel_rfl) (by kernel_rfl) (by kernel_rfl) (by kernel_rfl)) ?_
  intro W base args ds gs before hval0 hW hcnd hsz0 _
  have hsz : (DataW.weightsEach Try.prog (Try.f7.params.toList ++ Rows.leavesTellSpec.plain.varTypes Try.prog) (ds ++ gs)).all (· ≤ reachBytes) = true := hsz0
  have hval : ∀ (j : Nat) t v, Try.f7.params[j]? = some t → args[j]? = some v → Value.okWide Try.prog W .any base t v := hval0
  have hW' := hW
  obtain ⟨p, q, hA0, hV, rfl, hfz, hnd⟩ := hW
  have hA : DataW.TrodAll enc Try.prog W 0 (fun _ => true) true Try.f7.params.toList args.toList ds p := hA0
  rw [Try.params7] at hA hval hsz
  obtain ⟨v0, vs0, d0, ds0, p0, q0, hargs, rfl, rfl, h0, r0⟩ := trodAll_cons hA
  obtain ⟨v1, vs1, d1, ds1, p1, q1, rfl, rfl, rfl, h1, r1⟩ := trodAll_cons r0
  obtain ⟨v2, vs2, d2, ds2, p2, q2, rfl, rfl, rfl, h2, r2⟩ := trodAll_cons r1
  obtain ⟨v3, vs3, d3, ds3, p3, q3, rfl, rfl, rfl, h3, r3⟩ := trodAll_cons r2
  obtain ⟨rfl, rfl, rfl⟩ := trodAll_nil r3
  obtain rfl : args = #[v0, v1, v2, v3] := by cases args; simp_all
  obtain ⟨rfl, rfl⟩ := trodVars_none hV
  have k0 := h0
  have lt0 : ∀ x ∈ p0, x.block < W.heap.size := by obtain ⟨m, hm⟩ := k0; exact DataW.trod_lt m _ _ _ hm
  have w0 := Ev.open_words (hval 0 45 v0 rfl rfl) h0
  have k1 := h1
  have lt1 : ∀ x ∈ p1, x.block < W.heap.size := by obtain ⟨m, hm⟩ := k1; exact DataW.trod_lt m _ _ _ hm
  obtain ⟨t1y0, t1y1, t1y2, t1y3, t1y4, rfl, w1y1, w1y2, w1y3, w1y4⟩ := Ev.open_tree (hval 1 55 v1 rfl rfl) h1
  have k2 := h2
  have lt2 : ∀ x ∈ p2, x.block < W.heap.size := by obtain ⟨m, hm⟩ := k2; exact DataW.trod_lt m _ _ _ hm
  obtain ⟨x2y0, x2y1, x2y2, x2y3, x2y4, x2y5, x2y6, x2y7, x2y8, x2y9, rfl, w2⟩ := OpenAgg.open_box (hval 2 25 v2 rfl rfl)
  obtain ⟨a3, rfl, rfl, rfl⟩ := open_bool Try.underlying4 (hval 3 4 v3 rfl rfl) h3
  clear hA0 hval0 hsz0 hsz
  refine (WkLeavesTell.walk W v0 w0 t1y0 t1y1 t1y2 t1y3 t1y4 w1y1 w1y2 w1y3 w1y4 x2y0 x2y1 x2y2 x2y3 x2y4 x2y5 x2y6 x2y7 x2y8 x2y9 w2 a3).mono fun e W' ⟨he, bel⟩ => ?_
  subst he
  exact ⟨_, rfl, _, _, _, [], _, [], hW', trodAll_mk1 (shut_bool Try.underlying4 _), (trodAll_cons_mk (Below.trod laidOut (by kernel_rfl) (of_decide_eq_true (by kernel_rfl)) k0 bel lt0) (trodAll_cons_mk (Below.trod laidOut (by kernel_rfl) (of_decide_eq_true (by kernel_rfl)) k1 bel lt1) (trodAll_cons_mk (Below.trod laidOut (by kernel_rfl) (of_decide_eq_true (by kernel_rfl)) k2 bel lt2) (trodAll_cons_mk (shut_bool Try.underlying4 _) trodAll_mk0)))), rfl, bel.frame _, fun h => by cases h⟩
theorem over : Rows.leavesTellRow.holds Try.pinned (OpenSpec.ofChange Rows.leavesTellSpec) :=
  OpenClaim.holds_of_wide 7 Try.f7 rfl rfl rfl rfl rfl rfl rfl ⟨rfl, rfl, rfl, rfl, rfl⟩ rfl rfl rfl rfl rfl (by kernel_rfl) Try.func7 (by kernel_rfl)
    (of_decide_eq_true (by kernel_rfl)) (by unfold Func.isWrapper; first | (rw [if_pos (by decide +kernel)]; kernel_rfl) | (rw [if_neg (by decide +kernel)]; exact ⟨rfl, rfl⟩))
    (fun os started H enc _ => lifted os started H enc)
end Go.Proofs.Ythbaccmhdffjdaa.leavesTellRow
namespace Go.Proofs.Ythbaccmhdffjdaa
theorem leavesTell_holds : Rows.LeavesTellSaid := leavesTellRow.over
#print axioms leavesTell_holds
end Go.Proofs.Ythbaccmhdffjdaa
