/-
  The row of the law copselaw13.LeavesLess: for every input the call returns true, and each argument reads afterwards as it read before. No condition beside the form's own.
-/
import Derived.SizedLaws
import Derived.Test.YthbaccmhdffjdaaRows
import Derived.WalkKit
import Derived.ProofKit
import Derived.OpenShut
import Derived.ShutString
import Derived.ChangeOld
import Derived.Below
import Derived.Test.YthbaccmhdffjdaaLeavesLessP4
set_option linter.unusedVariables false
set_option linter.unusedSimpArgs false
set_option maxRecDepth 100000
namespace Go.Proofs.Ythbaccmhdffjdaa.Lp
open Go Go.RowKit Go.Proofs.Ythbaccmhdffjdaa.Ev Go.Proofs.Ythbaccmhdffjdaa.NodeE Go.Proofs.Ythbaccmhdffjdaa.BoxF Go.Proofs.Ythbaccmhdffjdaa.Lv Go.Proofs.Ythbaccmhdffjdaa.Tr Go.Proofs.Ythbaccmhdffjdaa.Within Go.Proofs.Ythbaccmhdffjdaa.PickE Go.Proofs.Ythbaccmhdffjdaa.Tn Go.Proofs.Ythbaccmhdffjdaa.Fo Go.Proofs.Ythbaccmhdffjdaa.Lp

theorem lpA0 (p : FP) (NI : List Nd) (b : Bx) (x : Pt) (PL : List Int → Bx → List Pc) (zt : Option Addr) (tcl : Int) (m : Nat) (W : List Int) (S : List Pc) (Q : LQ → Prop)  {E : Env} {rv : Value} {rhs : List Nat} {rhv : List Blk} (hE : EnvOK E Try.prog Try.f10 4 64 rv rhs rhv) (hL : (lpL W m b x S Q).OK 64) (hob : all ([SameK (atLp (lp Try.f10 0)) (atLp (lp Try.f10 0)), Enter (lpL W m b x S Q) 0 none [Value.slice (some (Addr.mk 144 0 none)) NI.length 1267650600228229401496703205376, Value.pointer (some (Addr.mk 184 0 none)), Value.pointer (some (Addr.mk 224 0 none)), Value.slice (some (Addr.mk 256 0 none)) (PL (eWord.list (eWord.row (List.map packN NI)) 0 NI.length) (Bx.mk b.a0 b.b0 b.a1 b.b1 b.a2 b.b2 b.a3 b.b3 b.a4 b.b4)).length 1267650600228229401496703205376, Value.int IntKind.i64 ((0 : Int)), Value.slice (some (Addr.mk 256 0 none)) (PL (eWord.list (eWord.row (List.map packN NI)) 0 NI.length) (Bx.mk b.a0 b.b0 b.a1 b.b1 b.a2 b.b2 b.a3 b.b3 b.a4 b.b4)).length 1267650600228229401496703205376, Value.int IntKind.i64 (Int.ofNat (PL (eWord.list (eWord.row (List.map packN NI)) 0 NI.length) (Bx.mk b.a0 b.b0 b.a1 b.b1 b.a2 b.b2 b.a3 b.b3 b.a4 b.b4)).length), Value.int IntKind.i64 ((0 : Int))] [Blk.vec (eWord.row (List.map packN NI)) 83 1, Blk.cells [Value.int IntKind.i64 b.a0, Value.int IntKind.i64 b.b0, Value.int IntKind.i64 b.a1, Value.int IntKind.i64 b.b1, Value.int IntKind.i64 b.a2, Value.int IntKind.i64 b.b2, Value.int IntKind.i64 b.a3, Value.int IntKind.i64 b.b3, Value.int IntKind.i64 b.a4, Value.int IntKind.i64 b.b4] 25, Blk.cells [Value.int IntKind.i64 x.p0, Value.int IntKind.i64 x.p1, Value.int IntKind.i64 x.p2, Value.int IntKind.i64 x.p3] 72, Blk.vec (ePc.row (PL (eWord.list (eWord.row (List.map packN NI)) 0 NI.length) (Bx.mk b.a0 b.b0 b.a1 b.b1 b.a2 b.b2 b.a3 b.b3 b.a4 b.b4))) 27 11] [(80, 144), (81, 184), (82, 224), (83, 256), (83, 256)], plainR [eWord.row (List.map packN NI)], PL = listP, PL (eWord.list (eWord.row (List.map packN NI)) 0 NI.length) (Bx.mk b.a0 b.b0 b.a1 b.b1 b.a2 b.b2 b.a3 b.b3 b.a4 b.b4) ≠ [], eWord.Row (eWord.row (List.map packN NI)) 0 NI.length, ∀ (w : Int), w ∈ eWord.list (eWord.row (List.map packN NI)) 0 NI.length → U64 w, NI.length ≤ 65536, (Bx.mk b.a0 b.b0 b.a1 b.b1 b.a2 b.b2 b.a3 b.b3 b.a4 b.b4).I64s, InsOK x 19 [Value.agg (Array.mk [Value.int IntKind.i64 b.a0, Value.int IntKind.i64 b.b0, Value.int IntKind.i64 b.a1, Value.int IntKind.i64 b.b1, Value.int IntKind.i64 b.a2, Value.int IntKind.i64 b.b2, Value.int IntKind.i64 b.a3, Value.int IntKind.i64 b.b3, Value.int IntKind.i64 b.a4, Value.int IntKind.i64 b.b4]), Value.slice (p.z 19) (p.m 19) (p.c 19)] (some (Blk.ro (p.R 19))), RegOK b 18 [Value.agg (Array.mk [Value.int IntKind.i64 p.dim, Value.int IntKind.i64 p.cls, Value.int IntKind.i64 p.b0, Value.int IntKind.i64 p.b1, Value.int IntKind.i64 p.b2, Value.slice none 0 0]), Value.slice (p.z 18) (p.m 18) (p.c 18)] (some (Blk.ro (p.R 18))), NodesAt NI 20 [Value.int IntKind.i64 tcl, Value.slice (p.z 20) (p.m 20) (p.c 20), Value.slice (p.z 21) (p.m 21) (p.c 21), Value.slice (p.z 22) (p.m 22) (p.c 22), Value.slice (p.z 23) (p.m 23) (p.c 23)] p.dim (some (Blk.ro (p.R 20))) (some (Blk.ro (p.R 21))) (some (Blk.ro (p.R 22))) (some (Blk.ro (p.R 23))), ModOK p 0 [Value.agg (Array.mk [Value.int IntKind.i64 p.d, Value.int IntKind.i64 p.cl, Value.slice (p.z 1) (p.m 1) (p.c 1), Value.slice zt p.n p.ct])] [some (Blk.ro p.cs0), some (Blk.ro (p.R 1)), some (Blk.ro (p.R 2)), some (Blk.ro (p.R 3)), some (Blk.ro (p.R 4)), some (Blk.ro (p.R 5)), some (Blk.ro (p.R 6)), some (Blk.ro (p.R 7)), some (Blk.ro (p.R 8)), some (Blk.ro (p.R 9)), some (Blk.ro (p.R 10)), some (Blk.ro (p.R 11)), some (Blk.ro (p.R 12)), some (Blk.ro (p.R 13)), some (Blk.ro (p.R 14)), some (Blk.ro (p.R 15)), some (Blk.ro (p.R 16)), some (Blk.ro (p.R 17))]])) (hK : ∀ zz, (lpL W m b x S Q).inv 0 zz → ltO ((lpL W m b x S Q).mu 0 zz) none → Sat E (atLp (lp Try.f10 0)) ((lpL W m b x S Q).st 0 zz)) : Sat E [.code (bodyOf Try.f10)] (st0 Try.f10 [.agg ⟨[.int .i64 tcl, .slice (p.z 20) (p.m 20) (p.c 20), .slice (p.z 21) (p.m 21) (p.c 21), .slice (p.z 22) (p.m 22) (p.c 22), .slice (p.z 23) (p.m 23) (p.c 23)]⟩, .agg ⟨p.fcs zt⟩, .slice (p.z 18) (p.m 18) (p.c 18), .slice (p.z 19) (p.m 19) (p.c 19)] (roRows [p.cs0, p.R 1, p.R 2, p.R 3, p.R 4, p.R 5, p.R 6, p.R 7, p.R 8, p.R 9, p.R 10, p.R 11, p.R 12, p.R 13, p.R 14, p.R 15, p.R 16, p.R 17, p.R 18, p.R 19, p.R 20, p.R 21, p.R 22, p.R 23]) 64) :=
  by_to (T := auto0 (t_lp p 0 NI b x PL)) (h := hints []) (ws := [.stop]) (i0 := ⟨0, 0⟩) hE hm (auto0_ok (t_lp_ok p 0 NI b x PL)) hL (by kernel_rfl) hob hK
theorem lpA1 (p : FP) (NI : List Nd) (b : Bx) (x : Pt) (PL : List Int → Bx → List Pc) (zt : Option Addr) (tcl : Int) (m : Nat) (W : List Int) (S : List Pc) (Q : LQ → Prop)  {E : Env} {rv : Value} {rhs : List Nat} {rhv : List Blk} (hE : EnvOK E Try.prog Try.f10 4 64 rv rhs rhv) (hL : (lpL W m b x S Q).OK 64) (hob : all ([SameK (atLp (lp Try.f10 0)) (atLp (lp Try.f10 0)), Enter (lpL W m b x S Q) 0 none [Value.slice (some (Addr.mk 144 0 none)) NI.length 1267650600228229401496703205376, Value.pointer (some (Addr.mk 184 0 none)), Value.pointer (some (Addr.mk 224 0 none)), Value.slice (some (Addr.mk 256 0 none)) (PL (eWord.list (eWord.row (List.map packN NI)) 0 NI.length) (Bx.mk b.a0 b.b0 b.a1 b.b1 b.a2 b.b2 b.a3 b.b3 b.a4 b.b4)).length 1267650600228229401496703205376, Value.int IntKind.i64 ((0 : Int)), Value.slice (some (Addr.mk 256 0 none)) (PL (eWord.list (eWord.row (List.map packN NI)) 0 NI.length) (Bx.mk b.a0 b.b0 b.a1 b.b1 b.a2 b.b2 b.a3 b.b3 b.a4 b.b4)).length 1267650600228229401496703205376, Value.int IntKind.i64 (Int.ofNat (PL (eWord.list (eWord.row (List.map packN NI)) 0 NI.length) (Bx.mk b.a0 b.b0 b.a1 b.b1 b.a2 b.b2 b.a3 b.b3 b.a4 b.b4)).length), Value.int IntKind.i64 ((0 : Int))] [Blk.vec (eWord.row (List.map packN NI)) 83 1, Blk.cells [Value.int IntKind.i64 b.a0, Value.int IntKind.i64 b.b0, Value.int IntKind.i64 b.a1, Value.int IntKind.i64 b.b1, Value.int IntKind.i64 b.a2, Value.int IntKind.i64 b.b2, Value.int IntKind.i64 b.a3, Value.int IntKind.i64 b.b3, Value.int IntKind.i64 b.a4, Value.int IntKind.i64 b.b4] 25, Blk.cells [Value.int IntKind.i64 x.p0, Value.int IntKind.i64 x.p1, Value.int IntKind.i64 x.p2, Value.int IntKind.i64 x.p3] 72, Blk.vec (ePc.row (PL (eWord.list (eWord.row (List.map packN NI)) 0 NI.length) (Bx.mk b.a0 b.b0 b.a1 b.b1 b.a2 b.b2 b.a3 b.b3 b.a4 b.b4))) 27 11] [(80, 144), (81, 184), (82, 224), (83, 256), (83, 256)], plainR [eWord.row (List.map packN NI)], PL = listP, PL (eWord.list (eWord.row (List.map packN NI)) 0 NI.length) (Bx.mk b.a0 b.b0 b.a1 b.b1 b.a2 b.b2 b.a3 b.b3 b.a4 b.b4) ≠ [], eWord.Row (eWord.row (List.map packN NI)) 0 NI.length, ∀ (w : Int), w ∈ eWord.list (eWord.row (List.map packN NI)) 0 NI.length → U64 w, NI.length ≤ 65536, (Bx.mk b.a0 b.b0 b.a1 b.b1 b.a2 b.b2 b.a3 b.b3 b.a4 b.b4).I64s, InsOK x 19 [Value.agg (Array.mk [Value.int IntKind.i64 b.a0, Value.int IntKind.i64 b.b0, Value.int IntKind.i64 b.a1, Value.int IntKind.i64 b.b1, Value.int IntKind.i64 b.a2, Value.int IntKind.i64 b.b2, Value.int IntKind.i64 b.a3, Value.int IntKind.i64 b.b3, Value.int IntKind.i64 b.a4, Value.int IntKind.i64 b.b4]), Value.slice (p.z 19) (p.m 19) (p.c 19)] (some (Blk.ro (p.R 19))), RegOK b 18 [Value.agg (Array.mk [Value.int IntKind.i64 p.dim, Value.int IntKind.i64 p.cls, Value.int IntKind.i64 p.b0, Value.int IntKind.i64 p.b1, Value.int IntKind.i64 p.b2, Value.slice (some (Addr.mk 96 0 none)) 1 1267650600228229401496703205376]), Value.slice (p.z 18) (p.m 18) (p.c 18)] (some (Blk.ro (p.R 18))), NodesAt NI 20 [Value.int IntKind.i64 tcl, Value.slice (p.z 20) (p.m 20) (p.c 20), Value.slice (p.z 21) (p.m 21) (p.c 21), Value.slice (p.z 22) (p.m 22) (p.c 22), Value.slice (p.z 23) (p.m 23) (p.c 23)] p.dim (some (Blk.ro (p.R 20))) (some (Blk.ro (p.R 21))) (some (Blk.ro (p.R 22))) (some (Blk.ro (p.R 23))), ModOK p 1 [Value.agg (Array.mk [Value.int IntKind.i64 p.d, Value.int IntKind.i64 p.cl, Value.slice (p.z 1) (p.m 1) (p.c 1), Value.slice zt p.n p.ct])] [some (Blk.ro p.cs0), some (Blk.ro (p.R 1)), some (Blk.ro (p.R 2)), some (Blk.ro (p.R 3)), some (Blk.ro (p.R 4)), some (Blk.ro (p.R 5)), some (Blk.ro (p.R 6)), some (Blk.ro (p.R 7)), some (Blk.ro (p.R 8)), some (Blk.ro (p.R 9)), some (Blk.ro (p.R 10)), some (Blk.ro (p.R 11)), some (Blk.ro (p.R 12)), some (Blk.ro (p.R 13)), some (Blk.ro (p.R 14)), some (Blk.ro (p.R 15)), some (Blk.ro (p.R 16)), some (Blk.ro (p.R 17))]])) (hK : ∀ zz, (lpL W m b x S Q).inv 0 zz → ltO ((lpL W m b x S Q).mu 0 zz) none → Sat E (atLp (lp Try.f10 0)) ((lpL W m b x S Q).st 0 zz)) : Sat E [.code (bodyOf Try.f10)] (st0 Try.f10 [.agg ⟨[.int .i64 tcl, .slice (p.z 20) (p.m 20) (p.c 20), .slice (p.z 21) (p.m 21) (p.c 21), .slice (p.z 22) (p.m 22) (p.c 22), .slice (p.z 23) (p.m 23) (p.c 23)]⟩, .agg ⟨p.fcs zt⟩, .slice (p.z 18) (p.m 18) (p.c 18), .slice (p.z 19) (p.m 19) (p.c 19)] (roRows [p.cs0, p.R 1, p.R 2, p.R 3, p.R 4, p.R 5, p.R 6, p.R 7, p.R 8, p.R 9, p.R 10, p.R 11, p.R 12, p.R 13, p.R 14, p.R 15, p.R 16, p.R 17, p.R 18, p.R 19, p.R 20, p.R 21, p.R 22, p.R 23]) 64) :=
  by_to (T := auto0 (t_lp p 1 NI b x PL)) (h := hints []) (ws := [.stop]) (i0 := ⟨0, 0⟩) hE hm (auto0_ok (t_lp_ok p 1 NI b x PL)) hL (by kernel_rfl) hob hK
theorem lpA2 (p : FP) (NI : List Nd) (b : Bx) (x : Pt) (PL : List Int → Bx → List Pc) (zt : Option Addr) (tcl : Int) (m : Nat) (W : List Int) (S : List Pc) (Q : LQ → Prop)  {E : Env} {rv : Value} {rhs : List Nat} {rhv : List Blk} (hE : EnvOK E Try.prog Try.f10 4 64 rv rhs rhv) (hL : (lpL W m b x S Q).OK 64) (hob : all ([SameK (atLp (lp Try.f10 0)) (atLp (lp Try.f10 0)), Enter (lpL W m b x S Q) 0 none [Value.slice (some (Addr.mk 144 0 none)) NI.length 1267650600228229401496703205376, Value.pointer (some (Addr.mk 184 0 none)), Value.pointer (some (Addr.mk 224 0 none)), Value.slice (some (Addr.mk 256 0 none)) (PL (eWord.list (eWord.row (List.map packN NI)) 0 NI.length) (Bx.mk b.a0 b.b0 b.a1 b.b1 b.a2 b.b2 b.a3 b.b3 b.a4 b.b4)).length 1267650600228229401496703205376, Value.int IntKind.i64 ((0 : Int)), Value.slice (some (Addr.mk 256 0 none)) (PL (eWord.list (eWord.row (List.map packN NI)) 0 NI.length) (Bx.mk b.a0 b.b0 b.a1 b.b1 b.a2 b.b2 b.a3 b.b3 b.a4 b.b4)).length 1267650600228229401496703205376, Value.int IntKind.i64 (Int.ofNat (PL (eWord.list (eWord.row (List.map packN NI)) 0 NI.length) (Bx.mk b.a0 b.b0 b.a1 b.b1 b.a2 b.b2 b.a3 b.b3 b.a4 b.b4)).length), Value.int IntKind.i64 ((0 : Int))] [Blk.vec (eWord.row (List.map packN NI)) 83 1, Blk.cells [Value.int IntKind.i64 b.a0, Value.int IntKind.i64 b.b0, Value.int IntKind.i64 b.a1, Value.int IntKind.i64 b.b1, Value.int IntKind.i64 b.a2, Value.int IntKind.i64 b.b2, Value.int IntKind.i64 b.a3, Value.int IntKind.i64 b.b3, Value.int IntKind.i64 b.a4, Value.int IntKind.i64 b.b4] 25, Blk.cells [Value.int IntKind.i64 x.p0, Value.int IntKind.i64 x.p1, Value.int IntKind.i64 x.p2, Value.int IntKind.i64 x.p3] 72, Blk.vec (ePc.row (PL (eWord.list (eWord.row (List.map packN NI)) 0 NI.length) (Bx.mk b.a0 b.b0 b.a1 b.b1 b.a2 b.b2 b.a3 b.b3 b.a4 b.b4))) 27 11] [(80, 144), (81, 184), (82, 224), (83, 256), (83, 256)], plainR [eWord.row (List.map packN NI)], PL = listP, PL (eWord.list (eWord.row (List.map packN NI)) 0 NI.length) (Bx.mk b.a0 b.b0 b.a1 b.b1 b.a2 b.b2 b.a3 b.b3 b.a4 b.b4) ≠ [], eWord.Row (eWord.row (List.map packN NI)) 0 NI.length, ∀ (w : Int), w ∈ eWord.list (eWord.row (List.map packN NI)) 0 NI.length → U64 w, NI.length ≤ 65536, (Bx.mk b.a0 b.b0 b.a1 b.b1 b.a2 b.b2 b.a3 b.b3 b.a4 b.b4).I64s, InsOK x 19 [Value.agg (Array.mk [Value.int IntKind.i64 b.a0, Value.int IntKind.i64 b.b0, Value.int IntKind.i64 b.a1, Value.int IntKind.i64 b.b1, Value.int IntKind.i64 b.a2, Value.int IntKind.i64 b.b2, Value.int IntKind.i64 b.a3, Value.int IntKind.i64 b.b3, Value.int IntKind.i64 b.a4, Value.int IntKind.i64 b.b4]), Value.slice (p.z 19) (p.m 19) (p.c 19)] (some (Blk.ro (p.R 19))), RegOK b 18 [Value.agg (Array.mk [Value.int IntKind.i64 p.dim, Value.int IntKind.i64 p.cls, Value.int IntKind.i64 p.b0, Value.int IntKind.i64 p.b1, Value.int IntKind.i64 p.b2, Value.slice (some (Addr.mk 96 0 none)) 2 1267650600228229401496703205376]), Value.slice (p.z 18) (p.m 18) (p.c 18)] (some (Blk.ro (p.R 18))), NodesAt NI 20 [Value.int IntKind.i64 tcl, Value.slice (p.z 20) (p.m 20) (p.c 20), Value.slice (p.z 21) (p.m 21) (p.c 21), Value.slice (p.z 22) (p.m 22) (p.c 22), Value.slice (p.z 23) (p.m 23) (p.c 23)] p.dim (some (Blk.ro (p.R 20))) (some (Blk.ro (p.R 21))) (some (Blk.ro (p.R 22))) (some (Blk.ro (p.R 23))), ModOK p 2 [Value.agg (Array.mk [Value.int IntKind.i64 p.d, Value.int IntKind.i64 p.cl, Value.slice (p.z 1) (p.m 1) (p.c 1), Value.slice zt p.n p.ct])] [some (Blk.ro p.cs0), some (Blk.ro (p.R 1)), some (Blk.ro (p.R 2)), some (Blk.ro (p.R 3)), some (Blk.ro (p.R 4)), some (Blk.ro (p.R 5)), some (Blk.ro (p.R 6)), some (Blk.ro (p.R 7)), some (Blk.ro (p.R 8)), some (Blk.ro (p.R 9)), some (Blk.ro (p.R 10)), some (Blk.ro (p.R 11)), some (Blk.ro (p.R 12)), some (Blk.ro (p.R 13)), some (Blk.ro (p.R 14)), some (Blk.ro (p.R 15)), some (Blk.ro (p.R 16)), some (Blk.ro (p.R 17))]])) (hK : ∀ zz, (lpL W m b x S Q).inv 0 zz → ltO ((lpL W m b x S Q).mu 0 zz) none → Sat E (atLp (lp Try.f10 0)) ((lpL W m b x S Q).st 0 zz)) : Sat E [.code (bodyOf Try.f10)] (st0 Try.f10 [.agg ⟨[.int .i64 tcl, .slice (p.z 20) (p.m 20) (p.c 20), .slice (p.z 21) (p.m 21) (p.c 21), .slice (p.z 22) (p.m 22) (p.c 22), .slice (p.z 23) (p.m 23) (p.c 23)]⟩, .agg ⟨p.fcs zt⟩, .slice (p.z 18) (p.m 18) (p.c 18), .slice (p.z 19) (p.m 19) (p.c 19)] (roRows [p.cs0, p.R 1, p.R 2, p.R 3, p.R 4, p.R 5, p.R 6, p.R 7, p.R 8, p.R 9, p.R 10, p.R 11, p.R 12, p.R 13, p.R 14, p.R 15, p.R 16, p.R 17, p.R 18, p.R 19, p.R 20, p.R 21, p.R 22, p.R 23]) 64) :=
  by_to (T := auto0 (t_lp p 2 NI b x PL)) (h := hints []) (ws := [.stop]) (i0 := ⟨0, 0⟩) hE hm (auto0_ok (t_lp_ok p 2 NI b x PL)) hL (by kernel_rfl) hob hK
theorem lpA3 (p : FP) (NI : List Nd) (b : Bx) (x : Pt) (PL : List Int → Bx → List Pc) (zt : Option Addr) (tcl : Int) (m : Nat) (W : List Int) (S : List Pc) (Q : LQ → Prop)  {E : Env} {rv : Value} {rhs : List Nat} {rhv : List Blk} (hE : EnvOK E Try.prog Try.f10 4 64 rv rhs rhv) (hL : (lpL W m b x S Q).OK 64) (hob : all ([SameK (atLp (lp Try.f10 0)) (atLp (lp Try.f10 0)), Enter (lpL W m b x S Q) 0 none [Value.slice (some (Addr.mk 144 0 none)) NI.length 1267650600228229401496703205376, Value.pointer (some (Addr.mk 184 0 none)), Value.pointer (some (Addr.mk 224 0 none)), Value.slice (some (Addr.mk 256 0 none)) (PL (eWord.list (eWord.row (List.map packN NI)) 0 NI.length) (Bx.mk b.a0 b.b0 b.a1 b.b1 b.a2 b.b2 b.a3 b.b3 b.a4 b.b4)).length 1267650600228229401496703205376, Value.int IntKind.i64 ((0 : Int)), Value.slice (some (Addr.mk 256 0 none)) (PL (eWord.list (eWord.row (List.map packN NI)) 0 NI.length) (Bx.mk b.a0 b.b0 b.a1 b.b1 b.a2 b.b2 b.a3 b.b3 b.a4 b.b4)).length 1267650600228229401496703205376, Value.int IntKind.i64 (Int.ofNat (PL (eWord.list (eWord.row (List.map packN NI)) 0 NI.length) (Bx.mk b.a0 b.b0 b.a1 b.b1 b.a2 b.b2 b.a3 b.b3 b.a4 b.b4)).length), Value.int IntKind.i64 ((0 : Int))] [Blk.vec (eWord.row (List.map packN NI)) 83 1, Blk.cells [Value.int IntKind.i64 b.a0, Value.int IntKind.i64 b.b0, Value.int IntKind.i64 b.a1, Value.int IntKind.i64 b.b1, Value.int IntKind.i64 b.a2, Value.int IntKind.i64 b.b2, Value.int IntKind.i64 b.a3, Value.int IntKind.i64 b.b3, Value.int IntKind.i64 b.a4, Value.int IntKind.i64 b.b4] 25, Blk.cells [Value.int IntKind.i64 x.p0, Value.int IntKind.i64 x.p1, Value.int IntKind.i64 x.p2, Value.int IntKind.i64 x.p3] 72, Blk.vec (ePc.row (PL (eWord.list (eWord.row (List.map packN NI)) 0 NI.length) (Bx.mk b.a0 b.b0 b.a1 b.b1 b.a2 b.b2 b.a3 b.b3 b.a4 b.b4))) 27 11] [(80, 144), (81, 184), (82, 224), (83, 256), (83, 256)], plainR [eWord.row (List.map packN NI)], PL = listP, PL (eWord.list (eWord.row (List.map packN NI)) 0 NI.length) (Bx.mk b.a0 b.b0 b.a1 b.b1 b.a2 b.b2 b.a3 b.b3 b.a4 b.b4) ≠ [], eWord.Row (eWord.row (List.map packN NI)) 0 NI.length, ∀ (w : Int), w ∈ eWord.list (eWord.row (List.map packN NI)) 0 NI.length → U64 w, NI.length ≤ 65536, (Bx.mk b.a0 b.b0 b.a1 b.b1 b.a2 b.b2 b.a3 b.b3 b.a4 b.b4).I64s, InsOK x 19 [Value.agg (Array.mk [Value.int IntKind.i64 b.a0, Value.int IntKind.i64 b.b0, Value.int IntKind.i64 b.a1, Value.int IntKind.i64 b.b1, Value.int IntKind.i64 b.a2, Value.int IntKind.i64 b.b2, Value.int IntKind.i64 b.a3, Value.int IntKind.i64 b.b3, Value.int IntKind.i64 b.a4, Value.int IntKind.i64 b.b4]), Value.slice (p.z 19) (p.m 19) (p.c 19)] (some (Blk.ro (p.R 19))), RegOK b 18 [Value.agg (Array.mk [Value.int IntKind.i64 p.dim, Value.int IntKind.i64 p.cls, Value.int IntKind.i64 p.b0, Value.int IntKind.i64 p.b1, Value.int IntKind.i64 p.b2, Value.slice (some (Addr.mk 96 0 none)) 3 1267650600228229401496703205376]), Value.slice (p.z 18) (p.m 18) (p.c 18)] (some (Blk.ro (p.R 18))), NodesAt NI 20 [Value.int IntKind.i64 tcl, Value.slice (p.z 20) (p.m 20) (p.c 20), Value.slice (p.z 21) (p.m 21) (p.c 21), Value.slice (p.z 22) (p.m 22) (p.c 22), Value.slice (p.z 23) (p.m 23) (p.c 23)] p.dim (some (Blk.ro (p.R 20))) (some (Blk.ro (p.R 21))) (some (Blk.ro (p.R 22))) (some (Blk.ro (p.R 23))), ModOK p 3 [Value.agg (Array.mk [Value.int IntKind.i64 p.d, Value.int IntKind.i64 p.cl, Value.slice (p.z 1) (p.m 1) (p.c 1), Value.slice zt p.n p.ct])] [some (Blk.ro p.cs0), some (Blk.ro (p.R 1)), some (Blk.ro (p.R 2)), some (Blk.ro (p.R 3)), some (Blk.ro (p.R 4)), some (Blk.ro (p.R 5)), some (Blk.ro (p.R 6)), some (Blk.ro (p.R 7)), some (Blk.ro (p.R 8)), some (Blk.ro (p.R 9)), some (Blk.ro (p.R 10)), some (Blk.ro (p.R 11)), some (Blk.ro (p.R 12)), some (Blk.ro (p.R 13)), some (Blk.ro (p.R 14)), some (Blk.ro (p.R 15)), some (Blk.ro (p.R 16)), some (Blk.ro (p.R 17))]])) (hK : ∀ zz, (lpL W m b x S Q).inv 0 zz → ltO ((lpL W m b x S Q).mu 0 zz) none → Sat E (atLp (lp Try.f10 0)) ((lpL W m b x S Q).st 0 zz)) : Sat E [.code (bodyOf Try.f10)] (st0 Try.f10 [.agg ⟨[.int .i64 tcl, .slice (p.z 20) (p.m 20) (p.c 20), .slice (p.z 21) (p.m 21) (p.c 21), .slice (p.z 22) (p.m 22) (p.c 22), .slice (p.z 23) (p.m 23) (p.c 23)]⟩, .agg ⟨p.fcs zt⟩, .slice (p.z 18) (p.m 18) (p.c 18), .slice (p.z 19) (p.m 19) (p.c 19)] (roRows [p.cs0, p.R 1, p.R 2, p.R 3, p.R 4, p.R 5, p.R 6, p.R 7, p.R 8, p.R 9, p.R 10, p.R 11, p.R 12, p.R 13, p.R 14, p.R 15, p.R 16, p.R 17, p.R 18, p.R 19, p.R 20, p.R 21, p.R 22, p.R 23]) 64) :=
  by_to (T := auto0 (t_lp p 3 NI b x PL)) (h := hints []) (ws := [.stop]) (i0 := ⟨0, 0⟩) hE hm (auto0_ok (t_lp_ok p 3 NI b x PL)) hL (by kernel_rfl) hob hK
theorem lpA4 (p : FP) (NI : List Nd) (b : Bx) (x : Pt) (PL : List Int → Bx → List Pc) (zt : Option Addr) (tcl : Int) (m : Nat) (W : List Int) (S : List Pc) (Q : LQ → Prop)  {E : Env} {rv : Value} {rhs : List Nat} {rhv : List Blk} (hE : EnvOK E Try.prog Try.f10 4 64 rv rhs rhv) (hL : (lpL W m b x S Q).OK 64) (hob : all ([SameK (atLp (lp Try.f10 0)) (atLp (lp Try.f10 0)), Enter (lpL W m b x S Q) 0 none [Value.slice (some (Addr.mk 144 0 none)) NI.length 1267650600228229401496703205376, Value.pointer (some (Addr.mk 184 0 none)), Value.pointer (some (Addr.mk 224 0 none)), Value.slice (some (Addr.mk 256 0 none)) (PL (eWord.list (eWord.row (List.map packN NI)) 0 NI.length) (Bx.mk b.a0 b.b0 b.a1 b.b1 b.a2 b.b2 b.a3 b.b3 b.a4 b.b4)).length 1267650600228229401496703205376, Value.int IntKind.i64 ((0 : Int)), Value.slice (some (Addr.mk 256 0 none)) (PL (eWord.list (eWord.row (List.map packN NI)) 0 NI.length) (Bx.mk b.a0 b.b0 b.a1 b.b1 b.a2 b.b2 b.a3 b.b3 b.a4 b.b4)).length 1267650600228229401496703205376, Value.int IntKind.i64 (Int.ofNat (PL (eWord.list (eWord.row (List.map packN NI)) 0 NI.length) (Bx.mk b.a0 b.b0 b.a1 b.b1 b.a2 b.b2 b.a3 b.b3 b.a4 b.b4)).length), Value.int IntKind.i64 ((0 : Int))] [Blk.vec (eWord.row (List.map packN NI)) 83 1, Blk.cells [Value.int IntKind.i64 b.a0, Value.int IntKind.i64 b.b0, Value.int IntKind.i64 b.a1, Value.int IntKind.i64 b.b1, Value.int IntKind.i64 b.a2, Value.int IntKind.i64 b.b2, Value.int IntKind.i64 b.a3, Value.int IntKind.i64 b.b3, Value.int IntKind.i64 b.a4, Value.int IntKind.i64 b.b4] 25, Blk.cells [Value.int IntKind.i64 x.p0, Value.int IntKind.i64 x.p1, Value.int IntKind.i64 x.p2, Value.int IntKind.i64 x.p3] 72, Blk.vec (ePc.row (PL (eWord.list (eWord.row (List.map packN NI)) 0 NI.length) (Bx.mk b.a0 b.b0 b.a1 b.b1 b.a2 b.b2 b.a3 b.b3 b.a4 b.b4))) 27 11] [(80, 144), (81, 184), (82, 224), (83, 256), (83, 256)], plainR [eWord.row (List.map packN NI)], PL = listP, PL (eWord.list (eWord.row (List.map packN NI)) 0 NI.length) (Bx.mk b.a0 b.b0 b.a1 b.b1 b.a2 b.b2 b.a3 b.b3 b.a4 b.b4) ≠ [], eWord.Row (eWord.row (List.map packN NI)) 0 NI.length, ∀ (w : Int), w ∈ eWord.list (eWord.row (List.map packN NI)) 0 NI.length → U64 w, NI.length ≤ 65536, (Bx.mk b.a0 b.b0 b.a1 b.b1 b.a2 b.b2 b.a3 b.b3 b.a4 b.b4).I64s, InsOK x 19 [Value.agg (Array.mk [Value.int IntKind.i64 b.a0, Value.int IntKind.i64 b.b0, Value.int IntKind.i64 b.a1, Value.int IntKind.i64 b.b1, Value.int IntKind.i64 b.a2, Value.int IntKind.i64 b.b2, Value.int IntKind.i64 b.a3, Value.int IntKind.i64 b.b3, Value.int IntKind.i64 b.a4, Value.int IntKind.i64 b.b4]), Value.slice (p.z 19) (p.m 19) (p.c 19)] (some (Blk.ro (p.R 19))), RegOK b 18 [Value.agg (Array.mk [Value.int IntKind.i64 p.dim, Value.int IntKind.i64 p.cls, Value.int IntKind.i64 p.b0, Value.int IntKind.i64 p.b1, Value.int IntKind.i64 p.b2, Value.slice (some (Addr.mk 96 0 none)) 4 1267650600228229401496703205376]), Value.slice (p.z 18) (p.m 18) (p.c 18)] (some (Blk.ro (p.R 18))), NodesAt NI 20 [Value.int IntKind.i64 tcl, Value.slice (p.z 20) (p.m 20) (p.c 20), Value.slice (p.z 21) (p.m 21) (p.c 21), Value.slice (p.z 22) (p.m 22) (p.c 22), Value.slice (p.z 23) (p.m 23) (p.c 23)] p.dim (some (Blk.ro (p.R 20))) (some (Blk.ro (p.R 21))) (some (Blk.ro (p.R 22))) (some (Blk.ro (p.R 23))), ModOK p 4 [Value.agg (Array.mk [Value.int IntKind.i64 p.d, Value.int IntKind.i64 p.cl, Value.slice (p.z 1) (p.m 1) (p.c 1), Value.slice zt p.n p.ct])] [some (Blk.ro p.cs0), some (Blk.ro (p.R 1)), some (Blk.ro (p.R 2)), some (Blk.ro (p.R 3)), some (Blk.ro (p.R 4)), some (Blk.ro (p.R 5)), some (Blk.ro (p.R 6)), some (Blk.ro (p.R 7)), some (Blk.ro (p.R 8)), some (Blk.ro (p.R 9)), some (Blk.ro (p.R 10)), some (Blk.ro (p.R 11)), some (Blk.ro (p.R 12)), some (Blk.ro (p.R 13)), some (Blk.ro (p.R 14)), some (Blk.ro (p.R 15)), some (Blk.ro (p.R 16)), some (Blk.ro (p.R 17))]])) (hK : ∀ zz, (lpL W m b x S Q).inv 0 zz → ltO ((lpL W m b x S Q).mu 0 zz) none → Sat E (atLp (lp Try.f10 0)) ((lpL W m b x S Q).st 0 zz)) : Sat E [.code (bodyOf Try.f10)] (st0 Try.f10 [.agg ⟨[.int .i64 tcl, .slice (p.z 20) (p.m 20) (p.c 20), .slice (p.z 21) (p.m 21) (p.c 21), .slice (p.z 22) (p.m 22) (p.c 22), .slice (p.z 23) (p.m 23) (p.c 23)]⟩, .agg ⟨p.fcs zt⟩, .slice (p.z 18) (p.m 18) (p.c 18), .slice (p.z 19) (p.m 19) (p.c 19)] (roRows [p.cs0, p.R 1, p.R 2, p.R 3, p.R 4, p.R 5, p.R 6, p.R 7, p.R 8, p.R 9, p.R 10, p.R 11, p.R 12, p.R 13, p.R 14, p.R 15, p.R 16, p.R 17, p.R 18, p.R 19, p.R 20, p.R 21, p.R 22, p.R 23]) 64) :=
  by_to (T := auto0 (t_lp p 4 NI b x PL)) (h := hints []) (ws := [.stop]) (i0 := ⟨0, 0⟩) hE hm (auto0_ok (t_lp_ok p 4 NI b x PL)) hL (by kernel_rfl) hob hK
theorem lpZ1 (tcl d cl : Int)  {E : Env} {rv : Value} {rhs : List Nat} {rhv : List Blk} (hE : EnvOK E Try.prog Try.f10 4 0 rv rhs rhv) (hL : (z1L (.cells (ztc tcl) 55) (.cells (zfc d cl) 61)).OK 0) (hob : all ([SameK (fromR Try.f10 1) (fromR Try.f10 1), Enter (z1L (Blk.cells (ztc tcl) 55) (Blk.cells (zfc d cl) 61)) 0 none [Value.slice none 0 0, Value.slice none 0 0, Value.pointer (some (Addr.mk 0 0 none)), Value.pointer (some (Addr.mk 8 0 none))] [Blk.cells [Value.int IntKind.i64 tcl, Value.slice none 0 0, Value.slice none 0 0, Value.slice none 0 0, Value.slice none 0 0] 55, Blk.cells [Value.int IntKind.i64 d, Value.int IntKind.i64 cl, Value.slice none 0 0, Value.slice none 0 0] 61] [(80, 0), (81, 8)]])) (hK : ∀ zz, (z1L (.cells (ztc tcl) 55) (.cells (zfc d cl) 61)).inv 0 zz → ltO ((z1L (.cells (ztc tcl) 55) (.cells (zfc d cl) 61)).mu 0 zz) none → Sat E (fromR Try.f10 1) ((z1L (.cells (ztc tcl) 55) (.cells (zfc d cl) 61)).st 0 zz)) : Sat E [.code (bodyOf Try.f10)] (st0 Try.f10 [.agg ⟨[.int .i64 tcl, .slice none 0 0, .slice none 0 0, .slice none 0 0, .slice none 0 0]⟩, .agg ⟨[.int .i64 d, .int .i64 cl, .slice none 0 0, .slice none 0 0]⟩, .slice none 0 0, .slice none 0 0] (roRows []) 0) :=
  by_to (T := auto0 t_none) (h := hints []) (ws := [.at 1]) (i0 := ()) hE hm (auto0_ok t_none_ok) hL (by kernel_rfl) hob hK
theorem lpZ2 (p : FP) (NI : List Nd) (b : Bx) (x : Pt) (PL : List Int → Bx → List Pc) (tcl d cl : Int) (m : Nat) (W : List Int) (S : List Pc) (Q : LQ → Prop)  {E : Env} {rv : Value} {rhs : List Nat} {rhv : List Blk} (hE : EnvOK E Try.prog Try.f10 4 64 rv rhs rhv) (hL : (lpL W m b x S Q).OK 64) (hob : all ([SameK (atLp (lp Try.f10 0)) (atLp (lp Try.f10 0)), Enter (lpL W m b x S Q) 0 none [Value.slice (some (Addr.mk 138 0 none)) NI.length 1267650600228229401496703205376, Value.pointer (some (Addr.mk 178 0 none)), Value.pointer (some (Addr.mk 218 0 none)), Value.slice (some (Addr.mk 250 0 none)) (PL (eWord.list (eWord.row (List.map packN NI)) 0 NI.length) (Bx.mk b.a0 b.b0 b.a1 b.b1 b.a2 b.b2 b.a3 b.b3 b.a4 b.b4)).length 1267650600228229401496703205376, Value.int IntKind.i64 ((0 : Int)), Value.slice (some (Addr.mk 250 0 none)) (PL (eWord.list (eWord.row (List.map packN NI)) 0 NI.length) (Bx.mk b.a0 b.b0 b.a1 b.b1 b.a2 b.b2 b.a3 b.b3 b.a4 b.b4)).length 1267650600228229401496703205376, Value.int IntKind.i64 (Int.ofNat (PL (eWord.list (eWord.row (List.map packN NI)) 0 NI.length) (Bx.mk b.a0 b.b0 b.a1 b.b1 b.a2 b.b2 b.a3 b.b3 b.a4 b.b4)).length), Value.int IntKind.i64 ((0 : Int))] [Blk.vec (eWord.row (List.map packN NI)) 83 1, Blk.cells [Value.int IntKind.i64 b.a0, Value.int IntKind.i64 b.b0, Value.int IntKind.i64 b.a1, Value.int IntKind.i64 b.b1, Value.int IntKind.i64 b.a2, Value.int IntKind.i64 b.b2, Value.int IntKind.i64 b.a3, Value.int IntKind.i64 b.b3, Value.int IntKind.i64 b.a4, Value.int IntKind.i64 b.b4] 25, Blk.cells [Value.int IntKind.i64 x.p0, Value.int IntKind.i64 x.p1, Value.int IntKind.i64 x.p2, Value.int IntKind.i64 x.p3] 72, Blk.vec (ePc.row (PL (eWord.list (eWord.row (List.map packN NI)) 0 NI.length) (Bx.mk b.a0 b.b0 b.a1 b.b1 b.a2 b.b2 b.a3 b.b3 b.a4 b.b4))) 27 11] [(80, 138), (81, 178), (82, 218), (83, 250), (83, 250)], plainR [eWord.row (List.map packN NI)], PL = listP, PL (eWord.list (eWord.row (List.map packN NI)) 0 NI.length) (Bx.mk b.a0 b.b0 b.a1 b.b1 b.a2 b.b2 b.a3 b.b3 b.a4 b.b4) ≠ [], eWord.Row (eWord.row (List.map packN NI)) 0 NI.length, ∀ (w : Int), w ∈ eWord.list (eWord.row (List.map packN NI)) 0 NI.length → U64 w, NI.length ≤ 65536, (Bx.mk b.a0 b.b0 b.a1 b.b1 b.a2 b.b2 b.a3 b.b3 b.a4 b.b4).I64s, InsOK x 19 [Value.agg (Array.mk [Value.int IntKind.i64 b.a0, Value.int IntKind.i64 b.b0, Value.int IntKind.i64 b.a1, Value.int IntKind.i64 b.b1, Value.int IntKind.i64 b.a2, Value.int IntKind.i64 b.b2, Value.int IntKind.i64 b.a3, Value.int IntKind.i64 b.b3, Value.int IntKind.i64 b.a4, Value.int IntKind.i64 b.b4]), Value.slice none 0 0] (some (Blk.ro [])), RegOK b 18 [Value.agg (Array.mk [Value.int IntKind.i64 p.dim, Value.int IntKind.i64 p.cls, Value.int IntKind.i64 p.b0, Value.int IntKind.i64 p.b1, Value.int IntKind.i64 p.b2, Value.slice none 0 0]), Value.slice none 0 0] (some (Blk.ro [])), NodesAt NI 20 [Value.int IntKind.i64 tcl, Value.slice none 0 0, Value.slice none 0 0, Value.slice none 0 0, Value.slice none 0 0] p.dim (some (Blk.ro [])) (some (Blk.ro [])) (some (Blk.ro [])) (some (Blk.ro [])), ModOK p 0 [Value.agg (Array.mk [Value.int IntKind.i64 d, Value.int IntKind.i64 cl, Value.slice none 0 0, Value.slice none 0 0])] [some (Blk.ro []), some (Blk.ro []), some (Blk.ro []), some (Blk.ro []), some (Blk.ro []), some (Blk.ro []), some (Blk.ro []), some (Blk.ro []), some (Blk.ro []), some (Blk.ro []), some (Blk.ro []), some (Blk.ro []), some (Blk.ro []), some (Blk.ro []), some (Blk.ro []), some (Blk.ro []), some (Blk.ro []), some (Blk.ro [])]])) (hK : ∀ zz, (lpL W m b x S Q).inv 0 zz → ltO ((lpL W m b x S Q).mu 0 zz) none → Sat E (atLp (lp Try.f10 0)) ((lpL W m b x S Q).st 0 zz)) : Sat E (fromR Try.f10 1) ((z2L tcl d cl).st 0 ()) :=
  by_to (T := auto0 (t_lp p 0 NI b x PL)) (h := hints []) (ws := [.stop]) (i0 := ⟨0, 0⟩) hE hm (auto0_ok (t_lp_ok p 0 NI b x PL)) hL (by kernel_rfl) hob hK
theorem lpB0 (p : FP) (K : Nat) (NI : List Nd) (b : Bx) (x : Pt) (PL : List Int → Bx → List Pc) (W : List Int) (m : Nat) (S : List Pc) (Q : LQ → Prop) (i k : Nat) (bo : Bx) (v : Int) (J : Act → World → Prop) {E : Env} {rv : Value} {rhs : List Nat} {rhv : List Blk} (hE : EnvOK E Try.prog Try.f10 4 64 rv rhs rhv) (hL : (lpL W m b x S Q).OK 64) (hob : all ([SameK (mkLp (lp Try.f10 0) J) (mkLp (lp Try.f10 0) J), Enter (lpL W m b x S Q) 0 (some (S.length - i)) [Value.slice (some (Addr.mk 80 0 none)) m 1267650600228229401496703205376, Value.pointer (some (Addr.mk 81 0 none)), Value.pointer (some (Addr.mk 82 0 none)), Value.slice (some (Addr.mk 83 0 none)) S.length 1267650600228229401496703205376, Value.int IntKind.i64 ((k : Int)), Value.slice (some (Addr.mk 83 0 none)) S.length 1267650600228229401496703205376, Value.int IntKind.i64 (Int.ofNat S.length), Value.int IntKind.i64 (Int.ofNat i.succ)] [Blk.vec (eWord.row W) 83 1, Blk.cells [Value.int IntKind.i64 b.a0, Value.int IntKind.i64 b.b0, Value.int IntKind.i64 b.a1, Value.int IntKind.i64 b.b1, Value.int IntKind.i64 b.a2, Value.int IntKind.i64 b.b2, Value.int IntKind.i64 b.a3, Value.int IntKind.i64 b.b3, Value.int IntKind.i64 b.a4, Value.int IntKind.i64 b.b4] 25, Blk.cells [Value.int IntKind.i64 x.p0, Value.int IntKind.i64 x.p1, Value.int IntKind.i64 x.p2, Value.int IntKind.i64 x.p3] 72, Blk.vec (ePc.row S) 27 11] [(80, 80), (81, 81), (82, 82), (83, 83), (83, 83)], Value.int IntKind.i64 (IntKind.i64.wrap (Int.ofNat i.succ)) = Value.int IntKind.i64 (Int.ofNat i.succ), Value.bool (Ythbaccmhdffjdaa.BoxF.hasB bo.a0 bo.b0 bo.a1 bo.b1 bo.a2 bo.b2 bo.a3 bo.b3 bo.a4 bo.b4 x.p0 x.p1 x.p2 x.p3 ((0 : Int))) = Value.bool false, Value.bool (withinB bo.a0 bo.b0 bo.a1 bo.b1 bo.a2 bo.b2 bo.a3 bo.b3 bo.a4 bo.b4 b.a0 b.b0 b.a1 b.b1 b.a2 b.b2 b.a3 b.b3 b.a4 b.b4) = Value.bool true, Value.bool (emptyB bo.a0 bo.b0 bo.a1 bo.b1 bo.a2 bo.b2 bo.a3 bo.b3 bo.a4 bo.b4) = Value.bool false, readPart Try.prog 27 (ePc.row S) (0 + ((i : Int)).toNat * 11) = some (Value.agg (Array.mk [Value.int IntKind.i64 bo.a0, Value.int IntKind.i64 bo.b0, Value.int IntKind.i64 bo.a1, Value.int IntKind.i64 bo.b1, Value.int IntKind.i64 bo.a2, Value.int IntKind.i64 bo.b2, Value.int IntKind.i64 bo.a3, Value.int IntKind.i64 bo.b3, Value.int IntKind.i64 bo.a4, Value.int IntKind.i64 bo.b4, Value.int IntKind.i64 v])), (0 : Int) ≤ (i : Int) ∧ (i : Int) < Int.ofNat S.length, decide ((↑i : Int) < (↑S.length : Int)) = true])) (hK : ∀ zz, (lpL W m b x S Q).inv 0 zz → ltO ((lpL W m b x S Q).mu 0 zz) (some (S.length - i)) → Sat E (mkLp (lp Try.f10 0) J) ((lpL W m b x S Q).st 0 zz)) : Sat E (inLp (lp Try.f10 0) J) ((lpL W m b x S Q).st 0 ⟨i, k⟩) :=
  by_to (T := auto0 (t_lp p K NI b x PL)) (h := hints [(9, 0, {p := true}), (9, 1, {o := some (.agg ⟨bo.cs ++ [.int .i64 v]⟩)}), (10, 2, ht false), (10, 7, ht true), (12, 3, ht false), (16, 0, {v := some (.int .i64 ((i + 1 : Nat) : Int))})]) (ws := [.b true, .go, .go]) (i0 := ⟨i + 1, k⟩) hE hm (auto0_ok (t_lp_ok p K NI b x PL)) hL (by kernel_rfl) hob hK
theorem lpB1 (p : FP) (K : Nat) (NI : List Nd) (b : Bx) (x : Pt) (PL : List Int → Bx → List Pc) (W : List Int) (m : Nat) (S : List Pc) (Q : LQ → Prop) (i k : Nat) (bo : Bx) (v ev : Int) (J : Act → World → Prop) {E : Env} {rv : Value} {rhs : List Nat} {rhv : List Blk} (hE : EnvOK E Try.prog Try.f10 4 64 rv rhs rhv) (hL : (lpL W m b x S Q).OK 64) (hob : all ([SameK (mkLp (lp Try.f10 0) J) (mkLp (lp Try.f10 0) J), Enter (lpL W m b x S Q) 0 (some (S.length - i)) [Value.slice (some (Addr.mk 80 0 none)) m 1267650600228229401496703205376, Value.pointer (some (Addr.mk 81 0 none)), Value.pointer (some (Addr.mk 82 0 none)), Value.slice (some (Addr.mk 83 0 none)) S.length 1267650600228229401496703205376, Value.int IntKind.i64 (Int.ofNat k.succ), Value.slice (some (Addr.mk 83 0 none)) S.length 1267650600228229401496703205376, Value.int IntKind.i64 (Int.ofNat S.length), Value.int IntKind.i64 (Int.ofNat i.succ)] [Blk.vec (eWord.row W) 83 1, Blk.cells [Value.int IntKind.i64 b.a0, Value.int IntKind.i64 b.b0, Value.int IntKind.i64 b.a1, Value.int IntKind.i64 b.b1, Value.int IntKind.i64 b.a2, Value.int IntKind.i64 b.b2, Value.int IntKind.i64 b.a3, Value.int IntKind.i64 b.b3, Value.int IntKind.i64 b.a4, Value.int IntKind.i64 b.b4] 25, Blk.cells [Value.int IntKind.i64 x.p0, Value.int IntKind.i64 x.p1, Value.int IntKind.i64 x.p2, Value.int IntKind.i64 x.p3] 72, Blk.vec (ePc.row S) 27 11] [(80, 80), (81, 81), (82, 82), (83, 83), (83, 83)], Value.int IntKind.i64 (IntKind.i64.wrap (Int.ofNat i.succ)) = Value.int IntKind.i64 (Int.ofNat i.succ), Value.bool (v != ev) = Value.bool false, Value.int IntKind.i64 (endV (eWord.list (eWord.row W) 0 m) (Pt.mk x.p0 x.p1 x.p2 x.p3)) = Value.int IntKind.i64 ev, plainR [eWord.row W], eWord.Row (eWord.row W) 0 m, ∀ (w : Int), w ∈ eWord.list (eWord.row W) 0 m → U64 w, m ≤ 65536, Value.int IntKind.i64 (IntKind.i64.wrap (Int.ofNat k.succ)) = Value.int IntKind.i64 (Int.ofNat k.succ), Value.bool (Ythbaccmhdffjdaa.BoxF.hasB bo.a0 bo.b0 bo.a1 bo.b1 bo.a2 bo.b2 bo.a3 bo.b3 bo.a4 bo.b4 x.p0 x.p1 x.p2 x.p3 ((0 : Int))) = Value.bool true, Value.bool (withinB bo.a0 bo.b0 bo.a1 bo.b1 bo.a2 bo.b2 bo.a3 bo.b3 bo.a4 bo.b4 b.a0 b.b0 b.a1 b.b1 b.a2 b.b2 b.a3 b.b3 b.a4 b.b4) = Value.bool true, Value.bool (emptyB bo.a0 bo.b0 bo.a1 bo.b1 bo.a2 bo.b2 bo.a3 bo.b3 bo.a4 bo.b4) = Value.bool false, readPart Try.prog 27 (ePc.row S) (0 + ((i : Int)).toNat * 11) = some (Value.agg (Array.mk [Value.int IntKind.i64 bo.a0, Value.int IntKind.i64 bo.b0, Value.int IntKind.i64 bo.a1, Value.int IntKind.i64 bo.b1, Value.int IntKind.i64 bo.a2, Value.int IntKind.i64 bo.b2, Value.int IntKind.i64 bo.a3, Value.int IntKind.i64 bo.b3, Value.int IntKind.i64 bo.a4, Value.int IntKind.i64 bo.b4, Value.int IntKind.i64 v])), (0 : Int) ≤ (i : Int) ∧ (i : Int) < Int.ofNat S.length, decide ((↑i : Int) < (↑S.length : Int)) = true])) (hK : ∀ zz, (lpL W m b x S Q).inv 0 zz → ltO ((lpL W m b x S Q).mu 0 zz) (some (S.length - i)) → Sat E (mkLp (lp Try.f10 0) J) ((lpL W m b x S Q).st 0 zz)) : Sat E (inLp (lp Try.f10 0) J) ((lpL W m b x S Q).st 0 ⟨i, k⟩) :=
  by_to (T := auto0 (t_lp p K NI b x PL)) (h := hints [(9, 0, {p := true}), (9, 1, {o := some (.agg ⟨bo.cs ++ [.int .i64 v]⟩)}), (10, 2, ht false), (10, 7, ht true), (12, 3, ht true), (13, 1, {v := some (.int .i64 ((k + 1 : Nat) : Int))}), (14, 4, {v := some (.int .i64 ev)}), (14, 5, ht false), (16, 0, {v := some (.int .i64 ((i + 1 : Nat) : Int))})]) (ws := [.b true, .go, .go, .go]) (i0 := ⟨i + 1, k + 1⟩) hE hm (auto0_ok (t_lp_ok p K NI b x PL)) hL (by kernel_rfl) hob hK
theorem lpX (p : FP) (K : Nat) (NI : List Nd) (b : Bx) (x : Pt) (PL : List Int → Bx → List Pc) (W : List Int) (m : Nat) (S : List Pc) (Q : LQ → Prop) (i k : Nat) (ev : Int) (J : Act → World → Prop) {E : Env} (hE : EnvOK E Try.prog Try.f10 4 64 (.bool true) [] []) (hob : all ([Back (Value.bool true) (Value.bool true) [] [] [], Value.bool (keyEq (Value.agg (Array.mk (hullI (ePc.list (ePc.row S) 0 S.length)).cs)) (Value.agg (Array.mk [Value.int IntKind.i64 b.a0, Value.int IntKind.i64 b.b0, Value.int IntKind.i64 b.a1, Value.int IntKind.i64 b.b1, Value.int IntKind.i64 b.a2, Value.int IntKind.i64 b.b2, Value.int IntKind.i64 b.a3, Value.int IntKind.i64 b.b3, Value.int IntKind.i64 b.a4, Value.int IntKind.i64 b.b4]))) = Value.bool true, (Blk.vec (ePc.row S) 27 11).plain, 1267650600228229401496703205376 = 1267650600228229401496703205376, ePc.row S = ePc.row (ePc.list (ePc.row S) 0 S.length), 1 ≤ S.length, S.length ≤ 65536, Value.bool (ev == ev) = Value.bool true, Value.int IntKind.i64 (endV (eWord.list (eWord.row W) 0 m) (Pt.mk x.p0 x.p1 x.p2 x.p3)) = Value.int IntKind.i64 ev, plainR [eWord.row W], eWord.Row (eWord.row W) 0 m, ∀ (w : Int), w ∈ eWord.list (eWord.row W) 0 m → U64 w, m ≤ 65536, Value.bool ((k : Int) == (1 : Int)) = Value.bool true, plainR [], Value.tuple (Array.mk [Value.int IntKind.i64 (atV (ePc.list (ePc.row S) 0 S.length) (Pt.mk x.p0 x.p1 x.p2 x.p3) ((0 : Int))), Value.bool (atB (ePc.list (ePc.row S) 0 S.length) (Pt.mk x.p0 x.p1 x.p2 x.p3) ((0 : Int)))]) = Value.tuple (Array.mk [Value.int IntKind.i64 ev, Value.bool true]), plainR [ePc.row S], ePc.Row (ePc.row S) 0 S.length, S.length ≤ 65536, decide ((↑i : Int) < (↑S.length : Int)) = false])) : Sat E (inLp (lp Try.f10 0) J) ((lpL W m b x S Q).st 0 ⟨i, k⟩) :=
  by_ret (T := auto0 (t_lp p K NI b x PL)) (h := hints [(17, 2, {v := some (.tuple ⟨[.int .i64 ev, .bool true]⟩)}), (19, 1, ht true), (19, 9, {v := some (.int .i64 ev)}), (19, 10, ht true), (19, 20, ht true)]) (ws := [.b false]) (nx' := 64) hE hm (auto0_ok (t_lp_ok p K NI b x PL)) (by omega) (by simp) (by simp) (by kernel_rfl) hob
end Go.Proofs.Ythbaccmhdffjdaa.Lp


set_option linter.unusedVariables false
set_option linter.unusedSimpArgs false
namespace Go.Proofs.Ythbaccmhdffjdaa.Ev
open Go Go.RowKit
open Classical in
/-- New names may stand for what some row is; nothing is told of it. -/
theorem sat_dummy {E : Env} {K : List Ctl} {T : Tm} {H : Heap} {nx c c' : Nat} {ob ob' : List Prop} {D : Nat → Prop} {k0 : Nat} {cs0 : List Value} (h0 : H k0 = some (.ro cs0)) (hD : ∀ k, D k → k < nx) (hA : ∀ k, E.An.2 k → ¬ D k)
    (hT : ∀ i v, T i = some v → ∀ k ∈ nms v, ¬ D k) (hH : ∀ k b, H k = some b → ¬ D k ∧ ∀ j ∈ b.nmB, ¬ D j)
    (h : Sat E K ⟨T, fun k => if D k then some (.ro []) else H k, nx, c', ob'⟩) : Sat E K ⟨T, H, nx, c, ob⟩ := by
  intro g a w hc
  obtain ⟨B, hB, hrc⟩ := hc
  let g' : Nm := ⟨fun k => if D k then g.blk k0 else g.blk k, g.base, g.cap⟩
  have hg : ∀ k, ¬ D k → g.blk k = g'.blk k ∧ g.base k = g'.base k ∧ g.cap k = g'.cap k := fun k hk => ⟨by simp [g', hk], rfl, rfl⟩
  have hag : Agree (fun k => B k ∧ ¬ D k) g g' := fun k hk => hg k hk.2
  refine h g' a w ⟨fun k => (B k ∧ ¬ D k) ∨ D k, fun k hk => hk.elim (fun h => hB k h.1) (hD k), ⟨⟨hrc.hc.below, fun k b hb => ?_, fun k b hb => ?_, fun k b hb => ?_, fun k b hb hw => ?_, fun k l b x hb hx hw he => ?_⟩, hrc.size, hrc.defers, fun t v hv => ?_, fun k hk => ?_, fun k hk => ?_⟩⟩
  · simp only at hb
    by_cases hk : D k
    · exact Or.inr hk
    · rw [if_neg hk] at hb
      exact Or.inl ⟨hrc.hc.dom k b hb, hk⟩
  · simp only at hb
    by_cases hk : D k
    · rw [if_pos hk] at hb
      obtain rfl := Option.some.inj hb
      exact fun c hc => by simp at hc
    · rw [if_neg hk] at hb
      exact blk_inB (hrc.hc.scope k b hb) fun j hj => Or.inl ⟨blk_names (hrc.hc.scope k b hb) j hj, (hH k b hb).2 j hj⟩
  · simp only at hb
    by_cases hk : D k
    · rw [if_pos hk] at hb
      obtain rfl := Option.some.inj hb
      obtain ⟨cc, ty, fz, ho, _⟩ := hrc.hc.holds k0 _ h0
      have e : g'.blk k = g.blk k0 := by simp [g', hk]
      rw [e]
      exact ⟨cc, ty, fz, ho, fun i v hv => by simp at hv⟩
    · rw [if_neg hk] at hb
      have e := (hg k hk).1
      rw [← e]
      exact (hrc.hc.holds k b hb).congr hag ⟨hrc.hc.dom k b hb, hk⟩ (blk_inB (hrc.hc.scope k b hb) fun j hj => ⟨blk_names (hrc.hc.scope k b hb) j hj, (hH k b hb).2 j hj⟩)
  · simp only at hb
    by_cases hk : D k
    · rw [if_pos hk] at hb
      obtain rfl := Option.some.inj hb
      simp [Blk.wr] at hw
    · rw [if_neg hk] at hb
      rw [← (hg k hk).1]
      exact hrc.hc.own k b hb hw
  · simp only at hb hx
    by_cases hk : D k
    · rw [if_pos hk] at hb
      obtain rfl := Option.some.inj hb
      simp [Blk.wr] at hw
    · rw [if_neg hk] at hb
      by_cases hl : D l
      · rw [← (hg k hk).1] at he
        have : g'.blk l = g.blk k0 := by simp [g', hl]
        rw [this] at he
        have := hrc.hc.inj k k0 b _ hb h0 hw he
        subst this
        rw [hb] at h0
        obtain rfl := Option.some.inj h0
        simp [Blk.wr] at hw
      · rw [if_neg hl] at hx
        rw [← (hg k hk).1, ← (hg l hl).1] at he
        exact hrc.hc.inj k l b x hb hx hw he
  · obtain ⟨h1, h2⟩ := hrc.tm t v hv
    refine ⟨?_, inB_of fun k hk => Or.inl ⟨inB_names h2 k hk, hT t v hv k hk⟩⟩
    rw [h1]
    exact congrArg some (ren_names fun k hk => hg k (hT t v hv k hk))
  · obtain ⟨h1, h2, h3⟩ := hrc.anch k hk
    have := hg k (hA k hk)
    exact ⟨h1.trans this.1, h2.trans this.2.1, h3.trans this.2.2⟩
  · exact Or.inl ⟨hrc.sub k hk, hA k hk⟩
theorem EnvOK.mono {E : Env} {P : Program} {fn : Func} {na n m : Nat} {v : Value} {hs : List Nat} {hv : List Blk} (h : EnvOK E P fn na n v hs hv) (hnm : n ≤ m) : EnvOK E P fn na m v hs hv :=
  ⟨h.P, h.n, fun k hk => Nat.lt_of_lt_of_le (h.A k hk) hnm, h.R⟩
/-- What a call does that only reads, where its arguments lie there; rows may hold slices. -/
theorem calls_ro2 {P : Program} {f : FuncId} {args : List Value} {H0 : Heap} {nx : Nat} {v : Value} (hs : CallSpec P f args H0 nx v (assocN [] [])) (hv : gnd v = true) (hro : ∀ j b, H0 j = some b → j < nx ∧ ∃ cs, b = .ro cs ∧ ∀ c ∈ cs, ∀ k ∈ nm0 c, k < nx)
    (hnm : ∀ u ∈ args, ∀ j ∈ nms u, j < nx) {W : World} {l : List (Nat × Nat)} (hat : ∀ j cs, H0 j = some (.ro cs) → (Blk.ro cs).Holds (Nm.at l) j W.heap[(Nm.at l).blk j]?) :
    Calls P f (args.map (ren (Nm.at l))).toArray W fun e w' => e = .returned v ∧ Below W.heap.size W w' := by
  have hwr : ∀ j b, H0 j = some b → b.wr = false := fun j b hb => by obtain ⟨_, cs, rfl, _⟩ := hro j b hb; rfl
  have hH : HC (fun _ => False) W (Nm.at l) (· < nx) H0 W := by
    refine ⟨BelowBut.refl _ _, fun j b hb => (hro j b hb).1, fun j b hb => ?_, fun j b hb => ?_, fun j b hb hw => by rw [hwr j b hb] at hw; simp at hw, fun i j b c hb hc hw he => by rw [hwr i b hb] at hw; simp at hw⟩
    · obtain ⟨_, cs, rfl, hp⟩ := hro j b hb
      exact fun c hc => in0_of (hp c hc)
    · obtain ⟨_, cs, rfl, _⟩ := hro j b hb
      exact hat j cs hb
  refine (ro_own hs hwr (fun _ h => h) hH (fun u hu => inB_lt (hnm u hu))).mono ?_
  rintro e w' ⟨g', B', _, hc, rfl⟩
  exact ⟨by rw [ren_gnd g' hv], hc.below.below⟩
end Go.Proofs.Ythbaccmhdffjdaa.Ev


set_option linter.unusedVariables false
set_option linter.unusedSimpArgs false
set_option maxRecDepth 100000
namespace Go.Proofs.Ythbaccmhdffjdaa.Ev
open Go Go.RowKit Go.ChangeShapes Go.WideShapes
theorem elem_i64 {H : Type} {enc : TypeId × Value → H} {W : World} {base : Nat} {spare : Nat → Bool} {held : Bool} (n : Nat) (cs : List Value) (z : DataW H × List MemPlace) (h : DataW.trod enc Try.prog W base spare held n 3 cs = some z) : ∃ x : Int, cs = eInt.cells x ∧ I64 x := by
  obtain ⟨x, h1, h2⟩ := elem_int (P := Try.prog) (k := .i64) (by kernel_rfl) n cs z h
  exact ⟨x, h1, wf64 h2⟩
theorem open_ints64 {H : Type} {enc : TypeId × Value → H} {W : World} {base : Nat} {spare : Nat → Bool} {held : Bool} {r : Reach} {b0 : Nat} {v : Value} {d : DataW H} {ps : List MemPlace} (hv : Value.okWide Try.prog W r b0 43 v) (h : DataW.Trod enc Try.prog W base spare held 43 v d ps) : Opened W eInt I64 v := by
  have hu : Try.prog.underlying 43 = some (.slice 3) := by kernel_rfl
  obtain ⟨fuel, hf⟩ := h
  simp only [Value.okWide, hu] at hv
  have hcs : v.cells.toList = [v] := by
    obtain ⟨a, l, c, rfl⟩ : ∃ a l c, v = .slice a l c := by
      simp only [Cell.okWide, hu, Cell.ok] at hv
      cases v <;> simp_all
    rfl
  rw [hcs] at hf
  exact open_row hu (by kernel_rfl) elem_i64 hv hf
end Go.Proofs.Ythbaccmhdffjdaa.Ev


set_option linter.unusedVariables false
set_option linter.unusedSimpArgs false
set_option maxRecDepth 100000
namespace Go.Proofs.Ythbaccmhdffjdaa.Ev
open Go Go.RowKit Go.ChangeShapes Go.WideShapes
def fieldsOf (P : Program) (t : TypeId) : Array Field := match P.underlying t with
  | some (.struct fs) => fs
  | _ => #[]
section
variable {H : Type} {enc : TypeId × Value → H} {P : Program} {W : World} {base : Nat} {spare : Nat → Bool} {held : Bool}
theorem field_of {fs : Array Field} {i o c : Nat} {d : TypeDesc} (h : (fs[i]?).map (fun f => (f.offset, P.cellsOf f.type)) = some (o, c)) (hd : (fs[i]?).bind (fun f => P.underlying f.type) = some d) :
    ∃ f, fs[i]? = some f ∧ f.offset = o ∧ P.cellsOf f.type = c ∧ P.underlying f.type = some d := by
  cases hf : fs[i]? with
  | none => rw [hf] at h; simp at h
  | some f =>
    rw [hf] at h hd
    simp at h hd
    exact ⟨f, rfl, h.1, h.2, hd⟩
theorem xs_get {α : Type} {xs : List α} {i : Nat} (h : i < xs.length) : ∃ y, xs[i]? = some y := ⟨xs[i], List.getElem?_eq_getElem h⟩
end
/-- A struct of a number and four slices of numbers. -/
theorem open_tree {H : Type} {enc : TypeId × Value → H} {W : World} {base : Nat} {spare : Nat → Bool} {held : Bool} {r : Reach} {b0 : Nat} {v : Value} {d : DataW H} {ps : List MemPlace} (hv : Value.okWide Try.prog W r b0 55 v) (h : DataW.Trod enc Try.prog W base spare held 55 v d ps) :
    ∃ (cl : Int) (a1 a2 a3 a4 : Value), v = .agg #[.int .i64 cl, a1, a2, a3, a4] ∧ Opened W eInt I64 a1 ∧ Opened W eInt I64 a2 ∧ Opened W eInt I64 a3 ∧ Opened W eInt I64 a4 := by
  have hu : Try.prog.underlying 55 = some (.struct (fieldsOf Try.prog 55)) := by kernel_rfl
  obtain ⟨fuel, hf⟩ := h
  simp only [Value.okWide, hu] at hv
  obtain ⟨⟨l⟩, rfl, hs, ts, ht1, _, ht2⟩ := hv
  have hl5 : l.length = 5 := by
    have : Try.prog.cellsOf 55 = 5 := by kernel_rfl
    rw [this] at hs
    simpa using hs
  have hct : Try.prog.cellTypes Try.prog.depth 55 = some [3, 43, 43, 43, 43] := by kernel_rfl
  rw [hct] at ht1
  injection ht1 with ht1
  subst ht1
  obtain ⟨xs, k, _, _, hl, hlen, hf⟩ := DataW.trod_struct (P := Try.prog) hu hf
  have hx5 : xs.length = 5 := by rw [hlen]; kernel_rfl
  have hsl : Try.prog.underlying 43 = some (.slice 3) := by kernel_rfl
  obtain ⟨f0, e0, o0, c0, u0⟩ := field_of (P := Try.prog) (fs := fieldsOf Try.prog 55) (i := 0) (o := 0) (c := 1) (d := .int .i64) (by kernel_rfl) (by kernel_rfl)
  obtain ⟨f1, e1, o1, c1, u1⟩ := field_of (P := Try.prog) (fs := fieldsOf Try.prog 55) (i := 1) (o := 1) (c := 1) (d := .slice 3) (by kernel_rfl) (by kernel_rfl)
  obtain ⟨f2, e2, o2, c2, u2⟩ := field_of (P := Try.prog) (fs := fieldsOf Try.prog 55) (i := 2) (o := 2) (c := 1) (d := .slice 3) (by kernel_rfl) (by kernel_rfl)
  obtain ⟨f3, e3, o3, c3, u3⟩ := field_of (P := Try.prog) (fs := fieldsOf Try.prog 55) (i := 3) (o := 3) (c := 1) (d := .slice 3) (by kernel_rfl) (by kernel_rfl)
  obtain ⟨f4, e4, o4, c4, u4⟩ := field_of (P := Try.prog) (fs := fieldsOf Try.prog 55) (i := 4) (o := 4) (c := 1) (d := .slice 3) (by kernel_rfl) (by kernel_rfl)
  have g0 := hf 0 f0 e0
  have g1 := hf 1 f1 e1
  have g2 := hf 2 f2 e2
  have g3 := hf 3 f3 e3
  have g4 := hf 4 f4 e4
  obtain ⟨y0, hy0⟩ := xs_get (xs := xs) (i := 0) (by omega)
  obtain ⟨y1, hy1⟩ := xs_get (xs := xs) (i := 1) (by omega)
  obtain ⟨y2, hy2⟩ := xs_get (xs := xs) (i := 2) (by omega)
  obtain ⟨y3, hy3⟩ := xs_get (xs := xs) (i := 3) (by omega)
  obtain ⟨y4, hy4⟩ := xs_get (xs := xs) (i := 4) (by omega)
  rw [o0, c0, hy0] at g0
  rw [o1, c1, hy1] at g1
  rw [o2, c2, hy2] at g2
  rw [o3, c3, hy3] at g3
  rw [o4, c4, hy4] at g4
  match l, hl5 with
  | [p0, p1, p2, p3, p4], _ =>
    obtain ⟨cl, q0, _, _⟩ := DataW.trod_int u0 g0
    have q1 : [p0] = [Value.int .i64 cl] := q0
    injection q1 with q1 _
    subst q1
    obtain ⟨t1, hq1, w1⟩ := ht2 1 p1 rfl
    simp at hq1
    subst hq1
    obtain ⟨t2, hq2, w2⟩ := ht2 2 p2 rfl
    simp at hq2
    subst hq2
    obtain ⟨t3, hq3, w3⟩ := ht2 3 p3 rfl
    simp at hq3
    subst hq3
    obtain ⟨t4, hq4, w4⟩ := ht2 4 p4 rfl
    simp at hq4
    subst hq4
    have hcell : ∀ (x : Value) (ft : TypeId), Try.prog.underlying ft = some (.slice 3) → Cell.okWide Try.prog W r b0 43 x → Cell.okWide Try.prog W r b0 ft x := by
      intro x ft hft hx
      simp only [Cell.okWide, hsl, hft, Cell.ok] at hx ⊢
      exact hx
    exact ⟨cl, p1, p2, p3, p4, rfl, open_row u1 (by kernel_rfl) elem_i64 (hcell p1 _ u1 w1) g1, open_row u2 (by kernel_rfl) elem_i64 (hcell p2 _ u2 w2) g2, open_row u3 (by kernel_rfl) elem_i64 (hcell p3 _ u3 w3) g3, open_row u4 (by kernel_rfl) elem_i64 (hcell p4 _ u4 w4) g4⟩
end Go.Proofs.Ythbaccmhdffjdaa.Ev


set_option linter.unusedVariables false
set_option linter.unusedSimpArgs false
set_option maxRecDepth 100000
namespace Go.Proofs.Ythbaccmhdffjdaa.Ev
open Go Go.RowKit Go.ChangeShapes Go.WideShapes Go.Deep
/-- A slice of numbers that lies within memory: one as any, or of nothing, at any address. -/
def OpenedH (W : World) (v : Value) : Prop := Opened W eInt I64 v ∨ ∃ a, v = .slice (some a) 0 0
section
variable {H : Type} {enc : TypeId × Value → H} {P : Program} {W : World} {base : Nat} {held : Bool}
theorem open_rowH {t et : TypeId} {fuel : Nat} {v : Value} {y : DataW H × List MemPlace} (ht : P.underlying t = some (.slice et)) (hc : P.cellsOf et = eInt.s)
    (elem : ∀ n cs z, DataW.trod enc P W base (fun _ => true) held n et cs = some z → ∃ x, cs = eInt.cells x ∧ I64 x) (h : DataW.trod enc P W base (fun _ => true) held fuel t [v] = some y) : OpenedH W v := by
  rcases open_slice ht h with ⟨h0, _⟩ | ⟨a, len, cap, m, n, D, Pl, hcs, _, hl, hm, hmm, _, hx⟩
  · left; left; simpa using h0
  have hcs : v = .slice (some a) len cap := by simpa using hcs
  subst hcs
  have hmm : m = cap := by simpa using hmm
  subst hmm
  by_cases h0 : m = 0
  · right
    subst h0
    obtain rfl : len = 0 := by omega
    exact ⟨a, rfl⟩
  left; right
  obtain ⟨blk, off, spot⟩ := a
  obtain ⟨c, ty, fz, hblk, hsp⟩ : ∃ c ty fz, W.heap[blk]? = some (.cells c ty fz) ∧ spot = none := by
    obtain ⟨cs', h1, h2⟩ := hx 0 (by omega)
    obtain ⟨x, rfl, _⟩ := elem _ _ _ h2
    obtain ⟨_, hlen, hcell⟩ := World.cells?_some h1
    have := hcell 0 (by rw [hc]; decide)
    have hx0 : (eInt.cells x)[0]? = some (.int .i64 x) := rfl
    rw [add_add, hx0] at this
    have he : Addr.add ⟨blk, off, spot⟩ (0 * P.cellsOf et + 0) = ⟨blk, off, spot⟩ := by simp [Addr.add]
    rw [he] at this
    simp only [World.cell?] at this
    split at this
    · rename_i c ty fz hb'
      split at this
      · exact absurd this (by simp)
      · rename_i hs
        refine ⟨c, ty, fz, hb', ?_⟩
        cases spot with
        | none => rfl
        | some s => simp at hs
    · exact absurd this (by simp)
  subst hsp
  obtain ⟨l, hl1, hl2⟩ := choose_list (fun i x => I64 x ∧ ∀ (j : Nat) (u : Value), (eInt.cells x)[j]? = some u → c[off + (i * eInt.s + j)]? = some u) len (fun i hi => by
    obtain ⟨cs', h1, h2⟩ := hx i (by omega)
    obtain ⟨x, rfl, hg⟩ := elem _ _ _ h2
    obtain ⟨_, hlen, hcell⟩ := World.cells?_some h1
    refine ⟨x, hg, fun j u hj => ?_⟩
    have hjl : j < P.cellsOf et := by
      have := (List.getElem?_eq_some_iff.1 hj).1
      omega
    have := hcell j hjl
    rw [add_add, hj, plain_add, hc] at this
    simpa [World.cell?, hblk] using this)
  refine ⟨blk, off, m, l, by rw [hl1], by rw [hl1]; exact hl, hm, fun x hx' => ?_, c, ty, fz, hblk, fun i u hu => ?_⟩
  · obtain ⟨j, hj⟩ := List.getElem?_of_mem hx'
    exact (hl2 j x hj).1
  · obtain ⟨j, q, x, h1, h2, h3, _⟩ := row_get eInt l i u hu
    rw [h3]
    exact (hl2 j x h1).2 q u h2
end
/-- A tree as it lies in memory. -/
structure TV where
  cl : Int
  v0 : Value
  v1 : Value
  v2 : Value
  v3 : Value
def TV.cells (t : TV) : List Value := [.int .i64 t.cl, t.v0, t.v1, t.v2, t.v3]
def TV.OK (W : World) (t : TV) : Prop := I64 t.cl ∧ OpenedH W t.v0 ∧ OpenedH W t.v1 ∧ OpenedH W t.v2 ∧ OpenedH W t.v3
/-- A row of trees, or nil. -/
def OpenedT (W : World) (v : Value) : Prop :=
  v = .slice none 0 0 ∨ ∃ (b off cap : Nat) (l : List TV), v = .slice (some ⟨b, off, none⟩) l.length cap ∧ l.length ≤ cap ∧ cap ≤ maxLen ∧ (∀ t ∈ l, t.OK W) ∧ ∃ c ty fz, W.heap[b]? = some (.cells c ty fz) ∧ ∀ i t, l[i]? = some t → ∀ j u, t.cells[j]? = some u → c[off + 5 * i + j]? = some u
section
variable {H : Type} {enc : TypeId × Value → H} {W : World} {base : Nat} {held : Bool} {r : Reach} {b0 : Nat}
theorem open_treeC {n : Nat} {cs : List Value} {z : DataW H × List MemPlace} (h : DataW.trod enc Try.prog W base (fun _ => true) held n 55 cs = some z) : ∃ t : TV, cs = t.cells ∧ t.OK W := by
  have hu : Try.prog.underlying 55 = some (.struct (fieldsOf Try.prog 55)) := by kernel_rfl
  obtain ⟨xs, k, _, _, hl, hlen, hf⟩ := DataW.trod_struct (P := Try.prog) hu h
  have hl5 : cs.length = 5 := by rw [hl]; kernel_rfl
  have hx5 : xs.length = 5 := by rw [hlen]; kernel_rfl
  have hsl : Try.prog.underlying 43 = some (.slice 3) := by kernel_rfl
  obtain ⟨f0, e0, o0, c0, u0⟩ := field_of (P := Try.prog) (fs := fieldsOf Try.prog 55) (i := 0) (o := 0) (c := 1) (d := .int .i64) (by kernel_rfl) (by kernel_rfl)
  obtain ⟨f1, e1, o1, c1, u1⟩ := field_of (P := Try.prog) (fs := fieldsOf Try.prog 55) (i := 1) (o := 1) (c := 1) (d := .slice 3) (by kernel_rfl) (by kernel_rfl)
  obtain ⟨f2, e2, o2, c2, u2⟩ := field_of (P := Try.prog) (fs := fieldsOf Try.prog 55) (i := 2) (o := 2) (c := 1) (d := .slice 3) (by kernel_rfl) (by kernel_rfl)
  obtain ⟨f3, e3, o3, c3, u3⟩ := field_of (P := Try.prog) (fs := fieldsOf Try.prog 55) (i := 3) (o := 3) (c := 1) (d := .slice 3) (by kernel_rfl) (by kernel_rfl)
  obtain ⟨f4, e4, o4, c4, u4⟩ := field_of (P := Try.prog) (fs := fieldsOf Try.prog 55) (i := 4) (o := 4) (c := 1) (d := .slice 3) (by kernel_rfl) (by kernel_rfl)
  have g0 := hf 0 f0 e0
  have g1 := hf 1 f1 e1
  have g2 := hf 2 f2 e2
  have g3 := hf 3 f3 e3
  have g4 := hf 4 f4 e4
  obtain ⟨y0, hy0⟩ := xs_get (xs := xs) (i := 0) (by omega)
  obtain ⟨y1, hy1⟩ := xs_get (xs := xs) (i := 1) (by omega)
  obtain ⟨y2, hy2⟩ := xs_get (xs := xs) (i := 2) (by omega)
  obtain ⟨y3, hy3⟩ := xs_get (xs := xs) (i := 3) (by omega)
  obtain ⟨y4, hy4⟩ := xs_get (xs := xs) (i := 4) (by omega)
  rw [o0, c0, hy0] at g0
  rw [o1, c1, hy1] at g1
  rw [o2, c2, hy2] at g2
  rw [o3, c3, hy3] at g3
  rw [o4, c4, hy4] at g4
  match cs, hl5 with
  | [p0, p1, p2, p3, p4], _ =>
    obtain ⟨cl, q0, _, w0⟩ := DataW.trod_int u0 g0
    have q1 : [p0] = [Value.int .i64 cl] := q0
    injection q1 with q1 _
    subst q1
    exact ⟨⟨cl, p1, p2, p3, p4⟩, rfl, wf64 w0, open_rowH u1 (by kernel_rfl) elem_i64 g1, open_rowH u2 (by kernel_rfl) elem_i64 g2, open_rowH u3 (by kernel_rfl) elem_i64 g3, open_rowH u4 (by kernel_rfl) elem_i64 g4⟩
theorem open_trees {t : TypeId} {fuel : Nat} {v : Value} {y : DataW H × List MemPlace} (ht : Try.prog.underlying t = some (.slice 55)) (hv : Cell.okWide Try.prog W r b0 t v) (h : DataW.trod enc Try.prog W base (fun _ => true) held fuel t [v] = some y) : OpenedT W v := by
  rcases open_slice ht h with ⟨h0, _⟩ | ⟨a, len, cap, m, n, D, Pl, hcs, hbase, hl, hm, hmm, _, hx⟩
  · left; simpa using h0
  right
  have hcs : v = .slice (some a) len cap := by simpa using hcs
  subst hcs
  have hok : W.has Try.prog r b0 a 55 cap := by
    simp only [Cell.okWide, ht, Cell.ok] at hv
    exact hv.2.2
  obtain ⟨_, hsp, row, cells, hsh, hlies⟩ := hok
  obtain ⟨blk, off, spot⟩ := a
  simp only at hsp hsh hlies hbase
  subst hsp
  have hlm : len ≤ m := by rw [hmm]; split <;> omega
  obtain ⟨c, fz, hblk⟩ : ∃ c fz, W.heap[blk]? = some (.cells c row fz) := by
    unfold World.shape? at hsh
    split at hsh
    · rename_i c ty fz hb
      simp only [Option.some.injEq, Prod.mk.injEq] at hsh
      rw [hsh.1] at hb
      exact ⟨c, fz, hb⟩
    · simp at hsh
  have hsz : Try.prog.cellsOf 55 = 5 := by kernel_rfl
  rw [hsz] at hx
  obtain ⟨l, hl1, hl2⟩ := choose_list (fun i t => TV.OK W t ∧ ∀ j u, t.cells[j]? = some u → c[off + 5 * i + j]? = some u) len (fun i hi => by
    obtain ⟨cs', h1, h2⟩ := hx i (by omega)
    obtain ⟨_, hlen, hcell⟩ := World.cells?_some h1
    have hget : ∀ j u, cs'[j]? = some u → c[off + 5 * i + j]? = some u := fun j u hj => by
      have hjl := (List.getElem?_eq_some_iff.1 hj).1
      have := hcell j (by omega)
      rw [add_add, hj, plain_add] at this
      have := this
      simp only [World.cell?, hblk] at this
      rw [show off + 5 * i + j = off + (i * 5 + j) by omega]
      simpa using this
    obtain ⟨t, rfl, ht⟩ := open_treeC h2
    exact ⟨t, ht, hget⟩)
  refine ⟨blk, off, cap, l, by rw [hl1], by rw [hl1]; exact hl, hm, fun x hx' => ?_, c, row, fz, hblk, fun i t hi => (hl2 i t hi).2⟩
  obtain ⟨j, hj⟩ := List.getElem?_of_mem hx'
  exact (hl2 j x hj).1
/-- A forest. -/
theorem open_forest {v : Value} {d : DataW H} {ps : List MemPlace} (hv : Value.okWide Try.prog W r b0 61 v) (h : DataW.Trod enc Try.prog W base (fun _ => true) held 61 v d ps) :
    ∃ (dm cl : Int) (vb vt : Value), v = .agg #[.int .i64 dm, .int .i64 cl, vb, vt] ∧ I64 dm ∧ I64 cl ∧ Opened W eInt I64 vb ∧ OpenedT W vt := by
  have hu : Try.prog.underlying 61 = some (.struct (fieldsOf Try.prog 61)) := by kernel_rfl
  obtain ⟨fuel, hf⟩ := h
  simp only [Value.okWide, hu] at hv
  obtain ⟨⟨l⟩, rfl, hs, ts, ht1, _, ht2⟩ := hv
  have hl4 : l.length = 4 := by
    have : Try.prog.cellsOf 61 = 4 := by kernel_rfl
    rw [this] at hs
    simpa using hs
  have hct : Try.prog.cellTypes Try.prog.depth 61 = some [3, 3, 43, 59] := by kernel_rfl
  rw [hct] at ht1
  injection ht1 with ht1
  subst ht1
  obtain ⟨xs, k, _, _, hl, hlen, hf⟩ := DataW.trod_struct (P := Try.prog) hu hf
  have hx4 : xs.length = 4 := by rw [hlen]; kernel_rfl
  have hsl : Try.prog.underlying 43 = some (.slice 3) := by kernel_rfl
  have hst : Try.prog.underlying 59 = some (.slice 55) := by kernel_rfl
  obtain ⟨f0, e0, o0, c0, u0⟩ := field_of (P := Try.prog) (fs := fieldsOf Try.prog 61) (i := 0) (o := 0) (c := 1) (d := .int .i64) (by kernel_rfl) (by kernel_rfl)
  obtain ⟨f1, e1, o1, c1, u1⟩ := field_of (P := Try.prog) (fs := fieldsOf Try.prog 61) (i := 1) (o := 1) (c := 1) (d := .int .i64) (by kernel_rfl) (by kernel_rfl)
  obtain ⟨f2, e2, o2, c2, u2⟩ := field_of (P := Try.prog) (fs := fieldsOf Try.prog 61) (i := 2) (o := 2) (c := 1) (d := .slice 3) (by kernel_rfl) (by kernel_rfl)
  obtain ⟨f3, e3, o3, c3, u3⟩ := field_of (P := Try.prog) (fs := fieldsOf Try.prog 61) (i := 3) (o := 3) (c := 1) (d := .slice 55) (by kernel_rfl) (by kernel_rfl)
  have g0 := hf 0 f0 e0
  have g1 := hf 1 f1 e1
  have g2 := hf 2 f2 e2
  have g3 := hf 3 f3 e3
  obtain ⟨y0, hy0⟩ := xs_get (xs := xs) (i := 0) (by omega)
  obtain ⟨y1, hy1⟩ := xs_get (xs := xs) (i := 1) (by omega)
  obtain ⟨y2, hy2⟩ := xs_get (xs := xs) (i := 2) (by omega)
  obtain ⟨y3, hy3⟩ := xs_get (xs := xs) (i := 3) (by omega)
  rw [o0, c0, hy0] at g0
  rw [o1, c1, hy1] at g1
  rw [o2, c2, hy2] at g2
  rw [o3, c3, hy3] at g3
  match l, hl4 with
  | [p0, p1, p2, p3], _ =>
    obtain ⟨d0, q0, _, w0⟩ := DataW.trod_int u0 g0
    have q0' : [p0] = [Value.int .i64 d0] := q0
    injection q0' with q0' _
    subst q0'
    obtain ⟨d1, q1, _, w1⟩ := DataW.trod_int u1 g1
    have q1' : [p1] = [Value.int .i64 d1] := q1
    injection q1' with q1' _
    subst q1'
    obtain ⟨t2, hq2, w2⟩ := ht2 2 p2 rfl
    simp at hq2
    subst hq2
    obtain ⟨t3, hq3, w3⟩ := ht2 3 p3 rfl
    simp at hq3
    subst hq3
    have hc2 : Cell.okWide Try.prog W r b0 f2.type p2 := by
      simp only [Cell.okWide, hsl, u2, Cell.ok] at w2 ⊢
      exact w2
    have hc3 : Cell.okWide Try.prog W r b0 f3.type p3 := by
      simp only [Cell.okWide, hst, u3, Cell.ok] at w3 ⊢
      exact w3
    exact ⟨d0, d1, p2, p3, rfl, wf64 w0, wf64 w1, open_row u2 (by kernel_rfl) elem_i64 hc2 g2, open_trees u3 hc3 g3⟩
end
end Go.Proofs.Ythbaccmhdffjdaa.Ev


set_option linter.unusedVariables false
set_option linter.unusedSimpArgs false
set_option maxRecDepth 100000
namespace Go.Proofs.Ythbaccmhdffjdaa.Fo
open Go Go.RowKit Go.Proofs.Ythbaccmhdffjdaa.Ev Go.Proofs.Ythbaccmhdffjdaa.NodeE Go.Proofs.Ythbaccmhdffjdaa.Tr Go.Proofs.Ythbaccmhdffjdaa.Within Go.Proofs.Ythbaccmhdffjdaa.PickE Go.Proofs.Ythbaccmhdffjdaa.Tn Go.Proofs.Ythbaccmhdffjdaa.Fo

theorem opened_rw {W : World} {v : Value} (h : OpenedH W v) {db : Nat} {dc : Array Value} {dt : TypeId} {df : Nat × Nat} (hdb : W.heap[db]? = some (.cells dc dt df)) (k : Nat) :
    ∃ (r : Rw) (x : Option Addr) (ad hd : Nat × Nat), r.good ∧ (r.z = false → r.cs = []) ∧ hat x (40 + k) ∧ (r.z = true → x = none) ∧ (Opened W eInt I64 v → x = none) ∧ (∀ l : List (Nat × Nat), l[k]? = some ad → l[40 + k]? = some hd → ren0 (Nm.at l) (r.w x k) = v) ∧ (∀ l : List (Nat × Nat), l[k]? = some ad → x = none → ren0 (Nm.at l) (r.v k) = v) ∧ ∀ l : List (Nat × Nat), l[k]? = some ad → (Blk.ro r.cs).Holds (Nm.at l) k W.heap[(Nm.at l).blk k]? := by
  have hd0 : ∀ l : List (Nat × Nat), l[k]? = some (db, 0) → (Blk.ro []).Holds (Nm.at l) k W.heap[(Nm.at l).blk k]? := fun l hl => by
    have e1 : (Nm.at l).blk k = db := by simp [Nm.at, hl]
    rw [e1, hdb]
    exact ⟨dc, dt, df, rfl, fun i v hv => by simp at hv⟩
  by_cases ho : Opened W eInt I64 v
  · rcases ho with rfl | ho
    · exact ⟨⟨false, [], 0, 0⟩, none, (db, 0), (0, 0), fun h => absurd h (by simp), fun _ => rfl, Or.inl rfl, fun _ => rfl, fun _ => rfl, fun l hl _ => rfl, fun l hl _ => rfl, hd0⟩
    · obtain ⟨b, off, cap, ls, rfl, hl, hm, hg, c, ty, fz, hb, hc⟩ := ho
      have hpl := Elt.row_pl (e := eInt) ls
      have hv : ∀ l : List (Nat × Nat), l[k]? = some (b, off) → ren0 (Nm.at l) (.slice (some ⟨k, 0, none⟩) ls.length cap) = .slice (some ⟨b, off, none⟩) ls.length cap := fun l hl => by
        simp only [ren0, renA, Nm.at, hl, capOf, small_cap hm, cond_false, Nat.add_zero]
      refine ⟨⟨true, eInt.row ls, ls.length, cap⟩, none, (b, off), (0, 0), fun _ => ⟨(int_row hg).1, (int_row hg).2, hpl⟩, fun h => by simp at h, Or.inl rfl, fun _ => rfl, fun _ => rfl, fun l hl _ => hv l hl, fun l hl _ => hv l hl, fun l hl => ?_⟩
      have e1 : (Nm.at l).blk k = b := by simp [Nm.at, hl]
      have e2 : (Nm.at l).base k = off := by simp [Nm.at, hl]
      rw [e1]
      refine ⟨c, ty, fz, hb, fun i v hv => ?_⟩
      rw [e2, hc i v hv, ren0_leafG _ (hpl v (List.mem_of_getElem? hv))]
  · rcases h with h | ⟨⟨blk, off, sp⟩, rfl⟩
    · exact absurd h ho
    · refine ⟨⟨false, [], 0, 0⟩, some ⟨40 + k, 0, sp⟩, (db, 0), (blk, off), fun h => absurd h (by simp), fun _ => rfl, Or.inr ⟨sp, rfl⟩, fun h => absurd h (by simp), fun h => absurd h ho, fun l _ hl => ?_, fun l _ h => by simp at h, hd0⟩
      show ren0 (Nm.at l) (.slice (some ⟨40 + k, 0, sp⟩) 0 0) = _
      simp only [ren0, renA, Nm.at, hl, capOf, small_cap (Nat.zero_le _), cond_false, Nat.add_zero]
/-- No memory at all: then each slice is nil. -/
def NoMem (W : World) : Prop := ∀ (b : Nat) (c : Array Value) (ty : TypeId) (fz : Nat × Nat), W.heap[b]? ≠ some (.cells c ty fz)
theorem opened_nil {W : World} {v : Value} (hn : NoMem W) (h : Opened W eInt I64 v) : v = .slice none 0 0 := by
  rcases h with h | ⟨b, off, cap, ls, _, _, _, _, c, ty, fz, hb, _⟩
  · exact h
  · exact absurd hb (hn b c ty fz)
theorem openedT_nil {W : World} {v : Value} (hn : NoMem W) (h : OpenedT W v) : v = .slice none 0 0 := by
  rcases h with h | ⟨b, off, cap, ls, _, _, _, _, c, ty, fz, hb, _⟩
  · exact h
  · exact absurd hb (hn b c ty fz)
theorem mem_or (W : World) : NoMem W ∨ ∃ (b : Nat) (c : Array Value) (ty : TypeId) (fz : Nat × Nat), W.heap[b]? = some (.cells c ty fz) := by
  by_cases h : ∃ (b : Nat) (c : Array Value) (ty : TypeId) (fz : Nat × Nat), W.heap[b]? = some (.cells c ty fz)
  · exact Or.inr h
  · exact Or.inl fun b c ty fz hb => h ⟨b, c, ty, fz, hb⟩
def TV.vs (t : TV) : Nat → Value
  | 0 => t.v0
  | 1 => t.v1
  | 2 => t.v2
  | _ => t.v3
/-- The slices by their names. -/
def valOf (vb : Value) (T : List TV) (X : Nat → Value) (k : Nat) : Value :=
  if k = 1 then vb else if 2 ≤ k ∧ k < 18 then (match T[(k - 2) / 4]? with | some t => TV.vs t ((k - 2) % 4) | none => .slice none 0 0) else if 18 ≤ k then X k else .slice none 0 0
theorem valOf_opened {W : World} {vb : Value} {T : List TV} {X : Nat → Value} (hb : Opened W eInt I64 vb) (hT : ∀ t ∈ T, TV.OK W t) (hX : ∀ k, Opened W eInt I64 (X k)) (k : Nat) : OpenedH W (valOf vb T X k) := by
  unfold valOf
  split
  · exact Or.inl hb
  · split
    · split
      · rename_i t ht
        obtain ⟨_, h0, h1, h2, h3⟩ := hT t (List.mem_of_getElem? ht)
        unfold TV.vs
        split <;> assumption
      · exact Or.inl (Or.inl rfl)
    · split
      · exact Or.inl (hX k)
      · exact Or.inl (Or.inl rfl)
theorem valOf_tree {vb : Value} {T : List TV} {X : Nat → Value} {i : Nat} {t : TV} (ht : T[i]? = some t) (hi : i < 4) :
    valOf vb T X (2 + 4 * i) = t.v0 ∧ valOf vb T X (3 + 4 * i) = t.v1 ∧ valOf vb T X (4 + 4 * i) = t.v2 ∧ valOf vb T X (5 + 4 * i) = t.v3 := by
  have h : ∀ j, j < 4 → valOf vb T X (2 + j + 4 * i) = TV.vs t j := fun j hj => by
    unfold valOf
    rw [if_neg (by omega), if_pos (by omega), show (2 + j + 4 * i - 2) / 4 = i by omega, show (2 + j + 4 * i - 2) % 4 = j by omega, ht]
  exact ⟨h 0 (by omega), h 1 (by omega), h 2 (by omega), h 3 (by omega)⟩
/-- A forest and more slices: under which names they lie. -/
structure ForIn (W : World) (N : Nat) (d cl : Int) (vb vt : Value) (X : Nat → Value) (D : FD) (zt : Option Addr) (l : List (Nat × Nat)) : Prop where
  ok : D.OK
  z : ztOK D zt
  hd : D.d = d
  hcl : D.cl = cl
  none : ∀ k, (D.rw k).z = false → (D.rw k).cs = []
  len : l.length = N
  val : ren (Nm.at l) (.agg ⟨D.fp.fcs zt⟩) = .agg #[.int .i64 d, .int .i64 cl, vb, vt]
  more : ∀ k, 18 ≤ k → k < 24 → ren0 (Nm.at l) ((D.rw k).v k) = X k
  holds : ∀ k, k < 24 → (Blk.ro (D.rowc k)).Holds (Nm.at l) k W.heap[(Nm.at l).blk k]?
theorem forest_in {W : World} {N : Nat} (hN : 64 ≤ N) {d cl : Int} (hd : I64 d) (hcl : I64 cl) {vb vt : Value} (hb : Opened W eInt I64 vb) (ht : OpenedT W vt) {X : Nat → Value} (hX : ∀ k, Opened W eInt I64 (X k))
    (hmem : ∃ (b : Nat) (c : Array Value) (ty : TypeId) (fz : Nat × Nat), W.heap[b]? = some (.cells c ty fz)) : ∃ D zt l, ForIn W N d cl vb vt X D zt l := by
  obtain ⟨db, dc, dt, df, hdb⟩ := hmem
  have hT : ∃ (T : List TV) (zt : Option Addr) (ct : Nat) (ad0 : Nat × Nat), (zt = some ⟨0, 0, none⟩ ∨ (zt = none ∧ T.length = 0)) ∧ (∀ t ∈ T, TV.OK W t) ∧ (∀ l : List (Nat × Nat), l[0]? = some ad0 → ren0 (Nm.at l) (.slice zt T.length ct) = vt) ∧
      ∃ c ty fz, W.heap[ad0.1]? = some (.cells c ty fz) ∧ ∀ i t, T[i]? = some t → ∀ j u, t.cells[j]? = some u → c[ad0.2 + 5 * i + j]? = some u := by
    rcases ht with rfl | ⟨b, off, cap, T, rfl, hl, hm, hok, c, ty, fz, hbk, hc⟩
    · exact ⟨[], none, 0, (db, 0), Or.inr ⟨rfl, rfl⟩, fun t h => by simp at h, fun l _ => rfl, dc, dt, df, hdb, fun i t h => by simp at h⟩
    · refine ⟨T, some ⟨0, 0, none⟩, cap, (b, off), Or.inl rfl, hok, fun l hl => ?_, c, ty, fz, hbk, hc⟩
      simp only [ren0, renA, Nm.at, hl, capOf, small_cap hm, cond_false, Nat.add_zero]
  obtain ⟨T, zt, ct, ad0, hz, hTok, hvt, c0, ty0, fz0, hc0, hcells⟩ := hT
  have hV := valOf_opened (X := X) hb hTok hX
  have hch := fun k => opened_rw (hV k) hdb k
  obtain ⟨rw', hrw⟩ := Classical.axiomOfChoice hch
  obtain ⟨xa, hxa⟩ := Classical.axiomOfChoice hrw
  obtain ⟨ad, hadd⟩ := Classical.axiomOfChoice hxa
  obtain ⟨hd', had⟩ := Classical.axiomOfChoice hadd
  have hI0 : I64 0 := by decide
  let D : FD := ⟨d, cl, T.length, ct, rw', fun i => match T[i]? with | some t => t.cl | none => 0, fun k => if k < 18 then xa k else none⟩
  let l : List (Nat × Nat) := (List.range N).map fun k => if k = 0 then ad0 else if k < 24 then ad k else hd' (k - 40)
  have hl0 : l[0]? = some ad0 := by
    show ((List.range N).map _)[0]? = _
    rw [List.getElem?_map, List.getElem?_range (by omega)]
    rfl
  have hlk : ∀ k, 1 ≤ k → k < 24 → l[k]? = some (ad k) := fun k h1 h2 => by
    show ((List.range N).map _)[k]? = _
    rw [List.getElem?_map, List.getElem?_range (by omega)]
    show some (if k = 0 then ad0 else if k < 24 then ad k else hd' (k - 40)) = _
    rw [if_neg (by omega), if_pos h2]
  have hlh : ∀ k, 1 ≤ k → k < 24 → l[40 + k]? = some (hd' k) := fun k h1 h2 => by
    show ((List.range N).map _)[40 + k]? = _
    rw [List.getElem?_map, List.getElem?_range (by omega)]
    show some (if 40 + k = 0 then ad0 else if 40 + k < 24 then ad (40 + k) else hd' (40 + k - 40)) = _
    rw [if_neg (by omega), if_neg (by omega), show 40 + k - 40 = k by omega]
  have hren : ∀ k, 1 ≤ k → k < 18 → ren0 (Nm.at l) ((rw' k).w (if k < 18 then xa k else none) k) = valOf vb T X k := fun k h1 h2 => by
    rw [if_pos h2]
    exact (had k).2.2.2.2.2.1 l (hlk k h1 (by omega)) (hlh k h1 (by omega))
  have hrs : ∀ k, 1 ≤ k → k < 18 → ren0 (Nm.at l) (.slice (D.z k) (D.m k) (D.c k)) = valOf vb T X k := fun k h1 h2 => by
    rw [FD.sv D k]
    exact hren k h1 h2
  have hts : ∀ i t, T[i]? = some t → i < 4 → (D.ts i).map (ren0 (Nm.at l)) = t.cells := by
    intro i t ht hi
    obtain ⟨h0, h1, h2, h3⟩ := valOf_tree (vb := vb) (X := X) ht hi
    have e0 : D.tc i = t.cl := by show (match T[i]? with | some t => t.cl | none => 0) = _; rw [ht]
    simp only [FD.ts, List.map_cons, List.map_nil, hrs _ (show 1 ≤ 2 + 4 * i by omega) (by omega), hrs _ (show 1 ≤ 3 + 4 * i by omega) (by omega), hrs _ (show 1 ≤ 4 + 4 * i by omega) (by omega), hrs _ (show 1 ≤ 5 + 4 * i by omega) (by omega), h0, h1, h2, h3, e0]
    rfl
  have x1 : xa 1 = none := (had 1).2.2.2.2.1 (by
    show Opened W eInt I64 (valOf vb T X 1)
    unfold valOf
    rw [if_pos rfl]
    exact hb)
  refine ⟨D, zt, l, ⟨⟨hd, hcl, fun k => (had k).1, fun k => (had k).2.1, fun i => ?_, fun k => ?_, fun k hk => ?_, (by show (if 1 < 18 then xa 1 else none) = none; rw [if_pos (show (1 : Nat) < 18 by decide)]; exact x1), fun k hk => if_neg (by omega)⟩, hz, rfl, rfl, fun k => (had k).2.1, ?_, ?_, ?_, ?_⟩⟩
  · show I64 (match T[i]? with | some t => t.cl | none => 0)
    cases h : T[i]? with
    | none => exact hI0
    | some t => exact (hTok t (List.mem_of_getElem? h)).1
  · show hat (if k < 18 then xa k else none) (40 + k)
    split
    · exact (had k).2.2.1
    · exact Or.inl rfl
  · show (if k < 18 then xa k else none) = none
    split
    · exact (had k).2.2.2.1 hk
    · rfl
  · show ((List.range N).map _).length = N
    simp
  · show Value.agg (Array.map (ren0 (Nm.at l)) ⟨D.fp.fcs zt⟩) = _
    have h1 := hrs 1 (by omega) (by omega)
    have h2 : valOf vb T X 1 = vb := by unfold valOf; rw [if_pos rfl]
    rw [h2] at h1
    simp only [FP.fcs, List.map_toArray, List.map_cons, List.map_nil]
    show Value.agg (List.toArray [_, _, ren0 (Nm.at l) (.slice (D.z 1) (D.m 1) (D.c 1)), ren0 (Nm.at l) (.slice zt T.length ct)]) = _
    rw [h1, hvt l hl0]
    rfl
  · intro k h1 h2
    have hv : valOf vb T X k = X k := by
      unfold valOf
      rw [if_neg (by omega), if_neg (by omega), if_pos h1]
    have hx : xa k = none := (had k).2.2.2.2.1 (by
      show Opened W eInt I64 (valOf vb T X k)
      rw [hv]
      exact hX k)
    have := (had k).2.2.2.2.2.2.1 l (hlk k (by omega) h2) hx
    rw [show (D.rw k) = rw' k from rfl, this, hv]
  · intro k hk
    cases k with
    | succ k => exact (had (k + 1)).2.2.2.2.2.2.2 l (hlk (k + 1) (by omega) hk)
    | zero =>
      have e1 : (Nm.at l).blk 0 = ad0.1 := by simp [Nm.at, hl0]
      have e2 : (Nm.at l).base 0 = ad0.2 := by simp [Nm.at, hl0]
      rw [e1]
      refine ⟨c0, ty0, fz0, hc0, ?_⟩
      rw [e2]
      have key : ∀ b, b ≤ min T.length 4 → ∀ i v, (D.cs b)[i]? = some v → c0[ad0.2 + i]? = some (ren0 (Nm.at l) v) := by
        intro b
        induction b with
        | zero => intro _ i v h; simp [FD.cs] at h
        | succ b ih =>
          intro hb i v h
          simp only [FD.cs] at h
          by_cases hi : i < (D.cs b).length
          · rw [List.getElem?_append_left hi] at h
            exact ih (by omega) i v h
          · rw [List.getElem?_append_right (by omega)] at h
            have hlen := FD.cs_len D b
            obtain ⟨t, ht⟩ : ∃ t, T[b]? = some t := ⟨_, List.getElem?_eq_getElem (by omega)⟩
            have hm := hts b t ht (by omega)
            have hu : t.cells[i - (D.cs b).length]? = some (ren0 (Nm.at l) v) := by
              rw [← hm, List.getElem?_map, h]
              rfl
            have := hcells b t ht _ _ hu
            rw [hlen] at this
            rw [show ad0.2 + i = ad0.2 + 5 * b + (i - 5 * b) by omega]
            exact this
      exact key (min T.length 4) (Nat.le_refl _)
theorem rows24 (D : FD) {k : Nat} {b : Blk} (h : roRows [D.fp.cs0, D.fp.R 1, D.fp.R 2, D.fp.R 3, D.fp.R 4, D.fp.R 5, D.fp.R 6, D.fp.R 7, D.fp.R 8, D.fp.R 9, D.fp.R 10, D.fp.R 11, D.fp.R 12, D.fp.R 13, D.fp.R 14, D.fp.R 15, D.fp.R 16, D.fp.R 17, D.fp.R 18, D.fp.R 19, D.fp.R 20, D.fp.R 21, D.fp.R 22, D.fp.R 23] k = some b) : k < 24 ∧ b = .ro (D.rowc k) := by
  have hk : k < 24 := by
    apply Classical.byContradiction
    intro hk
    have : ([D.fp.cs0, D.fp.R 1, D.fp.R 2, D.fp.R 3, D.fp.R 4, D.fp.R 5, D.fp.R 6, D.fp.R 7, D.fp.R 8, D.fp.R 9, D.fp.R 10, D.fp.R 11, D.fp.R 12, D.fp.R 13, D.fp.R 14, D.fp.R 15, D.fp.R 16, D.fp.R 17, D.fp.R 18, D.fp.R 19, D.fp.R 20, D.fp.R 21, D.fp.R 22, D.fp.R 23] : List (List Value))[k]? = none := List.getElem?_eq_none (by simpa using hk)
    unfold roRows at h
    rw [this] at h
    simp at h
  refine ⟨hk, ?_⟩
  have : roRows [D.fp.cs0, D.fp.R 1, D.fp.R 2, D.fp.R 3, D.fp.R 4, D.fp.R 5, D.fp.R 6, D.fp.R 7, D.fp.R 8, D.fp.R 9, D.fp.R 10, D.fp.R 11, D.fp.R 12, D.fp.R 13, D.fp.R 14, D.fp.R 15, D.fp.R 16, D.fp.R 17, D.fp.R 18, D.fp.R 19, D.fp.R 20, D.fp.R 21, D.fp.R 22, D.fp.R 23] k = some (.ro (D.rowc k)) := by
    match k, hk with
    | 0, _ | 1, _ | 2, _ | 3, _ | 4, _ | 5, _ | 6, _ | 7, _ | 8, _ | 9, _ | 10, _ | 11, _ | 12, _ | 13, _ | 14, _ | 15, _ | 16, _ | 17, _ | 18, _ | 19, _ | 20, _ | 21, _ | 22, _ | 23, _ => rfl
    | k + 24, h => omega
  rw [this] at h
  exact (Option.some.inj h).symm
/-- What a law's call does, from what it does under these names. -/
theorem forest_calls {f : FuncId} {args : List Value} {W : World} {d cl : Int} {vb vt : Value} {X : Nat → Value} {D : FD} {zt : Option Addr} {l : List (Nat × Nat)} (F : ForIn W 64 d cl vb vt X D zt l) (hs : CallSpec Try.prog f args (roRows [D.fp.cs0, D.fp.R 1, D.fp.R 2, D.fp.R 3, D.fp.R 4, D.fp.R 5, D.fp.R 6, D.fp.R 7, D.fp.R 8, D.fp.R 9, D.fp.R 10, D.fp.R 11, D.fp.R 12, D.fp.R 13, D.fp.R 14, D.fp.R 15, D.fp.R 16, D.fp.R 17, D.fp.R 18, D.fp.R 19, D.fp.R 20, D.fp.R 21, D.fp.R 22, D.fp.R 23]) 64 (.bool true) (assocN [] [])) (hnm : ∀ u ∈ args, ∀ j ∈ nms u, j < 64) :
    Calls Try.prog f (args.map (ren (Nm.at l))).toArray W fun e w' => e = .returned (.bool true) ∧ Below W.heap.size W w' := by
  refine calls_ro2 hs rfl (fun j b hb => ?_) hnm (fun j cs hj => ?_)
  · obtain ⟨hk, rfl⟩ := rows24 D hb
    exact ⟨by omega, _, rfl, fun c hc k hk => (rowc_nm F.ok j c hc k hk).2⟩
  · obtain ⟨hk, e⟩ := rows24 D hj
    injection e with e
    rw [e]
    exact F.holds j hk
theorem rwvF_ren (r : Rw) (k : Nat) (g : Nm) : ren g (r.v k) = ren0 g (r.v k) := by
  unfold Rw.v
  cases r.z <;> rfl
theorem rwv_nms (r : Rw) (k : Nat) : ∀ j ∈ nms (r.v k), j = k := by
  intro j hj
  refine Rw.v_nm r k j ?_
  unfold Rw.v at hj ⊢
  cases hz : r.z <;> rw [hz] at hj <;> exact hj
theorem fcs_nms {D : FD} (ok : D.OK) {zt : Option Addr} (hz : ztOK D zt) : ∀ j ∈ nms (.agg ⟨D.fp.fcs zt⟩), j < 18 := by
  intro j hj
  obtain ⟨c, hc, hj⟩ := mem_nmL' (f := nm0) (show j ∈ nmL nm0 (D.fp.fcs zt) from hj)
  exact fcs_nm ok hz c hc j hj
theorem rwOn {D : FD} (ok : D.OK) (hn : ∀ k, (D.rw k).z = false → (D.rw k).cs = []) (k : Nat) : RwOn (D.rw k) (some (.ro (D.fp.R k))) := ⟨ok.good k, hn k, _, rfl, rfl⟩
end Go.Proofs.Ythbaccmhdffjdaa.Fo


set_option linter.unusedVariables false
set_option linter.unusedSimpArgs false
set_option maxRecDepth 100000
namespace Go.Proofs.Ythbaccmhdffjdaa.Lp
open Go Go.RowKit Go.Proofs.Ythbaccmhdffjdaa.Ev Go.Proofs.Ythbaccmhdffjdaa.NodeE Go.Proofs.Ythbaccmhdffjdaa.BoxF Go.Proofs.Ythbaccmhdffjdaa.Lv Go.Proofs.Ythbaccmhdffjdaa.Tr Go.Proofs.Ythbaccmhdffjdaa.Within Go.Proofs.Ythbaccmhdffjdaa.PickE Go.Proofs.Ythbaccmhdffjdaa.Tn Go.Proofs.Ythbaccmhdffjdaa.Fo Go.Proofs.Ythbaccmhdffjdaa.Lp

theorem bxGo_len5 : ∀ (ws : List Int) (i : Nat) (s : List Bx × List Pc), (bxGo i ws s).2.length ≤ s.2.length + ws.length
  | [], i, s => Nat.le_refl _
  | w :: ws, i, s => by
    have := bxGo_len5 ws (i + 1) (bxS i w s)
    have h1 : (bxS i w s).2.length ≤ s.2.length + 1 := by
      simp only [bxS]
      cases lfB w
      · exact Nat.le_succ _
      · cases (s.1.getD i Bx.zero).emp <;> simp
    simp only [bxGo, List.length_cons]
    omega
theorem pcs_len5 (ws : List Int) (b : Bx) : (pcsI ws b).length ≤ ws.length := by
  have := bxGo_len5 ws 0 (bx0 ws.length b)
  simp only [bx0, List.length_nil, Nat.zero_add] at this
  exact this
theorem list_len5 (ws : List Int) (b : Bx) : (listP ws b).length ≤ ws.length := by
  unfold listP
  cases rightI ws 4 && !b.emp
  · exact Nat.zero_le _
  · exact pcs_len5 ws b
theorem goodW_mono {dim e : Int} {n i : Nat} {w : Int} (h : goodW dim n i w = true) (hd : dim ≤ e) : goodW e n i w = true := by
  unfold goodW at h ⊢
  simp only [Bool.and_eq_true, Bool.or_eq_true, Bool.not_eq_true', Bool.or_eq_false_iff, decide_eq_false_iff_not] at h ⊢
  refine ⟨h.1, h.2.imp id fun g => ⟨by omega, g.2⟩⟩
theorem rightI_mono {ws : List Int} {dim e : Int} (h : rightI ws dim = true) (hd : dim ≤ e) : rightI ws e = true := by
  unfold rightI at h ⊢
  simp only [Bool.and_eq_true] at h ⊢
  exact ⟨h.1, h.2.1, allGood_of fun j w hw => goodW_mono (allGood_get h.2.2.1 j w hw) hd, h.2.2.2⟩
theorem within_le {x y : Bx} (h : x.Le y) (he : x.emp = false) : withinB x.a0 x.b0 x.a1 x.b1 x.a2 x.b2 x.a3 x.b3 x.a4 x.b4 y.a0 y.b0 y.a1 y.b1 y.a2 y.b2 y.a3 y.b3 y.a4 y.b4 = true := by
  obtain ⟨⟨h0, g0⟩, ⟨h1, g1⟩, ⟨h2, g2⟩, ⟨h3, g3⟩, h4, g4⟩ := h
  have he : emptyB x.a0 x.b0 x.a1 x.b1 x.a2 x.b2 x.a3 x.b3 x.a4 x.b4 = false := he
  unfold withinB
  rw [he]
  simp [BoxF.w4, h0, g0, h1, g1, h2, g2, h3, g3, h4, g4]
theorem reg_emp (l : List Int) (dim : Int) : (regI l dim).emp = false := by
  obtain ⟨⟨_, h0, _⟩, ⟨_, h1, _⟩, ⟨_, h2, _⟩, ⟨_, h3, _⟩, _, h4, _⟩ := reg_in l dim
  exact emp_iff.2 ⟨h0, h1, h2, h3, h4⟩
theorem reg_I64s (l : List Int) (dim : Int) : (regI l dim).I64s := by
  obtain ⟨⟨_, h0, _⟩, ⟨_, h1, _⟩, ⟨_, h2, _⟩, ⟨_, h3, _⟩, _, h4, _⟩ := reg_in l dim
  unfold Bx.I64s I64
  omega
theorem ins_in (m l : List Int) (dim : Int) : (regI m dim).In (insI l (regI m dim)) 0 := by
  obtain ⟨⟨_, h0, _⟩, ⟨_, h1, _⟩, ⟨_, h2, _⟩, ⟨_, h3, _⟩, _⟩ := reg_in m dim
  have key : ∀ (i a b : Int), a ≤ b → a ≤ insX l i a b ∧ insX l i a b ≤ b := fun i a b h => by
    have hm : maxI a b = b := by unfold maxI; split <;> omega
    unfold insX
    rw [hm]
    exact within_range _ h
  exact ⟨key _ _ _ h0, key _ _ _ h1, key _ _ _ h2, key _ _ _ h3, (by show (0 : Int) ≤ 0; decide), (by show (0 : Int) ≤ 0; decide)⟩
theorem nodes4 (r0 r1 r2 r3 : List Int) {dim : Int} (h1 : 1 ≤ dim) (h3 : dim ≤ 3) : rightI ((nodesI r0 r1 r2 r3 dim).map packN) 4 = true ∧ (∀ w ∈ (nodesI r0 r1 r2 r3 dim).map packN, U64 w) ∧ (nodesI r0 r1 r2 r3 dim).length ≤ 15 := by
  obtain ⟨x1, x2, x3⟩ := nodes_right r0 r1 r2 r3 (dim := dim) ⟨h1, by omega⟩
  exact ⟨rightI_mono x1 (by omega), x2, by simpa [wordsI] using x3⟩
theorem modOK {D : FD} (ok : D.OK) {zt : Option Addr} (hz : ztOK D zt) {K : Nat} (hK : K = min D.n 4) {xs : List Value} (hx : xs = [.agg ⟨D.fp.fcs zt⟩]) : ModOK D.fp K xs [some (.ro D.fp.cs0), some (.ro (D.fp.R 1)), some (.ro (D.fp.R 2)), some (.ro (D.fp.R 3)), some (.ro (D.fp.R 4)), some (.ro (D.fp.R 5)), some (.ro (D.fp.R 6)), some (.ro (D.fp.R 7)), some (.ro (D.fp.R 8)), some (.ro (D.fp.R 9)), some (.ro (D.fp.R 10)), some (.ro (D.fp.R 11)), some (.ro (D.fp.R 12)), some (.ro (D.fp.R 13)), some (.ro (D.fp.R 14)), some (.ro (D.fp.R 15)), some (.ro (D.fp.R 16)), some (.ro (D.fp.R 17))] := by
  refine ⟨D, zt, ok, hz, hx, rfl, hK, fun k hk => ⟨.ro (D.rowc k), ?_, rfl⟩⟩
  exact vw18_get (fun j => some (.ro (D.rowc j))) hk
theorem FD.sv18 {D : FD} (ok : D.OK) {k : Nat} (h : 18 ≤ k) : Value.slice (D.z k) (D.m k) (D.c k) = (D.rw k).v k := by
  rw [FD.sv, ok.a18 k h, Rw.w_none]
theorem rw_at {D : FD} (ok : D.OK) (k : Nat) : RwAt (D.rw k) k (some (.ro (D.fp.R k))) ((D.rw k).v k) := ⟨rfl, ok.good k, fun _ => ⟨_, rfl, rfl⟩⟩
theorem nodesAt {D : FD} (ok : D.OK) (tcl : Int) {dim : Int} (h1 : 1 ≤ dim) (h3 : dim ≤ 3) : NodesAt (nodesI (D.rw 20).l (D.rw 21).l (D.rw 22).l (D.rw 23).l dim) 20 [.int .i64 tcl, .slice (D.fp.z 20) (D.fp.m 20) (D.fp.c 20), .slice (D.fp.z 21) (D.fp.m 21) (D.fp.c 21), .slice (D.fp.z 22) (D.fp.m 22) (D.fp.c 22), .slice (D.fp.z 23) (D.fp.m 23) (D.fp.c 23)] dim (some (.ro (D.fp.R 20))) (some (.ro (D.fp.R 21))) (some (.ro (D.fp.R 22))) (some (.ro (D.fp.R 23))) := by
  refine ⟨tcl, D.rw 20, D.rw 21, D.rw 22, D.rw 23, ?_, FD.rwIn ok 20, FD.rwIn ok 21, FD.rwIn ok 22, FD.rwIn ok 23, rfl, h1, by omega⟩
  show [Value.int .i64 tcl, .slice (D.z 20) (D.m 20) (D.c 20), .slice (D.z 21) (D.m 21) (D.c 21), .slice (D.z 22) (D.m 22) (D.c 22), .slice (D.z 23) (D.m 23) (D.c 23)] = _
  rw [FD.sv18 ok (k := 20) (by decide), FD.sv18 ok (k := 21) (by decide), FD.sv18 ok (k := 22) (by decide), FD.sv18 ok (k := 23) (by decide)]
theorem regOK {D : FD} (ok : D.OK) {dim c0 b0 b1 b2 : Int} (h1 : 1 ≤ dim) (h3 : dim ≤ 3) {zm : Option Addr} (hz : zm = none ∨ ∃ j, zm = some ⟨j, 0, none⟩) (lm cm : Nat) {q : Nat} (hq : 18 ≤ q) : RegOK (regI (D.rw q).l dim) q [.agg ⟨[.int .i64 dim, .int .i64 c0, .int .i64 b0, .int .i64 b1, .int .i64 b2, .slice zm lm cm]⟩, .slice (D.fp.z q) (D.fp.m q) (D.fp.c q)] (some (.ro (D.fp.R q))) := by
  have hv : Value.slice (D.fp.z q) (D.fp.m q) (D.fp.c q) = (D.rw q).v q := FD.sv18 ok hq
  rw [hv]
  rcases hz with rfl | ⟨j, rfl⟩
  · exact ⟨dim, c0, b0, b1, b2, none, lm, cm, D.rw q, rfl, h1, h3, rwOn ok ok.none q, rfl⟩
  · exact ⟨dim, c0, b0, b1, b2, some j, lm, cm, D.rw q, rfl, h1, h3, rwOn ok ok.none q, rfl⟩
theorem insOK {D : FD} (ok : D.OK) (m : List Int) (dim : Int) {q : Nat} (hq : 18 ≤ q) : InsOK (insI (D.rw q).l (regI m dim)) q [.agg ⟨(regI m dim).cs⟩, .slice (D.fp.z q) (D.fp.m q) (D.fp.c q)] (some (.ro (D.fp.R q))) := by
  have hv : Value.slice (D.fp.z q) (D.fp.m q) (D.fp.c q) = (D.rw q).v q := FD.sv18 ok hq
  rw [hv]
  obtain ⟨⟨_, h0, _⟩, ⟨_, h1, _⟩, ⟨_, h2, _⟩, ⟨_, h3, _⟩, _⟩ := reg_in m dim
  exact ⟨regI m dim, D.rw q, rfl, rwOn ok ok.none q, rfl, by omega, by omega, by omega, by omega⟩
end Go.Proofs.Ythbaccmhdffjdaa.Lp


set_option linter.unusedVariables false
set_option linter.unusedSimpArgs false
set_option maxRecDepth 100000
namespace Go.Proofs.Ythbaccmhdffjdaa.Ll
open Go Go.RowKit Go.Proofs.Ythbaccmhdffjdaa.Ev Go.Proofs.Ythbaccmhdffjdaa.NodeE Go.Proofs.Ythbaccmhdffjdaa.Tr Go.Proofs.Ythbaccmhdffjdaa.BoxF Go.Proofs.Ythbaccmhdffjdaa.Lv Go.Proofs.Ythbaccmhdffjdaa.Lp
def wi (x y : Bx) : Bool := withinB x.a0 x.b0 x.a1 x.b1 x.a2 x.b2 x.a3 x.b3 x.a4 x.b4 y.a0 y.b0 y.a1 y.b1 y.a2 y.b2 y.a3 y.b3 y.a4 y.b4
theorem wi_le {x y : Bx} (h : wi x y = true) (he : x.emp = false) : x.Le y := by
  have hx := emp_iff.1 he
  unfold wi withinB at h
  have he : emptyB x.a0 x.b0 x.a1 x.b1 x.a2 x.b2 x.a3 x.b3 x.a4 x.b4 = false := he
  rw [he] at h
  simp [BoxF.w4, cond_eq_ite] at h
  unfold Bx.Le
  omega
theorem outR_le {R S : List Bx} : ∀ (ws : List Int) (i : Nat), (∀ k, k < ws.length → (S.getD (i + k) Bx.zero).emp = false → (R.getD (i + k) Bx.zero).emp = false) → (outR S i ws).length ≤ (outR R i ws).length
  | [], _, _ => Nat.le_refl _
  | w :: ws, i, h => by
    have ih := outR_le (R := R) (S := S) ws (i + 1) fun k hk he => by
      have := h (k + 1) (by rw [List.length_cons]; omega) (by rw [show i + (k + 1) = i + 1 + k by omega]; exact he)
      rw [show i + (k + 1) = i + 1 + k by omega] at this
      exact this
    have h0 := h 0 (by simp)
    rw [Nat.add_zero] at h0
    simp only [outR, List.length_append]
    cases hl : lfB w
    · simpa using ih
    · cases hs : (S.getD i Bx.zero).emp
      · rw [h0 hs]
        simpa using ih
      · cases (R.getD i Bx.zero).emp <;> simp <;> omega
theorem list_emp {ws : List Int} {b : Bx} (h : b.emp = true) : listP ws b = [] := by simp only [listP, h, Bool.not_true, Bool.and_false, cond_false]
theorem less_len {ws : List Int} {b c : Bx} (h : rightI ws 4 = true) (he : b.emp = false) (hl : c.emp = false → c.Le b) : (listP ws c).length ≤ (listP ws b).length := by
  cases hc : c.emp
  · rw [list_pcs h hc, list_pcs h he]
    obtain ⟨R, hR, e1⟩ := boxes h b
    obtain ⟨S, hS, e2⟩ := boxes h c
    rw [e1, e2]
    refine outR_le ws 0 fun k hk hs => ?_
    rw [Nat.zero_add] at hs ⊢
    have r1 := (getB (r := R) (i := k) (by rw [hR.len]; exact hk)).2
    have s1 := (getB (r := S) (i := k) (by rw [hS.len]; exact hk)).2
    exact le_emp (box_part h hR hS hl k _ _ s1 r1 hs) hs
  · rw [list_emp hc]
    exact Nat.zero_le _
theorem less_one {ws : List Int} {b c : Bx} (h : rightI ws 4 = true) (he : b.emp = false) (hl : c.emp = false → c.Le b) {q : Pc} (hq : q ∈ listP ws c) : q.box.emp = false ∧ (listP ws b).countP (fun p => wi q.box p.box && (q.val == p.val)) = 1 := by
  cases hc : c.emp
  · rw [list_pcs h hc] at hq
    rw [list_pcs h he]
    obtain ⟨R, hR, e1⟩ := boxes h b
    obtain ⟨S, hS, e2⟩ := boxes h c
    rw [e2] at hq
    rw [e1]
    obtain ⟨j, w, hw, hlf, hj, hqe, hv⟩ := mem_out hS hq
    refine ⟨hqe, ?_⟩
    have hk := (List.getElem?_eq_some_iff.1 hw).1
    have r1 := (getB (r := R) (i := j) (by rw [hR.len]; exact hk)).2
    have hle := box_part h hR hS hl j _ _ hj r1 hqe
    have hye := le_emp hle hqe
    have hm := out_mem hR hw hlf r1 hye
    have hin := (pt_in hqe).1
    have hb := le_in (box_le h hR j _ r1 hye) (le_in hle hin)
    have h1 := piece_one h hR hb
    have h2 : (outR R 0 ws).countP (fun p => wi q.box p.box && (q.val == p.val)) ≤ (outR R 0 ws).countP (fun y => y.box.hs q.box.pt q.box.a4) := List.countP_mono_left fun y hy hf => by
      simp only [Bool.and_eq_true] at hf
      exact hs_iff.2 (le_in (wi_le hf.1 hqe) hin)
    have h3 : 0 < (outR R 0 ws).countP (fun p => wi q.box p.box && (q.val == p.val)) := List.countP_pos_iff.2 ⟨_, hm, by
      simp only [Bool.and_eq_true]
      exact ⟨within_le hle hqe, by rw [hv]; simp⟩⟩
    omega
  · rw [list_emp hc] at hq
    simp at hq
end Go.Proofs.Ythbaccmhdffjdaa.Ll


set_option linter.unusedVariables false
set_option linter.unusedSimpArgs false
set_option maxRecDepth 100000
namespace Go.Proofs.Ythbaccmhdffjdaa.Ll
open Go Go.RowKit Go.Proofs.Ythbaccmhdffjdaa.Ev Go.Proofs.Ythbaccmhdffjdaa.NodeE Go.Proofs.Ythbaccmhdffjdaa.BoxF Go.Proofs.Ythbaccmhdffjdaa.Lv Go.Proofs.Ythbaccmhdffjdaa.Tr Go.Proofs.Ythbaccmhdffjdaa.Within Go.Proofs.Ythbaccmhdffjdaa.PickE Go.Proofs.Ythbaccmhdffjdaa.Tn Go.Proofs.Ythbaccmhdffjdaa.Fo Go.Proofs.Ythbaccmhdffjdaa.Lp Go.Proofs.Ythbaccmhdffjdaa.Ll

noncomputable def t_ll (p : FP) (K : Nat) (NI : List Nd) (b : Bx) (PL : List Int → Bx → List Pc) (KB : Bool) : Sums := (upd (upd (upd (upd (upd t_bcut 24 (some (nodesT_F 20 NI))) 27 (some (model_F p K))) 28 (some (region_F b 18))) 23 (some (roSum (ls_F KB PL)))) 6 (some (sumOf lruns_F)))
theorem t_ll_ok (p : FP) (K : Nat) (NI : List Nd) (b : Bx) (PL : List Int → Bx → List Pc) (KB : Bool) : SumsOK Try.prog (t_ll p K NI b PL KB) := (sums_cons (sums_cons (sums_cons (sums_cons (sums_cons t_bcut_ok (nodesT_sum 20 NI)) (model_sum p K)) (region_sum b 18)) (ls_sum KB PL)) lruns_sum)

def l0L (W : List Int) (m : Nat) (S : List Pc) (x y : Bx) (Q : Nat → Prop) : LoopF Nat where
  ts _ := [12, 14, 50, 51, 52]
  hs _ := [80, 83, 84]
  tv _ i := [.slice (some ⟨80, 0, none⟩) m mk, .slice (some ⟨83, 0, none⟩) S.length mk, .slice (some ⟨84, 0, none⟩) 2 2, .int .i64 2, .int .i64 (i : Int)]
  hv _ _ := [.vec (eWord.row W) 83 1, .vec (ePc.row S) 27 11, .cells (x.cs ++ y.cs) 25]
  inv _ := Q
  mu _ i := 2 - i
  nx := 88
def l1L (W : List Int) (m : Nat) (S : List Pc) (x y : Bx) (i : Nat) (T : List Pc) (Q : Nat → Nat → Prop) : LoopF Nat where
  ts _ := [12, 14, 50, 51, 52, 64, 65, 66]
  hs z := match z with | 0 => [80, 83, 84] | _ => [80, 83, 84, 85]
  tv z j := [.slice (some ⟨80, 0, none⟩) m mk, .slice (some ⟨83, 0, none⟩) S.length mk, .slice (some ⟨84, 0, none⟩) 2 2, .int .i64 2, .int .i64 (i : Int), match z with | 0 => .slice none 0 0 | _ => .slice (some ⟨85, 0, none⟩) T.length mk, match z with | 0 => .int .i64 0 | _ => .int .i64 (T.length : Int), .int .i64 (j : Int)]
  hv z _ := match z with | 0 => [.vec (eWord.row W) 83 1, .vec (ePc.row S) 27 11, .cells (x.cs ++ y.cs) 25] | _ => [.vec (eWord.row W) 83 1, .vec (ePc.row S) 27 11, .cells (x.cs ++ y.cs) 25, .vec (ePc.row T) 27 11]
  inv := Q
  mu _ j := T.length - j
  nx := 88
def l2L (W : List Int) (m : Nat) (S : List Pc) (x y : Bx) (i : Nat) (T : List Pc) (j : Nat) (bo : Bx) (v : Int) (Q : LQ → Prop) : LoopF LQ where
  ts _ := [12, 14, 50, 51, 52, 64, 65, 66, 21, 22, 70, 71, 72]
  hs _ := [80, 83, 84, 85, 86]
  tv _ := fun ⟨k, n⟩ => [.slice (some ⟨80, 0, none⟩) m mk, .slice (some ⟨83, 0, none⟩) S.length mk, .slice (some ⟨84, 0, none⟩) 2 2, .int .i64 2, .int .i64 (i : Int), .slice (some ⟨85, 0, none⟩) T.length mk, .int .i64 (T.length : Int), .int .i64 (j : Int), ptr 86, .int .i64 (n : Int), .slice (some ⟨83, 0, none⟩) S.length mk, .int .i64 (S.length : Int), .int .i64 (k : Int)]
  hv _ _ := [.vec (eWord.row W) 83 1, .vec (ePc.row S) 27 11, .cells (x.cs ++ y.cs) 25, .vec (ePc.row T) 27 11, .cells (bo.cs ++ [.int .i64 v]) 27]
  inv _ := Q
  mu _ := fun ⟨k, n⟩ => S.length - k
  nx := 88
theorem xy_pl (x y : Bx) : ∀ c ∈ x.cs ++ y.cs, leafG c = true := by
  intro c hc
  rcases List.mem_append.1 hc with h | h
  · exact bcs_pl x c h
  · exact bcs_pl y c h
theorem l0L_ok (W : List Int) (m : Nat) (S : List Pc) (x y : Bx) (Q : Nat → Prop) : (l0L W m S x y Q).OK 64 := by
  refine ⟨(by decide : 64 ≤ 88), fun z i h k hk => ?_, fun z i h v hv k hk => ?_, fun z i h y hy => ?_⟩
  · show k < 88
    simp [l0L] at hk; omega
  · show k < 88
    simp only [l0L, ptr, List.mem_cons, List.not_mem_nil, or_false] at hv
    rcases hv with rfl | rfl | rfl | rfl | rfl <;> simp [nms, nm1, nm0] at hk <;> omega
  · simp only [l0L, List.mem_cons, List.not_mem_nil, or_false] at hy
    rcases hy with rfl | rfl | rfl
    · exact Blk.plain.namesLt (b := .vec _ _ _) (Elt.row_pl _) _
    · exact Blk.plain.namesLt (b := .vec _ _ _) (Elt.row_pl _) _
    · exact Blk.plain.namesLt (b := .cells _ _) (xy_pl _ _) _
theorem l1L_ok (W : List Int) (m : Nat) (S : List Pc) (x y : Bx) (i : Nat) (T : List Pc) (Q : Nat → Nat → Prop) : (l1L W m S x y i T Q).OK 64 := by
  refine ⟨(by decide : 64 ≤ 88), fun z i h k hk => ?_, fun z i h v hv k hk => ?_, fun z i h y hy => ?_⟩
  · show k < 88
    match z with
    | 0 => simp [l1L] at hk; omega
    | z + 1 => simp [l1L] at hk; omega
  · show k < 88
    match z with
    | 0 =>
      simp only [l1L, ptr, List.mem_cons, List.not_mem_nil, or_false] at hv
      rcases hv with rfl | rfl | rfl | rfl | rfl | rfl | rfl | rfl <;> simp [nms, nm1, nm0] at hk <;> omega
    | z + 1 =>
      simp only [l1L, ptr, List.mem_cons, List.not_mem_nil, or_false] at hv
      rcases hv with rfl | rfl | rfl | rfl | rfl | rfl | rfl | rfl <;> simp [nms, nm1, nm0] at hk <;> omega
  · match z with
    | 0 =>
      simp only [l1L, List.mem_cons, List.not_mem_nil, or_false] at hy
      rcases hy with rfl | rfl | rfl
      · exact Blk.plain.namesLt (b := .vec _ _ _) (Elt.row_pl _) _
      · exact Blk.plain.namesLt (b := .vec _ _ _) (Elt.row_pl _) _
      · exact Blk.plain.namesLt (b := .cells _ _) (xy_pl _ _) _
    | z + 1 =>
      simp only [l1L, List.mem_cons, List.not_mem_nil, or_false] at hy
      rcases hy with rfl | rfl | rfl | rfl
      · exact Blk.plain.namesLt (b := .vec _ _ _) (Elt.row_pl _) _
      · exact Blk.plain.namesLt (b := .vec _ _ _) (Elt.row_pl _) _
      · exact Blk.plain.namesLt (b := .cells _ _) (xy_pl _ _) _
      · exact Blk.plain.namesLt (b := .vec _ _ _) (Elt.row_pl _) _
theorem l2L_ok (W : List Int) (m : Nat) (S : List Pc) (x y : Bx) (i : Nat) (T : List Pc) (j : Nat) (bo : Bx) (v : Int) (Q : LQ → Prop) : (l2L W m S x y i T j bo v Q).OK 64 := by
  refine ⟨(by decide : 64 ≤ 88), fun z i h k hk => ?_, fun z i h v hv k hk => ?_, fun z i h y hy => ?_⟩
  · show k < 88
    simp [l2L] at hk; omega
  · show k < 88
    simp only [l2L, ptr, List.mem_cons, List.not_mem_nil, or_false] at hv
    rcases hv with rfl | rfl | rfl | rfl | rfl | rfl | rfl | rfl | rfl | rfl | rfl | rfl | rfl <;> simp [nms, nm1, nm0] at hk <;> omega
  · simp only [l2L, List.mem_cons, List.not_mem_nil, or_false] at hy
    rcases hy with rfl | rfl | rfl | rfl | rfl
    · exact Blk.plain.namesLt (b := .vec _ _ _) (Elt.row_pl _) _
    · exact Blk.plain.namesLt (b := .vec _ _ _) (Elt.row_pl _) _
    · exact Blk.plain.namesLt (b := .cells _ _) (xy_pl _ _) _
    · exact Blk.plain.namesLt (b := .vec _ _ _) (Elt.row_pl _) _
    · exact Blk.plain.namesLt (b := .cells _ _) (ePc.pl ⟨bo, v⟩) _
/-- All slices nil. -/
def y1L (bt bf : Blk) (place at_ : Int) : LoopF Unit where
  ts _ := [2, 3, 4, 5, 6]
  hs _ := [80, 81]
  tv _ _ := [.slice none 0 0, .int .i64 place, .int .i64 at_, ptr 80, ptr 81]
  hv _ _ := [bt, bf]
  inv _ _ := True
  mu _ _ := 0
  nx := 82
theorem y1L_ok (bt bf : Blk) (place at_ : Int) (h1 : bt.plain) (h2 : bf.plain) : (y1L bt bf place at_).OK 0 := by
  refine ⟨(by decide : 0 ≤ 82), fun z i h k hk => ?_, fun z i h v hv k hk => ?_, fun z i h y hy => ?_⟩
  · show k < 82
    simp [y1L] at hk; omega
  · show k < 82
    simp only [y1L, ptr, List.mem_cons, List.not_mem_nil, or_false] at hv
    rcases hv with rfl | rfl | rfl | rfl | rfl <;> simp [nms, nm1, nm0] at hk <;> omega
  · simp only [y1L, List.mem_cons, List.not_mem_nil, or_false] at hy
    rcases hy with rfl | rfl
    · exact h1.namesLt _
    · exact h2.namesLt _
def y2L (tcl d cl place at_ : Int) : LoopF Unit where
  ts _ := [2, 3, 4, 5, 6]
  hs _ := [0, 1, 2, 3, 4, 5, 6, 7, 8, 9, 10, 11, 12, 13, 14, 15, 16, 17, 18, 19, 20, 21, 22, 23, 80, 81]
  tv _ _ := [.slice none 0 0, .int .i64 place, .int .i64 at_, ptr 80, ptr 81]
  hv _ _ := [.ro [], .ro [], .ro [], .ro [], .ro [], .ro [], .ro [], .ro [], .ro [], .ro [], .ro [], .ro [], .ro [], .ro [], .ro [], .ro [], .ro [], .ro [], .ro [], .ro [], .ro [], .ro [], .ro [], .ro [], .ro (ztc tcl), .ro (zfc d cl)]
  inv _ _ := True
  mu _ _ := 0
  nx := 82
end Go.Proofs.Ythbaccmhdffjdaa.Ll


set_option linter.unusedVariables false
set_option linter.unusedSimpArgs false
set_option maxRecDepth 100000
namespace Go.Proofs.Ythbaccmhdffjdaa.Ll
open Go Go.RowKit Go.Proofs.Ythbaccmhdffjdaa.Ev Go.Proofs.Ythbaccmhdffjdaa.NodeE Go.Proofs.Ythbaccmhdffjdaa.BoxF Go.Proofs.Ythbaccmhdffjdaa.Lv Go.Proofs.Ythbaccmhdffjdaa.Tr Go.Proofs.Ythbaccmhdffjdaa.Within Go.Proofs.Ythbaccmhdffjdaa.PickE Go.Proofs.Ythbaccmhdffjdaa.Tn Go.Proofs.Ythbaccmhdffjdaa.Fo Go.Proofs.Ythbaccmhdffjdaa.Lp Go.Proofs.Ythbaccmhdffjdaa.Ll

theorem llA0 (p : FP) (NI : List Nd) (b : Bx) (PL : List Int → Bx → List Pc) (zt : Option Addr) (tcl place at_ c1 pl : Int) (x y : Bx) (m : Nat) (W : List Int) (S : List Pc) (Q : Nat → Prop)  {E : Env} {rv : Value} {rhs : List Nat} {rhv : List Blk} (hE : EnvOK E Try.prog Try.f8 5 64 rv rhs rhv) (hL : (l0L W m S x y Q).OK 64) (hob : all ([SameK (atLp (lp Try.f8 0)) (atLp (lp Try.f8 0)), Enter (l0L W m S x y Q) 0 none [Value.slice (some (Addr.mk 144 0 none)) NI.length 1267650600228229401496703205376, Value.slice (some (Addr.mk 216 0 none)) (PL (eWord.list (eWord.row (List.map packN NI)) 0 NI.length) (Bx.mk b.a0 b.b0 b.a1 b.b1 b.a2 b.b2 b.a3 b.b3 b.a4 b.b4)).length 1267650600228229401496703205376, Value.slice (some (Addr.mk 368 0 none)) 2 2, Value.int IntKind.i64 ((2 : Int)), Value.int IntKind.i64 ((0 : Int))] [Blk.vec (eWord.row (List.map packN NI)) 83 1, Blk.vec (ePc.row (PL (eWord.list (eWord.row (List.map packN NI)) 0 NI.length) (Bx.mk b.a0 b.b0 b.a1 b.b1 b.a2 b.b2 b.a3 b.b3 b.a4 b.b4))) 27 11, Blk.cells [Value.int IntKind.i64 x.a0, Value.int IntKind.i64 x.b0, Value.int IntKind.i64 x.a1, Value.int IntKind.i64 x.b1, Value.int IntKind.i64 x.a2, Value.int IntKind.i64 x.b2, Value.int IntKind.i64 x.a3, Value.int IntKind.i64 x.b3, Value.int IntKind.i64 x.a4, Value.int IntKind.i64 x.b4, Value.int IntKind.i64 y.a0, Value.int IntKind.i64 y.b0, Value.int IntKind.i64 y.a1, Value.int IntKind.i64 y.b1, Value.int IntKind.i64 y.a2, Value.int IntKind.i64 y.b2, Value.int IntKind.i64 y.a3, Value.int IntKind.i64 y.b3, Value.int IntKind.i64 y.a4, Value.int IntKind.i64 y.b4] 25] [(80, 144), (83, 216), (84, 368)], Value.tuple (Array.mk [Value.agg (Array.mk [Value.int IntKind.i64 (cL ((0 : Int)) pl b.a0 b.b0 at_), Value.int IntKind.i64 (cH ((0 : Int)) pl b.a0 b.b0 at_), Value.int IntKind.i64 (cL ((1 : Int)) pl b.a1 b.b1 at_), Value.int IntKind.i64 (cH ((1 : Int)) pl b.a1 b.b1 at_), Value.int IntKind.i64 (cL ((2 : Int)) pl b.a2 b.b2 at_), Value.int IntKind.i64 (cH ((2 : Int)) pl b.a2 b.b2 at_), Value.int IntKind.i64 (cL ((3 : Int)) pl b.a3 b.b3 at_), Value.int IntKind.i64 (cH ((3 : Int)) pl b.a3 b.b3 at_), Value.int IntKind.i64 (cL ((4 : Int)) pl b.a4 b.b4 at_), Value.int IntKind.i64 (cH ((4 : Int)) pl b.a4 b.b4 at_)]), Value.agg (Array.mk [Value.int IntKind.i64 (dL ((0 : Int)) pl b.a0 b.b0 at_), Value.int IntKind.i64 (dH ((0 : Int)) pl b.a0 b.b0 at_), Value.int IntKind.i64 (dL ((1 : Int)) pl b.a1 b.b1 at_), Value.int IntKind.i64 (dH ((1 : Int)) pl b.a1 b.b1 at_), Value.int IntKind.i64 (dL ((2 : Int)) pl b.a2 b.b2 at_), Value.int IntKind.i64 (dH ((2 : Int)) pl b.a2 b.b2 at_), Value.int IntKind.i64 (dL ((3 : Int)) pl b.a3 b.b3 at_), Value.int IntKind.i64 (dH ((3 : Int)) pl b.a3 b.b3 at_), Value.int IntKind.i64 (dL ((4 : Int)) pl b.a4 b.b4 at_), Value.int IntKind.i64 (dH ((4 : Int)) pl b.a4 b.b4 at_)])]) = Value.tuple (Array.mk [Value.agg (Array.mk [Value.int IntKind.i64 x.a0, Value.int IntKind.i64 x.b0, Value.int IntKind.i64 x.a1, Value.int IntKind.i64 x.b1, Value.int IntKind.i64 x.a2, Value.int IntKind.i64 x.b2, Value.int IntKind.i64 x.a3, Value.int IntKind.i64 x.b3, Value.int IntKind.i64 x.a4, Value.int IntKind.i64 x.b4]), Value.agg (Array.mk [Value.int IntKind.i64 y.a0, Value.int IntKind.i64 y.b0, Value.int IntKind.i64 y.a1, Value.int IntKind.i64 y.b1, Value.int IntKind.i64 y.a2, Value.int IntKind.i64 y.b2, Value.int IntKind.i64 y.a3, Value.int IntKind.i64 y.b3, Value.int IntKind.i64 y.a4, Value.int IntKind.i64 y.b4])]), I64 at_, b.b0 ≤ (9223372036854775807 : Int), b.b1 ≤ (9223372036854775807 : Int), b.b2 ≤ (9223372036854775807 : Int), b.b3 ≤ (9223372036854775807 : Int), b.b4 ≤ (9223372036854775807 : Int), Value.int IntKind.i64 (withinS place ((0 : Int)) c1) = Value.int IntKind.i64 pl, I64 place, (-2305843009213693952 : Int) ≤ (0 : Int), (0 : Int) ≤ c1, c1 ≤ (2305843009213693952 : Int), Value.int IntKind.i64 (IntKind.i64.wrap (p.dim - (1 : Int))) = Value.int IntKind.i64 c1, plainR [eWord.row (List.map packN NI)], PL = listP, PL (eWord.list (eWord.row (List.map packN NI)) 0 NI.length) (Bx.mk b.a0 b.b0 b.a1 b.b1 b.a2 b.b2 b.a3 b.b3 b.a4 b.b4) ≠ [], eWord.Row (eWord.row (List.map packN NI)) 0 NI.length, ∀ (w : Int), w ∈ eWord.list (eWord.row (List.map packN NI)) 0 NI.length → U64 w, NI.length ≤ 65536, (Bx.mk b.a0 b.b0 b.a1 b.b1 b.a2 b.b2 b.a3 b.b3 b.a4 b.b4).I64s, RegOK b 18 [Value.agg (Array.mk [Value.int IntKind.i64 p.dim, Value.int IntKind.i64 p.cls, Value.int IntKind.i64 p.b0, Value.int IntKind.i64 p.b1, Value.int IntKind.i64 p.b2, Value.slice none 0 0]), Value.slice (p.z 18) (p.m 18) (p.c 18)] (some (Blk.ro (p.R 18))), NodesAt NI 20 [Value.int IntKind.i64 tcl, Value.slice (p.z 20) (p.m 20) (p.c 20), Value.slice (p.z 21) (p.m 21) (p.c 21), Value.slice (p.z 22) (p.m 22) (p.c 22), Value.slice (p.z 23) (p.m 23) (p.c 23)] p.dim (some (Blk.ro (p.R 20))) (some (Blk.ro (p.R 21))) (some (Blk.ro (p.R 22))) (some (Blk.ro (p.R 23))), ModOK p 0 [Value.agg (Array.mk [Value.int IntKind.i64 p.d, Value.int IntKind.i64 p.cl, Value.slice (p.z 1) (p.m 1) (p.c 1), Value.slice zt p.n p.ct])] [some (Blk.ro p.cs0), some (Blk.ro (p.R 1)), some (Blk.ro (p.R 2)), some (Blk.ro (p.R 3)), some (Blk.ro (p.R 4)), some (Blk.ro (p.R 5)), some (Blk.ro (p.R 6)), some (Blk.ro (p.R 7)), some (Blk.ro (p.R 8)), some (Blk.ro (p.R 9)), some (Blk.ro (p.R 10)), some (Blk.ro (p.R 11)), some (Blk.ro (p.R 12)), some (Blk.ro (p.R 13)), some (Blk.ro (p.R 14)), some (Blk.ro (p.R 15)), some (Blk.ro (p.R 16)), some (Blk.ro (p.R 17))]])) (hK : ∀ zz, (l0L W m S x y Q).inv 0 zz → ltO ((l0L W m S x y Q).mu 0 zz) none → Sat E (atLp (lp Try.f8 0)) ((l0L W m S x y Q).st 0 zz)) : Sat E [.code (bodyOf Try.f8)] (st0 Try.f8 [.agg ⟨[.int .i64 tcl, .slice (p.z 20) (p.m 20) (p.c 20), .slice (p.z 21) (p.m 21) (p.c 21), .slice (p.z 22) (p.m 22) (p.c 22), .slice (p.z 23) (p.m 23) (p.c 23)]⟩, .agg ⟨p.fcs zt⟩, .slice (p.z 18) (p.m 18) (p.c 18), .int .i64 place, .int .i64 at_] (roRows [p.cs0, p.R 1, p.R 2, p.R 3, p.R 4, p.R 5, p.R 6, p.R 7, p.R 8, p.R 9, p.R 10, p.R 11, p.R 12, p.R 13, p.R 14, p.R 15, p.R 16, p.R 17, p.R 18, p.R 19, p.R 20, p.R 21, p.R 22, p.R 23]) 64) :=
  by_to (T := auto0 (t_ll p 0 NI b PL true)) (h := hints [(5, 4, {v := some (.int .i64 c1)}), (5, 5, {v := some (.int .i64 pl)}), (5, 7, {v := some (.tuple ⟨[.agg ⟨x.cs⟩, .agg ⟨y.cs⟩]⟩)})]) (ws := [.stop]) (i0 := 0) hE hm (auto0_ok (t_ll_ok p 0 NI b PL true)) hL (by kernel_rfl) hob hK
theorem llA1 (p : FP) (NI : List Nd) (b : Bx) (PL : List Int → Bx → List Pc) (zt : Option Addr) (tcl place at_ c1 pl : Int) (x y : Bx) (m : Nat) (W : List Int) (S : List Pc) (Q : Nat → Prop)  {E : Env} {rv : Value} {rhs : List Nat} {rhv : List Blk} (hE : EnvOK E Try.prog Try.f8 5 64 rv rhs rhv) (hL : (l0L W m S x y Q).OK 64) (hob : all ([SameK (atLp (lp Try.f8 0)) (atLp (lp Try.f8 0)), Enter (l0L W m S x y Q) 0 none [Value.slice (some (Addr.mk 144 0 none)) NI.length 1267650600228229401496703205376, Value.slice (some (Addr.mk 216 0 none)) (PL (eWord.list (eWord.row (List.map packN NI)) 0 NI.length) (Bx.mk b.a0 b.b0 b.a1 b.b1 b.a2 b.b2 b.a3 b.b3 b.a4 b.b4)).length 1267650600228229401496703205376, Value.slice (some (Addr.mk 368 0 none)) 2 2, Value.int IntKind.i64 ((2 : Int)), Value.int IntKind.i64 ((0 : Int))] [Blk.vec (eWord.row (List.map packN NI)) 83 1, Blk.vec (ePc.row (PL (eWord.list (eWord.row (List.map packN NI)) 0 NI.length) (Bx.mk b.a0 b.b0 b.a1 b.b1 b.a2 b.b2 b.a3 b.b3 b.a4 b.b4))) 27 11, Blk.cells [Value.int IntKind.i64 x.a0, Value.int IntKind.i64 x.b0, Value.int IntKind.i64 x.a1, Value.int IntKind.i64 x.b1, Value.int IntKind.i64 x.a2, Value.int IntKind.i64 x.b2, Value.int IntKind.i64 x.a3, Value.int IntKind.i64 x.b3, Value.int IntKind.i64 x.a4, Value.int IntKind.i64 x.b4, Value.int IntKind.i64 y.a0, Value.int IntKind.i64 y.b0, Value.int IntKind.i64 y.a1, Value.int IntKind.i64 y.b1, Value.int IntKind.i64 y.a2, Value.int IntKind.i64 y.b2, Value.int IntKind.i64 y.a3, Value.int IntKind.i64 y.b3, Value.int IntKind.i64 y.a4, Value.int IntKind.i64 y.b4] 25] [(80, 144), (83, 216), (84, 368)], Value.tuple (Array.mk [Value.agg (Array.mk [Value.int IntKind.i64 (cL ((0 : Int)) pl b.a0 b.b0 at_), Value.int IntKind.i64 (cH ((0 : Int)) pl b.a0 b.b0 at_), Value.int IntKind.i64 (cL ((1 : Int)) pl b.a1 b.b1 at_), Value.int IntKind.i64 (cH ((1 : Int)) pl b.a1 b.b1 at_), Value.int IntKind.i64 (cL ((2 : Int)) pl b.a2 b.b2 at_), Value.int IntKind.i64 (cH ((2 : Int)) pl b.a2 b.b2 at_), Value.int IntKind.i64 (cL ((3 : Int)) pl b.a3 b.b3 at_), Value.int IntKind.i64 (cH ((3 : Int)) pl b.a3 b.b3 at_), Value.int IntKind.i64 (cL ((4 : Int)) pl b.a4 b.b4 at_), Value.int IntKind.i64 (cH ((4 : Int)) pl b.a4 b.b4 at_)]), Value.agg (Array.mk [Value.int IntKind.i64 (dL ((0 : Int)) pl b.a0 b.b0 at_), Value.int IntKind.i64 (dH ((0 : Int)) pl b.a0 b.b0 at_), Value.int IntKind.i64 (dL ((1 : Int)) pl b.a1 b.b1 at_), Value.int IntKind.i64 (dH ((1 : Int)) pl b.a1 b.b1 at_), Value.int IntKind.i64 (dL ((2 : Int)) pl b.a2 b.b2 at_), Value.int IntKind.i64 (dH ((2 : Int)) pl b.a2 b.b2 at_), Value.int IntKind.i64 (dL ((3 : Int)) pl b.a3 b.b3 at_), Value.int IntKind.i64 (dH ((3 : Int)) pl b.a3 b.b3 at_), Value.int IntKind.i64 (dL ((4 : Int)) pl b.a4 b.b4 at_), Value.int IntKind.i64 (dH ((4 : Int)) pl b.a4 b.b4 at_)])]) = Value.tuple (Array.mk [Value.agg (Array.mk [Value.int IntKind.i64 x.a0, Value.int IntKind.i64 x.b0, Value.int IntKind.i64 x.a1, Value.int IntKind.i64 x.b1, Value.int IntKind.i64 x.a2, Value.int IntKind.i64 x.b2, Value.int IntKind.i64 x.a3, Value.int IntKind.i64 x.b3, Value.int IntKind.i64 x.a4, Value.int IntKind.i64 x.b4]), Value.agg (Array.mk [Value.int IntKind.i64 y.a0, Value.int IntKind.i64 y.b0, Value.int IntKind.i64 y.a1, Value.int IntKind.i64 y.b1, Value.int IntKind.i64 y.a2, Value.int IntKind.i64 y.b2, Value.int IntKind.i64 y.a3, Value.int IntKind.i64 y.b3, Value.int IntKind.i64 y.a4, Value.int IntKind.i64 y.b4])]), I64 at_, b.b0 ≤ (9223372036854775807 : Int), b.b1 ≤ (9223372036854775807 : Int), b.b2 ≤ (9223372036854775807 : Int), b.b3 ≤ (9223372036854775807 : Int), b.b4 ≤ (9223372036854775807 : Int), Value.int IntKind.i64 (withinS place ((0 : Int)) c1) = Value.int IntKind.i64 pl, I64 place, (-2305843009213693952 : Int) ≤ (0 : Int), (0 : Int) ≤ c1, c1 ≤ (2305843009213693952 : Int), Value.int IntKind.i64 (IntKind.i64.wrap (p.dim - (1 : Int))) = Value.int IntKind.i64 c1, plainR [eWord.row (List.map packN NI)], PL = listP, PL (eWord.list (eWord.row (List.map packN NI)) 0 NI.length) (Bx.mk b.a0 b.b0 b.a1 b.b1 b.a2 b.b2 b.a3 b.b3 b.a4 b.b4) ≠ [], eWord.Row (eWord.row (List.map packN NI)) 0 NI.length, ∀ (w : Int), w ∈ eWord.list (eWord.row (List.map packN NI)) 0 NI.length → U64 w, NI.length ≤ 65536, (Bx.mk b.a0 b.b0 b.a1 b.b1 b.a2 b.b2 b.a3 b.b3 b.a4 b.b4).I64s, RegOK b 18 [Value.agg (Array.mk [Value.int IntKind.i64 p.dim, Value.int IntKind.i64 p.cls, Value.int IntKind.i64 p.b0, Value.int IntKind.i64 p.b1, Value.int IntKind.i64 p.b2, Value.slice (some (Addr.mk 96 0 none)) 1 1267650600228229401496703205376]), Value.slice (p.z 18) (p.m 18) (p.c 18)] (some (Blk.ro (p.R 18))), NodesAt NI 20 [Value.int IntKind.i64 tcl, Value.slice (p.z 20) (p.m 20) (p.c 20), Value.slice (p.z 21) (p.m 21) (p.c 21), Value.slice (p.z 22) (p.m 22) (p.c 22), Value.slice (p.z 23) (p.m 23) (p.c 23)] p.dim (some (Blk.ro (p.R 20))) (some (Blk.ro (p.R 21))) (some (Blk.ro (p.R 22))) (some (Blk.ro (p.R 23))), ModOK p 1 [Value.agg (Array.mk [Value.int IntKind.i64 p.d, Value.int IntKind.i64 p.cl, Value.slice (p.z 1) (p.m 1) (p.c 1), Value.slice zt p.n p.ct])] [some (Blk.ro p.cs0), some (Blk.ro (p.R 1)), some (Blk.ro (p.R 2)), some (Blk.ro (p.R 3)), some (Blk.ro (p.R 4)), some (Blk.ro (p.R 5)), some (Blk.ro (p.R 6)), some (Blk.ro (p.R 7)), some (Blk.ro (p.R 8)), some (Blk.ro (p.R 9)), some (Blk.ro (p.R 10)), some (Blk.ro (p.R 11)), some (Blk.ro (p.R 12)), some (Blk.ro (p.R 13)), some (Blk.ro (p.R 14)), some (Blk.ro (p.R 15)), some (Blk.ro (p.R 16)), some (Blk.ro (p.R 17))]])) (hK : ∀ zz, (l0L W m S x y Q).inv 0 zz → ltO ((l0L W m S x y Q).mu 0 zz) none → Sat E (atLp (lp Try.f8 0)) ((l0L W m S x y Q).st 0 zz)) : Sat E [.code (bodyOf Try.f8)] (st0 Try.f8 [.agg ⟨[.int .i64 tcl, .slice (p.z 20) (p.m 20) (p.c 20), .slice (p.z 21) (p.m 21) (p.c 21), .slice (p.z 22) (p.m 22) (p.c 22), .slice (p.z 23) (p.m 23) (p.c 23)]⟩, .agg ⟨p.fcs zt⟩, .slice (p.z 18) (p.m 18) (p.c 18), .int .i64 place, .int .i64 at_] (roRows [p.cs0, p.R 1, p.R 2, p.R 3, p.R 4, p.R 5, p.R 6, p.R 7, p.R 8, p.R 9, p.R 10, p.R 11, p.R 12, p.R 13, p.R 14, p.R 15, p.R 16, p.R 17, p.R 18, p.R 19, p.R 20, p.R 21, p.R 22, p.R 23]) 64) :=
  by_to (T := auto0 (t_ll p 1 NI b PL true)) (h := hints [(5, 4, {v := some (.int .i64 c1)}), (5, 5, {v := some (.int .i64 pl)}), (5, 7, {v := some (.tuple ⟨[.agg ⟨x.cs⟩, .agg ⟨y.cs⟩]⟩)})]) (ws := [.stop]) (i0 := 0) hE hm (auto0_ok (t_ll_ok p 1 NI b PL true)) hL (by kernel_rfl) hob hK
theorem llA2 (p : FP) (NI : List Nd) (b : Bx) (PL : List Int → Bx → List Pc) (zt : Option Addr) (tcl place at_ c1 pl : Int) (x y : Bx) (m : Nat) (W : List Int) (S : List Pc) (Q : Nat → Prop)  {E : Env} {rv : Value} {rhs : List Nat} {rhv : List Blk} (hE : EnvOK E Try.prog Try.f8 5 64 rv rhs rhv) (hL : (l0L W m S x y Q).OK 64) (hob : all ([SameK (atLp (lp Try.f8 0)) (atLp (lp Try.f8 0)), Enter (l0L W m S x y Q) 0 none [Value.slice (some (Addr.mk 144 0 none)) NI.length 1267650600228229401496703205376, Value.slice (some (Addr.mk 216 0 none)) (PL (eWord.list (eWord.row (List.map packN NI)) 0 NI.length) (Bx.mk b.a0 b.b0 b.a1 b.b1 b.a2 b.b2 b.a3 b.b3 b.a4 b.b4)).length 1267650600228229401496703205376, Value.slice (some (Addr.mk 368 0 none)) 2 2, Value.int IntKind.i64 ((2 : Int)), Value.int IntKind.i64 ((0 : Int))] [Blk.vec (eWord.row (List.map packN NI)) 83 1, Blk.vec (ePc.row (PL (eWord.list (eWord.row (List.map packN NI)) 0 NI.length) (Bx.mk b.a0 b.b0 b.a1 b.b1 b.a2 b.b2 b.a3 b.b3 b.a4 b.b4))) 27 11, Blk.cells [Value.int IntKind.i64 x.a0, Value.int IntKind.i64 x.b0, Value.int IntKind.i64 x.a1, Value.int IntKind.i64 x.b1, Value.int IntKind.i64 x.a2, Value.int IntKind.i64 x.b2, Value.int IntKind.i64 x.a3, Value.int IntKind.i64 x.b3, Value.int IntKind.i64 x.a4, Value.int IntKind.i64 x.b4, Value.int IntKind.i64 y.a0, Value.int IntKind.i64 y.b0, Value.int IntKind.i64 y.a1, Value.int IntKind.i64 y.b1, Value.int IntKind.i64 y.a2, Value.int IntKind.i64 y.b2, Value.int IntKind.i64 y.a3, Value.int IntKind.i64 y.b3, Value.int IntKind.i64 y.a4, Value.int IntKind.i64 y.b4] 25] [(80, 144), (83, 216), (84, 368)], Value.tuple (Array.mk [Value.agg (Array.mk [Value.int IntKind.i64 (cL ((0 : Int)) pl b.a0 b.b0 at_), Value.int IntKind.i64 (cH ((0 : Int)) pl b.a0 b.b0 at_), Value.int IntKind.i64 (cL ((1 : Int)) pl b.a1 b.b1 at_), Value.int IntKind.i64 (cH ((1 : Int)) pl b.a1 b.b1 at_), Value.int IntKind.i64 (cL ((2 : Int)) pl b.a2 b.b2 at_), Value.int IntKind.i64 (cH ((2 : Int)) pl b.a2 b.b2 at_), Value.int IntKind.i64 (cL ((3 : Int)) pl b.a3 b.b3 at_), Value.int IntKind.i64 (cH ((3 : Int)) pl b.a3 b.b3 at_), Value.int IntKind.i64 (cL ((4 : Int)) pl b.a4 b.b4 at_), Value.int IntKind.i64 (cH ((4 : Int)) pl b.a4 b.b4 at_)]), Value.agg (Array.mk [Value.int IntKind.i64 (dL ((0 : Int)) pl b.a0 b.b0 at_), Value.int IntKind.i64 (dH ((0 : Int)) pl b.a0 b.b0 at_), Value.int IntKind.i64 (dL ((1 : Int)) pl b.a1 b.b1 at_), Value.int IntKind.i64 (dH ((1 : Int)) pl b.a1 b.b1 at_), Value.int IntKind.i64 (dL ((2 : Int)) pl b.a2 b.b2 at_), Value.int IntKind.i64 (dH ((2 : Int)) pl b.a2 b.b2 at_), Value.int IntKind.i64 (dL ((3 : Int)) pl b.a3 b.b3 at_), Value.int IntKind.i64 (dH ((3 : Int)) pl b.a3 b.b3 at_), Value.int IntKind.i64 (dL ((4 : Int)) pl b.a4 b.b4 at_), Value.int IntKind.i64 (dH ((4 : Int)) pl b.a4 b.b4 at_)])]) = Value.tuple (Array.mk [Value.agg (Array.mk [Value.int IntKind.i64 x.a0, Value.int IntKind.i64 x.b0, Value.int IntKind.i64 x.a1, Value.int IntKind.i64 x.b1, Value.int IntKind.i64 x.a2, Value.int IntKind.i64 x.b2, Value.int IntKind.i64 x.a3, Value.int IntKind.i64 x.b3, Value.int IntKind.i64 x.a4, Value.int IntKind.i64 x.b4]), Value.agg (Array.mk [Value.int IntKind.i64 y.a0, Value.int IntKind.i64 y.b0, Value.int IntKind.i64 y.a1, Value.int IntKind.i64 y.b1, Value.int IntKind.i64 y.a2, Value.int IntKind.i64 y.b2, Value.int IntKind.i64 y.a3, Value.int IntKind.i64 y.b3, Value.int IntKind.i64 y.a4, Value.int IntKind.i64 y.b4])]), I64 at_, b.b0 ≤ (9223372036854775807 : Int), b.b1 ≤ (9223372036854775807 : Int), b.b2 ≤ (9223372036854775807 : Int), b.b3 ≤ (9223372036854775807 : Int), b.b4 ≤ (9223372036854775807 : Int), Value.int IntKind.i64 (withinS place ((0 : Int)) c1) = Value.int IntKind.i64 pl, I64 place, (-2305843009213693952 : Int) ≤ (0 : Int), (0 : Int) ≤ c1, c1 ≤ (2305843009213693952 : Int), Value.int IntKind.i64 (IntKind.i64.wrap (p.dim - (1 : Int))) = Value.int IntKind.i64 c1, plainR [eWord.row (List.map packN NI)], PL = listP, PL (eWord.list (eWord.row (List.map packN NI)) 0 NI.length) (Bx.mk b.a0 b.b0 b.a1 b.b1 b.a2 b.b2 b.a3 b.b3 b.a4 b.b4) ≠ [], eWord.Row (eWord.row (List.map packN NI)) 0 NI.length, ∀ (w : Int), w ∈ eWord.list (eWord.row (List.map packN NI)) 0 NI.length → U64 w, NI.length ≤ 65536, (Bx.mk b.a0 b.b0 b.a1 b.b1 b.a2 b.b2 b.a3 b.b3 b.a4 b.b4).I64s, RegOK b 18 [Value.agg (Array.mk [Value.int IntKind.i64 p.dim, Value.int IntKind.i64 p.cls, Value.int IntKind.i64 p.b0, Value.int IntKind.i64 p.b1, Value.int IntKind.i64 p.b2, Value.slice (some (Addr.mk 96 0 none)) 2 1267650600228229401496703205376]), Value.slice (p.z 18) (p.m 18) (p.c 18)] (some (Blk.ro (p.R 18))), NodesAt NI 20 [Value.int IntKind.i64 tcl, Value.slice (p.z 20) (p.m 20) (p.c 20), Value.slice (p.z 21) (p.m 21) (p.c 21), Value.slice (p.z 22) (p.m 22) (p.c 22), Value.slice (p.z 23) (p.m 23) (p.c 23)] p.dim (some (Blk.ro (p.R 20))) (some (Blk.ro (p.R 21))) (some (Blk.ro (p.R 22))) (some (Blk.ro (p.R 23))), ModOK p 2 [Value.agg (Array.mk [Value.int IntKind.i64 p.d, Value.int IntKind.i64 p.cl, Value.slice (p.z 1) (p.m 1) (p.c 1), Value.slice zt p.n p.ct])] [some (Blk.ro p.cs0), some (Blk.ro (p.R 1)), some (Blk.ro (p.R 2)), some (Blk.ro (p.R 3)), some (Blk.ro (p.R 4)), some (Blk.ro (p.R 5)), some (Blk.ro (p.R 6)), some (Blk.ro (p.R 7)), some (Blk.ro (p.R 8)), some (Blk.ro (p.R 9)), some (Blk.ro (p.R 10)), some (Blk.ro (p.R 11)), some (Blk.ro (p.R 12)), some (Blk.ro (p.R 13)), some (Blk.ro (p.R 14)), some (Blk.ro (p.R 15)), some (Blk.ro (p.R 16)), some (Blk.ro (p.R 17))]])) (hK : ∀ zz, (l0L W m S x y Q).inv 0 zz → ltO ((l0L W m S x y Q).mu 0 zz) none → Sat E (atLp (lp Try.f8 0)) ((l0L W m S x y Q).st 0 zz)) : Sat E [.code (bodyOf Try.f8)] (st0 Try.f8 [.agg ⟨[.int .i64 tcl, .slice (p.z 20) (p.m 20) (p.c 20), .slice (p.z 21) (p.m 21) (p.c 21), .slice (p.z 22) (p.m 22) (p.c 22), .slice (p.z 23) (p.m 23) (p.c 23)]⟩, .agg ⟨p.fcs zt⟩, .slice (p.z 18) (p.m 18) (p.c 18), .int .i64 place, .int .i64 at_] (roRows [p.cs0, p.R 1, p.R 2, p.R 3, p.R 4, p.R 5, p.R 6, p.R 7, p.R 8, p.R 9, p.R 10, p.R 11, p.R 12, p.R 13, p.R 14, p.R 15, p.R 16, p.R 17, p.R 18, p.R 19, p.R 20, p.R 21, p.R 22, p.R 23]) 64) :=
  by_to (T := auto0 (t_ll p 2 NI b PL true)) (h := hints [(5, 4, {v := some (.int .i64 c1)}), (5, 5, {v := some (.int .i64 pl)}), (5, 7, {v := some (.tuple ⟨[.agg ⟨x.cs⟩, .agg ⟨y.cs⟩]⟩)})]) (ws := [.stop]) (i0 := 0) hE hm (auto0_ok (t_ll_ok p 2 NI b PL true)) hL (by kernel_rfl) hob hK
theorem llA3 (p : FP) (NI : List Nd) (b : Bx) (PL : List Int → Bx → List Pc) (zt : Option Addr) (tcl place at_ c1 pl : Int) (x y : Bx) (m : Nat) (W : List Int) (S : List Pc) (Q : Nat → Prop)  {E : Env} {rv : Value} {rhs : List Nat} {rhv : List Blk} (hE : EnvOK E Try.prog Try.f8 5 64 rv rhs rhv) (hL : (l0L W m S x y Q).OK 64) (hob : all ([SameK (atLp (lp Try.f8 0)) (atLp (lp Try.f8 0)), Enter (l0L W m S x y Q) 0 none [Value.slice (some (Addr.mk 144 0 none)) NI.length 1267650600228229401496703205376, Value.slice (some (Addr.mk 216 0 none)) (PL (eWord.list (eWord.row (List.map packN NI)) 0 NI.length) (Bx.mk b.a0 b.b0 b.a1 b.b1 b.a2 b.b2 b.a3 b.b3 b.a4 b.b4)).length 1267650600228229401496703205376, Value.slice (some (Addr.mk 368 0 none)) 2 2, Value.int IntKind.i64 ((2 : Int)), Value.int IntKind.i64 ((0 : Int))] [Blk.vec (eWord.row (List.map packN NI)) 83 1, Blk.vec (ePc.row (PL (eWord.list (eWord.row (List.map packN NI)) 0 NI.length) (Bx.mk b.a0 b.b0 b.a1 b.b1 b.a2 b.b2 b.a3 b.b3 b.a4 b.b4))) 27 11, Blk.cells [Value.int IntKind.i64 x.a0, Value.int IntKind.i64 x.b0, Value.int IntKind.i64 x.a1, Value.int IntKind.i64 x.b1, Value.int IntKind.i64 x.a2, Value.int IntKind.i64 x.b2, Value.int IntKind.i64 x.a3, Value.int IntKind.i64 x.b3, Value.int IntKind.i64 x.a4, Value.int IntKind.i64 x.b4, Value.int IntKind.i64 y.a0, Value.int IntKind.i64 y.b0, Value.int IntKind.i64 y.a1, Value.int IntKind.i64 y.b1, Value.int IntKind.i64 y.a2, Value.int IntKind.i64 y.b2, Value.int IntKind.i64 y.a3, Value.int IntKind.i64 y.b3, Value.int IntKind.i64 y.a4, Value.int IntKind.i64 y.b4] 25] [(80, 144), (83, 216), (84, 368)], Value.tuple (Array.mk [Value.agg (Array.mk [Value.int IntKind.i64 (cL ((0 : Int)) pl b.a0 b.b0 at_), Value.int IntKind.i64 (cH ((0 : Int)) pl b.a0 b.b0 at_), Value.int IntKind.i64 (cL ((1 : Int)) pl b.a1 b.b1 at_), Value.int IntKind.i64 (cH ((1 : Int)) pl b.a1 b.b1 at_), Value.int IntKind.i64 (cL ((2 : Int)) pl b.a2 b.b2 at_), Value.int IntKind.i64 (cH ((2 : Int)) pl b.a2 b.b2 at_), Value.int IntKind.i64 (cL ((3 : Int)) pl b.a3 b.b3 at_), Value.int IntKind.i64 (cH ((3 : Int)) pl b.a3 b.b3 at_), Value.int IntKind.i64 (cL ((4 : Int)) pl b.a4 b.b4 at_), Value.int IntKind.i64 (cH ((4 : Int)) pl b.a4 b.b4 at_)]), Value.agg (Array.mk [Value.int IntKind.i64 (dL ((0 : Int)) pl b.a0 b.b0 at_), Value.int IntKind.i64 (dH ((0 : Int)) pl b.a0 b.b0 at_), Value.int IntKind.i64 (dL ((1 : Int)) pl b.a1 b.b1 at_), Value.int IntKind.i64 (dH ((1 : Int)) pl b.a1 b.b1 at_), Value.int IntKind.i64 (dL ((2 : Int)) pl b.a2 b.b2 at_), Value.int IntKind.i64 (dH ((2 : Int)) pl b.a2 b.b2 at_), Value.int IntKind.i64 (dL ((3 : Int)) pl b.a3 b.b3 at_), Value.int IntKind.i64 (dH ((3 : Int)) pl b.a3 b.b3 at_), Value.int IntKind.i64 (dL ((4 : Int)) pl b.a4 b.b4 at_), Value.int IntKind.i64 (dH ((4 : Int)) pl b.a4 b.b4 at_)])]) = Value.tuple (Array.mk [Value.agg (Array.mk [Value.int IntKind.i64 x.a0, Value.int IntKind.i64 x.b0, Value.int IntKind.i64 x.a1, Value.int IntKind.i64 x.b1, Value.int IntKind.i64 x.a2, Value.int IntKind.i64 x.b2, Value.int IntKind.i64 x.a3, Value.int IntKind.i64 x.b3, Value.int IntKind.i64 x.a4, Value.int IntKind.i64 x.b4]), Value.agg (Array.mk [Value.int IntKind.i64 y.a0, Value.int IntKind.i64 y.b0, Value.int IntKind.i64 y.a1, Value.int IntKind.i64 y.b1, Value.int IntKind.i64 y.a2, Value.int IntKind.i64 y.b2, Value.int IntKind.i64 y.a3, Value.int IntKind.i64 y.b3, Value.int IntKind.i64 y.a4, Value.int IntKind.i64 y.b4])]), I64 at_, b.b0 ≤ (9223372036854775807 : Int), b.b1 ≤ (9223372036854775807 : Int), b.b2 ≤ (9223372036854775807 : Int), b.b3 ≤ (9223372036854775807 : Int), b.b4 ≤ (9223372036854775807 : Int), Value.int IntKind.i64 (withinS place ((0 : Int)) c1) = Value.int IntKind.i64 pl, I64 place, (-2305843009213693952 : Int) ≤ (0 : Int), (0 : Int) ≤ c1, c1 ≤ (2305843009213693952 : Int), Value.int IntKind.i64 (IntKind.i64.wrap (p.dim - (1 : Int))) = Value.int IntKind.i64 c1, plainR [eWord.row (List.map packN NI)], PL = listP, PL (eWord.list (eWord.row (List.map packN NI)) 0 NI.length) (Bx.mk b.a0 b.b0 b.a1 b.b1 b.a2 b.b2 b.a3 b.b3 b.a4 b.b4) ≠ [], eWord.Row (eWord.row (List.map packN NI)) 0 NI.length, ∀ (w : Int), w ∈ eWord.list (eWord.row (List.map packN NI)) 0 NI.length → U64 w, NI.length ≤ 65536, (Bx.mk b.a0 b.b0 b.a1 b.b1 b.a2 b.b2 b.a3 b.b3 b.a4 b.b4).I64s, RegOK b 18 [Value.agg (Array.mk [Value.int IntKind.i64 p.dim, Value.int IntKind.i64 p.cls, Value.int IntKind.i64 p.b0, Value.int IntKind.i64 p.b1, Value.int IntKind.i64 p.b2, Value.slice (some (Addr.mk 96 0 none)) 3 1267650600228229401496703205376]), Value.slice (p.z 18) (p.m 18) (p.c 18)] (some (Blk.ro (p.R 18))), NodesAt NI 20 [Value.int IntKind.i64 tcl, Value.slice (p.z 20) (p.m 20) (p.c 20), Value.slice (p.z 21) (p.m 21) (p.c 21), Value.slice (p.z 22) (p.m 22) (p.c 22), Value.slice (p.z 23) (p.m 23) (p.c 23)] p.dim (some (Blk.ro (p.R 20))) (some (Blk.ro (p.R 21))) (some (Blk.ro (p.R 22))) (some (Blk.ro (p.R 23))), ModOK p 3 [Value.agg (Array.mk [Value.int IntKind.i64 p.d, Value.int IntKind.i64 p.cl, Value.slice (p.z 1) (p.m 1) (p.c 1), Value.slice zt p.n p.ct])] [some (Blk.ro p.cs0), some (Blk.ro (p.R 1)), some (Blk.ro (p.R 2)), some (Blk.ro (p.R 3)), some (Blk.ro (p.R 4)), some (Blk.ro (p.R 5)), some (Blk.ro (p.R 6)), some (Blk.ro (p.R 7)), some (Blk.ro (p.R 8)), some (Blk.ro (p.R 9)), some (Blk.ro (p.R 10)), some (Blk.ro (p.R 11)), some (Blk.ro (p.R 12)), some (Blk.ro (p.R 13)), some (Blk.ro (p.R 14)), some (Blk.ro (p.R 15)), some (Blk.ro (p.R 16)), some (Blk.ro (p.R 17))]])) (hK : ∀ zz, (l0L W m S x y Q).inv 0 zz → ltO ((l0L W m S x y Q).mu 0 zz) none → Sat E (atLp (lp Try.f8 0)) ((l0L W m S x y Q).st 0 zz)) : Sat E [.code (bodyOf Try.f8)] (st0 Try.f8 [.agg ⟨[.int .i64 tcl, .slice (p.z 20) (p.m 20) (p.c 20), .slice (p.z 21) (p.m 21) (p.c 21), .slice (p.z 22) (p.m 22) (p.c 22), .slice (p.z 23) (p.m 23) (p.c 23)]⟩, .agg ⟨p.fcs zt⟩, .slice (p.z 18) (p.m 18) (p.c 18), .int .i64 place, .int .i64 at_] (roRows [p.cs0, p.R 1, p.R 2, p.R 3, p.R 4, p.R 5, p.R 6, p.R 7, p.R 8, p.R 9, p.R 10, p.R 11, p.R 12, p.R 13, p.R 14, p.R 15, p.R 16, p.R 17, p.R 18, p.R 19, p.R 20, p.R 21, p.R 22, p.R 23]) 64) :=
  by_to (T := auto0 (t_ll p 3 NI b PL true)) (h := hints [(5, 4, {v := some (.int .i64 c1)}), (5, 5, {v := some (.int .i64 pl)}), (5, 7, {v := some (.tuple ⟨[.agg ⟨x.cs⟩, .agg ⟨y.cs⟩]⟩)})]) (ws := [.stop]) (i0 := 0) hE hm (auto0_ok (t_ll_ok p 3 NI b PL true)) hL (by kernel_rfl) hob hK
theorem llA4 (p : FP) (NI : List Nd) (b : Bx) (PL : List Int → Bx → List Pc) (zt : Option Addr) (tcl place at_ c1 pl : Int) (x y : Bx) (m : Nat) (W : List Int) (S : List Pc) (Q : Nat → Prop)  {E : Env} {rv : Value} {rhs : List Nat} {rhv : List Blk} (hE : EnvOK E Try.prog Try.f8 5 64 rv rhs rhv) (hL : (l0L W m S x y Q).OK 64) (hob : all ([SameK (atLp (lp Try.f8 0)) (atLp (lp Try.f8 0)), Enter (l0L W m S x y Q) 0 none [Value.slice (some (Addr.mk 144 0 none)) NI.length 1267650600228229401496703205376, Value.slice (some (Addr.mk 216 0 none)) (PL (eWord.list (eWord.row (List.map packN NI)) 0 NI.length) (Bx.mk b.a0 b.b0 b.a1 b.b1 b.a2 b.b2 b.a3 b.b3 b.a4 b.b4)).length 1267650600228229401496703205376, Value.slice (some (Addr.mk 368 0 none)) 2 2, Value.int IntKind.i64 ((2 : Int)), Value.int IntKind.i64 ((0 : Int))] [Blk.vec (eWord.row (List.map packN NI)) 83 1, Blk.vec (ePc.row (PL (eWord.list (eWord.row (List.map packN NI)) 0 NI.length) (Bx.mk b.a0 b.b0 b.a1 b.b1 b.a2 b.b2 b.a3 b.b3 b.a4 b.b4))) 27 11, Blk.cells [Value.int IntKind.i64 x.a0, Value.int IntKind.i64 x.b0, Value.int IntKind.i64 x.a1, Value.int IntKind.i64 x.b1, Value.int IntKind.i64 x.a2, Value.int IntKind.i64 x.b2, Value.int IntKind.i64 x.a3, Value.int IntKind.i64 x.b3, Value.int IntKind.i64 x.a4, Value.int IntKind.i64 x.b4, Value.int IntKind.i64 y.a0, Value.int IntKind.i64 y.b0, Value.int IntKind.i64 y.a1, Value.int IntKind.i64 y.b1, Value.int IntKind.i64 y.a2, Value.int IntKind.i64 y.b2, Value.int IntKind.i64 y.a3, Value.int IntKind.i64 y.b3, Value.int IntKind.i64 y.a4, Value.int IntKind.i64 y.b4] 25] [(80, 144), (83, 216), (84, 368)], Value.tuple (Array.mk [Value.agg (Array.mk [Value.int IntKind.i64 (cL ((0 : Int)) pl b.a0 b.b0 at_), Value.int IntKind.i64 (cH ((0 : Int)) pl b.a0 b.b0 at_), Value.int IntKind.i64 (cL ((1 : Int)) pl b.a1 b.b1 at_), Value.int IntKind.i64 (cH ((1 : Int)) pl b.a1 b.b1 at_), Value.int IntKind.i64 (cL ((2 : Int)) pl b.a2 b.b2 at_), Value.int IntKind.i64 (cH ((2 : Int)) pl b.a2 b.b2 at_), Value.int IntKind.i64 (cL ((3 : Int)) pl b.a3 b.b3 at_), Value.int IntKind.i64 (cH ((3 : Int)) pl b.a3 b.b3 at_), Value.int IntKind.i64 (cL ((4 : Int)) pl b.a4 b.b4 at_), Value.int IntKind.i64 (cH ((4 : Int)) pl b.a4 b.b4 at_)]), Value.agg (Array.mk [Value.int IntKind.i64 (dL ((0 : Int)) pl b.a0 b.b0 at_), Value.int IntKind.i64 (dH ((0 : Int)) pl b.a0 b.b0 at_), Value.int IntKind.i64 (dL ((1 : Int)) pl b.a1 b.b1 at_), Value.int IntKind.i64 (dH ((1 : Int)) pl b.a1 b.b1 at_), Value.int IntKind.i64 (dL ((2 : Int)) pl b.a2 b.b2 at_), Value.int IntKind.i64 (dH ((2 : Int)) pl b.a2 b.b2 at_), Value.int IntKind.i64 (dL ((3 : Int)) pl b.a3 b.b3 at_), Value.int IntKind.i64 (dH ((3 : Int)) pl b.a3 b.b3 at_), Value.int IntKind.i64 (dL ((4 : Int)) pl b.a4 b.b4 at_), Value.int IntKind.i64 (dH ((4 : Int)) pl b.a4 b.b4 at_)])]) = Value.tuple (Array.mk [Value.agg (Array.mk [Value.int IntKind.i64 x.a0, Value.int IntKind.i64 x.b0, Value.int IntKind.i64 x.a1, Value.int IntKind.i64 x.b1, Value.int IntKind.i64 x.a2, Value.int IntKind.i64 x.b2, Value.int IntKind.i64 x.a3, Value.int IntKind.i64 x.b3, Value.int IntKind.i64 x.a4, Value.int IntKind.i64 x.b4]), Value.agg (Array.mk [Value.int IntKind.i64 y.a0, Value.int IntKind.i64 y.b0, Value.int IntKind.i64 y.a1, Value.int IntKind.i64 y.b1, Value.int IntKind.i64 y.a2, Value.int IntKind.i64 y.b2, Value.int IntKind.i64 y.a3, Value.int IntKind.i64 y.b3, Value.int IntKind.i64 y.a4, Value.int IntKind.i64 y.b4])]), I64 at_, b.b0 ≤ (9223372036854775807 : Int), b.b1 ≤ (9223372036854775807 : Int), b.b2 ≤ (9223372036854775807 : Int), b.b3 ≤ (9223372036854775807 : Int), b.b4 ≤ (9223372036854775807 : Int), Value.int IntKind.i64 (withinS place ((0 : Int)) c1) = Value.int IntKind.i64 pl, I64 place, (-2305843009213693952 : Int) ≤ (0 : Int), (0 : Int) ≤ c1, c1 ≤ (2305843009213693952 : Int), Value.int IntKind.i64 (IntKind.i64.wrap (p.dim - (1 : Int))) = Value.int IntKind.i64 c1, plainR [eWord.row (List.map packN NI)], PL = listP, PL (eWord.list (eWord.row (List.map packN NI)) 0 NI.length) (Bx.mk b.a0 b.b0 b.a1 b.b1 b.a2 b.b2 b.a3 b.b3 b.a4 b.b4) ≠ [], eWord.Row (eWord.row (List.map packN NI)) 0 NI.length, ∀ (w : Int), w ∈ eWord.list (eWord.row (List.map packN NI)) 0 NI.length → U64 w, NI.length ≤ 65536, (Bx.mk b.a0 b.b0 b.a1 b.b1 b.a2 b.b2 b.a3 b.b3 b.a4 b.b4).I64s, RegOK b 18 [Value.agg (Array.mk [Value.int IntKind.i64 p.dim, Value.int IntKind.i64 p.cls, Value.int IntKind.i64 p.b0, Value.int IntKind.i64 p.b1, Value.int IntKind.i64 p.b2, Value.slice (some (Addr.mk 96 0 none)) 4 1267650600228229401496703205376]), Value.slice (p.z 18) (p.m 18) (p.c 18)] (some (Blk.ro (p.R 18))), NodesAt NI 20 [Value.int IntKind.i64 tcl, Value.slice (p.z 20) (p.m 20) (p.c 20), Value.slice (p.z 21) (p.m 21) (p.c 21), Value.slice (p.z 22) (p.m 22) (p.c 22), Value.slice (p.z 23) (p.m 23) (p.c 23)] p.dim (some (Blk.ro (p.R 20))) (some (Blk.ro (p.R 21))) (some (Blk.ro (p.R 22))) (some (Blk.ro (p.R 23))), ModOK p 4 [Value.agg (Array.mk [Value.int IntKind.i64 p.d, Value.int IntKind.i64 p.cl, Value.slice (p.z 1) (p.m 1) (p.c 1), Value.slice zt p.n p.ct])] [some (Blk.ro p.cs0), some (Blk.ro (p.R 1)), some (Blk.ro (p.R 2)), some (Blk.ro (p.R 3)), some (Blk.ro (p.R 4)), some (Blk.ro (p.R 5)), some (Blk.ro (p.R 6)), some (Blk.ro (p.R 7)), some (Blk.ro (p.R 8)), some (Blk.ro (p.R 9)), some (Blk.ro (p.R 10)), some (Blk.ro (p.R 11)), some (Blk.ro (p.R 12)), some (Blk.ro (p.R 13)), some (Blk.ro (p.R 14)), some (Blk.ro (p.R 15)), some (Blk.ro (p.R 16)), some (Blk.ro (p.R 17))]])) (hK : ∀ zz, (l0L W m S x y Q).inv 0 zz → ltO ((l0L W m S x y Q).mu 0 zz) none → Sat E (atLp (lp Try.f8 0)) ((l0L W m S x y Q).st 0 zz)) : Sat E [.code (bodyOf Try.f8)] (st0 Try.f8 [.agg ⟨[.int .i64 tcl, .slice (p.z 20) (p.m 20) (p.c 20), .slice (p.z 21) (p.m 21) (p.c 21), .slice (p.z 22) (p.m 22) (p.c 22), .slice (p.z 23) (p.m 23) (p.c 23)]⟩, .agg ⟨p.fcs zt⟩, .slice (p.z 18) (p.m 18) (p.c 18), .int .i64 place, .int .i64 at_] (roRows [p.cs0, p.R 1, p.R 2, p.R 3, p.R 4, p.R 5, p.R 6, p.R 7, p.R 8, p.R 9, p.R 10, p.R 11, p.R 12, p.R 13, p.R 14, p.R 15, p.R 16, p.R 17, p.R 18, p.R 19, p.R 20, p.R 21, p.R 22, p.R 23]) 64) :=
  by_to (T := auto0 (t_ll p 4 NI b PL true)) (h := hints [(5, 4, {v := some (.int .i64 c1)}), (5, 5, {v := some (.int .i64 pl)}), (5, 7, {v := some (.tuple ⟨[.agg ⟨x.cs⟩, .agg ⟨y.cs⟩]⟩)})]) (ws := [.stop]) (i0 := 0) hE hm (auto0_ok (t_ll_ok p 4 NI b PL true)) hL (by kernel_rfl) hob hK
theorem llZ1 (tcl d cl place at_ : Int)  {E : Env} {rv : Value} {rhs : List Nat} {rhv : List Blk} (hE : EnvOK E Try.prog Try.f8 5 0 rv rhs rhv) (hL : (y1L (.cells (ztc tcl) 55) (.cells (zfc d cl) 61) place at_).OK 0) (hob : all ([SameK (fromR Try.f8 1) (fromR Try.f8 1), Enter (y1L (Blk.cells (ztc tcl) 55) (Blk.cells (zfc d cl) 61) place at_) 0 none [Value.slice none 0 0, Value.int IntKind.i64 place, Value.int IntKind.i64 at_, Value.pointer (some (Addr.mk 0 0 none)), Value.pointer (some (Addr.mk 8 0 none))] [Blk.cells [Value.int IntKind.i64 tcl, Value.slice none 0 0, Value.slice none 0 0, Value.slice none 0 0, Value.slice none 0 0] 55, Blk.cells [Value.int IntKind.i64 d, Value.int IntKind.i64 cl, Value.slice none 0 0, Value.slice none 0 0] 61] [(80, 0), (81, 8)]])) (hK : ∀ zz, (y1L (.cells (ztc tcl) 55) (.cells (zfc d cl) 61) place at_).inv 0 zz → ltO ((y1L (.cells (ztc tcl) 55) (.cells (zfc d cl) 61) place at_).mu 0 zz) none → Sat E (fromR Try.f8 1) ((y1L (.cells (ztc tcl) 55) (.cells (zfc d cl) 61) place at_).st 0 zz)) : Sat E [.code (bodyOf Try.f8)] (st0 Try.f8 [.agg ⟨[.int .i64 tcl, .slice none 0 0, .slice none 0 0, .slice none 0 0, .slice none 0 0]⟩, .agg ⟨[.int .i64 d, .int .i64 cl, .slice none 0 0, .slice none 0 0]⟩, .slice none 0 0, .int .i64 place, .int .i64 at_] (roRows []) 0) :=
  by_to (T := auto0 t_none) (h := hints []) (ws := [.at 1]) (i0 := ()) hE hm (auto0_ok t_none_ok) hL (by kernel_rfl) hob hK
theorem llZ2 (p : FP) (NI : List Nd) (b : Bx) (PL : List Int → Bx → List Pc) (tcl d cl place at_ c1 pl : Int) (x y : Bx) (m : Nat) (W : List Int) (S : List Pc) (Q : Nat → Prop)  {E : Env} {rv : Value} {rhs : List Nat} {rhv : List Blk} (hE : EnvOK E Try.prog Try.f8 5 64 rv rhs rhv) (hL : (l0L W m S x y Q).OK 64) (hob : all ([SameK (atLp (lp Try.f8 0)) (atLp (lp Try.f8 0)), Enter (l0L W m S x y Q) 0 none [Value.slice (some (Addr.mk 138 0 none)) NI.length 1267650600228229401496703205376, Value.slice (some (Addr.mk 210 0 none)) (PL (eWord.list (eWord.row (List.map packN NI)) 0 NI.length) (Bx.mk b.a0 b.b0 b.a1 b.b1 b.a2 b.b2 b.a3 b.b3 b.a4 b.b4)).length 1267650600228229401496703205376, Value.slice (some (Addr.mk 362 0 none)) 2 2, Value.int IntKind.i64 ((2 : Int)), Value.int IntKind.i64 ((0 : Int))] [Blk.vec (eWord.row (List.map packN NI)) 83 1, Blk.vec (ePc.row (PL (eWord.list (eWord.row (List.map packN NI)) 0 NI.length) (Bx.mk b.a0 b.b0 b.a1 b.b1 b.a2 b.b2 b.a3 b.b3 b.a4 b.b4))) 27 11, Blk.cells [Value.int IntKind.i64 x.a0, Value.int IntKind.i64 x.b0, Value.int IntKind.i64 x.a1, Value.int IntKind.i64 x.b1, Value.int IntKind.i64 x.a2, Value.int IntKind.i64 x.b2, Value.int IntKind.i64 x.a3, Value.int IntKind.i64 x.b3, Value.int IntKind.i64 x.a4, Value.int IntKind.i64 x.b4, Value.int IntKind.i64 y.a0, Value.int IntKind.i64 y.b0, Value.int IntKind.i64 y.a1, Value.int IntKind.i64 y.b1, Value.int IntKind.i64 y.a2, Value.int IntKind.i64 y.b2, Value.int IntKind.i64 y.a3, Value.int IntKind.i64 y.b3, Value.int IntKind.i64 y.a4, Value.int IntKind.i64 y.b4] 25] [(80, 138), (83, 210), (84, 362)], Value.tuple (Array.mk [Value.agg (Array.mk [Value.int IntKind.i64 (cL ((0 : Int)) pl b.a0 b.b0 at_), Value.int IntKind.i64 (cH ((0 : Int)) pl b.a0 b.b0 at_), Value.int IntKind.i64 (cL ((1 : Int)) pl b.a1 b.b1 at_), Value.int IntKind.i64 (cH ((1 : Int)) pl b.a1 b.b1 at_), Value.int IntKind.i64 (cL ((2 : Int)) pl b.a2 b.b2 at_), Value.int IntKind.i64 (cH ((2 : Int)) pl b.a2 b.b2 at_), Value.int IntKind.i64 (cL ((3 : Int)) pl b.a3 b.b3 at_), Value.int IntKind.i64 (cH ((3 : Int)) pl b.a3 b.b3 at_), Value.int IntKind.i64 (cL ((4 : Int)) pl b.a4 b.b4 at_), Value.int IntKind.i64 (cH ((4 : Int)) pl b.a4 b.b4 at_)]), Value.agg (Array.mk [Value.int IntKind.i64 (dL ((0 : Int)) pl b.a0 b.b0 at_), Value.int IntKind.i64 (dH ((0 : Int)) pl b.a0 b.b0 at_), Value.int IntKind.i64 (dL ((1 : Int)) pl b.a1 b.b1 at_), Value.int IntKind.i64 (dH ((1 : Int)) pl b.a1 b.b1 at_), Value.int IntKind.i64 (dL ((2 : Int)) pl b.a2 b.b2 at_), Value.int IntKind.i64 (dH ((2 : Int)) pl b.a2 b.b2 at_), Value.int IntKind.i64 (dL ((3 : Int)) pl b.a3 b.b3 at_), Value.int IntKind.i64 (dH ((3 : Int)) pl b.a3 b.b3 at_), Value.int IntKind.i64 (dL ((4 : Int)) pl b.a4 b.b4 at_), Value.int IntKind.i64 (dH ((4 : Int)) pl b.a4 b.b4 at_)])]) = Value.tuple (Array.mk [Value.agg (Array.mk [Value.int IntKind.i64 x.a0, Value.int IntKind.i64 x.b0, Value.int IntKind.i64 x.a1, Value.int IntKind.i64 x.b1, Value.int IntKind.i64 x.a2, Value.int IntKind.i64 x.b2, Value.int IntKind.i64 x.a3, Value.int IntKind.i64 x.b3, Value.int IntKind.i64 x.a4, Value.int IntKind.i64 x.b4]), Value.agg (Array.mk [Value.int IntKind.i64 y.a0, Value.int IntKind.i64 y.b0, Value.int IntKind.i64 y.a1, Value.int IntKind.i64 y.b1, Value.int IntKind.i64 y.a2, Value.int IntKind.i64 y.b2, Value.int IntKind.i64 y.a3, Value.int IntKind.i64 y.b3, Value.int IntKind.i64 y.a4, Value.int IntKind.i64 y.b4])]), I64 at_, b.b0 ≤ (9223372036854775807 : Int), b.b1 ≤ (9223372036854775807 : Int), b.b2 ≤ (9223372036854775807 : Int), b.b3 ≤ (9223372036854775807 : Int), b.b4 ≤ (9223372036854775807 : Int), Value.int IntKind.i64 (withinS place ((0 : Int)) c1) = Value.int IntKind.i64 pl, I64 place, (-2305843009213693952 : Int) ≤ (0 : Int), (0 : Int) ≤ c1, c1 ≤ (2305843009213693952 : Int), Value.int IntKind.i64 (IntKind.i64.wrap (p.dim - (1 : Int))) = Value.int IntKind.i64 c1, plainR [eWord.row (List.map packN NI)], PL = listP, PL (eWord.list (eWord.row (List.map packN NI)) 0 NI.length) (Bx.mk b.a0 b.b0 b.a1 b.b1 b.a2 b.b2 b.a3 b.b3 b.a4 b.b4) ≠ [], eWord.Row (eWord.row (List.map packN NI)) 0 NI.length, ∀ (w : Int), w ∈ eWord.list (eWord.row (List.map packN NI)) 0 NI.length → U64 w, NI.length ≤ 65536, (Bx.mk b.a0 b.b0 b.a1 b.b1 b.a2 b.b2 b.a3 b.b3 b.a4 b.b4).I64s, RegOK b 18 [Value.agg (Array.mk [Value.int IntKind.i64 p.dim, Value.int IntKind.i64 p.cls, Value.int IntKind.i64 p.b0, Value.int IntKind.i64 p.b1, Value.int IntKind.i64 p.b2, Value.slice none 0 0]), Value.slice none 0 0] (some (Blk.ro [])), NodesAt NI 20 [Value.int IntKind.i64 tcl, Value.slice none 0 0, Value.slice none 0 0, Value.slice none 0 0, Value.slice none 0 0] p.dim (some (Blk.ro [])) (some (Blk.ro [])) (some (Blk.ro [])) (some (Blk.ro [])), ModOK p 0 [Value.agg (Array.mk [Value.int IntKind.i64 d, Value.int IntKind.i64 cl, Value.slice none 0 0, Value.slice none 0 0])] [some (Blk.ro []), some (Blk.ro []), some (Blk.ro []), some (Blk.ro []), some (Blk.ro []), some (Blk.ro []), some (Blk.ro []), some (Blk.ro []), some (Blk.ro []), some (Blk.ro []), some (Blk.ro []), some (Blk.ro []), some (Blk.ro []), some (Blk.ro []), some (Blk.ro []), some (Blk.ro []), some (Blk.ro []), some (Blk.ro [])]])) (hK : ∀ zz, (l0L W m S x y Q).inv 0 zz → ltO ((l0L W m S x y Q).mu 0 zz) none → Sat E (atLp (lp Try.f8 0)) ((l0L W m S x y Q).st 0 zz)) : Sat E (fromR Try.f8 1) ((y2L tcl d cl place at_).st 0 ()) :=
  by_to (T := auto0 (t_ll p 0 NI b PL true)) (h := hints [(5, 4, {v := some (.int .i64 c1)}), (5, 5, {v := some (.int .i64 pl)}), (5, 7, {v := some (.tuple ⟨[.agg ⟨x.cs⟩, .agg ⟨y.cs⟩]⟩)})]) (ws := [.stop]) (i0 := 0) hE hm (auto0_ok (t_ll_ok p 0 NI b PL true)) hL (by kernel_rfl) hob hK
theorem llB0 (p : FP) (K : Nat) (NI : List Nd) (b : Bx) (PL : List Int → Bx → List Pc) (W : List Int) (m : Nat) (S : List Pc) (x y : Bx) (c : Bx) (T : List Pc) (Q : Nat → Prop) (Q2 : Nat → Nat → Prop) (i : Nat) (J : Act → World → Prop) {E : Env} {rv : Value} {rhs : List Nat} {rhv : List Blk} (hE : EnvOK E Try.prog Try.f8 5 64 rv rhs rhv) (hL : (l1L W m S x y i T Q2).OK 64) (hob : all ([SameK (atLp (lpIn (lp Try.f8 0) J 0)) (atLp (lpIn (lp Try.f8 0) J 0)), Enter (l1L W m S x y i T Q2) 0 none [Value.slice (some (Addr.mk 80 0 none)) m 1267650600228229401496703205376, Value.slice (some (Addr.mk 83 0 none)) S.length 1267650600228229401496703205376, Value.slice (some (Addr.mk 84 0 none)) 2 2, Value.int IntKind.i64 ((2 : Int)), Value.int IntKind.i64 ((i : Int)), Value.slice none 0 0, Value.int IntKind.i64 ((0 : Int)), Value.int IntKind.i64 ((0 : Int))] [Blk.vec (eWord.row W) 83 1, Blk.vec (ePc.row S) 27 11, Blk.cells [Value.int IntKind.i64 x.a0, Value.int IntKind.i64 x.b0, Value.int IntKind.i64 x.a1, Value.int IntKind.i64 x.b1, Value.int IntKind.i64 x.a2, Value.int IntKind.i64 x.b2, Value.int IntKind.i64 x.a3, Value.int IntKind.i64 x.b3, Value.int IntKind.i64 x.a4, Value.int IntKind.i64 x.b4, Value.int IntKind.i64 y.a0, Value.int IntKind.i64 y.b0, Value.int IntKind.i64 y.a1, Value.int IntKind.i64 y.b1, Value.int IntKind.i64 y.a2, Value.int IntKind.i64 y.b2, Value.int IntKind.i64 y.a3, Value.int IntKind.i64 y.b3, Value.int IntKind.i64 y.a4, Value.int IntKind.i64 y.b4] 25] [(80, 80), (83, 83), (84, 84)], Value.bool false = Value.bool false, plainR [eWord.row W], PL = listP, PL (eWord.list (eWord.row W) 0 m) (Bx.mk c.a0 c.b0 c.a1 c.b1 c.a2 c.b2 c.a3 c.b3 c.a4 c.b4) = [], eWord.Row (eWord.row W) 0 m, ∀ (w : Int), w ∈ eWord.list (eWord.row W) 0 m → U64 w, m ≤ 65536, (Bx.mk c.a0 c.b0 c.a1 c.b1 c.a2 c.b2 c.a3 c.b3 c.a4 c.b4).I64s, readPart Try.prog 25 (x.cs ++ y.cs) (0 + ((i : Int)).toNat * 10) = some (Value.agg (Array.mk [Value.int IntKind.i64 c.a0, Value.int IntKind.i64 c.b0, Value.int IntKind.i64 c.a1, Value.int IntKind.i64 c.b1, Value.int IntKind.i64 c.a2, Value.int IntKind.i64 c.b2, Value.int IntKind.i64 c.a3, Value.int IntKind.i64 c.b3, Value.int IntKind.i64 c.a4, Value.int IntKind.i64 c.b4])), (0 : Int) ≤ (i : Int) ∧ (i : Int) < (2 : Int), decide ((↑i : Int) < 2) = true])) (hK : ∀ zz, (l1L W m S x y i T Q2).inv 0 zz → ltO ((l1L W m S x y i T Q2).mu 0 zz) none → Sat E (atLp (lpIn (lp Try.f8 0) J 0)) ((l1L W m S x y i T Q2).st 0 zz)) : Sat E (inLp (lp Try.f8 0) J) ((l0L W m S x y Q).st 0 i) :=
  by_to (T := auto0 (t_ll p K NI b PL false)) (h := hints [(8, 0, {p := true}), (8, 1, {o := some (.agg ⟨c.cs⟩)}), (10, 4, ht false)]) (ws := [.b true, .go, .stop]) (i0 := 0) hE hm (auto0_ok (t_ll_ok p K NI b PL false)) hL (by kernel_rfl) hob hK
theorem llB1 (p : FP) (K : Nat) (NI : List Nd) (b : Bx) (PL : List Int → Bx → List Pc) (W : List Int) (m : Nat) (S : List Pc) (x y : Bx) (c : Bx) (T : List Pc) (Q : Nat → Prop) (Q2 : Nat → Nat → Prop) (i : Nat) (J : Act → World → Prop) {E : Env} {rv : Value} {rhs : List Nat} {rhv : List Blk} (hE : EnvOK E Try.prog Try.f8 5 64 rv rhs rhv) (hL : (l1L W m S x y i T Q2).OK 64) (hob : all ([SameK (atLp (lpIn (lp Try.f8 0) J 0)) (atLp (lpIn (lp Try.f8 0) J 0)), Enter (l1L W m S x y i T Q2) 1 none [Value.slice (some (Addr.mk 80 0 none)) m 1267650600228229401496703205376, Value.slice (some (Addr.mk 83 0 none)) S.length 1267650600228229401496703205376, Value.slice (some (Addr.mk 84 0 none)) 2 2, Value.int IntKind.i64 ((2 : Int)), Value.int IntKind.i64 ((i : Int)), Value.slice (some (Addr.mk 144 0 none)) (PL (eWord.list (eWord.row W) 0 m) (Bx.mk c.a0 c.b0 c.a1 c.b1 c.a2 c.b2 c.a3 c.b3 c.a4 c.b4)).length 1267650600228229401496703205376, Value.int IntKind.i64 (Int.ofNat (PL (eWord.list (eWord.row W) 0 m) (Bx.mk c.a0 c.b0 c.a1 c.b1 c.a2 c.b2 c.a3 c.b3 c.a4 c.b4)).length), Value.int IntKind.i64 ((0 : Int))] [Blk.vec (eWord.row W) 83 1, Blk.vec (ePc.row S) 27 11, Blk.cells [Value.int IntKind.i64 x.a0, Value.int IntKind.i64 x.b0, Value.int IntKind.i64 x.a1, Value.int IntKind.i64 x.b1, Value.int IntKind.i64 x.a2, Value.int IntKind.i64 x.b2, Value.int IntKind.i64 x.a3, Value.int IntKind.i64 x.b3, Value.int IntKind.i64 x.a4, Value.int IntKind.i64 x.b4, Value.int IntKind.i64 y.a0, Value.int IntKind.i64 y.b0, Value.int IntKind.i64 y.a1, Value.int IntKind.i64 y.b1, Value.int IntKind.i64 y.a2, Value.int IntKind.i64 y.b2, Value.int IntKind.i64 y.a3, Value.int IntKind.i64 y.b3, Value.int IntKind.i64 y.a4, Value.int IntKind.i64 y.b4] 25, Blk.vec (ePc.row (PL (eWord.list (eWord.row W) 0 m) (Bx.mk c.a0 c.b0 c.a1 c.b1 c.a2 c.b2 c.a3 c.b3 c.a4 c.b4))) 27 11] [(80, 80), (83, 83), (84, 84), (85, 144)], Value.bool (decide ((↑(PL (eWord.list (eWord.row W) 0 m) (Bx.mk c.a0 c.b0 c.a1 c.b1 c.a2 c.b2 c.a3 c.b3 c.a4 c.b4)).length : Int) > (↑S.length : Int))) = Value.bool false, plainR [eWord.row W], PL = listP, PL (eWord.list (eWord.row W) 0 m) (Bx.mk c.a0 c.b0 c.a1 c.b1 c.a2 c.b2 c.a3 c.b3 c.a4 c.b4) ≠ [], eWord.Row (eWord.row W) 0 m, ∀ (w : Int), w ∈ eWord.list (eWord.row W) 0 m → U64 w, m ≤ 65536, (Bx.mk c.a0 c.b0 c.a1 c.b1 c.a2 c.b2 c.a3 c.b3 c.a4 c.b4).I64s, readPart Try.prog 25 (x.cs ++ y.cs) (0 + ((i : Int)).toNat * 10) = some (Value.agg (Array.mk [Value.int IntKind.i64 c.a0, Value.int IntKind.i64 c.b0, Value.int IntKind.i64 c.a1, Value.int IntKind.i64 c.b1, Value.int IntKind.i64 c.a2, Value.int IntKind.i64 c.b2, Value.int IntKind.i64 c.a3, Value.int IntKind.i64 c.b3, Value.int IntKind.i64 c.a4, Value.int IntKind.i64 c.b4])), (0 : Int) ≤ (i : Int) ∧ (i : Int) < (2 : Int), decide ((↑i : Int) < 2) = true])) (hK : ∀ zz, (l1L W m S x y i T Q2).inv 1 zz → ltO ((l1L W m S x y i T Q2).mu 1 zz) none → Sat E (atLp (lpIn (lp Try.f8 0) J 0)) ((l1L W m S x y i T Q2).st 1 zz)) : Sat E (inLp (lp Try.f8 0) J) ((l0L W m S x y Q).st 0 i) :=
  by_to (T := auto0 (t_ll p K NI b PL true)) (h := hints [(8, 0, {p := true}), (8, 1, {o := some (.agg ⟨c.cs⟩)}), (10, 4, ht false)]) (ws := [.b true, .go, .stop]) (i0 := 0) hE hm (auto0_ok (t_ll_ok p K NI b PL true)) hL (by kernel_rfl) hob hK
theorem llX (p : FP) (K : Nat) (NI : List Nd) (b : Bx) (PL : List Int → Bx → List Pc) (KB : Bool) (W : List Int) (m : Nat) (S : List Pc) (x y : Bx) (Q : Nat → Prop) (i : Nat) (J : Act → World → Prop) {E : Env} (hE : EnvOK E Try.prog Try.f8 5 64 (.bool true) [] []) (hob : all ([Back (Value.bool true) (Value.bool true) [] [] [], Value.bool (decide ((↑S.length : Int) > 0)) = Value.bool true, decide ((↑i : Int) < 2) = false])) : Sat E (inLp (lp Try.f8 0) J) ((l0L W m S x y Q).st 0 i) :=
  by_ret (T := auto0 (t_ll p K NI b PL KB)) (h := hints [(26, 2, ht true)]) (ws := [.b false]) (nx' := 64) hE hm (auto0_ok (t_ll_ok p K NI b PL KB)) (by omega) (by simp) (by simp) (by kernel_rfl) hob
theorem llI (p : FP) (K : Nat) (NI : List Nd) (b : Bx) (PL : List Int → Bx → List Pc) (KB : Bool) (W : List Int) (m : Nat) (S : List Pc) (x y : Bx) (i : Nat) (T : List Pc) (Q : Nat → Nat → Prop) (Q2 : LQ → Prop) (j : Nat) (bo : Bx) (v : Int) (J0 : Act → World → Prop) (J : Act → World → Prop) {E : Env} {rv : Value} {rhs : List Nat} {rhv : List Blk} (hE : EnvOK E Try.prog Try.f8 5 64 rv rhs rhv) (hL : (l2L W m S x y i T j bo v Q2).OK 64) (hob : all ([SameK (atLp (lpIn (lpIn (lp Try.f8 0) J0 0) J 0)) (atLp (lpIn (lpIn (lp Try.f8 0) J0 0) J 0)), Enter (l2L W m S x y i T j bo v Q2) 0 none [Value.slice (some (Addr.mk 80 0 none)) m 1267650600228229401496703205376, Value.slice (some (Addr.mk 83 0 none)) S.length 1267650600228229401496703205376, Value.slice (some (Addr.mk 84 0 none)) 2 2, Value.int IntKind.i64 ((2 : Int)), Value.int IntKind.i64 ((i : Int)), Value.slice (some (Addr.mk 85 0 none)) T.length 1267650600228229401496703205376, Value.int IntKind.i64 (Int.ofNat T.length), Value.int IntKind.i64 ((j : Int)), Value.pointer (some (Addr.mk 112 0 none)), Value.int IntKind.i64 ((0 : Int)), Value.slice (some (Addr.mk 83 0 none)) S.length 1267650600228229401496703205376, Value.int IntKind.i64 (Int.ofNat S.length), Value.int IntKind.i64 ((0 : Int))] [Blk.vec (eWord.row W) 83 1, Blk.vec (ePc.row S) 27 11, Blk.cells [Value.int IntKind.i64 x.a0, Value.int IntKind.i64 x.b0, Value.int IntKind.i64 x.a1, Value.int IntKind.i64 x.b1, Value.int IntKind.i64 x.a2, Value.int IntKind.i64 x.b2, Value.int IntKind.i64 x.a3, Value.int IntKind.i64 x.b3, Value.int IntKind.i64 x.a4, Value.int IntKind.i64 x.b4, Value.int IntKind.i64 y.a0, Value.int IntKind.i64 y.b0, Value.int IntKind.i64 y.a1, Value.int IntKind.i64 y.b1, Value.int IntKind.i64 y.a2, Value.int IntKind.i64 y.b2, Value.int IntKind.i64 y.a3, Value.int IntKind.i64 y.b3, Value.int IntKind.i64 y.a4, Value.int IntKind.i64 y.b4] 25, Blk.vec (ePc.row T) 27 11, Blk.cells [Value.int IntKind.i64 bo.a0, Value.int IntKind.i64 bo.b0, Value.int IntKind.i64 bo.a1, Value.int IntKind.i64 bo.b1, Value.int IntKind.i64 bo.a2, Value.int IntKind.i64 bo.b2, Value.int IntKind.i64 bo.a3, Value.int IntKind.i64 bo.b3, Value.int IntKind.i64 bo.a4, Value.int IntKind.i64 bo.b4, Value.int IntKind.i64 v] 27] [(80, 80), (83, 83), (84, 84), (85, 85), (86, 112), (83, 83)], readPart Try.prog 27 (ePc.row T) (0 + ((j : Int)).toNat * 11) = some (Value.agg (Array.mk [Value.int IntKind.i64 bo.a0, Value.int IntKind.i64 bo.b0, Value.int IntKind.i64 bo.a1, Value.int IntKind.i64 bo.b1, Value.int IntKind.i64 bo.a2, Value.int IntKind.i64 bo.b2, Value.int IntKind.i64 bo.a3, Value.int IntKind.i64 bo.b3, Value.int IntKind.i64 bo.a4, Value.int IntKind.i64 bo.b4, Value.int IntKind.i64 v])), (0 : Int) ≤ (j : Int) ∧ (j : Int) < Int.ofNat T.length, decide ((↑j : Int) < (↑T.length : Int)) = true])) (hK : ∀ zz, (l2L W m S x y i T j bo v Q2).inv 0 zz → ltO ((l2L W m S x y i T j bo v Q2).mu 0 zz) none → Sat E (atLp (lpIn (lpIn (lp Try.f8 0) J0 0) J 0)) ((l2L W m S x y i T j bo v Q2).st 0 zz)) : Sat E (inLp (lpIn (lp Try.f8 0) J0 0) J) ((l1L W m S x y i T Q).st 1 j) :=
  by_to (T := auto0 (t_ll p K NI b PL KB)) (h := hints [(14, 0, {p := true}), (14, 1, {o := some (.agg ⟨bo.cs ++ [.int .i64 v]⟩)})]) (ws := [.b true, .stop]) (i0 := ⟨0, 0⟩) hE hm (auto0_ok (t_ll_ok p K NI b PL KB)) hL (by kernel_rfl) hob hK
theorem llO0 (p : FP) (K : Nat) (NI : List Nd) (b : Bx) (PL : List Int → Bx → List Pc) (KB : Bool) (W : List Int) (m : Nat) (S : List Pc) (x y : Bx) (i : Nat) (T : List Pc) (Q : Nat → Nat → Prop) (Q1 : Nat → Prop) (j : Nat) (J0 : Act → World → Prop) (J : Act → World → Prop) {E : Env} {rv : Value} {rhs : List Nat} {rhv : List Blk} (hE : EnvOK E Try.prog Try.f8 5 64 rv rhs rhv) (hL : (l0L W m S x y Q1).OK 64) (hob : all ([SameK (mkLp (lp Try.f8 0) J0) (mkLp (lp Try.f8 0) J0), Enter (l0L W m S x y Q1) 0 (some (2 - i)) [Value.slice (some (Addr.mk 80 0 none)) m 1267650600228229401496703205376, Value.slice (some (Addr.mk 83 0 none)) S.length 1267650600228229401496703205376, Value.slice (some (Addr.mk 84 0 none)) 2 2, Value.int IntKind.i64 ((2 : Int)), Value.int IntKind.i64 (Int.ofNat i.succ)] [Blk.vec (eWord.row W) 83 1, Blk.vec (ePc.row S) 27 11, Blk.cells [Value.int IntKind.i64 x.a0, Value.int IntKind.i64 x.b0, Value.int IntKind.i64 x.a1, Value.int IntKind.i64 x.b1, Value.int IntKind.i64 x.a2, Value.int IntKind.i64 x.b2, Value.int IntKind.i64 x.a3, Value.int IntKind.i64 x.b3, Value.int IntKind.i64 x.a4, Value.int IntKind.i64 x.b4, Value.int IntKind.i64 y.a0, Value.int IntKind.i64 y.b0, Value.int IntKind.i64 y.a1, Value.int IntKind.i64 y.b1, Value.int IntKind.i64 y.a2, Value.int IntKind.i64 y.b2, Value.int IntKind.i64 y.a3, Value.int IntKind.i64 y.b3, Value.int IntKind.i64 y.a4, Value.int IntKind.i64 y.b4] 25] [(80, 80), (83, 83), (84, 84)], Value.int IntKind.i64 (IntKind.i64.wrap (Int.ofNat i.succ)) = Value.int IntKind.i64 (Int.ofNat i.succ), false = false])) (hK : ∀ zz, (l0L W m S x y Q1).inv 0 zz → ltO ((l0L W m S x y Q1).mu 0 zz) (some (2 - i)) → Sat E (mkLp (lp Try.f8 0) J0) ((l0L W m S x y Q1).st 0 zz)) : Sat E (inLp (lpIn (lp Try.f8 0) J0 0) J) ((l1L W m S x y i T Q).st 0 j) :=
  by_to (T := auto0 (t_ll p K NI b PL KB)) (h := hints [(25, 0, {v := some (.int .i64 ((i + 1 : Nat) : Int))})]) (ws := [.b false]) (i0 := (i + 1)) hE hm (auto0_ok (t_ll_ok p K NI b PL KB)) hL (by kernel_rfl) hob hK
theorem llO1 (p : FP) (K : Nat) (NI : List Nd) (b : Bx) (PL : List Int → Bx → List Pc) (KB : Bool) (W : List Int) (m : Nat) (S : List Pc) (x y : Bx) (i : Nat) (T : List Pc) (Q : Nat → Nat → Prop) (Q1 : Nat → Prop) (j : Nat) (J0 : Act → World → Prop) (J : Act → World → Prop) {E : Env} {rv : Value} {rhs : List Nat} {rhv : List Blk} (hE : EnvOK E Try.prog Try.f8 5 64 rv rhs rhv) (hL : (l0L W m S x y Q1).OK 64) (hob : all ([SameK (mkLp (lp Try.f8 0) J0) (mkLp (lp Try.f8 0) J0), Enter (l0L W m S x y Q1) 0 (some (2 - i)) [Value.slice (some (Addr.mk 80 0 none)) m 1267650600228229401496703205376, Value.slice (some (Addr.mk 83 0 none)) S.length 1267650600228229401496703205376, Value.slice (some (Addr.mk 84 0 none)) 2 2, Value.int IntKind.i64 ((2 : Int)), Value.int IntKind.i64 (Int.ofNat i.succ)] [Blk.vec (eWord.row W) 83 1, Blk.vec (ePc.row S) 27 11, Blk.cells [Value.int IntKind.i64 x.a0, Value.int IntKind.i64 x.b0, Value.int IntKind.i64 x.a1, Value.int IntKind.i64 x.b1, Value.int IntKind.i64 x.a2, Value.int IntKind.i64 x.b2, Value.int IntKind.i64 x.a3, Value.int IntKind.i64 x.b3, Value.int IntKind.i64 x.a4, Value.int IntKind.i64 x.b4, Value.int IntKind.i64 y.a0, Value.int IntKind.i64 y.b0, Value.int IntKind.i64 y.a1, Value.int IntKind.i64 y.b1, Value.int IntKind.i64 y.a2, Value.int IntKind.i64 y.b2, Value.int IntKind.i64 y.a3, Value.int IntKind.i64 y.b3, Value.int IntKind.i64 y.a4, Value.int IntKind.i64 y.b4] 25] [(80, 80), (83, 83), (84, 84)], Value.int IntKind.i64 (IntKind.i64.wrap (Int.ofNat i.succ)) = Value.int IntKind.i64 (Int.ofNat i.succ), decide ((↑j : Int) < (↑T.length : Int)) = false])) (hK : ∀ zz, (l0L W m S x y Q1).inv 0 zz → ltO ((l0L W m S x y Q1).mu 0 zz) (some (2 - i)) → Sat E (mkLp (lp Try.f8 0) J0) ((l0L W m S x y Q1).st 0 zz)) : Sat E (inLp (lpIn (lp Try.f8 0) J0 0) J) ((l1L W m S x y i T Q).st 1 j) :=
  by_to (T := auto0 (t_ll p K NI b PL KB)) (h := hints [(25, 0, {v := some (.int .i64 ((i + 1 : Nat) : Int))})]) (ws := [.b false]) (i0 := (i + 1)) hE hm (auto0_ok (t_ll_ok p K NI b PL KB)) hL (by kernel_rfl) hob hK
theorem llK0 (p : FP) (K : Nat) (NI : List Nd) (b : Bx) (PL : List Int → Bx → List Pc) (KB : Bool) (W : List Int) (m : Nat) (S : List Pc) (x y : Bx) (i : Nat) (T : List Pc) (j : Nat) (bo b2 : Bx) (v v2 : Int) (Q : LQ → Prop) (k n : Nat) (J0 J1 : Act → World → Prop) (J : Act → World → Prop) {E : Env} {rv : Value} {rhs : List Nat} {rhv : List Blk} (hE : EnvOK E Try.prog Try.f8 5 64 rv rhs rhv) (hL : (l2L W m S x y i T j bo v Q).OK 64) (hob : all ([SameK (mkLp (lpIn (lpIn (lp Try.f8 0) J0 0) J1 0) J) (mkLp (lpIn (lpIn (lp Try.f8 0) J0 0) J1 0) J), Enter (l2L W m S x y i T j bo v Q) 0 (some (S.length - k)) [Value.slice (some (Addr.mk 80 0 none)) m 1267650600228229401496703205376, Value.slice (some (Addr.mk 83 0 none)) S.length 1267650600228229401496703205376, Value.slice (some (Addr.mk 84 0 none)) 2 2, Value.int IntKind.i64 ((2 : Int)), Value.int IntKind.i64 ((i : Int)), Value.slice (some (Addr.mk 85 0 none)) T.length 1267650600228229401496703205376, Value.int IntKind.i64 (Int.ofNat T.length), Value.int IntKind.i64 ((j : Int)), Value.pointer (some (Addr.mk 86 0 none)), Value.int IntKind.i64 ((n : Int)), Value.slice (some (Addr.mk 83 0 none)) S.length 1267650600228229401496703205376, Value.int IntKind.i64 (Int.ofNat S.length), Value.int IntKind.i64 (Int.ofNat k.succ)] [Blk.vec (eWord.row W) 83 1, Blk.vec (ePc.row S) 27 11, Blk.cells [Value.int IntKind.i64 x.a0, Value.int IntKind.i64 x.b0, Value.int IntKind.i64 x.a1, Value.int IntKind.i64 x.b1, Value.int IntKind.i64 x.a2, Value.int IntKind.i64 x.b2, Value.int IntKind.i64 x.a3, Value.int IntKind.i64 x.b3, Value.int IntKind.i64 x.a4, Value.int IntKind.i64 x.b4, Value.int IntKind.i64 y.a0, Value.int IntKind.i64 y.b0, Value.int IntKind.i64 y.a1, Value.int IntKind.i64 y.b1, Value.int IntKind.i64 y.a2, Value.int IntKind.i64 y.b2, Value.int IntKind.i64 y.a3, Value.int IntKind.i64 y.b3, Value.int IntKind.i64 y.a4, Value.int IntKind.i64 y.b4] 25, Blk.vec (ePc.row T) 27 11, Blk.cells [Value.int IntKind.i64 bo.a0, Value.int IntKind.i64 bo.b0, Value.int IntKind.i64 bo.a1, Value.int IntKind.i64 bo.b1, Value.int IntKind.i64 bo.a2, Value.int IntKind.i64 bo.b2, Value.int IntKind.i64 bo.a3, Value.int IntKind.i64 bo.b3, Value.int IntKind.i64 bo.a4, Value.int IntKind.i64 bo.b4, Value.int IntKind.i64 v] 27] [(80, 80), (83, 83), (84, 84), (85, 85), (86, 86), (83, 83)], Value.int IntKind.i64 (IntKind.i64.wrap (Int.ofNat k.succ)) = Value.int IntKind.i64 (Int.ofNat k.succ), Value.bool (withinB bo.a0 bo.b0 bo.a1 bo.b1 bo.a2 bo.b2 bo.a3 bo.b3 bo.a4 bo.b4 b2.a0 b2.b0 b2.a1 b2.b1 b2.a2 b2.b2 b2.a3 b2.b3 b2.a4 b2.b4) = Value.bool false, readPart Try.prog 27 (ePc.row S) (0 + ((k : Int)).toNat * 11) = some (Value.agg (Array.mk [Value.int IntKind.i64 b2.a0, Value.int IntKind.i64 b2.b0, Value.int IntKind.i64 b2.a1, Value.int IntKind.i64 b2.b1, Value.int IntKind.i64 b2.a2, Value.int IntKind.i64 b2.b2, Value.int IntKind.i64 b2.a3, Value.int IntKind.i64 b2.b3, Value.int IntKind.i64 b2.a4, Value.int IntKind.i64 b2.b4, Value.int IntKind.i64 v2])), (0 : Int) ≤ (k : Int) ∧ (k : Int) < Int.ofNat S.length, decide ((↑k : Int) < (↑S.length : Int)) = true])) (hK : ∀ zz, (l2L W m S x y i T j bo v Q).inv 0 zz → ltO ((l2L W m S x y i T j bo v Q).mu 0 zz) (some (S.length - k)) → Sat E (mkLp (lpIn (lpIn (lp Try.f8 0) J0 0) J1 0) J) ((l2L W m S x y i T j bo v Q).st 0 zz)) : Sat E (inLp (lpIn (lpIn (lp Try.f8 0) J0 0) J1 0) J) ((l2L W m S x y i T j bo v Q).st 0 ⟨k, n⟩) :=
  by_to (T := auto0 (t_ll p K NI b PL KB)) (h := hints [(18, 0, {p := true}), (18, 1, {o := some (.agg ⟨b2.cs ++ [.int .i64 v2]⟩)}), (19, 4, ht false), (21, 0, {v := some (.int .i64 ((k + 1 : Nat) : Int))})]) (ws := [.b true, .go]) (i0 := ⟨k + 1, n⟩) hE hm (auto0_ok (t_ll_ok p K NI b PL KB)) hL (by kernel_rfl) hob hK
theorem llK1 (p : FP) (K : Nat) (NI : List Nd) (b : Bx) (PL : List Int → Bx → List Pc) (KB : Bool) (W : List Int) (m : Nat) (S : List Pc) (x y : Bx) (i : Nat) (T : List Pc) (j : Nat) (bo b2 : Bx) (v v2 : Int) (Q : LQ → Prop) (k n : Nat) (J0 J1 : Act → World → Prop) (J : Act → World → Prop) {E : Env} {rv : Value} {rhs : List Nat} {rhv : List Blk} (hE : EnvOK E Try.prog Try.f8 5 64 rv rhs rhv) (hL : (l2L W m S x y i T j bo v Q).OK 64) (hob : all ([SameK (mkLp (lpIn (lpIn (lp Try.f8 0) J0 0) J1 0) J) (mkLp (lpIn (lpIn (lp Try.f8 0) J0 0) J1 0) J), Enter (l2L W m S x y i T j bo v Q) 0 (some (S.length - k)) [Value.slice (some (Addr.mk 80 0 none)) m 1267650600228229401496703205376, Value.slice (some (Addr.mk 83 0 none)) S.length 1267650600228229401496703205376, Value.slice (some (Addr.mk 84 0 none)) 2 2, Value.int IntKind.i64 ((2 : Int)), Value.int IntKind.i64 ((i : Int)), Value.slice (some (Addr.mk 85 0 none)) T.length 1267650600228229401496703205376, Value.int IntKind.i64 (Int.ofNat T.length), Value.int IntKind.i64 ((j : Int)), Value.pointer (some (Addr.mk 86 0 none)), Value.int IntKind.i64 ((n : Int)), Value.slice (some (Addr.mk 83 0 none)) S.length 1267650600228229401496703205376, Value.int IntKind.i64 (Int.ofNat S.length), Value.int IntKind.i64 (Int.ofNat k.succ)] [Blk.vec (eWord.row W) 83 1, Blk.vec (ePc.row S) 27 11, Blk.cells [Value.int IntKind.i64 x.a0, Value.int IntKind.i64 x.b0, Value.int IntKind.i64 x.a1, Value.int IntKind.i64 x.b1, Value.int IntKind.i64 x.a2, Value.int IntKind.i64 x.b2, Value.int IntKind.i64 x.a3, Value.int IntKind.i64 x.b3, Value.int IntKind.i64 x.a4, Value.int IntKind.i64 x.b4, Value.int IntKind.i64 y.a0, Value.int IntKind.i64 y.b0, Value.int IntKind.i64 y.a1, Value.int IntKind.i64 y.b1, Value.int IntKind.i64 y.a2, Value.int IntKind.i64 y.b2, Value.int IntKind.i64 y.a3, Value.int IntKind.i64 y.b3, Value.int IntKind.i64 y.a4, Value.int IntKind.i64 y.b4] 25, Blk.vec (ePc.row T) 27 11, Blk.cells [Value.int IntKind.i64 bo.a0, Value.int IntKind.i64 bo.b0, Value.int IntKind.i64 bo.a1, Value.int IntKind.i64 bo.b1, Value.int IntKind.i64 bo.a2, Value.int IntKind.i64 bo.b2, Value.int IntKind.i64 bo.a3, Value.int IntKind.i64 bo.b3, Value.int IntKind.i64 bo.a4, Value.int IntKind.i64 bo.b4, Value.int IntKind.i64 v] 27] [(80, 80), (83, 83), (84, 84), (85, 85), (86, 86), (83, 83)], Value.int IntKind.i64 (IntKind.i64.wrap (Int.ofNat k.succ)) = Value.int IntKind.i64 (Int.ofNat k.succ), Value.bool (v == v2) = Value.bool false, Value.bool (withinB bo.a0 bo.b0 bo.a1 bo.b1 bo.a2 bo.b2 bo.a3 bo.b3 bo.a4 bo.b4 b2.a0 b2.b0 b2.a1 b2.b1 b2.a2 b2.b2 b2.a3 b2.b3 b2.a4 b2.b4) = Value.bool true, readPart Try.prog 27 (ePc.row S) (0 + ((k : Int)).toNat * 11) = some (Value.agg (Array.mk [Value.int IntKind.i64 b2.a0, Value.int IntKind.i64 b2.b0, Value.int IntKind.i64 b2.a1, Value.int IntKind.i64 b2.b1, Value.int IntKind.i64 b2.a2, Value.int IntKind.i64 b2.b2, Value.int IntKind.i64 b2.a3, Value.int IntKind.i64 b2.b3, Value.int IntKind.i64 b2.a4, Value.int IntKind.i64 b2.b4, Value.int IntKind.i64 v2])), (0 : Int) ≤ (k : Int) ∧ (k : Int) < Int.ofNat S.length, decide ((↑k : Int) < (↑S.length : Int)) = true])) (hK : ∀ zz, (l2L W m S x y i T j bo v Q).inv 0 zz → ltO ((l2L W m S x y i T j bo v Q).mu 0 zz) (some (S.length - k)) → Sat E (mkLp (lpIn (lpIn (lp Try.f8 0) J0 0) J1 0) J) ((l2L W m S x y i T j bo v Q).st 0 zz)) : Sat E (inLp (lpIn (lpIn (lp Try.f8 0) J0 0) J1 0) J) ((l2L W m S x y i T j bo v Q).st 0 ⟨k, n⟩) :=
  by_to (T := auto0 (t_ll p K NI b PL KB)) (h := hints [(18, 0, {p := true}), (18, 1, {o := some (.agg ⟨b2.cs ++ [.int .i64 v2]⟩)}), (19, 4, ht true), (19, 10, ht false), (21, 0, {v := some (.int .i64 ((k + 1 : Nat) : Int))})]) (ws := [.b true, .go]) (i0 := ⟨k + 1, n⟩) hE hm (auto0_ok (t_ll_ok p K NI b PL KB)) hL (by kernel_rfl) hob hK
theorem llK2 (p : FP) (K : Nat) (NI : List Nd) (b : Bx) (PL : List Int → Bx → List Pc) (KB : Bool) (W : List Int) (m : Nat) (S : List Pc) (x y : Bx) (i : Nat) (T : List Pc) (j : Nat) (bo b2 : Bx) (v v2 : Int) (Q : LQ → Prop) (k n : Nat) (J0 J1 : Act → World → Prop) (J : Act → World → Prop) {E : Env} {rv : Value} {rhs : List Nat} {rhv : List Blk} (hE : EnvOK E Try.prog Try.f8 5 64 rv rhs rhv) (hL : (l2L W m S x y i T j bo v Q).OK 64) (hob : all ([SameK (mkLp (lpIn (lpIn (lp Try.f8 0) J0 0) J1 0) J) (mkLp (lpIn (lpIn (lp Try.f8 0) J0 0) J1 0) J), Enter (l2L W m S x y i T j bo v Q) 0 (some (S.length - k)) [Value.slice (some (Addr.mk 80 0 none)) m 1267650600228229401496703205376, Value.slice (some (Addr.mk 83 0 none)) S.length 1267650600228229401496703205376, Value.slice (some (Addr.mk 84 0 none)) 2 2, Value.int IntKind.i64 ((2 : Int)), Value.int IntKind.i64 ((i : Int)), Value.slice (some (Addr.mk 85 0 none)) T.length 1267650600228229401496703205376, Value.int IntKind.i64 (Int.ofNat T.length), Value.int IntKind.i64 ((j : Int)), Value.pointer (some (Addr.mk 86 0 none)), Value.int IntKind.i64 (Int.ofNat n.succ), Value.slice (some (Addr.mk 83 0 none)) S.length 1267650600228229401496703205376, Value.int IntKind.i64 (Int.ofNat S.length), Value.int IntKind.i64 (Int.ofNat k.succ)] [Blk.vec (eWord.row W) 83 1, Blk.vec (ePc.row S) 27 11, Blk.cells [Value.int IntKind.i64 x.a0, Value.int IntKind.i64 x.b0, Value.int IntKind.i64 x.a1, Value.int IntKind.i64 x.b1, Value.int IntKind.i64 x.a2, Value.int IntKind.i64 x.b2, Value.int IntKind.i64 x.a3, Value.int IntKind.i64 x.b3, Value.int IntKind.i64 x.a4, Value.int IntKind.i64 x.b4, Value.int IntKind.i64 y.a0, Value.int IntKind.i64 y.b0, Value.int IntKind.i64 y.a1, Value.int IntKind.i64 y.b1, Value.int IntKind.i64 y.a2, Value.int IntKind.i64 y.b2, Value.int IntKind.i64 y.a3, Value.int IntKind.i64 y.b3, Value.int IntKind.i64 y.a4, Value.int IntKind.i64 y.b4] 25, Blk.vec (ePc.row T) 27 11, Blk.cells [Value.int IntKind.i64 bo.a0, Value.int IntKind.i64 bo.b0, Value.int IntKind.i64 bo.a1, Value.int IntKind.i64 bo.b1, Value.int IntKind.i64 bo.a2, Value.int IntKind.i64 bo.b2, Value.int IntKind.i64 bo.a3, Value.int IntKind.i64 bo.b3, Value.int IntKind.i64 bo.a4, Value.int IntKind.i64 bo.b4, Value.int IntKind.i64 v] 27] [(80, 80), (83, 83), (84, 84), (85, 85), (86, 86), (83, 83)], Value.int IntKind.i64 (IntKind.i64.wrap (Int.ofNat k.succ)) = Value.int IntKind.i64 (Int.ofNat k.succ), Value.int IntKind.i64 (IntKind.i64.wrap (Int.ofNat n.succ)) = Value.int IntKind.i64 (Int.ofNat n.succ), Value.bool (v == v2) = Value.bool true, Value.bool (withinB bo.a0 bo.b0 bo.a1 bo.b1 bo.a2 bo.b2 bo.a3 bo.b3 bo.a4 bo.b4 b2.a0 b2.b0 b2.a1 b2.b1 b2.a2 b2.b2 b2.a3 b2.b3 b2.a4 b2.b4) = Value.bool true, readPart Try.prog 27 (ePc.row S) (0 + ((k : Int)).toNat * 11) = some (Value.agg (Array.mk [Value.int IntKind.i64 b2.a0, Value.int IntKind.i64 b2.b0, Value.int IntKind.i64 b2.a1, Value.int IntKind.i64 b2.b1, Value.int IntKind.i64 b2.a2, Value.int IntKind.i64 b2.b2, Value.int IntKind.i64 b2.a3, Value.int IntKind.i64 b2.b3, Value.int IntKind.i64 b2.a4, Value.int IntKind.i64 b2.b4, Value.int IntKind.i64 v2])), (0 : Int) ≤ (k : Int) ∧ (k : Int) < Int.ofNat S.length, decide ((↑k : Int) < (↑S.length : Int)) = true])) (hK : ∀ zz, (l2L W m S x y i T j bo v Q).inv 0 zz → ltO ((l2L W m S x y i T j bo v Q).mu 0 zz) (some (S.length - k)) → Sat E (mkLp (lpIn (lpIn (lp Try.f8 0) J0 0) J1 0) J) ((l2L W m S x y i T j bo v Q).st 0 zz)) : Sat E (inLp (lpIn (lpIn (lp Try.f8 0) J0 0) J1 0) J) ((l2L W m S x y i T j bo v Q).st 0 ⟨k, n⟩) :=
  by_to (T := auto0 (t_ll p K NI b PL KB)) (h := hints [(18, 0, {p := true}), (18, 1, {o := some (.agg ⟨b2.cs ++ [.int .i64 v2]⟩)}), (19, 4, ht true), (19, 10, ht true), (20, 1, {v := some (.int .i64 ((n + 1 : Nat) : Int))}), (21, 0, {v := some (.int .i64 ((k + 1 : Nat) : Int))})]) (ws := [.b true, .go]) (i0 := ⟨k + 1, n + 1⟩) hE hm (auto0_ok (t_ll_ok p K NI b PL KB)) hL (by kernel_rfl) hob hK
theorem llP (p : FP) (K : Nat) (NI : List Nd) (b : Bx) (PL : List Int → Bx → List Pc) (KB : Bool) (W : List Int) (m : Nat) (S : List Pc) (x y : Bx) (i : Nat) (T : List Pc) (j : Nat) (bo : Bx) (v : Int) (Q : LQ → Prop) (Q1 : Nat → Nat → Prop) (k n : Nat) (J0 J1 : Act → World → Prop) (J : Act → World → Prop) {E : Env} {rv : Value} {rhs : List Nat} {rhv : List Blk} (hE : EnvOK E Try.prog Try.f8 5 64 rv rhs rhv) (hL : (l1L W m S x y i T Q1).OK 64) (hob : all ([SameK (mkLp (lpIn (lp Try.f8 0) J0 0) J1) (mkLp (lpIn (lp Try.f8 0) J0 0) J1), Enter (l1L W m S x y i T Q1) 1 (some (T.length - j)) [Value.slice (some (Addr.mk 80 0 none)) m 1267650600228229401496703205376, Value.slice (some (Addr.mk 83 0 none)) S.length 1267650600228229401496703205376, Value.slice (some (Addr.mk 84 0 none)) 2 2, Value.int IntKind.i64 ((2 : Int)), Value.int IntKind.i64 ((i : Int)), Value.slice (some (Addr.mk 85 0 none)) T.length 1267650600228229401496703205376, Value.int IntKind.i64 (Int.ofNat T.length), Value.int IntKind.i64 (Int.ofNat j.succ)] [Blk.vec (eWord.row W) 83 1, Blk.vec (ePc.row S) 27 11, Blk.cells [Value.int IntKind.i64 x.a0, Value.int IntKind.i64 x.b0, Value.int IntKind.i64 x.a1, Value.int IntKind.i64 x.b1, Value.int IntKind.i64 x.a2, Value.int IntKind.i64 x.b2, Value.int IntKind.i64 x.a3, Value.int IntKind.i64 x.b3, Value.int IntKind.i64 x.a4, Value.int IntKind.i64 x.b4, Value.int IntKind.i64 y.a0, Value.int IntKind.i64 y.b0, Value.int IntKind.i64 y.a1, Value.int IntKind.i64 y.b1, Value.int IntKind.i64 y.a2, Value.int IntKind.i64 y.b2, Value.int IntKind.i64 y.a3, Value.int IntKind.i64 y.b3, Value.int IntKind.i64 y.a4, Value.int IntKind.i64 y.b4] 25, Blk.vec (ePc.row T) 27 11] [(80, 80), (83, 83), (84, 84), (85, 85)], Value.int IntKind.i64 (IntKind.i64.wrap (Int.ofNat j.succ)) = Value.int IntKind.i64 (Int.ofNat j.succ), Value.bool ((n : Int) != (1 : Int)) = Value.bool false, decide ((↑k : Int) < (↑S.length : Int)) = false])) (hK : ∀ zz, (l1L W m S x y i T Q1).inv 1 zz → ltO ((l1L W m S x y i T Q1).mu 1 zz) (some (T.length - j)) → Sat E (mkLp (lpIn (lp Try.f8 0) J0 0) J1) ((l1L W m S x y i T Q1).st 1 zz)) : Sat E (inLp (lpIn (lpIn (lp Try.f8 0) J0 0) J1 0) J) ((l2L W m S x y i T j bo v Q).st 0 ⟨k, n⟩) :=
  by_to (T := auto0 (t_ll p K NI b PL KB)) (h := hints [(22, 1, ht false), (24, 0, {v := some (.int .i64 ((j + 1 : Nat) : Int))})]) (ws := [.b false, .go]) (i0 := (j + 1)) hE hm (auto0_ok (t_ll_ok p K NI b PL KB)) hL (by kernel_rfl) hob hK
end Go.Proofs.Ythbaccmhdffjdaa.Ll


set_option linter.unusedVariables false
set_option linter.unusedSimpArgs false
set_option maxRecDepth 100000
namespace Go.Proofs.Ythbaccmhdffjdaa.Ll
open Go Go.RowKit Go.Proofs.Ythbaccmhdffjdaa.Ev Go.Proofs.Ythbaccmhdffjdaa.NodeE Go.Proofs.Ythbaccmhdffjdaa.BoxF Go.Proofs.Ythbaccmhdffjdaa.Lv Go.Proofs.Ythbaccmhdffjdaa.Tr Go.Proofs.Ythbaccmhdffjdaa.Within Go.Proofs.Ythbaccmhdffjdaa.PickE Go.Proofs.Ythbaccmhdffjdaa.Tn Go.Proofs.Ythbaccmhdffjdaa.Fo Go.Proofs.Ythbaccmhdffjdaa.Lp Go.Proofs.Ythbaccmhdffjdaa.Ll

theorem rd_xy (x y : Bx) : readPart Try.prog 25 (x.cs ++ y.cs) 0 = some (.agg ⟨x.cs⟩) ∧ readPart Try.prog 25 (x.cs ++ y.cs) 10 = some (.agg ⟨y.cs⟩) := by
  have h1 : aggT Try.prog 25 = some true := by kernel_rfl
  have h2 : sizeOfT Try.prog 25 = some 10 := by kernel_rfl
  unfold readPart
  rw [h1, h2]
  exact ⟨rfl, rfl⟩
theorem rnwL (f : Nat → Nat) (l : List Int) : Blk.rnB f (.vec (eWord.row l) 83 1) = .vec (eWord.row l) 83 1 := Blk.plain.rnB (b := .vec (eWord.row l) 83 1) (Elt.row_pl _) f
theorem rnsL (f : Nat → Nat) (l : List Pc) : Blk.rnB f (.vec (ePc.row l) 27 11) = .vec (ePc.row l) 27 11 := Blk.plain.rnB (b := .vec (ePc.row l) 27 11) (Elt.row_pl _) f
def cnt (q : Pc) (S : List Pc) (k : Nat) : Nat := (S.take k).countP fun p => wi q.box p.box && (q.val == p.val)
theorem cnt_succ (q : Pc) {S : List Pc} {k : Nat} {y : Pc} (hy : S[k]? = some y) : cnt q S (k + 1) = cnt q S k + (if (wi q.box y.box && (q.val == y.val)) = true then 1 else 0) := by
  unfold cnt
  rw [List.take_add_one, hy, List.countP_append]
  simp [List.countP_cons]
theorem inner2 (p : FP) (K : Nat) (NI : List Nd) (b : Bx) (PL : List Int → Bx → List Pc) (W : List Int) (m : Nat) (S : List Pc) (x y : Bx) (i : Nat) (T : List Pc) (j : Nat) (q : Pc) (Q1 : Nat → Nat → Prop) (hS : S.length ≤ 1000) (hT : T.length ≤ 1000) (hj : j < T.length) (h1 : cnt q S S.length = 1) (hQ : Q1 1 (j + 1))
    {E : Env} (hE : EnvOK E Try.prog Try.f8 5 64 (.bool true) [] []) (J0 J1 : Act → World → Prop) (hJ : ∀ zz, Q1 1 zz → T.length - zz < T.length - j → Sat E (mkLp (lpIn (lp Try.f8 0) J0 0) J1) ((l1L W m S x y i T Q1).st 1 zz)) :
    ∀ zz : LQ, zz.i ≤ S.length → zz.k = cnt q S zz.i → Sat E (atLp (lpIn (lpIn (lp Try.f8 0) J0 0) J1 0)) ((l2L W m S x y i T j q.box q.val (fun z => z.i ≤ S.length ∧ z.k = cnt q S z.i)).st 0 zz) := by
  intro zz0 z1 z2
  refine by_loop (l2L W m S x y i T j q.box q.val (fun z => z.i ≤ S.length ∧ z.k = cnt q S z.i)) (lpIn (lpIn (lp Try.f8 0) J0 0) J1 0) ?_ 0 zz0 ⟨z1, z2⟩
  rintro z ⟨k, n⟩ hinv J hJ3
  obtain ⟨k1, k2⟩ : k ≤ S.length ∧ n = cnt q S k := hinv
  show Sat E (inLp (lpIn (lpIn (lp Try.f8 0) J0 0) J1 0) J) ((l2L W m S x y i T j q.box q.val (fun z => z.i ≤ S.length ∧ z.k = cnt q S z.i)).st 0 ⟨k, n⟩)
  have hJm : ∀ zz : LQ, (l2L W m S x y i T j q.box q.val (fun z => z.i ≤ S.length ∧ z.k = cnt q S z.i)).inv 0 zz → ltO ((l2L W m S x y i T j q.box q.val (fun z => z.i ≤ S.length ∧ z.k = cnt q S z.i)).mu 0 zz) (some (S.length - k)) → Sat E (mkLp (lpIn (lpIn (lp Try.f8 0) J0 0) J1 0) J) ((l2L W m S x y i T j q.box q.val (fun z => z.i ≤ S.length ∧ z.k = cnt q S z.i)).st 0 zz) := fun zz g1 g2 => hJ3 0 zz g1 g2
  have ok2 := l2L_ok W m S x y i T j q.box q.val (fun z => z.i ≤ S.length ∧ z.k = cnt q S z.i)
  by_cases hk : k < S.length
  · have hlt : decide ((k : Int) < (S.length : Int)) = true := decide_eq_true (by omega)
    obtain ⟨w, hw⟩ : ∃ w, S[k]? = some w := ⟨_, List.getElem?_eq_getElem hk⟩
    have hrd := read_row (e := ePc) (P := Try.prog) (ty := 27) (by kernel_rfl) (by kernel_rfl) hw
    have hix : (0 : Int) ≤ (k : Int) ∧ (k : Int) < Int.ofNat S.length := ⟨Int.natCast_nonneg _, Int.ofNat_lt.2 hk⟩
    have hc := cnt_succ q hw
    have hn : n ≤ k := by rw [k2]; unfold cnt; exact Nat.le_trans (List.countP_le_length ..) (by rw [List.length_take]; omega)
    have hmu : S.length - (k + 1) < S.length - k := by omega
    cases hwi : wi q.box w.box with
    | false =>
      rw [hwi] at hc
      exact llK0 p K NI b PL true W m S x y i T j q.box w.box q.val w.val _ k n J0 J1 J hE ok2 ⟨rfl, ⟨⟨k + 1, n⟩, ⟨hk, by simpa [k2] using hc.symm⟩, hmu, rfl, (by simp only [l2L, List.map_cons, List.map_nil, rnwL, rnsL] <;> rfl)⟩, i64_succ (by omega), congrArg Value.bool hwi, hrd, hix, hlt, trivial⟩ hJm
    | true =>
      cases hv : (q.val == w.val) with
      | false =>
        rw [hwi, hv] at hc
        exact llK1 p K NI b PL true W m S x y i T j q.box w.box q.val w.val _ k n J0 J1 J hE ok2 ⟨rfl, ⟨⟨k + 1, n⟩, ⟨hk, by simpa [k2] using hc.symm⟩, hmu, rfl, (by simp only [l2L, List.map_cons, List.map_nil, rnwL, rnsL] <;> rfl)⟩, i64_succ (by omega), congrArg Value.bool hv, congrArg Value.bool hwi, hrd, hix, hlt, trivial⟩ hJm
      | true =>
        rw [hwi, hv] at hc
        exact llK2 p K NI b PL true W m S x y i T j q.box w.box q.val w.val _ k n J0 J1 J hE ok2 ⟨rfl, ⟨⟨k + 1, n + 1⟩, ⟨hk, by simpa [k2] using hc.symm⟩, hmu, rfl, (by simp only [l2L, List.map_cons, List.map_nil, rnwL, rnsL] <;> rfl)⟩, i64_succ (by omega), i64_succ (by omega), congrArg Value.bool hv, congrArg Value.bool hwi, hrd, hix, hlt, trivial⟩ hJm
  · have hlt : decide ((k : Int) < (S.length : Int)) = false := decide_eq_false (by omega)
    obtain rfl : k = S.length := by omega
    rw [h1] at k2
    subst k2
    exact llP p K NI b PL true W m S x y i T j q.box q.val (fun z => z.i ≤ S.length ∧ z.k = cnt q S z.i) Q1 S.length 1 J0 J1 J hE (l1L_ok W m S x y i T Q1) ⟨rfl, ⟨j + 1, hQ, (by show T.length - (j + 1) < T.length - j; omega), rfl, (by simp only [l1L, List.map_cons, List.map_nil, rnwL, rnsL] <;> rfl)⟩, i64_succ (by omega), rfl, hlt, trivial⟩ fun zz g1 g2 => hJ zz g1 g2
theorem inner1 (p : FP) (K : Nat) (NI : List Nd) (b : Bx) (PL : List Int → Bx → List Pc) (W : List Int) (m : Nat) (S : List Pc) (x y : Bx) (i : Nat) (T : List Pc) (Q0 : Nat → Prop) (hS : S.length ≤ 1000) (hT : T.length ≤ 1000) (h1 : ∀ q ∈ T, cnt q S S.length = 1) (hi : i < 2) (hQ : Q0 (i + 1))
    {E : Env} (hE : EnvOK E Try.prog Try.f8 5 64 (.bool true) [] []) (J0 : Act → World → Prop) (hJ : ∀ zz, Q0 zz → 2 - zz < 2 - i → Sat E (mkLp (lp Try.f8 0) J0) ((l0L W m S x y Q0).st 0 zz)) :
    ∀ z j, j ≤ T.length ∧ (z = 0 ∧ T = [] ∨ z = 1) → Sat E (atLp (lpIn (lp Try.f8 0) J0 0)) ((l1L W m S x y i T (fun z j => j ≤ T.length ∧ (z = 0 ∧ T = [] ∨ z = 1))).st z j) := by
  intro z0 j0 hz0
  refine by_loop (l1L W m S x y i T (fun z j => j ≤ T.length ∧ (z = 0 ∧ T = [] ∨ z = 1))) (lpIn (lp Try.f8 0) J0 0) ?_ z0 j0 hz0
  rintro z j hinv J1 hJ1
  obtain ⟨k1, k2⟩ : j ≤ T.length ∧ (z = 0 ∧ T = [] ∨ z = 1) := hinv
  show Sat E (inLp (lpIn (lp Try.f8 0) J0 0) J1) ((l1L W m S x y i T (fun z j => j ≤ T.length ∧ (z = 0 ∧ T = [] ∨ z = 1))).st z j)
  have hJ0 : ∀ zz, (l0L W m S x y Q0).inv 0 zz → ltO ((l0L W m S x y Q0).mu 0 zz) (some (2 - i)) → Sat E (mkLp (lp Try.f8 0) J0) ((l0L W m S x y Q0).st 0 zz) := fun zz g1 g2 => hJ zz g1 g2
  by_cases hj : j < T.length
  · obtain rfl : z = 1 := by
      rcases k2 with ⟨_, rfl⟩ | h
      · simp at hj
      · exact h
    have hlt : decide ((j : Int) < (T.length : Int)) = true := decide_eq_true (by omega)
    obtain ⟨q, hq⟩ : ∃ q, T[j]? = some q := ⟨_, List.getElem?_eq_getElem hj⟩
    have hrd := read_row (e := ePc) (P := Try.prog) (ty := 27) (by kernel_rfl) (by kernel_rfl) hq
    have hix : (0 : Int) ≤ (j : Int) ∧ (j : Int) < Int.ofNat T.length := ⟨Int.natCast_nonneg _, Int.ofNat_lt.2 hj⟩
    exact llI p K NI b PL true W m S x y i T _ (fun z => z.i ≤ S.length ∧ z.k = cnt q S z.i) j q.box q.val J0 J1 hE (l2L_ok W m S x y i T j q.box q.val _) ⟨rfl, ⟨⟨0, 0⟩, ⟨Nat.zero_le _, rfl⟩, trivial, rfl, (by simp only [l2L, List.map_cons, List.map_nil, rnwL, rnsL] <;> rfl)⟩, hrd, hix, hlt, trivial⟩ fun zz hz _ => inner2 p K NI b PL W m S x y i T j q (fun z j => j ≤ T.length ∧ (z = 0 ∧ T = [] ∨ z = 1)) hS hT hj (h1 q (List.mem_of_getElem? hq)) ⟨hj, Or.inr rfl⟩ hE J0 J1 (fun zz g1 g2 => hJ1 1 zz g1 g2) zz hz.1 hz.2
  · have hlt : decide ((j : Int) < (T.length : Int)) = false := decide_eq_false (by omega)
    rcases k2 with ⟨rfl, rfl⟩ | rfl
    · exact llO0 p K NI b PL true W m S x y i [] _ Q0 j J0 J1 hE (l0L_ok W m S x y Q0) ⟨rfl, ⟨i + 1, hQ, (by show 2 - (i + 1) < 2 - i; omega), rfl, (by simp only [l0L, List.map_cons, List.map_nil, rnwL, rnsL] <;> rfl)⟩, i64_succ (by omega), rfl, trivial⟩ hJ0
    · exact llO1 p K NI b PL true W m S x y i T _ Q0 j J0 J1 hE (l0L_ok W m S x y Q0) ⟨rfl, ⟨i + 1, hQ, (by show 2 - (i + 1) < 2 - i; omega), rfl, (by simp only [l0L, List.map_cons, List.map_nil, rnwL, rnsL] <;> rfl)⟩, i64_succ (by omega), hlt, trivial⟩ hJ0
theorem loop (p : FP) (K : Nat) (NI : List Nd) (PL : List Int → Bx → List Pc) (hP : PL = listP) {W : List Int} {m : Nat} {b x y : Bx} (hm : m = W.length) (h40 : m ≤ 40) (hU : ∀ w ∈ W, U64 w) (hR : rightI W 4 = true) (hbe : b.emp = false) (hx : x.emp = false → x.Le b) (hy : y.emp = false → y.Le b) (ix : x.I64s) (iy : y.I64s)
    {E : Env} (hE : EnvOK E Try.prog Try.f8 5 64 (.bool true) [] []) : ∀ i, i ≤ 2 → Sat E (atLp (lp Try.f8 0)) ((l0L W m (listP W b) x y (fun i => i ≤ 2)).st 0 i) := by
  intro i0 hi0
  have hX0 : eWord.list (eWord.row W) 0 m = W := by rw [listM (by omega), List.take_of_length_le (by omega)]
  have row0 : eWord.Row (eWord.row W) 0 m := rowN hm
  have uX : ∀ w ∈ eWord.list (eWord.row W) 0 m, U64 w := by rw [hX0]; exact hU
  have pl0 : plainR [eWord.row W] := plain1 (Elt.row_pl _)
  have hlen := list_len5 W b
  have hne := list_ne hR hbe
  refine by_loop (l0L W m (listP W b) x y (fun i => i ≤ 2)) (lp Try.f8 0) ?_ 0 i0 hi0
  rintro z i hinv J hJ
  have k1 : i ≤ 2 := hinv
  show Sat E (inLp (lp Try.f8 0) J) ((l0L W m (listP W b) x y (fun i => i ≤ 2)).st 0 i)
  by_cases hi : i < 2
  · have hlt : decide ((i : Int) < 2) = true := decide_eq_true (by omega)
    have hix : (0 : Int) ≤ (i : Int) ∧ (i : Int) < (2 : Int) := ⟨Int.natCast_nonneg _, by omega⟩
    obtain ⟨c, hc, hle, ic⟩ : ∃ c : Bx, readPart Try.prog 25 (x.cs ++ y.cs) (0 + ((i : Int)).toNat * 10) = some (.agg ⟨c.cs⟩) ∧ (c.emp = false → c.Le b) ∧ c.I64s := by
      have h2 : i = 0 ∨ i = 1 := by omega
      rcases h2 with rfl | rfl
      · exact ⟨x, (rd_xy x y).1, hx, ix⟩
      · exact ⟨y, (rd_xy x y).2, hy, iy⟩
    have hT : PL (eWord.list (eWord.row W) 0 m) c = listP W c := by rw [hX0, hP]
    have hTl := list_len5 W c
    have hll := less_len hR hbe hle
    have h1 : ∀ q ∈ PL (eWord.list (eWord.row W) 0 m) c, cnt q (listP W b) (listP W b).length = 1 := fun q hq => by
      rw [hT] at hq
      unfold cnt
      rw [List.take_length]
      exact (less_one hR hbe hle hq).2
    have hJ' : ∀ zz, zz ≤ 2 → 2 - zz < 2 - i → Sat E (mkLp (lp Try.f8 0) J) ((l0L W m (listP W b) x y (fun i => i ≤ 2)).st 0 zz) := fun zz g1 g2 => hJ 0 zz g1 g2
    by_cases he : PL (eWord.list (eWord.row W) 0 m) c = []
    · exact llB0 p K NI b PL W m (listP W b) x y c [] (fun i => i ≤ 2) (fun z j => j ≤ ([] : List Pc).length ∧ (z = 0 ∧ ([] : List Pc) = [] ∨ z = 1)) i J hE (l1L_ok W m _ x y i _ _) ⟨rfl, ⟨0, ⟨Nat.zero_le _, Or.inl ⟨rfl, rfl⟩⟩, trivial, rfl, (by simp only [l1L, List.map_cons, List.map_nil, rnwL, rnsL] <;> rfl)⟩, rfl, pl0, hP, he, row0, uX, (by omega), ic, hc, hix, hlt, trivial⟩ fun zz hz _ => inner1 p K NI b PL W m (listP W b) x y i [] (fun i => i ≤ 2) (by omega) (by simp) (fun q hq => by simp at hq) hi hi hE J hJ' 0 zz hz
    · exact llB1 p K NI b PL W m (listP W b) x y c (PL (eWord.list (eWord.row W) 0 m) c) (fun i => i ≤ 2) (fun z j => j ≤ (PL (eWord.list (eWord.row W) 0 m) c).length ∧ (z = 0 ∧ PL (eWord.list (eWord.row W) 0 m) c = [] ∨ z = 1)) i J hE (l1L_ok W m _ x y i _ _) ⟨rfl, ⟨0, ⟨Nat.zero_le _, Or.inr rfl⟩, trivial, rfl, (by simp only [l1L, List.map_cons, List.map_nil, rnwL, rnsL] <;> rfl)⟩, congrArg Value.bool (decide_eq_false (by rw [show (⟨c.a0, c.b0, c.a1, c.b1, c.a2, c.b2, c.a3, c.b3, c.a4, c.b4⟩ : Bx) = c from rfl, hT]; omega)), pl0, hP, he, row0, uX, (by omega), ic, hc, hix, hlt, trivial⟩ fun zz hz _ => inner1 p K NI b PL W m (listP W b) x y i _ (fun i => i ≤ 2) (by omega) (by rw [hT]; omega) h1 hi hi hE J hJ' 1 zz hz
  · have hlt : decide ((i : Int) < 2) = false := decide_eq_false (by omega)
    have hl1 : 1 ≤ (listP W b).length := by cases h : listP W b with | nil => exact absurd h hne | cons _ _ => simp
    exact llX p K NI b PL true W m (listP W b) x y (fun i => i ≤ 2) i J hE ⟨⟨rfl, rfl⟩, congrArg Value.bool (decide_eq_true (by omega)), hlt, trivial⟩
end Go.Proofs.Ythbaccmhdffjdaa.Ll


set_option linter.unusedVariables false
set_option linter.unusedSimpArgs false
set_option maxRecDepth 100000
namespace Go.Proofs.Ythbaccmhdffjdaa.WkLeavesLess
open Go Go.RowKit Go.Proofs.Ythbaccmhdffjdaa.Ev Go.Proofs.Ythbaccmhdffjdaa.NodeE Go.Proofs.Ythbaccmhdffjdaa.BoxF Go.Proofs.Ythbaccmhdffjdaa.Lv Go.Proofs.Ythbaccmhdffjdaa.Tr Go.Proofs.Ythbaccmhdffjdaa.Within Go.Proofs.Ythbaccmhdffjdaa.PickE Go.Proofs.Ythbaccmhdffjdaa.Tn Go.Proofs.Ythbaccmhdffjdaa.Fo Go.Proofs.Ythbaccmhdffjdaa.Lp Go.Proofs.Ythbaccmhdffjdaa.Ll

def nilD (d cl : Int) : FD := ⟨d, cl, 0, 0, fun _ => ⟨false, [], 0, 0⟩, fun _ => 0, fun _ => none⟩
theorem nilD_ok {d cl : Int} (hd : I64 d) (hcl : I64 cl) : (nilD d cl).OK := ⟨hd, hcl, fun k h => absurd h (by simp [nilD]), fun k _ => rfl, fun i => by show I64 0; decide, fun k => Or.inl rfl, fun k _ => rfl, rfl, fun k _ => rfl⟩
theorem spec {D : FD} (ok : D.OK) {zt : Option Addr} (hz : ztOK D zt) (tcl place at_ : Int) (wp : I64 place) (wa : I64 at_) :
    CallSpec Try.prog 8 [.agg ⟨[.int .i64 tcl, (D.rw 20).v 20, (D.rw 21).v 21, (D.rw 22).v 22, (D.rw 23).v 23]⟩, .agg ⟨D.fp.fcs zt⟩, (D.rw 18).v 18, .int .i64 place, .int .i64 at_] (roRows [D.fp.cs0, D.fp.R 1, D.fp.R 2, D.fp.R 3, D.fp.R 4, D.fp.R 5, D.fp.R 6, D.fp.R 7, D.fp.R 8, D.fp.R 9, D.fp.R 10, D.fp.R 11, D.fp.R 12, D.fp.R 13, D.fp.R 14, D.fp.R 15, D.fp.R 16, D.fp.R 17, D.fp.R 18, D.fp.R 19, D.fp.R 20, D.fp.R 21, D.fp.R 22, D.fp.R 23]) 64 (.bool true) (assocN [] []) := by
  refine spec_of_sat Try.func8 rfl fun E hE => ?_
  rw [← FD.sv18 ok (k := 18) (by decide), ← FD.sv18 ok (k := 20) (by decide), ← FD.sv18 ok (k := 21) (by decide), ← FD.sv18 ok (k := 22) (by decide), ← FD.sv18 ok (k := 23) (by decide)]
  have hd := within_range D.d (show (1 : Int) ≤ 3 by decide)
  obtain ⟨h1, h3⟩ := hd
  obtain ⟨xR, xU, xL⟩ := nodes4 (D.rw 20).l (D.rw 21).l (D.rw 22).l (D.rw 23).l h1 h3
  obtain ⟨PL, hP⟩ : ∃ PL : List Int → Bx → List Pc, PL = listP := ⟨_, rfl⟩
  obtain ⟨K, hK⟩ : ∃ K, K = min D.n 4 := ⟨_, rfl⟩
  obtain ⟨NI, hNI⟩ : ∃ NI, NI = nodesI (D.rw 20).l (D.rw 21).l (D.rw 22).l (D.rw 23).l (withinS D.d 1 3) := ⟨_, rfl⟩
  obtain ⟨b, hb⟩ : ∃ b, b = regI (D.rw 18).l (withinS D.d 1 3) := ⟨_, rfl⟩
  have hX0 : eWord.list (eWord.row (NI.map packN)) 0 NI.length = NI.map packN := by rw [listM (by simp), List.take_of_length_le (by simp)]
  rw [← hNI] at xR xU xL
  have row0 : eWord.Row (eWord.row (NI.map packN)) 0 NI.length := rowN (by simp)
  have uX : ∀ w ∈ eWord.list (eWord.row (NI.map packN)) 0 NI.length, U64 w := by rw [hX0]; exact xU
  have pl0 : plainR [eWord.row (NI.map packN)] := plain1 (Elt.row_pl _)
  have hbe : b.emp = false := by rw [hb]; exact reg_emp _ _
  have hb64 : b.I64s := by rw [hb]; exact reg_I64s _ _
  have hne : PL (eWord.list (eWord.row (NI.map packN)) 0 NI.length) b ≠ [] := by rw [hX0, hP]; exact list_ne xR hbe
  have rOK := fun (zm : Option Addr) (hz : zm = none ∨ ∃ j, zm = some ⟨j, 0, none⟩) (lm cm : Nat) (c0 b0 b1 b2 : Int) => regOK (c0 := c0) (b0 := b0) (b1 := b1) (b2 := b2) ok h1 h3 hz lm cm (show 18 ≤ 18 by decide)
  have nOK := nodesAt ok tcl h1 h3
  rw [← hNI] at nOK
  simp only [← hb] at rOK
  obtain ⟨pl, hpl⟩ : ∃ pl, pl = withinS place 0 (withinS D.d 1 3 - 1) := ⟨_, rfl⟩
  have hpr := within_range place (show (0 : Int) ≤ withinS D.d 1 3 - 1 by omega)
  rw [← hpl] at hpr
  obtain ⟨x, hx⟩ : ∃ x, x = b.low pl at_ := ⟨_, rfl⟩
  obtain ⟨y, hy⟩ : ∃ y, y = b.high pl at_ := ⟨_, rfl⟩
  have hle := cut_le (x := b) (n := at_) (f := pl) hpr.1 (by omega)
  have hok := low_ok hb64 wa pl
  rw [← hx, ← hy] at hle hok
  have hcut : ∀ q, q = pl → cutPair b.a0 b.b0 b.a1 b.b1 b.a2 b.b2 b.a3 b.b3 b.a4 b.b4 q at_ = .tuple ⟨[.agg ⟨x.cs⟩, .agg ⟨y.cs⟩]⟩ := fun q hq => by rw [hq, hx, hy]; rfl
  have hcut := hcut pl rfl
  have hmx : (b.b0 ≤ mx ∧ b.b1 ≤ mx ∧ b.b2 ≤ mx ∧ b.b3 ≤ mx ∧ b.b4 ≤ mx) := by
    have := hb64
    unfold Bx.I64s I64 at this
    unfold mx
    omega
  obtain ⟨m0, m1, m2, m3, m4⟩ := hmx
  have hfin : ∀ zz : Nat, zz ≤ 2 → Sat E (atLp (lp Try.f8 0)) ((l0L (NI.map packN) NI.length (PL (eWord.list (eWord.row (NI.map packN)) 0 NI.length) b) x y (fun i => i ≤ 2)).st 0 zz) := by
    have := loop D.fp K NI PL hP (W := NI.map packN) (m := NI.length) (b := b) (x := x) (y := y) (by simp) (by omega) xU xR hbe hle.1 hle.2 hok.1 hok.2 hE
    rw [hX0, hP]
    exact this
  have h5 : K = 0 ∨ K = 1 ∨ K = 2 ∨ K = 3 ∨ K = 4 := by omega
  rcases h5 with rfl | rfl | rfl | rfl | rfl
  · exact llA0 D.fp NI b PL zt tcl place at_ (withinS D.d 1 3 - 1) pl x y NI.length (NI.map packN) (PL (eWord.list (eWord.row (NI.map packN)) 0 NI.length) b) (fun i => i ≤ 2) hE (l0L_ok _ _ _ _ _ _) ⟨rfl, ⟨0, Nat.zero_le _, trivial, rfl, by simp only [l0L, List.map_cons, List.map_nil, rnwL, rnsL] <;> rfl⟩, hcut, wa, m0, m1, m2, m3, m4, congrArg _ hpl.symm, wp, by decide, (by omega), (by omega), i64_id rfl (by show -9223372036854775808 ≤ withinS D.d 1 3 - 1; omega) (by show withinS D.d 1 3 - 1 ≤ 9223372036854775807; omega), pl0, hP, hne, row0, uX, (by omega), hb64, rOK _ (Or.inl rfl) _ _ _ _ _ _, nOK, modOK ok hz hK rfl, trivial⟩ fun zz hz _ => hfin zz hz
  · obtain rfl : zt = some ⟨0, 0, none⟩ := by
      rcases hz with h | ⟨_, h⟩
      · exact h
      · omega
    exact llA1 D.fp NI b PL (some ⟨0, 0, none⟩) tcl place at_ (withinS D.d 1 3 - 1) pl x y NI.length (NI.map packN) (PL (eWord.list (eWord.row (NI.map packN)) 0 NI.length) b) (fun i => i ≤ 2) hE (l0L_ok _ _ _ _ _ _) ⟨rfl, ⟨0, Nat.zero_le _, trivial, rfl, by simp only [l0L, List.map_cons, List.map_nil, rnwL, rnsL] <;> rfl⟩, hcut, wa, m0, m1, m2, m3, m4, congrArg _ hpl.symm, wp, by decide, (by omega), (by omega), i64_id rfl (by show -9223372036854775808 ≤ withinS D.d 1 3 - 1; omega) (by show withinS D.d 1 3 - 1 ≤ 9223372036854775807; omega), pl0, hP, hne, row0, uX, (by omega), hb64, rOK _ (Or.inr ⟨_, rfl⟩) _ _ _ _ _ _, nOK, modOK ok hz hK rfl, trivial⟩ fun zz hz _ => hfin zz hz
  · obtain rfl : zt = some ⟨0, 0, none⟩ := by
      rcases hz with h | ⟨_, h⟩
      · exact h
      · omega
    exact llA2 D.fp NI b PL (some ⟨0, 0, none⟩) tcl place at_ (withinS D.d 1 3 - 1) pl x y NI.length (NI.map packN) (PL (eWord.list (eWord.row (NI.map packN)) 0 NI.length) b) (fun i => i ≤ 2) hE (l0L_ok _ _ _ _ _ _) ⟨rfl, ⟨0, Nat.zero_le _, trivial, rfl, by simp only [l0L, List.map_cons, List.map_nil, rnwL, rnsL] <;> rfl⟩, hcut, wa, m0, m1, m2, m3, m4, congrArg _ hpl.symm, wp, by decide, (by omega), (by omega), i64_id rfl (by show -9223372036854775808 ≤ withinS D.d 1 3 - 1; omega) (by show withinS D.d 1 3 - 1 ≤ 9223372036854775807; omega), pl0, hP, hne, row0, uX, (by omega), hb64, rOK _ (Or.inr ⟨_, rfl⟩) _ _ _ _ _ _, nOK, modOK ok hz hK rfl, trivial⟩ fun zz hz _ => hfin zz hz
  · obtain rfl : zt = some ⟨0, 0, none⟩ := by
      rcases hz with h | ⟨_, h⟩
      · exact h
      · omega
    exact llA3 D.fp NI b PL (some ⟨0, 0, none⟩) tcl place at_ (withinS D.d 1 3 - 1) pl x y NI.length (NI.map packN) (PL (eWord.list (eWord.row (NI.map packN)) 0 NI.length) b) (fun i => i ≤ 2) hE (l0L_ok _ _ _ _ _ _) ⟨rfl, ⟨0, Nat.zero_le _, trivial, rfl, by simp only [l0L, List.map_cons, List.map_nil, rnwL, rnsL] <;> rfl⟩, hcut, wa, m0, m1, m2, m3, m4, congrArg _ hpl.symm, wp, by decide, (by omega), (by omega), i64_id rfl (by show -9223372036854775808 ≤ withinS D.d 1 3 - 1; omega) (by show withinS D.d 1 3 - 1 ≤ 9223372036854775807; omega), pl0, hP, hne, row0, uX, (by omega), hb64, rOK _ (Or.inr ⟨_, rfl⟩) _ _ _ _ _ _, nOK, modOK ok hz hK rfl, trivial⟩ fun zz hz _ => hfin zz hz
  · obtain rfl : zt = some ⟨0, 0, none⟩ := by
      rcases hz with h | ⟨_, h⟩
      · exact h
      · omega
    exact llA4 D.fp NI b PL (some ⟨0, 0, none⟩) tcl place at_ (withinS D.d 1 3 - 1) pl x y NI.length (NI.map packN) (PL (eWord.list (eWord.row (NI.map packN)) 0 NI.length) b) (fun i => i ≤ 2) hE (l0L_ok _ _ _ _ _ _) ⟨rfl, ⟨0, Nat.zero_le _, trivial, rfl, by simp only [l0L, List.map_cons, List.map_nil, rnwL, rnsL] <;> rfl⟩, hcut, wa, m0, m1, m2, m3, m4, congrArg _ hpl.symm, wp, by decide, (by omega), (by omega), i64_id rfl (by show -9223372036854775808 ≤ withinS D.d 1 3 - 1; omega) (by show withinS D.d 1 3 - 1 ≤ 9223372036854775807; omega), pl0, hP, hne, row0, uX, (by omega), hb64, rOK _ (Or.inr ⟨_, rfl⟩) _ _ _ _ _ _, nOK, modOK ok hz hK rfl, trivial⟩ fun zz hz _ => hfin zz hz
theorem specZ {d cl : Int} (hd : I64 d) (hcl : I64 cl) (tcl place at_ : Int) (wp : I64 place) (wa : I64 at_) :
    CallSpec Try.prog 8 [.agg ⟨ztc tcl⟩, .agg ⟨zfc d cl⟩, .slice none 0 0, .int .i64 place, .int .i64 at_] (roRows []) 0 (.bool true) (assocN [] []) := by
  refine spec_of_sat Try.func8 rfl fun E hE => ?_
  have p1 : ∀ c ∈ ztc tcl, leafG c = true := by intro c hc; simp only [ztc, List.mem_cons, List.not_mem_nil, or_false] at hc; rcases hc with rfl | rfl | rfl | rfl | rfl <;> rfl
  have p2 : ∀ c ∈ zfc d cl, leafG c = true := by intro c hc; simp only [zfc, List.mem_cons, List.not_mem_nil, or_false] at hc; rcases hc with rfl | rfl | rfl | rfl <;> rfl
  refine llZ1 tcl d cl place at_ hE (y1L_ok _ _ _ _ p1 p2) ⟨rfl, ⟨(), trivial, trivial, rfl, rfl⟩, trivial⟩ fun zz _ _ => ?_
  refine sat_ro (hv' := [.ro (ztc tcl), .ro (zfc d cl)]) (nx := 82) (c' := 0) (ob' := []) rfl (fun i b b' h1 h2 => by
    match i with
    | 0 => simp [y1L] at h1 h2; subst h1; subst h2; exact Or.inr ⟨_, rfl, rfl⟩
    | 1 => simp [y1L] at h1 h2; subst h1; subst h2; exact Or.inr ⟨_, rfl, rfl⟩
    | i + 2 => simp [y1L] at h1) ?_
  refine sat_dummy (D := fun k => k < 64) (k0 := 80) (cs0 := ztc tcl) (c' := 0) (ob' := []) rfl (fun k h => by omega) (fun k h => absurd (hE.A k h) (Nat.not_lt_zero _)) (fun i v hv k hk => ?_) (fun k b hb => ?_) ?_
  · obtain ⟨j, _, hj⟩ := assocN_mem hv
    have hm := List.mem_of_getElem? hj
    simp only [y1L, ptr, List.mem_cons, List.not_mem_nil, or_false] at hm
    rcases hm with rfl | rfl | rfl | rfl | rfl <;> simp [nms, nm1, nm0] at hk <;> omega
  · obtain ⟨j, hj1, hj2⟩ := assocN_mem hb
    have hm := List.mem_of_getElem? hj1
    have hm2 := List.mem_of_getElem? hj2
    simp only [y1L, List.mem_cons, List.not_mem_nil, or_false] at hm hm2
    have hpl : ∀ cs : List Value, (∀ c ∈ cs, leafG c = true) → ∀ j ∈ Blk.nmB (.ro cs), ¬ j < 64 := fun cs hc j hj => by
      obtain ⟨c, hcm, hjc⟩ := mem_nmL' (f := nm0) (show j ∈ nmL nm0 cs from hj)
      rw [nm0_leafG (hc c hcm)] at hjc
      simp at hjc
    refine ⟨by rcases hm with rfl | rfl <;> omega, ?_⟩
    rcases hm2 with rfl | rfl
    · exact hpl _ p1
    · exact hpl _ p2
  refine sat_weak (T' := assocN ((y2L tcl d cl place at_).ts 0) ((y2L tcl d cl place at_).tv 0 ())) (H' := assocN ((y2L tcl d cl place at_).hs 0) ((y2L tcl d cl place at_).hv 0 ())) (c' := 0) (ob' := []) (fun i v h => h) (fun k b hb => ?_) ?_
  · refine ⟨b, ?_, Or.inl rfl⟩
    have hk : k ∈ [0, 1, 2, 3, 4, 5, 6, 7, 8, 9, 10, 11, 12, 13, 14, 15, 16, 17, 18, 19, 20, 21, 22, 23, 80, 81] := by obtain ⟨j, hj1, _⟩ := assocN_mem hb; exact List.mem_of_getElem? hj1
    simp only [List.mem_cons, List.not_mem_nil, or_false] at hk
    rcases hk with rfl | rfl | rfl | rfl | rfl | rfl | rfl | rfl | rfl | rfl | rfl | rfl | rfl | rfl | rfl | rfl | rfl | rfl | rfl | rfl | rfl | rfl | rfl | rfl | rfl | rfl <;> first | exact hb | (rw [if_pos (by decide)]; exact hb) | (rw [if_neg (by decide)]; exact hb)
  have ok := nilD_ok hd hcl
  have hz : ztOK (nilD d cl) none := Or.inr ⟨rfl, rfl⟩
  have hE := hE.mono (show 0 ≤ 64 by decide)
  have key : ∀ D : FD, D = nilD d cl → Sat E (fromR Try.f8 1) ((y2L tcl d cl place at_).st 0 ()) := by
    intro D hD
    rw [← hD] at ok hz
    have hd := within_range D.d (show (1 : Int) ≤ 3 by decide)
    obtain ⟨h1, h3⟩ := hd
    obtain ⟨xR, xU, xL⟩ := nodes4 (D.rw 20).l (D.rw 21).l (D.rw 22).l (D.rw 23).l h1 h3
    obtain ⟨PL, hP⟩ : ∃ PL : List Int → Bx → List Pc, PL = listP := ⟨_, rfl⟩
    obtain ⟨K, hK⟩ : ∃ K, K = min D.n 4 := ⟨_, rfl⟩
    obtain ⟨NI, hNI⟩ : ∃ NI, NI = nodesI (D.rw 20).l (D.rw 21).l (D.rw 22).l (D.rw 23).l (withinS D.d 1 3) := ⟨_, rfl⟩
    obtain ⟨b, hb⟩ : ∃ b, b = regI (D.rw 18).l (withinS D.d 1 3) := ⟨_, rfl⟩
    have hX0 : eWord.list (eWord.row (NI.map packN)) 0 NI.length = NI.map packN := by rw [listM (by simp), List.take_of_length_le (by simp)]
    rw [← hNI] at xR xU xL
    have row0 : eWord.Row (eWord.row (NI.map packN)) 0 NI.length := rowN (by simp)
    have uX : ∀ w ∈ eWord.list (eWord.row (NI.map packN)) 0 NI.length, U64 w := by rw [hX0]; exact xU
    have pl0 : plainR [eWord.row (NI.map packN)] := plain1 (Elt.row_pl _)
    have hbe : b.emp = false := by rw [hb]; exact reg_emp _ _
    have hb64 : b.I64s := by rw [hb]; exact reg_I64s _ _
    have hne : PL (eWord.list (eWord.row (NI.map packN)) 0 NI.length) b ≠ [] := by rw [hX0, hP]; exact list_ne xR hbe
    have rOK := fun (zm : Option Addr) (hz : zm = none ∨ ∃ j, zm = some ⟨j, 0, none⟩) (lm cm : Nat) (c0 b0 b1 b2 : Int) => regOK (c0 := c0) (b0 := b0) (b1 := b1) (b2 := b2) ok h1 h3 hz lm cm (show 18 ≤ 18 by decide)
    have nOK := nodesAt ok tcl h1 h3
    rw [← hNI] at nOK
    simp only [← hb] at rOK
    obtain ⟨pl, hpl⟩ : ∃ pl, pl = withinS place 0 (withinS D.d 1 3 - 1) := ⟨_, rfl⟩
    have hpr := within_range place (show (0 : Int) ≤ withinS D.d 1 3 - 1 by omega)
    rw [← hpl] at hpr
    obtain ⟨x, hx⟩ : ∃ x, x = b.low pl at_ := ⟨_, rfl⟩
    obtain ⟨y, hy⟩ : ∃ y, y = b.high pl at_ := ⟨_, rfl⟩
    have hle := cut_le (x := b) (n := at_) (f := pl) hpr.1 (by omega)
    have hok := low_ok hb64 wa pl
    rw [← hx, ← hy] at hle hok
    have hcut : ∀ q, q = pl → cutPair b.a0 b.b0 b.a1 b.b1 b.a2 b.b2 b.a3 b.b3 b.a4 b.b4 q at_ = .tuple ⟨[.agg ⟨x.cs⟩, .agg ⟨y.cs⟩]⟩ := fun q hq => by rw [hq, hx, hy]; rfl
    have hcut := hcut pl rfl
    have hmx : (b.b0 ≤ mx ∧ b.b1 ≤ mx ∧ b.b2 ≤ mx ∧ b.b3 ≤ mx ∧ b.b4 ≤ mx) := by
      have := hb64
      unfold Bx.I64s I64 at this
      unfold mx
      omega
    obtain ⟨m0, m1, m2, m3, m4⟩ := hmx
    have hfin : ∀ zz : Nat, zz ≤ 2 → Sat E (atLp (lp Try.f8 0)) ((l0L (NI.map packN) NI.length (PL (eWord.list (eWord.row (NI.map packN)) 0 NI.length) b) x y (fun i => i ≤ 2)).st 0 zz) := by
      have := loop D.fp K NI PL hP (W := NI.map packN) (m := NI.length) (b := b) (x := x) (y := y) (by simp) (by omega) xU xR hbe hle.1 hle.2 hok.1 hok.2 hE
      rw [hX0, hP]
      exact this
    subst hK
    subst hD
    exact llZ2 (nilD d cl).fp NI b PL tcl d cl place at_ (withinS (nilD d cl).d 1 3 - 1) pl x y NI.length (NI.map packN) (PL (eWord.list (eWord.row (NI.map packN)) 0 NI.length) b) (fun i => i ≤ 2) hE (l0L_ok _ _ _ _ _ _) ⟨rfl, ⟨0, Nat.zero_le _, trivial, rfl, by simp only [l0L, List.map_cons, List.map_nil, rnwL, rnsL] <;> rfl⟩, hcut, wa, m0, m1, m2, m3, m4, congrArg _ hpl.symm, wp, by decide, (by omega), (by omega), i64_id rfl (by show -9223372036854775808 ≤ withinS (nilD d cl).d 1 3 - 1; omega) (by show withinS (nilD d cl).d 1 3 - 1 ≤ 9223372036854775807; omega), pl0, hP, hne, row0, uX, (by omega), hb64, rOK _ (Or.inl rfl) _ _ _ _ _ _, nOK, modOK ok hz rfl rfl, trivial⟩ fun zz hz _ => hfin zz hz
  exact key _ rfl

theorem walk (W : World) (tcl : Int) (t0 t1 t2 t3 : Value) (q0 : Opened W eInt I64 t0) (q1 : Opened W eInt I64 t1) (q2 : Opened W eInt I64 t2) (q3 : Opened W eInt I64 t3) (d cl : Int) (vb vt : Value) (hd : I64 d) (hcl : I64 cl) (hb : Opened W eInt I64 vb) (ht : OpenedT W vt) (v18 : Value) (o18 : Opened W eInt I64 v18) (place : Int) (wp0 : (Lit.int .i64 place).wf = true) (at_ : Int) (wa0 : (Lit.int .i64 at_).wf = true) :
    Calls Try.prog 8 #[.agg #[.int .i64 tcl, t0, t1, t2, t3], .agg #[.int .i64 d, .int .i64 cl, vb, vt], v18, .int .i64 place, .int .i64 at_] W fun e w' => e = .returned (.bool true) ∧ Below W.heap.size W w' := by
  have wp := wf64 wp0
  have wa := wf64 wa0
  rcases mem_or W with hn | hm
  · obtain rfl := opened_nil hn q0
    obtain rfl := opened_nil hn q1
    obtain rfl := opened_nil hn q2
    obtain rfl := opened_nil hn q3
    obtain rfl := opened_nil hn hb
    obtain rfl := openedT_nil hn ht
    obtain rfl := opened_nil hn o18
    have h := calls_ro2 (W := W) (l := []) (specZ hd hcl tcl place at_ wp wa) rfl (fun j b h => by simp [roRows] at h) (fun u hu j hj => by
      simp only [List.mem_cons, List.not_mem_nil, or_false] at hu
      rcases hu with rfl | rfl | rfl | rfl | rfl <;> simp [ztc, zfc, nms, nm1, nmL, nm0] at hj) (fun j cs h => by simp [roRows] at h)
    have hmap : ([.agg ⟨ztc tcl⟩, .agg ⟨zfc d cl⟩, .slice none 0 0, .int .i64 place, .int .i64 at_].map (ren (Nm.at []))).toArray = #[.agg #[.int .i64 tcl, .slice none 0 0, .slice none 0 0, .slice none 0 0, .slice none 0 0], .agg #[.int .i64 d, .int .i64 cl, .slice none 0 0, .slice none 0 0], .slice none 0 0, .int .i64 place, .int .i64 at_] := by
      simp only [ztc, zfc, List.map_cons, List.map_nil, ren_agg, List.map_toArray]
      rfl
    rw [hmap] at h
    exact h
  · let X : Nat → Value := fun k => if k = 18 then v18 else if k = 20 then t0 else if k = 21 then t1 else if k = 22 then t2 else t3
    have hX : ∀ k, Opened W eInt I64 (X k) := fun k => by
      show Opened W eInt I64 (if k = 18 then v18 else if k = 20 then t0 else if k = 21 then t1 else if k = 22 then t2 else t3)
      split
      · assumption
      split
      · assumption
      split
      · assumption
      split <;> assumption
    obtain ⟨D, zt, l, F⟩ := forest_in (N := 64) (by decide) hd hcl hb ht hX hm
    have h := forest_calls F (spec F.ok F.z tcl place at_ wp wa) (fun u hu j hj => by
      simp only [List.mem_cons, List.not_mem_nil, or_false] at hu
      rcases hu with rfl | rfl | rfl | rfl | rfl
      · simp only [nms, nm1, nmL, List.mem_append, List.append_nil] at hj
        rcases hj with hj | hj | hj | hj | hj
        · simp [nm0] at hj
        · have := Rw.v_nm _ _ j hj; omega
        · have := Rw.v_nm _ _ j hj; omega
        · have := Rw.v_nm _ _ j hj; omega
        · have := Rw.v_nm _ _ j hj; omega
      · have := fcs_nms F.ok F.z j hj; omega
      · have := rwv_nms _ _ j hj; omega
      · simp [nms, nm1, nm0] at hj
      · simp [nms, nm1, nm0] at hj)
    have e18 := F.more 18 (by decide) (by decide)
    have e20 := F.more 20 (by decide) (by decide)
    have e21 := F.more 21 (by decide) (by decide)
    have e22 := F.more 22 (by decide) (by decide)
    have e23 := F.more 23 (by decide) (by decide)
    have hval := F.val
    have hmap : ([.agg ⟨[.int .i64 tcl, (D.rw 20).v 20, (D.rw 21).v 21, (D.rw 22).v 22, (D.rw 23).v 23]⟩, .agg ⟨D.fp.fcs zt⟩, (D.rw 18).v 18, .int .i64 place, .int .i64 at_].map (ren (Nm.at l))).toArray = #[.agg #[.int .i64 tcl, t0, t1, t2, t3], .agg #[.int .i64 d, .int .i64 cl, vb, vt], v18, .int .i64 place, .int .i64 at_] := by
      simp only [List.map_cons, List.map_nil, ren_agg, List.map_toArray] at hval ⊢
      rw [hval, rwvF_ren, e18, e20, e21, e22, e23]
      rfl
    rw [hmap] at h
    exact h

end Go.Proofs.Ythbaccmhdffjdaa.WkLeavesLess


namespace Go.Proofs.Ythbaccmhdffjdaa.leavesLessRow
open Go.ChangeShapes Go.WideShapes Go.ChangeAt Go.RowKit
open Go.ChangeMaps (open_string shut_string)
set_option linter.unusedVariables false
theorem own : ownKnob Try.prog.godebug = none := by kernel_rfl
theorem laidOut : laidOutB Try.prog = true := by kernel_rfl
set_option maxHeartbeats 4000000 in
set_option maxRecDepth 100000 in
theorem lifted (os : Os) (started : os.Started) (H : Type) (enc : TypeId × Value → H) :
    ReturnsInHanded {} Try.checked os 8 .any (Rows.leavesLessSpec.pre6 enc Try.prog Try.f8 Rows.leavesLessRow.domain false) (Rows.leavesLessSpec.post enc Try.prog Try.f8 false true false false) := by
  refine returnsInHanded_of_change_sized (C := Try.checked) own started (by kernel_rfl) Try.func8
    (ChangeSpec.witness6 (enc := enc) (C := Try.checked) false ⟨#[], #[.agg #[.int .i64 0, .slice none 0 0, .slice none 0 0, .slice none 0 0, .slice none 0 0], .agg #[.int .i64 0, .int .i64 0, .slice none 0 0, .slice none 0 0], .slice none 0 0, .int .i64 0, .int .i64 0], []⟩ 8 (by kernel_rfl) (by kernel_rfl) (by kernel_rfl) (by kernel_rfl)) ?_
  intro W base args ds gs before hval0 hW hcnd hsz0 _
  have hsz : (DataW.weightsEach Try.prog (Try.f8.params.toList ++ Rows.leavesLessSpec.plain.varTypes Try.prog) (ds ++ gs)).all (· ≤ reachBytes) = true := hsz0
  have hval : ∀ (j : Nat) t v, Try.f8.params[j]? = some t → args[j]? = some v → Value.okWide Try.prog W .any base t v := hval0
  have hW' := hW
  obtain ⟨p, q, hA0, hV, rfl, hfz, hnd⟩ := hW
  have hA : DataW.TrodAll enc Try.prog W 0 (fun _ => true) true Try.f8.params.toList args.toList ds p := hA0
  rw [Try.params8] at hA hval hsz
  obtain ⟨v0, vs0, d0, ds0, p0, q0, hargs, rfl, rfl, h0, r0⟩ := trodAll_cons hA
  obtain ⟨v1, vs1, d1, ds1, p1, q1, rfl, rfl, rfl, h1, r1⟩ := trodAll_cons r0
  obtain ⟨v2, vs2, d2, ds2, p2, q2, rfl, rfl, rfl, h2, r2⟩ := trodAll_cons r1
  obtain ⟨v3, vs3, d3, ds3, p3, q3, rfl, rfl, rfl, h3, r3⟩ := trodAll_cons r2
  obtain ⟨v4, vs4, d4, ds4, p4, q4, rfl, rfl, rfl, h4, r4⟩ := trodAll_cons r3
  obtain ⟨rfl, rfl, rfl⟩ := trodAll_nil r4
  obtain rfl : args = #[v0, v1, v2, v3, v4] := by cases args; simp_all
  obtain ⟨rfl, rfl⟩ := trodVars_none hV
  have k0 := h0
  have lt0 : ∀ x ∈ p0, x.block < W.heap.size := by obtain ⟨m, hm⟩ := k0; exact DataW.trod_lt m _ _ _ hm
  obtain ⟨t0y0, t0y1, t0y2, t0y3, t0y4, rfl, w0y1, w0y2, w0y3, w0y4⟩ := Ev.open_tree (hval 0 55 v0 rfl rfl) h0
  have k1 := h1
  have lt1 : ∀ x ∈ p1, x.block < W.heap.size := by obtain ⟨m, hm⟩ := k1; exact DataW.trod_lt m _ _ _ hm
  obtain ⟨d1y, c1y, b1y, t1y, rfl, wd1, wc1, wb1, wt1⟩ := Ev.open_forest (hval 1 61 v1 rfl rfl) h1
  have k2 := h2
  have lt2 : ∀ x ∈ p2, x.block < W.heap.size := by obtain ⟨m, hm⟩ := k2; exact DataW.trod_lt m _ _ _ hm
  have w2 := Ev.open_ints64 (hval 2 43 v2 rfl rfl) h2
  obtain ⟨a3, rfl, rfl, rfl, w3⟩ := open_int Try.underlying3 (hval 3 3 v3 rfl rfl) h3
  obtain ⟨a4, rfl, rfl, rfl, w4⟩ := open_int Try.underlying3 (hval 4 3 v4 rfl rfl) h4
  clear hA0 hval0 hsz0 hsz
  refine (WkLeavesLess.walk W t0y0 t0y1 t0y2 t0y3 t0y4 w0y1 w0y2 w0y3 w0y4 d1y c1y b1y t1y wd1 wc1 wb1 wt1 v2 w2 a3 w3 a4 w4).mono fun e W' ⟨he, bel⟩ => ?_
  subst he
  exact ⟨_, rfl, _, _, _, [], _, [], hW', trodAll_mk1 (shut_bool Try.underlying4 _), (trodAll_cons_mk (Below.trod laidOut (by kernel_rfl) (of_decide_eq_true (by kernel_rfl)) k0 bel lt0) (trodAll_cons_mk (Below.trod laidOut (by kernel_rfl) (of_decide_eq_true (by kernel_rfl)) k1 bel lt1) (trodAll_cons_mk (Below.trod laidOut (by kernel_rfl) (of_decide_eq_true (by kernel_rfl)) k2 bel lt2) (trodAll_cons_mk (shut_int Try.underlying3 w3) (trodAll_cons_mk (shut_int Try.underlying3 w4) trodAll_mk0))))), rfl, bel.frame _, fun h => by cases h⟩
theorem over : Rows.leavesLessRow.holds Try.pinned (OpenSpec.ofChange Rows.leavesLessSpec) :=
  OpenClaim.holds_of_wide 8 Try.f8 rfl rfl rfl rfl rfl rfl rfl ⟨rfl, rfl, rfl, rfl, rfl⟩ rfl rfl rfl rfl rfl (by kernel_rfl) Try.func8 (by kernel_rfl)
    (of_decide_eq_true (by kernel_rfl)) (by unfold Func.isWrapper; first | (rw [if_pos (by decide +kernel)]; kernel_rfl) | (rw [if_neg (by decide +kernel)]; exact ⟨rfl, rfl⟩))
    (fun os started H enc _ => lifted os started H enc)
end Go.Proofs.Ythbaccmhdffjdaa.leavesLessRow
namespace Go.Proofs.Ythbaccmhdffjdaa
theorem leavesLess_holds : Rows.LeavesLessSaid := leavesLessRow.over
#print axioms leavesLess_holds
end Go.Proofs.Ythbaccmhdffjdaa
