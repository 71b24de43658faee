/-
  The row of the law copselaw15.CliqueOrder: for every input the call returns true, and each argument reads afterwards as it read before. No condition beside the form's own.
-/
import Derived.Test.YthbaccmhdffjdaaRows
import Derived.WalkKit
import Derived.ProofKit
import Derived.OpenShut
import Derived.ShutString
import Derived.ChangeOld
import Derived.Below
import Derived.SizedLaws
import Derived.Test.YthbaccmhdffjdaaCliqueOrderP4
set_option linter.unusedVariables false
set_option linter.unusedSimpArgs false
set_option maxRecDepth 100000
namespace Go.Proofs.Ythbaccmhdffjdaa.Co
open Go Go.RowKit Ev NodeE BoxF Lv Tr Within PickE Tn Fo Lp Cl Mt Mg Tc Co
theorem coE0 (p : FP) (b : Bx) (PL : List Int → Bx → List Pc) (zt : Option Addr) (ct : Int)  {E : Env} (hE : EnvOK E Try.prog Try.f9 3 64 (.bool true) [] []) (hob : all ([Back (Value.bool true) (Value.bool true) [] [] [], plainR [], plainR [], RegOK b 18 [.agg (Array.mk [.int .i64 p.dim, .int .i64 p.cls, .int .i64 p.b0, .int .i64 p.b1, .int .i64 p.b2, .slice none 0 0]), .slice (p.z 18) (p.m 18) (p.c 18)] (some (Blk.ro (p.R 18))), ModOK p 0 [.agg (Array.mk [.int .i64 p.d, .int .i64 p.cl, .slice (p.z 1) (p.m 1) (p.c 1), .slice zt p.n p.ct])] [some (Blk.ro p.cs0), some (Blk.ro (p.R 1)), some (Blk.ro (p.R 2)), some (Blk.ro (p.R 3)), some (Blk.ro (p.R 4)), some (Blk.ro (p.R 5)), some (Blk.ro (p.R 6)), some (Blk.ro (p.R 7)), some (Blk.ro (p.R 8)), some (Blk.ro (p.R 9)), some (Blk.ro (p.R 10)), some (Blk.ro (p.R 11)), some (Blk.ro (p.R 12)), some (Blk.ro (p.R 13)), some (Blk.ro (p.R 14)), some (Blk.ro (p.R 15)), some (Blk.ro (p.R 16)), some (Blk.ro (p.R 17))]])) : Sat E [.code (bodyOf Try.f9)] (st0 Try.f9 [.agg ⟨p.fcs zt⟩, .slice (p.z 18) (p.m 18) (p.c 18), .int .i64 ct] (roRows [p.cs0, p.R 1, p.R 2, p.R 3, p.R 4, p.R 5, p.R 6, p.R 7, p.R 8, p.R 9, p.R 10, p.R 11, p.R 12, p.R 13, p.R 14, p.R 15, p.R 16, p.R 17, p.R 18, p.R 19, p.R 20, p.R 21, p.R 22, p.R 23]) 64) :=
 by_ret (T := auto0 (t_co p 0 b PL none none MR.few mergeL mergeC)) (h := hints []) (ws := []) (nx' := 64) hE hm (auto0_ok (t_co_ok p 0 b PL none none MR.few mergeL mergeC)) (by omega) (by simp) (by simp) (by kernel_rfl) hob
theorem coIn1 (p : FP) (b : Bx) (PL : List Int → Bx → List Pc) (zt : Option Addr) (ct : Int)  {E rv rhs rhv} (hE : EnvOK E Try.prog Try.f9 3 64 rv rhs rhv) (hL : (f0L p 1 b ct).OK 64) (hob : all ([SameK (atLp (lp Try.f9 0)) (atLp (lp Try.f9 0)), Enter (f0L p 1 b ct) 0 none [.int .i64 ct, .pointer (some (Addr.mk 136 0 none)), .slice none 0 0, .slice none 0 0, .slice (some (Addr.mk 88 0 none)) 1 Ev.mark, .int .i64 ((1 : Int)), .int .i64 ((0 : Int))] [Blk.cells [.int .i64 b.a0, .int .i64 b.b0, .int .i64 b.a1, .int .i64 b.b1, .int .i64 b.a2, .int .i64 b.b2, .int .i64 b.a3, .int .i64 b.b3, .int .i64 b.a4, .int .i64 b.b4] 25, Blk.vec [.int .i64 (p.C 0), .slice (some (Addr.mk 89 0 none)) (p.l 0) Ev.mark] 47 2, Blk.vec (eWord.row (p.W 0)) 83 1] [(80, 136), (73, 88), (74, 89)], RegOK b 18 [.agg (Array.mk [.int .i64 p.dim, .int .i64 p.cls, .int .i64 p.b0, .int .i64 p.b1, .int .i64 p.b2, .slice (some (Addr.mk 88 0 none)) 1 Ev.mark]), .slice (p.z 18) (p.m 18) (p.c 18)] (some (Blk.ro (p.R 18))), ModOK p 1 [.agg (Array.mk [.int .i64 p.d, .int .i64 p.cl, .slice (p.z 1) (p.m 1) (p.c 1), .slice zt p.n p.ct])] [some (Blk.ro p.cs0), some (Blk.ro (p.R 1)), some (Blk.ro (p.R 2)), some (Blk.ro (p.R 3)), some (Blk.ro (p.R 4)), some (Blk.ro (p.R 5)), some (Blk.ro (p.R 6)), some (Blk.ro (p.R 7)), some (Blk.ro (p.R 8)), some (Blk.ro (p.R 9)), some (Blk.ro (p.R 10)), some (Blk.ro (p.R 11)), some (Blk.ro (p.R 12)), some (Blk.ro (p.R 13)), some (Blk.ro (p.R 14)), some (Blk.ro (p.R 15)), some (Blk.ro (p.R 16)), some (Blk.ro (p.R 17))]])) (hK : ∀ zz, (f0L p 1 b ct).inv 0 zz → ltO ((f0L p 1 b ct).mu 0 zz) none → Sat E (atLp (lp Try.f9 0)) ((f0L p 1 b ct).st 0 zz)) : Sat E [.code (bodyOf Try.f9)] (st0 Try.f9 [.agg ⟨p.fcs zt⟩, .slice (p.z 18) (p.m 18) (p.c 18), .int .i64 ct] (roRows [p.cs0, p.R 1, p.R 2, p.R 3, p.R 4, p.R 5, p.R 6, p.R 7, p.R 8, p.R 9, p.R 10, p.R 11, p.R 12, p.R 13, p.R 14, p.R 15, p.R 16, p.R 17, p.R 18, p.R 19, p.R 20, p.R 21, p.R 22, p.R 23]) 64) :=
 by_toR (r := [(80, 136), (73, 88), (74, 89)]) (T := auto0 (t_co p 1 b PL none none MR.few mergeL mergeC)) (h := hints []) (ws := [.stop]) (i0 := ()) hE hm (auto0_ok (t_co_ok p 1 b PL none none MR.few mergeL mergeC)) hL (by kernel_rfl) hob hK
theorem coS1 (p : FP) (b : Bx) (PL : List Int → Bx → List Pc) (ct : Int) (Ls : Nat → List Pc) (Q : Nat → Prop) (J : _) {E rv rhs rhv} (hE : EnvOK E Try.prog Try.f9 3 64 rv rhs rhv) (hL : (h1L 1 Ls ct).OK 64) (hob : all ([SameK (atLp (lp Try.f9 1)) (atLp (lp Try.f9 1)), Enter (h1L 1 Ls ct) 0 none [.int .i64 ct, .slice (some (Addr.mk 90 0 none)) 1 Ev.mark, .slice none 0 0, .int .i64 ((1 : Int)), .int .i64 ((0 : Int))] [Blk.vec [.slice (some (Addr.mk 91 0 none)) (Ls 0).length Ev.mark] 28 1, Blk.vec (ePc.row (Ls 0)) 27 11] [(91, 91)], false = false])) (hK : ∀ zz, (h1L 1 Ls ct).inv 0 zz → ltO ((h1L 1 Ls ct).mu 0 zz) none → Sat E (atLp (lp Try.f9 1)) ((h1L 1 Ls ct).st 0 zz)) : Sat E (inLp (lp Try.f9 0) J) ((g0L p 1 b ct Ls Q).st 1 ()) :=
 by_toR (r := [(91, 91)]) (T := auto0 (t_co p 1 b PL none none MR.few mergeL mergeC)) (h := hints []) (ws := [.b false, .stop]) (i0 := ()) hE hm (auto0_ok (t_co_ok p 1 b PL none none MR.few mergeL mergeC)) hL (by kernel_rfl) hob hK
theorem coIn2 (p : FP) (b : Bx) (PL : List Int → Bx → List Pc) (zt : Option Addr) (ct : Int)  {E rv rhs rhv} (hE : EnvOK E Try.prog Try.f9 3 64 rv rhs rhv) (hL : (f0L p 2 b ct).OK 64) (hob : all ([SameK (atLp (lp Try.f9 0)) (atLp (lp Try.f9 0)), Enter (f0L p 2 b ct) 0 none [.int .i64 ct, .pointer (some (Addr.mk 136 0 none)), .slice none 0 0, .slice none 0 0, .slice (some (Addr.mk 88 0 none)) 2 Ev.mark, .int .i64 ((2 : Int)), .int .i64 ((0 : Int))] [Blk.cells [.int .i64 b.a0, .int .i64 b.b0, .int .i64 b.a1, .int .i64 b.b1, .int .i64 b.a2, .int .i64 b.b2, .int .i64 b.a3, .int .i64 b.b3, .int .i64 b.a4, .int .i64 b.b4] 25, Blk.vec [.int .i64 (p.C 0), .slice (some (Addr.mk 89 0 none)) (p.l 0) Ev.mark, .int .i64 (p.C 1), .slice (some (Addr.mk 90 0 none)) (p.l 1) Ev.mark] 47 2, Blk.vec (eWord.row (p.W 0)) 83 1, Blk.vec (eWord.row (p.W 1)) 83 1] [(80, 136), (73, 88), (74, 89), (75, 90)], RegOK b 18 [.agg (Array.mk [.int .i64 p.dim, .int .i64 p.cls, .int .i64 p.b0, .int .i64 p.b1, .int .i64 p.b2, .slice (some (Addr.mk 88 0 none)) 2 Ev.mark]), .slice (p.z 18) (p.m 18) (p.c 18)] (some (Blk.ro (p.R 18))), ModOK p 2 [.agg (Array.mk [.int .i64 p.d, .int .i64 p.cl, .slice (p.z 1) (p.m 1) (p.c 1), .slice zt p.n p.ct])] [some (Blk.ro p.cs0), some (Blk.ro (p.R 1)), some (Blk.ro (p.R 2)), some (Blk.ro (p.R 3)), some (Blk.ro (p.R 4)), some (Blk.ro (p.R 5)), some (Blk.ro (p.R 6)), some (Blk.ro (p.R 7)), some (Blk.ro (p.R 8)), some (Blk.ro (p.R 9)), some (Blk.ro (p.R 10)), some (Blk.ro (p.R 11)), some (Blk.ro (p.R 12)), some (Blk.ro (p.R 13)), some (Blk.ro (p.R 14)), some (Blk.ro (p.R 15)), some (Blk.ro (p.R 16)), some (Blk.ro (p.R 17))]])) (hK : ∀ zz, (f0L p 2 b ct).inv 0 zz → ltO ((f0L p 2 b ct).mu 0 zz) none → Sat E (atLp (lp Try.f9 0)) ((f0L p 2 b ct).st 0 zz)) : Sat E [.code (bodyOf Try.f9)] (st0 Try.f9 [.agg ⟨p.fcs zt⟩, .slice (p.z 18) (p.m 18) (p.c 18), .int .i64 ct] (roRows [p.cs0, p.R 1, p.R 2, p.R 3, p.R 4, p.R 5, p.R 6, p.R 7, p.R 8, p.R 9, p.R 10, p.R 11, p.R 12, p.R 13, p.R 14, p.R 15, p.R 16, p.R 17, p.R 18, p.R 19, p.R 20, p.R 21, p.R 22, p.R 23]) 64) :=
 by_toR (r := [(80, 136), (73, 88), (74, 89), (75, 90)]) (T := auto0 (t_co p 2 b PL none none MR.few mergeL mergeC)) (h := hints []) (ws := [.stop]) (i0 := ()) hE hm (auto0_ok (t_co_ok p 2 b PL none none MR.few mergeL mergeC)) hL (by kernel_rfl) hob hK
theorem coS2 (p : FP) (b : Bx) (PL : List Int → Bx → List Pc) (ct : Int) (Ls : Nat → List Pc) (Q : Nat → Prop) (J : _) {E rv rhs rhv} (hE : EnvOK E Try.prog Try.f9 3 64 rv rhs rhv) (hL : (h1L 2 Ls ct).OK 64) (hob : all ([SameK (atLp (lp Try.f9 1)) (atLp (lp Try.f9 1)), Enter (h1L 2 Ls ct) 0 none [.int .i64 ct, .slice (some (Addr.mk 90 0 none)) 2 Ev.mark, .slice none 0 0, .int .i64 ((2 : Int)), .int .i64 ((0 : Int))] [Blk.vec [.slice (some (Addr.mk 91 0 none)) (Ls 0).length Ev.mark, .slice (some (Addr.mk 92 0 none)) (Ls 1).length Ev.mark] 28 1, Blk.vec (ePc.row (Ls 1)) 27 11, Blk.vec (ePc.row (Ls 0)) 27 11] [(91, 92), (92, 91)], false = false])) (hK : ∀ zz, (h1L 2 Ls ct).inv 0 zz → ltO ((h1L 2 Ls ct).mu 0 zz) none → Sat E (atLp (lp Try.f9 1)) ((h1L 2 Ls ct).st 0 zz)) : Sat E (inLp (lp Try.f9 0) J) ((g0L p 2 b ct Ls Q).st 2 ()) :=
 by_toR (r := [(91, 92), (92, 91)]) (T := auto0 (t_co p 2 b PL none none MR.few mergeL mergeC)) (h := hints []) (ws := [.b false, .stop]) (i0 := ()) hE hm (auto0_ok (t_co_ok p 2 b PL none none MR.few mergeL mergeC)) hL (by kernel_rfl) hob hK
theorem coIn3 (p : FP) (b : Bx) (PL : List Int → Bx → List Pc) (zt : Option Addr) (ct : Int)  {E rv rhs rhv} (hE : EnvOK E Try.prog Try.f9 3 64 rv rhs rhv) (hL : (f0L p 3 b ct).OK 64) (hob : all ([SameK (atLp (lp Try.f9 0)) (atLp (lp Try.f9 0)), Enter (f0L p 3 b ct) 0 none [.int .i64 ct, .pointer (some (Addr.mk 136 0 none)), .slice none 0 0, .slice none 0 0, .slice (some (Addr.mk 88 0 none)) 3 Ev.mark, .int .i64 ((3 : Int)), .int .i64 ((0 : Int))] [Blk.cells [.int .i64 b.a0, .int .i64 b.b0, .int .i64 b.a1, .int .i64 b.b1, .int .i64 b.a2, .int .i64 b.b2, .int .i64 b.a3, .int .i64 b.b3, .int .i64 b.a4, .int .i64 b.b4] 25, Blk.vec [.int .i64 (p.C 0), .slice (some (Addr.mk 89 0 none)) (p.l 0) Ev.mark, .int .i64 (p.C 1), .slice (some (Addr.mk 90 0 none)) (p.l 1) Ev.mark, .int .i64 (p.C 2), .slice (some (Addr.mk 91 0 none)) (p.l 2) Ev.mark] 47 2, Blk.vec (eWord.row (p.W 0)) 83 1, Blk.vec (eWord.row (p.W 1)) 83 1, Blk.vec (eWord.row (p.W 2)) 83 1] [(80, 136), (73, 88), (74, 89), (75, 90), (76, 91)], RegOK b 18 [.agg (Array.mk [.int .i64 p.dim, .int .i64 p.cls, .int .i64 p.b0, .int .i64 p.b1, .int .i64 p.b2, .slice (some (Addr.mk 88 0 none)) 3 Ev.mark]), .slice (p.z 18) (p.m 18) (p.c 18)] (some (Blk.ro (p.R 18))), ModOK p 3 [.agg (Array.mk [.int .i64 p.d, .int .i64 p.cl, .slice (p.z 1) (p.m 1) (p.c 1), .slice zt p.n p.ct])] [some (Blk.ro p.cs0), some (Blk.ro (p.R 1)), some (Blk.ro (p.R 2)), some (Blk.ro (p.R 3)), some (Blk.ro (p.R 4)), some (Blk.ro (p.R 5)), some (Blk.ro (p.R 6)), some (Blk.ro (p.R 7)), some (Blk.ro (p.R 8)), some (Blk.ro (p.R 9)), some (Blk.ro (p.R 10)), some (Blk.ro (p.R 11)), some (Blk.ro (p.R 12)), some (Blk.ro (p.R 13)), some (Blk.ro (p.R 14)), some (Blk.ro (p.R 15)), some (Blk.ro (p.R 16)), some (Blk.ro (p.R 17))]])) (hK : ∀ zz, (f0L p 3 b ct).inv 0 zz → ltO ((f0L p 3 b ct).mu 0 zz) none → Sat E (atLp (lp Try.f9 0)) ((f0L p 3 b ct).st 0 zz)) : Sat E [.code (bodyOf Try.f9)] (st0 Try.f9 [.agg ⟨p.fcs zt⟩, .slice (p.z 18) (p.m 18) (p.c 18), .int .i64 ct] (roRows [p.cs0, p.R 1, p.R 2, p.R 3, p.R 4, p.R 5, p.R 6, p.R 7, p.R 8, p.R 9, p.R 10, p.R 11, p.R 12, p.R 13, p.R 14, p.R 15, p.R 16, p.R 17, p.R 18, p.R 19, p.R 20, p.R 21, p.R 22, p.R 23]) 64) :=
 by_toR (r := [(80, 136), (73, 88), (74, 89), (75, 90), (76, 91)]) (T := auto0 (t_co p 3 b PL none none MR.few mergeL mergeC)) (h := hints []) (ws := [.stop]) (i0 := ()) hE hm (auto0_ok (t_co_ok p 3 b PL none none MR.few mergeL mergeC)) hL (by kernel_rfl) hob hK
theorem coS3 (p : FP) (b : Bx) (PL : List Int → Bx → List Pc) (ct : Int) (Ls : Nat → List Pc) (Q : Nat → Prop) (J : _) {E rv rhs rhv} (hE : EnvOK E Try.prog Try.f9 3 64 rv rhs rhv) (hL : (h1L 3 Ls ct).OK 64) (hob : all ([SameK (atLp (lp Try.f9 1)) (atLp (lp Try.f9 1)), Enter (h1L 3 Ls ct) 0 none [.int .i64 ct, .slice (some (Addr.mk 90 0 none)) 3 Ev.mark, .slice none 0 0, .int .i64 ((3 : Int)), .int .i64 ((0 : Int))] [Blk.vec [.slice (some (Addr.mk 91 0 none)) (Ls 0).length Ev.mark, .slice (some (Addr.mk 92 0 none)) (Ls 1).length Ev.mark, .slice (some (Addr.mk 93 0 none)) (Ls 2).length Ev.mark] 28 1, Blk.vec (ePc.row (Ls 2)) 27 11, Blk.vec (ePc.row (Ls 1)) 27 11, Blk.vec (ePc.row (Ls 0)) 27 11] [(91, 93), (92, 92), (93, 91)], false = false])) (hK : ∀ zz, (h1L 3 Ls ct).inv 0 zz → ltO ((h1L 3 Ls ct).mu 0 zz) none → Sat E (atLp (lp Try.f9 1)) ((h1L 3 Ls ct).st 0 zz)) : Sat E (inLp (lp Try.f9 0) J) ((g0L p 3 b ct Ls Q).st 3 ()) :=
 by_toR (r := [(91, 93), (92, 92), (93, 91)]) (T := auto0 (t_co p 3 b PL none none MR.few mergeL mergeC)) (h := hints []) (ws := [.b false, .stop]) (i0 := ()) hE hm (auto0_ok (t_co_ok p 3 b PL none none MR.few mergeL mergeC)) hL (by kernel_rfl) hob hK
theorem coIn4 (p : FP) (b : Bx) (PL : List Int → Bx → List Pc) (zt : Option Addr) (ct : Int)  {E rv rhs rhv} (hE : EnvOK E Try.prog Try.f9 3 64 rv rhs rhv) (hL : (f0L p 4 b ct).OK 64) (hob : all ([SameK (atLp (lp Try.f9 0)) (atLp (lp Try.f9 0)), Enter (f0L p 4 b ct) 0 none [.int .i64 ct, .pointer (some (Addr.mk 136 0 none)), .slice none 0 0, .slice none 0 0, .slice (some (Addr.mk 88 0 none)) 4 Ev.mark, .int .i64 ((4 : Int)), .int .i64 ((0 : Int))] [Blk.cells [.int .i64 b.a0, .int .i64 b.b0, .int .i64 b.a1, .int .i64 b.b1, .int .i64 b.a2, .int .i64 b.b2, .int .i64 b.a3, .int .i64 b.b3, .int .i64 b.a4, .int .i64 b.b4] 25, Blk.vec [.int .i64 (p.C 0), .slice (some (Addr.mk 89 0 none)) (p.l 0) Ev.mark, .int .i64 (p.C 1), .slice (some (Addr.mk 90 0 none)) (p.l 1) Ev.mark, .int .i64 (p.C 2), .slice (some (Addr.mk 91 0 none)) (p.l 2) Ev.mark, .int .i64 (p.C 3), .slice (some (Addr.mk 92 0 none)) (p.l 3) Ev.mark] 47 2, Blk.vec (eWord.row (p.W 0)) 83 1, Blk.vec (eWord.row (p.W 1)) 83 1, Blk.vec (eWord.row (p.W 2)) 83 1, Blk.vec (eWord.row (p.W 3)) 83 1] [(80, 136), (73, 88), (74, 89), (75, 90), (76, 91), (77, 92)], RegOK b 18 [.agg (Array.mk [.int .i64 p.dim, .int .i64 p.cls, .int .i64 p.b0, .int .i64 p.b1, .int .i64 p.b2, .slice (some (Addr.mk 88 0 none)) 4 Ev.mark]), .slice (p.z 18) (p.m 18) (p.c 18)] (some (Blk.ro (p.R 18))), ModOK p 4 [.agg (Array.mk [.int .i64 p.d, .int .i64 p.cl, .slice (p.z 1) (p.m 1) (p.c 1), .slice zt p.n p.ct])] [some (Blk.ro p.cs0), some (Blk.ro (p.R 1)), some (Blk.ro (p.R 2)), some (Blk.ro (p.R 3)), some (Blk.ro (p.R 4)), some (Blk.ro (p.R 5)), some (Blk.ro (p.R 6)), some (Blk.ro (p.R 7)), some (Blk.ro (p.R 8)), some (Blk.ro (p.R 9)), some (Blk.ro (p.R 10)), some (Blk.ro (p.R 11)), some (Blk.ro (p.R 12)), some (Blk.ro (p.R 13)), some (Blk.ro (p.R 14)), some (Blk.ro (p.R 15)), some (Blk.ro (p.R 16)), some (Blk.ro (p.R 17))]])) (hK : ∀ zz, (f0L p 4 b ct).inv 0 zz → ltO ((f0L p 4 b ct).mu 0 zz) none → Sat E (atLp (lp Try.f9 0)) ((f0L p 4 b ct).st 0 zz)) : Sat E [.code (bodyOf Try.f9)] (st0 Try.f9 [.agg ⟨p.fcs zt⟩, .slice (p.z 18) (p.m 18) (p.c 18), .int .i64 ct] (roRows [p.cs0, p.R 1, p.R 2, p.R 3, p.R 4, p.R 5, p.R 6, p.R 7, p.R 8, p.R 9, p.R 10, p.R 11, p.R 12, p.R 13, p.R 14, p.R 15, p.R 16, p.R 17, p.R 18, p.R 19, p.R 20, p.R 21, p.R 22, p.R 23]) 64) :=
 by_toR (r := [(80, 136), (73, 88), (74, 89), (75, 90), (76, 91), (77, 92)]) (T := auto0 (t_co p 4 b PL none none MR.few mergeL mergeC)) (h := hints []) (ws := [.stop]) (i0 := ()) hE hm (auto0_ok (t_co_ok p 4 b PL none none MR.few mergeL mergeC)) hL (by kernel_rfl) hob hK
theorem coS4 (p : FP) (b : Bx) (PL : List Int → Bx → List Pc) (ct : Int) (Ls : Nat → List Pc) (Q : Nat → Prop) (J : _) {E rv rhs rhv} (hE : EnvOK E Try.prog Try.f9 3 64 rv rhs rhv) (hL : (h1L 4 Ls ct).OK 64) (hob : all ([SameK (atLp (lp Try.f9 1)) (atLp (lp Try.f9 1)), Enter (h1L 4 Ls ct) 0 none [.int .i64 ct, .slice (some (Addr.mk 90 0 none)) 4 Ev.mark, .slice none 0 0, .int .i64 ((4 : Int)), .int .i64 ((0 : Int))] [Blk.vec [.slice (some (Addr.mk 91 0 none)) (Ls 0).length Ev.mark, .slice (some (Addr.mk 92 0 none)) (Ls 1).length Ev.mark, .slice (some (Addr.mk 93 0 none)) (Ls 2).length Ev.mark, .slice (some (Addr.mk 94 0 none)) (Ls 3).length Ev.mark] 28 1, Blk.vec (ePc.row (Ls 3)) 27 11, Blk.vec (ePc.row (Ls 2)) 27 11, Blk.vec (ePc.row (Ls 1)) 27 11, Blk.vec (ePc.row (Ls 0)) 27 11] [(91, 94), (92, 93), (93, 92), (94, 91)], false = false])) (hK : ∀ zz, (h1L 4 Ls ct).inv 0 zz → ltO ((h1L 4 Ls ct).mu 0 zz) none → Sat E (atLp (lp Try.f9 1)) ((h1L 4 Ls ct).st 0 zz)) : Sat E (inLp (lp Try.f9 0) J) ((g0L p 4 b ct Ls Q).st 4 ()) :=
 by_toR (r := [(91, 94), (92, 93), (93, 92), (94, 91)]) (T := auto0 (t_co p 4 b PL none none MR.few mergeL mergeC)) (h := hints []) (ws := [.b false, .stop]) (i0 := ()) hE hm (auto0_ok (t_co_ok p 4 b PL none none MR.few mergeL mergeC)) hL (by kernel_rfl) hob hK
theorem coA0 (p : FP) (b : Bx) (PL : List Int → Bx → List Pc) (n : Nat) (ct : Int) (Ls : Nat → List Pc) (Q : Nat → Prop) (J : _) {E rv rhs rhv} (hE : EnvOK E Try.prog Try.f9 3 64 rv rhs rhv) (hL : (g0L p n b ct Ls Q).OK 64) (hob : all ([SameK (mkLp (lp Try.f9 0) J) (mkLp (lp Try.f9 0) J), Enter (g0L p n b ct Ls Q) 1 (some (n - 0)) [.int .i64 ct, .pointer (some (Addr.mk 80 0 none)), .slice (some (Addr.mk 198 0 none)) 1 Ev.mark, .slice none 0 0, .slice (some (Addr.mk 73 0 none)) n Ev.mark, .int .i64 ((n : Int)), .int .i64 ((1 : Int))] [Blk.cells [.int .i64 b.a0, .int .i64 b.b0, .int .i64 b.a1, .int .i64 b.b1, .int .i64 b.a2, .int .i64 b.b2, .int .i64 b.a3, .int .i64 b.b3, .int .i64 b.a4, .int .i64 b.b4] 25, Blk.ro (p.tcs 74 n), Blk.ro (nrw p n 0), Blk.ro (nrw p n 1), Blk.ro (nrw p n 2), Blk.ro (nrw p n 3), Blk.vec [.slice (some (Addr.mk 182 0 none)) (PL (eWord.list (nrw p n 0) 0 (p.l 0)) (Bx.mk b.a0 b.b0 b.a1 b.b1 b.a2 b.b2 b.a3 b.b3 b.a4 b.b4)).length Ev.mark] 28 1, Blk.vec (ePc.row (PL (eWord.list (nrw p n 0) 0 (p.l 0)) (Bx.mk b.a0 b.b0 b.a1 b.b1 b.a2 b.b2 b.a3 b.b3 b.a4 b.b4))) 27 11] [(90, 198), (91, 182)], plainR [nrw p n 0], PL = listP, PL (eWord.list (nrw p n 0) 0 (p.l 0)) (Bx.mk b.a0 b.b0 b.a1 b.b1 b.a2 b.b2 b.a3 b.b3 b.a4 b.b4) ≠ [], eWord.Row (nrw p n 0) 0 (p.l 0), ∀ (w : Int), w ∈ eWord.list (nrw p n 0) 0 (p.l 0) → U64 w, p.l 0 ≤ 65536, (Bx.mk b.a0 b.b0 b.a1 b.b1 b.a2 b.b2 b.a3 b.b3 b.a4 b.b4).I64s, readPart Try.prog 47 (p.tcs 74 n) 0 = some (Value.agg (Array.mk [.int .i64 (p.C 0), .slice (some (Addr.mk 74 0 none)) (p.l 0) Ev.mark])), (0 : Int) ≤ (0 : Int) ∧ (0 : Int) < (n : Int), decide ((↑0 : Int) < (↑n : Int)) = true])) (hK : ∀ zz, (g0L p n b ct Ls Q).inv 1 zz → ltO ((g0L p n b ct Ls Q).mu 1 zz) (some (n - 0)) → Sat E (mkLp (lp Try.f9 0) J) ((g0L p n b ct Ls Q).st 1 zz)) : Sat E (inLp (lp Try.f9 0) J) ((g0L p n b ct Ls Q).st 0 ()) :=
 by_toR (r := [(90, 198), (91, 182)]) (T := auto0 (t_co p n b PL none none MR.few mergeL mergeC)) (h := hints [(6, 0, {p := true}), (6, 1, {o := some (.agg ⟨[.int .i64 (p.C 0), .slice (some ⟨74, 0, none⟩) (p.l 0) mk]⟩)})]) (ws := [.b true]) (i0 := ()) hE hm (auto0_ok (t_co_ok p n b PL none none MR.few mergeL mergeC)) hL (by kernel_rfl) hob hK
theorem coA1 (p : FP) (b : Bx) (PL : List Int → Bx → List Pc) (n : Nat) (ct : Int) (Ls : Nat → List Pc) (Q : Nat → Prop) (J : _) {E rv rhs rhv} (hE : EnvOK E Try.prog Try.f9 3 64 rv rhs rhv) (hL : (g0L p n b ct Ls Q).OK 64) (hob : all ([SameK (mkLp (lp Try.f9 0) J) (mkLp (lp Try.f9 0) J), Enter (g0L p n b ct Ls Q) 2 (some (n - 1)) [.int .i64 ct, .pointer (some (Addr.mk 80 0 none)), .slice (some (Addr.mk 198 0 none)) 2 Ev.mark, .slice none 0 0, .slice (some (Addr.mk 73 0 none)) n Ev.mark, .int .i64 ((n : Int)), .int .i64 ((2 : Int))] [Blk.cells [.int .i64 b.a0, .int .i64 b.b0, .int .i64 b.a1, .int .i64 b.b1, .int .i64 b.a2, .int .i64 b.b2, .int .i64 b.a3, .int .i64 b.b3, .int .i64 b.a4, .int .i64 b.b4] 25, Blk.ro (p.tcs 74 n), Blk.ro (nrw p n 0), Blk.ro (nrw p n 1), Blk.ro (nrw p n 2), Blk.ro (nrw p n 3), Blk.vec [.slice (some (Addr.mk 91 0 none)) (Ls 0).length Ev.mark, .slice (some (Addr.mk 182 0 none)) (PL (eWord.list (nrw p n 1) 0 (p.l 1)) (Bx.mk b.a0 b.b0 b.a1 b.b1 b.a2 b.b2 b.a3 b.b3 b.a4 b.b4)).length Ev.mark] 28 1, Blk.vec (ePc.row (Ls 0)) 27 11, Blk.vec (ePc.row (PL (eWord.list (nrw p n 1) 0 (p.l 1)) (Bx.mk b.a0 b.b0 b.a1 b.b1 b.a2 b.b2 b.a3 b.b3 b.a4 b.b4))) 27 11] [(90, 198), (92, 182)], plainR [nrw p n 1], PL = listP, PL (eWord.list (nrw p n 1) 0 (p.l 1)) (Bx.mk b.a0 b.b0 b.a1 b.b1 b.a2 b.b2 b.a3 b.b3 b.a4 b.b4) ≠ [], eWord.Row (nrw p n 1) 0 (p.l 1), ∀ (w : Int), w ∈ eWord.list (nrw p n 1) 0 (p.l 1) → U64 w, p.l 1 ≤ 65536, (Bx.mk b.a0 b.b0 b.a1 b.b1 b.a2 b.b2 b.a3 b.b3 b.a4 b.b4).I64s, readPart Try.prog 47 (p.tcs 74 n) 2 = some (Value.agg (Array.mk [.int .i64 (p.C 1), .slice (some (Addr.mk 75 0 none)) (p.l 1) Ev.mark])), (0 : Int) ≤ (1 : Int) ∧ (1 : Int) < (n : Int), decide ((↑1 : Int) < (↑n : Int)) = true])) (hK : ∀ zz, (g0L p n b ct Ls Q).inv 2 zz → ltO ((g0L p n b ct Ls Q).mu 2 zz) (some (n - 1)) → Sat E (mkLp (lp Try.f9 0) J) ((g0L p n b ct Ls Q).st 2 zz)) : Sat E (inLp (lp Try.f9 0) J) ((g0L p n b ct Ls Q).st 1 ()) :=
 by_toR (r := [(90, 198), (92, 182)]) (T := auto0 (t_co p n b PL none none MR.few mergeL mergeC)) (h := hints [(6, 0, {p := true}), (6, 1, {o := some (.agg ⟨[.int .i64 (p.C 1), .slice (some ⟨75, 0, none⟩) (p.l 1) mk]⟩)})]) (ws := [.b true]) (i0 := ()) hE hm (auto0_ok (t_co_ok p n b PL none none MR.few mergeL mergeC)) hL (by kernel_rfl) hob hK
theorem coA2 (p : FP) (b : Bx) (PL : List Int → Bx → List Pc) (n : Nat) (ct : Int) (Ls : Nat → List Pc) (Q : Nat → Prop) (J : _) {E rv rhs rhv} (hE : EnvOK E Try.prog Try.f9 3 64 rv rhs rhv) (hL : (g0L p n b ct Ls Q).OK 64) (hob : all ([SameK (mkLp (lp Try.f9 0) J) (mkLp (lp Try.f9 0) J), Enter (g0L p n b ct Ls Q) 3 (some (n - 2)) [.int .i64 ct, .pointer (some (Addr.mk 80 0 none)), .slice (some (Addr.mk 198 0 none)) 3 Ev.mark, .slice none 0 0, .slice (some (Addr.mk 73 0 none)) n Ev.mark, .int .i64 ((n : Int)), .int .i64 ((3 : Int))] [Blk.cells [.int .i64 b.a0, .int .i64 b.b0, .int .i64 b.a1, .int .i64 b.b1, .int .i64 b.a2, .int .i64 b.b2, .int .i64 b.a3, .int .i64 b.b3, .int .i64 b.a4, .int .i64 b.b4] 25, Blk.ro (p.tcs 74 n), Blk.ro (nrw p n 0), Blk.ro (nrw p n 1), Blk.ro (nrw p n 2), Blk.ro (nrw p n 3), Blk.vec [.slice (some (Addr.mk 91 0 none)) (Ls 0).length Ev.mark, .slice (some (Addr.mk 92 0 none)) (Ls 1).length Ev.mark, .slice (some (Addr.mk 182 0 none)) (PL (eWord.list (nrw p n 2) 0 (p.l 2)) (Bx.mk b.a0 b.b0 b.a1 b.b1 b.a2 b.b2 b.a3 b.b3 b.a4 b.b4)).length Ev.mark] 28 1, Blk.vec (ePc.row (Ls 0)) 27 11, Blk.vec (ePc.row (Ls 1)) 27 11, Blk.vec (ePc.row (PL (eWord.list (nrw p n 2) 0 (p.l 2)) (Bx.mk b.a0 b.b0 b.a1 b.b1 b.a2 b.b2 b.a3 b.b3 b.a4 b.b4))) 27 11] [(90, 198), (93, 182)], plainR [nrw p n 2], PL = listP, PL (eWord.list (nrw p n 2) 0 (p.l 2)) (Bx.mk b.a0 b.b0 b.a1 b.b1 b.a2 b.b2 b.a3 b.b3 b.a4 b.b4) ≠ [], eWord.Row (nrw p n 2) 0 (p.l 2), ∀ (w : Int), w ∈ eWord.list (nrw p n 2) 0 (p.l 2) → U64 w, p.l 2 ≤ 65536, (Bx.mk b.a0 b.b0 b.a1 b.b1 b.a2 b.b2 b.a3 b.b3 b.a4 b.b4).I64s, readPart Try.prog 47 (p.tcs 74 n) 4 = some (Value.agg (Array.mk [.int .i64 (p.C 2), .slice (some (Addr.mk 76 0 none)) (p.l 2) Ev.mark])), (0 : Int) ≤ (2 : Int) ∧ (2 : Int) < (n : Int), decide ((↑2 : Int) < (↑n : Int)) = true])) (hK : ∀ zz, (g0L p n b ct Ls Q).inv 3 zz → ltO ((g0L p n b ct Ls Q).mu 3 zz) (some (n - 2)) → Sat E (mkLp (lp Try.f9 0) J) ((g0L p n b ct Ls Q).st 3 zz)) : Sat E (inLp (lp Try.f9 0) J) ((g0L p n b ct Ls Q).st 2 ()) :=
 by_toR (r := [(90, 198), (93, 182)]) (T := auto0 (t_co p n b PL none none MR.few mergeL mergeC)) (h := hints [(6, 0, {p := true}), (6, 1, {o := some (.agg ⟨[.int .i64 (p.C 2), .slice (some ⟨76, 0, none⟩) (p.l 2) mk]⟩)})]) (ws := [.b true]) (i0 := ()) hE hm (auto0_ok (t_co_ok p n b PL none none MR.few mergeL mergeC)) hL (by kernel_rfl) hob hK
theorem coA3 (p : FP) (b : Bx) (PL : List Int → Bx → List Pc) (n : Nat) (ct : Int) (Ls : Nat → List Pc) (Q : Nat → Prop) (J : _) {E rv rhs rhv} (hE : EnvOK E Try.prog Try.f9 3 64 rv rhs rhv) (hL : (g0L p n b ct Ls Q).OK 64) (hob : all ([SameK (mkLp (lp Try.f9 0) J) (mkLp (lp Try.f9 0) J), Enter (g0L p n b ct Ls Q) 4 (some (n - 3)) [.int .i64 ct, .pointer (some (Addr.mk 80 0 none)), .slice (some (Addr.mk 198 0 none)) 4 Ev.mark, .slice none 0 0, .slice (some (Addr.mk 73 0 none)) n Ev.mark, .int .i64 ((n : Int)), .int .i64 ((4 : Int))] [Blk.cells [.int .i64 b.a0, .int .i64 b.b0, .int .i64 b.a1, .int .i64 b.b1, .int .i64 b.a2, .int .i64 b.b2, .int .i64 b.a3, .int .i64 b.b3, .int .i64 b.a4, .int .i64 b.b4] 25, Blk.ro (p.tcs 74 n), Blk.ro (nrw p n 0), Blk.ro (nrw p n 1), Blk.ro (nrw p n 2), Blk.ro (nrw p n 3), Blk.vec [.slice (some (Addr.mk 91 0 none)) (Ls 0).length Ev.mark, .slice (some (Addr.mk 92 0 none)) (Ls 1).length Ev.mark, .slice (some (Addr.mk 93 0 none)) (Ls 2).length Ev.mark, .slice (some (Addr.mk 182 0 none)) (PL (eWord.list (nrw p n 3) 0 (p.l 3)) (Bx.mk b.a0 b.b0 b.a1 b.b1 b.a2 b.b2 b.a3 b.b3 b.a4 b.b4)).length Ev.mark] 28 1, Blk.vec (ePc.row (Ls 0)) 27 11, Blk.vec (ePc.row (Ls 1)) 27 11, Blk.vec (ePc.row (Ls 2)) 27 11, Blk.vec (ePc.row (PL (eWord.list (nrw p n 3) 0 (p.l 3)) (Bx.mk b.a0 b.b0 b.a1 b.b1 b.a2 b.b2 b.a3 b.b3 b.a4 b.b4))) 27 11] [(90, 198), (94, 182)], plainR [nrw p n 3], PL = listP, PL (eWord.list (nrw p n 3) 0 (p.l 3)) (Bx.mk b.a0 b.b0 b.a1 b.b1 b.a2 b.b2 b.a3 b.b3 b.a4 b.b4) ≠ [], eWord.Row (nrw p n 3) 0 (p.l 3), ∀ (w : Int), w ∈ eWord.list (nrw p n 3) 0 (p.l 3) → U64 w, p.l 3 ≤ 65536, (Bx.mk b.a0 b.b0 b.a1 b.b1 b.a2 b.b2 b.a3 b.b3 b.a4 b.b4).I64s, readPart Try.prog 47 (p.tcs 74 n) 6 = some (Value.agg (Array.mk [.int .i64 (p.C 3), .slice (some (Addr.mk 77 0 none)) (p.l 3) Ev.mark])), (0 : Int) ≤ (3 : Int) ∧ (3 : Int) < (n : Int), decide ((↑3 : Int) < (↑n : Int)) = true])) (hK : ∀ zz, (g0L p n b ct Ls Q).inv 4 zz → ltO ((g0L p n b ct Ls Q).mu 4 zz) (some (n - 3)) → Sat E (mkLp (lp Try.f9 0) J) ((g0L p n b ct Ls Q).st 4 zz)) : Sat E (inLp (lp Try.f9 0) J) ((g0L p n b ct Ls Q).st 3 ()) :=
 by_toR (r := [(90, 198), (94, 182)]) (T := auto0 (t_co p n b PL none none MR.few mergeL mergeC)) (h := hints [(6, 0, {p := true}), (6, 1, {o := some (.agg ⟨[.int .i64 (p.C 3), .slice (some ⟨77, 0, none⟩) (p.l 3) mk]⟩)})]) (ws := [.b true]) (i0 := ()) hE hm (auto0_ok (t_co_ok p n b PL none none MR.few mergeL mergeC)) hL (by kernel_rfl) hob hK
end Go.Proofs.Ythbaccmhdffjdaa.Co
namespace Go.Proofs.Ythbaccmhdffjdaa.Co
open Go Go.RowKit Ev NodeE BoxF Lv Tr Within PickE Tn Fo Lp Cl Mt Mg Tc Co
theorem coB0 (p : FP) (b : Bx) (PL : List Int → Bx → List Pc) (n x y m C1 : Nat) (ct : Int) (Ls : Nat → List Pc) (Q : Nat → Prop) (J : _) {E rv rhs rhv} (hE : EnvOK E Try.prog Try.f9 3 64 rv rhs rhv) (hL : (g1L n Ls C1 ct Q).OK 64) (hob : all ([SameK (mkLp (lp Try.f9 1) J) (mkLp (lp Try.f9 1) J), Enter (g1L n Ls C1 ct Q) 1 (some (n - 0)) [.int .i64 ct, .slice (some (Addr.mk 90 0 none)) n C1, .slice (some (Addr.mk 214 0 none)) 1 Ev.mark, .int .i64 ((n : Int)), .int .i64 ((1 : Int))] [Blk.ro (lsG Ls (fun x => mk) (fun t => 91 + (n - 1 - t)) n), Blk.ro (rvL Ls n 0), Blk.ro (rvL Ls n 1), Blk.ro (rvL Ls n 2), Blk.ro (rvL Ls n 3), Blk.vec [.slice (some (Addr.mk 91 0 none)) m Ev.mark] 28 1] [(95, 214)], readPart Try.prog 28 (lsG Ls (fun x => mk) (fun t => 91 + (n - 1 - t)) n) (0 + ((x : Int)).toNat * 1) = some (Value.slice (some (Addr.mk 91 0 none)) m Ev.mark), (0 : Int) ≤ (x : Int) ∧ (x : Int) < (n : Int), Value.int IntKind.i64 (IntKind.i64.wrap ((y : Int))) = .int .i64 ((x : Int)), Value.int IntKind.i64 (IntKind.i64.wrap ((n : Int) - (1 : Int))) = .int .i64 ((y : Int)), decide ((↑0 : Int) < (↑n : Int)) = true])) (hK : ∀ zz, (g1L n Ls C1 ct Q).inv 1 zz → ltO ((g1L n Ls C1 ct Q).mu 1 zz) (some (n - 0)) → Sat E (mkLp (lp Try.f9 1) J) ((g1L n Ls C1 ct Q).st 1 zz)) : Sat E (inLp (lp Try.f9 1) J) ((g1L n Ls C1 ct Q).st 0 ()) :=
 by_toR (r := [(95, 214)]) (T := auto0 (t_co p n b PL none none MR.few mergeL mergeC)) (h := hints [(12, 4, {v := some (.int .i64 (y : Int))}), (12, 6, {v := some (.int .i64 (x : Int))}), (12, 7, {p := true}), (12, 8, {o := some (.slice (some ⟨91, 0, none⟩) m mk)})]) (ws := [.b true]) (i0 := ()) hE hm (auto0_ok (t_co_ok p n b PL none none MR.few mergeL mergeC)) hL (by kernel_rfl) hob hK
theorem coB1 (p : FP) (b : Bx) (PL : List Int → Bx → List Pc) (n x y m C1 : Nat) (ct : Int) (Ls : Nat → List Pc) (Q : Nat → Prop) (J : _) {E rv rhs rhv} (hE : EnvOK E Try.prog Try.f9 3 64 rv rhs rhv) (hL : (g1L n Ls C1 ct Q).OK 64) (hob : all ([SameK (mkLp (lp Try.f9 1) J) (mkLp (lp Try.f9 1) J), Enter (g1L n Ls C1 ct Q) 2 (some (n - 1)) [.int .i64 ct, .slice (some (Addr.mk 90 0 none)) n C1, .slice (some (Addr.mk 214 0 none)) 2 Ev.mark, .int .i64 ((n : Int)), .int .i64 ((2 : Int))] [Blk.ro (lsG Ls (fun x => mk) (fun t => 91 + (n - 1 - t)) n), Blk.ro (rvL Ls n 0), Blk.ro (rvL Ls n 1), Blk.ro (rvL Ls n 2), Blk.ro (rvL Ls n 3), Blk.vec [.slice (some (Addr.mk 91 0 none)) ((fun j => Ls (n - 1 - j)) 0).length Ev.mark, .slice (some (Addr.mk 92 0 none)) m Ev.mark] 28 1] [(95, 214)], readPart Try.prog 28 (lsG Ls (fun x => mk) (fun t => 91 + (n - 1 - t)) n) (0 + ((x : Int)).toNat * 1) = some (Value.slice (some (Addr.mk 92 0 none)) m Ev.mark), (0 : Int) ≤ (x : Int) ∧ (x : Int) < (n : Int), Value.int IntKind.i64 (IntKind.i64.wrap ((y : Int) - (1 : Int))) = .int .i64 ((x : Int)), Value.int IntKind.i64 (IntKind.i64.wrap ((n : Int) - (1 : Int))) = .int .i64 ((y : Int)), decide ((↑1 : Int) < (↑n : Int)) = true])) (hK : ∀ zz, (g1L n Ls C1 ct Q).inv 2 zz → ltO ((g1L n Ls C1 ct Q).mu 2 zz) (some (n - 1)) → Sat E (mkLp (lp Try.f9 1) J) ((g1L n Ls C1 ct Q).st 2 zz)) : Sat E (inLp (lp Try.f9 1) J) ((g1L n Ls C1 ct Q).st 1 ()) :=
 by_toR (r := [(95, 214)]) (T := auto0 (t_co p n b PL none none MR.few mergeL mergeC)) (h := hints [(12, 4, {v := some (.int .i64 (y : Int))}), (12, 6, {v := some (.int .i64 (x : Int))}), (12, 7, {p := true}), (12, 8, {o := some (.slice (some ⟨92, 0, none⟩) m mk)})]) (ws := [.b true]) (i0 := ()) hE hm (auto0_ok (t_co_ok p n b PL none none MR.few mergeL mergeC)) hL (by kernel_rfl) hob hK
theorem coB2 (p : FP) (b : Bx) (PL : List Int → Bx → List Pc) (n x y m C1 : Nat) (ct : Int) (Ls : Nat → List Pc) (Q : Nat → Prop) (J : _) {E rv rhs rhv} (hE : EnvOK E Try.prog Try.f9 3 64 rv rhs rhv) (hL : (g1L n Ls C1 ct Q).OK 64) (hob : all ([SameK (mkLp (lp Try.f9 1) J) (mkLp (lp Try.f9 1) J), Enter (g1L n Ls C1 ct Q) 3 (some (n - 2)) [.int .i64 ct, .slice (some (Addr.mk 90 0 none)) n C1, .slice (some (Addr.mk 214 0 none)) 3 Ev.mark, .int .i64 ((n : Int)), .int .i64 ((3 : Int))] [Blk.ro (lsG Ls (fun x => mk) (fun t => 91 + (n - 1 - t)) n), Blk.ro (rvL Ls n 0), Blk.ro (rvL Ls n 1), Blk.ro (rvL Ls n 2), Blk.ro (rvL Ls n 3), Blk.vec [.slice (some (Addr.mk 91 0 none)) ((fun j => Ls (n - 1 - j)) 0).length Ev.mark, .slice (some (Addr.mk 92 0 none)) ((fun j => Ls (n - 1 - j)) 1).length Ev.mark, .slice (some (Addr.mk 93 0 none)) m Ev.mark] 28 1] [(95, 214)], readPart Try.prog 28 (lsG Ls (fun x => mk) (fun t => 91 + (n - 1 - t)) n) (0 + ((x : Int)).toNat * 1) = some (Value.slice (some (Addr.mk 93 0 none)) m Ev.mark), (0 : Int) ≤ (x : Int) ∧ (x : Int) < (n : Int), Value.int IntKind.i64 (IntKind.i64.wrap ((y : Int) - (2 : Int))) = .int .i64 ((x : Int)), Value.int IntKind.i64 (IntKind.i64.wrap ((n : Int) - (1 : Int))) = .int .i64 ((y : Int)), decide ((↑2 : Int) < (↑n : Int)) = true])) (hK : ∀ zz, (g1L n Ls C1 ct Q).inv 3 zz → ltO ((g1L n Ls C1 ct Q).mu 3 zz) (some (n - 2)) → Sat E (mkLp (lp Try.f9 1) J) ((g1L n Ls C1 ct Q).st 3 zz)) : Sat E (inLp (lp Try.f9 1) J) ((g1L n Ls C1 ct Q).st 2 ()) :=
 by_toR (r := [(95, 214)]) (T := auto0 (t_co p n b PL none none MR.few mergeL mergeC)) (h := hints [(12, 4, {v := some (.int .i64 (y : Int))}), (12, 6, {v := some (.int .i64 (x : Int))}), (12, 7, {p := true}), (12, 8, {o := some (.slice (some ⟨93, 0, none⟩) m mk)})]) (ws := [.b true]) (i0 := ()) hE hm (auto0_ok (t_co_ok p n b PL none none MR.few mergeL mergeC)) hL (by kernel_rfl) hob hK
theorem coB3 (p : FP) (b : Bx) (PL : List Int → Bx → List Pc) (n x y m C1 : Nat) (ct : Int) (Ls : Nat → List Pc) (Q : Nat → Prop) (J : _) {E rv rhs rhv} (hE : EnvOK E Try.prog Try.f9 3 64 rv rhs rhv) (hL : (g1L n Ls C1 ct Q).OK 64) (hob : all ([SameK (mkLp (lp Try.f9 1) J) (mkLp (lp Try.f9 1) J), Enter (g1L n Ls C1 ct Q) 4 (some (n - 3)) [.int .i64 ct, .slice (some (Addr.mk 90 0 none)) n C1, .slice (some (Addr.mk 214 0 none)) 4 Ev.mark, .int .i64 ((n : Int)), .int .i64 ((4 : Int))] [Blk.ro (lsG Ls (fun x => mk) (fun t => 91 + (n - 1 - t)) n), Blk.ro (rvL Ls n 0), Blk.ro (rvL Ls n 1), Blk.ro (rvL Ls n 2), Blk.ro (rvL Ls n 3), Blk.vec [.slice (some (Addr.mk 91 0 none)) ((fun j => Ls (n - 1 - j)) 0).length Ev.mark, .slice (some (Addr.mk 92 0 none)) ((fun j => Ls (n - 1 - j)) 1).length Ev.mark, .slice (some (Addr.mk 93 0 none)) ((fun j => Ls (n - 1 - j)) 2).length Ev.mark, .slice (some (Addr.mk 94 0 none)) m Ev.mark] 28 1] [(95, 214)], readPart Try.prog 28 (lsG Ls (fun x => mk) (fun t => 91 + (n - 1 - t)) n) (0 + ((x : Int)).toNat * 1) = some (Value.slice (some (Addr.mk 94 0 none)) m Ev.mark), (0 : Int) ≤ (x : Int) ∧ (x : Int) < (n : Int), Value.int IntKind.i64 (IntKind.i64.wrap ((y : Int) - (3 : Int))) = .int .i64 ((x : Int)), Value.int IntKind.i64 (IntKind.i64.wrap ((n : Int) - (1 : Int))) = .int .i64 ((y : Int)), decide ((↑3 : Int) < (↑n : Int)) = true])) (hK : ∀ zz, (g1L n Ls C1 ct Q).inv 4 zz → ltO ((g1L n Ls C1 ct Q).mu 4 zz) (some (n - 3)) → Sat E (mkLp (lp Try.f9 1) J) ((g1L n Ls C1 ct Q).st 4 zz)) : Sat E (inLp (lp Try.f9 1) J) ((g1L n Ls C1 ct Q).st 3 ()) :=
 by_toR (r := [(95, 214)]) (T := auto0 (t_co p n b PL none none MR.few mergeL mergeC)) (h := hints [(12, 4, {v := some (.int .i64 (y : Int))}), (12, 6, {v := some (.int .i64 (x : Int))}), (12, 7, {p := true}), (12, 8, {o := some (.slice (some ⟨94, 0, none⟩) m mk)})]) (ws := [.b true]) (i0 := ()) hE hm (auto0_ok (t_co_ok p n b PL none none MR.few mergeL mergeC)) hL (by kernel_rfl) hob hK
theorem coBS (p : FP) (b : Bx) (PL : List Int → Bx → List Pc) (n k C1 : Nat) (ct : Int) (Ls : Nat → List Pc) (Q : Nat → Prop) (J : _) {E rv rhs rhv} (hE : EnvOK E Try.prog Try.f9 3 64 rv rhs rhv) (hL : (g2V (k + 1) Ls C1 ct).OK 64) (hob : all ([SameK (fromR Try.f9 14) (fromR Try.f9 14), Enter (g2V (k + 1) Ls C1 ct) 0 none [.int .i64 ct, .slice (some (Addr.mk 90 0 none)) (k + 1) C1, .slice (some (Addr.mk 95 0 none)) (Nat.add._f Nat.zero PUnit.unit k + 1) Ev.mark] [Blk.ro (lsG Ls (fun x => mk) (fun t => 91 + (k + 1 - 1 - t)) (k + 1)), Blk.ro (rvL Ls (k + 1) 0), Blk.ro (rvL Ls (k + 1) 1), Blk.ro (rvL Ls (k + 1) 2), Blk.ro (rvL Ls (k + 1) 3), Blk.vec (lsG (fun j => Ls (k + 1 - 1 - j)) (fun x => mk) (fun j => 91 + j) (Nat.add._f Nat.zero PUnit.unit k + 1)) 28 1] [], decide ((↑(k + 1) : Int) < (↑(k + 1) : Int)) = false])) (hK : ∀ zz, (g2V (k + 1) Ls C1 ct).inv 0 zz → ltO ((g2V (k + 1) Ls C1 ct).mu 0 zz) none → Sat E (fromR Try.f9 14) ((g2V (k + 1) Ls C1 ct).st 0 zz)) : Sat E (inLp (lp Try.f9 1) J) ((g1L (k + 1) Ls C1 ct Q).st (k + 1) ()) :=
 by_toR (r := []) (T := auto0 (t_co p n b PL none none MR.few mergeL mergeC)) (h := hints []) (ws := [.b false, .at 14]) (i0 := ()) hE hm (auto0_ok (t_co_ok p n b PL none none MR.few mergeL mergeC)) hL (by kernel_rfl) hob hK
theorem coN (p : FP) (b : Bx) (PL : List Int → Bx → List Pc) (n C1 C2 : Nat) (ct : Int) (Ls : Nat → List Pc)  {E : Env} (hE : EnvOK E Try.prog Try.f9 3 64 (.bool true) [] []) (hob : all ([Back (Value.bool true) (Value.bool true) [] [] [], Value.bool (decide ((↑n : Int) > 0)) = .bool true, AllG 95 91 none [.slice (some (Addr.mk 95 0 none)) n C2, .int .i64 ((5000 : Int))] [some (Blk.ro (lsG (fun j => Ls (n - 1 - j)) (fun x => mk) (fun j => 91 + j) n)), some (Blk.ro (rvL Ls n 0)), some (Blk.ro (rvL Ls n 1)), some (Blk.ro (rvL Ls n 2)), some (Blk.ro (rvL Ls n 3))], AllG 90 91 none [.slice (some (Addr.mk 90 0 none)) n C1, .int .i64 ((5000 : Int))] [some (Blk.ro (lsG Ls (fun x => mk) (fun t => 91 + (n - 1 - t)) n)), some (Blk.ro (rvL Ls n 0)), some (Blk.ro (rvL Ls n 1)), some (Blk.ro (rvL Ls n 2)), some (Blk.ro (rvL Ls n 3))]])) : Sat E (fromR Try.f9 14) ((g2L n Ls C1 C2 ct).st 0 ()) :=
 by_ret (T := auto0 (t_co p n b PL none none MR.few mergeL mergeC)) (h := hints [(17, 2, ht true)]) (ws := [.go]) (nx' := 64) hE hm (auto0_ok (t_co_ok p n b PL none none MR.few mergeL mergeC)) (by omega) (by simp) (by simp) (by kernel_rfl) hob
theorem coX (p : FP) (b : Bx) (PL : List Int → Bx → List Pc) (n C1 C2 kk : Nat) (ct : Int) (Ls : Nat → List Pc) (X Y : List Pc)  {E rv rhs rhv} (hE : EnvOK E Try.prog Try.f9 3 64 rv rhs rhv) (hL : (g3L n Ls C1 kk X Y).OK 64) (hob : all ([SameK (fromR Try.f9 19) (fromR Try.f9 19), Enter (g3L n Ls C1 kk X Y) 0 none [.slice (some (Addr.mk 90 0 none)) n C1, .slice (some (Addr.mk 118 0 none)) X.length Ev.mark, .slice (some (Addr.mk 174 0 none)) Y.length Ev.mark, .int .i64 ((kk : Int))] [Blk.ro (lsG Ls (fun x => mk) (fun t => 91 + (n - 1 - t)) n), Blk.ro (rvL Ls n 0), Blk.ro (rvL Ls n 1), Blk.ro (rvL Ls n 2), Blk.ro (rvL Ls n 3), Blk.vec (ePc.row X) 27 11, Blk.vec (ePc.row Y) 27 11] [(96, 118), (97, 174)], Value.int IntKind.i64 (withinS ct ((0 : Int)) ((n : Int))) = .int .i64 ((kk : Int)), I64 ct, (-2305843009213693952 : Int) ≤ (0 : Int), (0 : Int) ≤ (n : Int), (n : Int) ≤ (2305843009213693952 : Int), Value.bool ((n : Int) == (0 : Int)) = .bool false, AllG 95 91 (some Y) [.slice (some (Addr.mk 95 0 none)) n C2, .int .i64 ((5000 : Int))] [some (Blk.ro (lsG (fun j => Ls (n - 1 - j)) (fun x => mk) (fun j => 91 + j) n)), some (Blk.ro (rvL Ls n 0)), some (Blk.ro (rvL Ls n 1)), some (Blk.ro (rvL Ls n 2)), some (Blk.ro (rvL Ls n 3))], AllG 90 91 (some X) [.slice (some (Addr.mk 90 0 none)) n C1, .int .i64 ((5000 : Int))] [some (Blk.ro (lsG Ls (fun x => mk) (fun t => 91 + (n - 1 - t)) n)), some (Blk.ro (rvL Ls n 0)), some (Blk.ro (rvL Ls n 1)), some (Blk.ro (rvL Ls n 2)), some (Blk.ro (rvL Ls n 3))]])) (hK : ∀ zz, (g3L n Ls C1 kk X Y).inv 0 zz → ltO ((g3L n Ls C1 kk X Y).mu 0 zz) none → Sat E (fromR Try.f9 19) ((g3L n Ls C1 kk X Y).st 0 zz)) : Sat E (fromR Try.f9 14) ((g2L n Ls C1 C2 ct).st 0 ()) :=
 by_toR (r := [(96, 118), (97, 174)]) (T := auto0 (t_co p n b PL (some X) (some Y) MR.few mergeL mergeC)) (h := hints [(16, 9, ht false), (18, 3, {v := some (.int .i64 (kk : Int))})]) (ws := [.go, .at 19]) (i0 := ()) hE hm (auto0_ok (t_co_ok p n b PL (some X) (some Y) MR.few mergeL mergeC)) hL (by kernel_rfl) hob hK
theorem coU (p : FP) (b : Bx) (PL : List Int → Bx → List Pc) (n C1 kk : Nat) (Ls : Nat → List Pc) (X Y U : List Pc)  {E rv rhs rhv} (hE : EnvOK E Try.prog Try.f9 3 64 rv rhs rhv) (hL : (g4L n Ls C1 kk X Y U).OK 64) (hob : all ([SameK (fromR Try.f9 20) (fromR Try.f9 20), Enter (g4L n Ls C1 kk X Y U) 0 none [.slice (some (Addr.mk 90 0 none)) n C1, .slice (some (Addr.mk 96 0 none)) X.length Ev.mark, .slice (some (Addr.mk 97 0 none)) Y.length Ev.mark, .int .i64 ((kk : Int)), .slice (some (Addr.mk 134 0 none)) U.length Ev.mark] [Blk.ro (lsG Ls (fun x => mk) (fun t => 91 + (n - 1 - t)) n), Blk.ro (rvL Ls n 0), Blk.ro (rvL Ls n 1), Blk.ro (rvL Ls n 2), Blk.ro (rvL Ls n 3), Blk.vec (ePc.row X) 27 11, Blk.vec (ePc.row Y) 27 11, Blk.vec (ePc.row U) 27 11] [(98, 134)], AllG 90 91 (some U) [.slice (some (Addr.mk 90 0 none)) kk C1, .int .i64 ((5000 : Int))] [some (Blk.ro (lsG Ls (fun x => mk) (fun t => 91 + (n - 1 - t)) n)), some (Blk.ro (rvL Ls n 0)), some (Blk.ro (rvL Ls n 1)), some (Blk.ro (rvL Ls n 2)), some (Blk.ro (rvL Ls n 3))], SlOK 1 90 0 n C1 none (some ((kk : Int))) (some (Blk.ro (lsG Ls (fun x => mk) (fun t => 91 + (n - 1 - t)) n))) (Value.slice (some (Addr.mk 90 0 none)) kk C1)])) (hK : ∀ zz, (g4L n Ls C1 kk X Y U).inv 0 zz → ltO ((g4L n Ls C1 kk X Y U).mu 0 zz) none → Sat E (fromR Try.f9 20) ((g4L n Ls C1 kk X Y U).st 0 zz)) : Sat E (fromR Try.f9 19) ((g3L n Ls C1 kk X Y).st 0 ()) :=
 by_toR (r := [(98, 134)]) (T := auto0 (t_co p n b PL (some U) none MR.few mergeL mergeC)) (h := hints [(19, 2, {o := some (.slice (some ⟨90, 0, none⟩) kk C1)})]) (ws := [.at 20]) (i0 := ()) hE hm (auto0_ok (t_co_ok p n b PL (some U) none MR.few mergeL mergeC)) hL (by kernel_rfl) hob hK
theorem coV (p : FP) (b : Bx) (PL : List Int → Bx → List Pc) (ML : List Pc → List EB) (MC : List Pc → Nat) (n C1 kk o2 n2 c2 : Nat) (Ls : Nat → List Pc) (X Y U V W : List Pc) (Q : List Nat → Prop)  {E rv rhs rhv} (hE : EnvOK E Try.prog Try.f9 3 64 rv rhs rhv) (hL : (g5L n Ls C1 X U V (ML X) (ML Y) (ML W) (MC X) (MC Y) (MC W) Q).OK 64) (hob : all ([SameK (atLp (lp Try.f9 2)) (atLp (lp Try.f9 2)), Enter (g5L n Ls C1 X U V (ML X) (ML Y) (ML W) (MC X) (MC Y) (MC W) Q) 0 none [.slice (some (Addr.mk 90 0 none)) n C1, .slice (some (Addr.mk 96 0 none)) X.length Ev.mark, .slice (some (Addr.mk 98 0 none)) U.length Ev.mark, .slice (some (Addr.mk 134 0 none)) V.length Ev.mark, .map (some 254), .map (some 270), .map (some 286), .pointer (some (Addr.mk 478 0 none))] [Blk.ro (lsG Ls (fun x => mk) (fun t => 91 + (n - 1 - t)) n), Blk.ro (rvL Ls n 0), Blk.ro (rvL Ls n 1), Blk.ro (rvL Ls n 2), Blk.ro (rvL Ls n 3), Blk.vec (ePc.row X) 27 11, Blk.vec (ePc.row U) 27 11, Blk.vec (ePc.row V) 27 11, Blk.map [some IntKind.i64, some IntKind.i64, some IntKind.i64, some IntKind.i64, some IntKind.i64, some IntKind.i64, some IntKind.i64, some IntKind.i64, some IntKind.i64, some IntKind.i64] true (some IntKind.i64) (esB (ML (ePc.list (ePc.row X) 0 X.length))) (MC (ePc.list (ePc.row X) 0 X.length)), Blk.map [some IntKind.i64, some IntKind.i64, some IntKind.i64, some IntKind.i64, some IntKind.i64, some IntKind.i64, some IntKind.i64, some IntKind.i64, some IntKind.i64, some IntKind.i64] true (some IntKind.i64) (esB (ML (ePc.list (ePc.row Y) 0 Y.length))) (MC (ePc.list (ePc.row Y) 0 Y.length)), Blk.map [some IntKind.i64, some IntKind.i64, some IntKind.i64, some IntKind.i64, some IntKind.i64, some IntKind.i64, some IntKind.i64, some IntKind.i64, some IntKind.i64, some IntKind.i64] true (some IntKind.i64) (esB (ML (ePc.list (ePc.row W) (Addr.mk 100 0 none).off W.length))) (MC (ePc.list (ePc.row W) (Addr.mk 100 0 none).off W.length)), Blk.it 254 (MC (ePc.list (ePc.row X) 0 X.length)) [] (MC (ePc.list (ePc.row X) 0 X.length))] [(99, 134), (101, 254), (102, 270), (103, 286), (104, 478)], Value.bool (Int.ofNat (esB (ML (ePc.list (ePc.row X) 0 X.length))).length != Int.ofNat X.length) = .bool false, Value.bool (Int.ofNat X.length != Int.ofNat W.length) = .bool false, Value.bool (Int.ofNat X.length != Int.ofNat Y.length) = .bool false, plainR [ePc.row W], ML = Mg.mergeL, MC = mergeC, ePc.Row (ePc.row W) 0 W.length, W.length ≤ 65536, plainR [ePc.row Y], ML = Mg.mergeL, MC = mergeC, ePc.Row (ePc.row Y) 0 Y.length, Y.length ≤ 65536, plainR [ePc.row X], ML = Mg.mergeL, MC = mergeC, ePc.Row (ePc.row X) 0 X.length, X.length ≤ 65536, plainR [ePc.row U, ePc.row V], meetL (ePc.list (ePc.row U) 0 U.length) (ePc.list (ePc.row V) 0 V.length) ((5000 : Int)) = some W, (MR.row W).ok, ePc.Row (ePc.row U) 0 U.length, ePc.Row (ePc.row V) 0 V.length, U.length ≤ 100000, V.length ≤ 100000, (5000 : Int) ≤ (100000 : Int), AllG 90 91 (some V) [.slice (some (Addr.mk 90 o2 none)) n2 c2, .int .i64 ((5000 : Int))] [some (Blk.ro (lsG Ls (fun x => mk) (fun t => 91 + (n - 1 - t)) n)), some (Blk.ro (rvL Ls n 0)), some (Blk.ro (rvL Ls n 1)), some (Blk.ro (rvL Ls n 2)), some (Blk.ro (rvL Ls n 3))], SlOK 1 90 0 n C1 (some ((kk : Int))) none (some (Blk.ro (lsG Ls (fun x => mk) (fun t => 91 + (n - 1 - t)) n))) (Value.slice (some (Addr.mk 90 o2 none)) n2 c2)])) (hK : ∀ zz, (g5L n Ls C1 X U V (ML X) (ML Y) (ML W) (MC X) (MC Y) (MC W) Q).inv 0 zz → ltO ((g5L n Ls C1 X U V (ML X) (ML Y) (ML W) (MC X) (MC Y) (MC W) Q).mu 0 zz) none → Sat E (atLp (lp Try.f9 2)) ((g5L n Ls C1 X U V (ML X) (ML Y) (ML W) (MC X) (MC Y) (MC W) Q).st 0 zz)) : Sat E (fromR Try.f9 20) ((g4L n Ls C1 kk X Y U).st 0 ()) :=
 by_toR (r := [(99, 134), (101, 254), (102, 270), (103, 286), (104, 478)]) (T := auto0 (t_co p n b PL (some V) none (.row W) ML MC)) (h := hints [(20, 2, {o := some (.slice (some ⟨90, o2, none⟩) n2 c2)}), (23, 4, ht false), (23, 10, ht false), (23, 17, ht false)]) (ws := [.go, .stop]) (i0 := []) hE hm (auto0_ok (t_co_ok p n b PL (some V) none (.row W) ML MC)) hL (by kernel_rfl) hob hK
theorem coY (p : FP) (b : Bx) (PL : List Int → Bx → List Pc) (n C1 : Nat) (Ls : Nat → List Pc) (X U V : List Pc) (ma mc md : List EB) (ca cc cd : Nat) (Q : List Nat → Prop) (seen : List Nat) (bo : Bx) (v : Int) (s : Nat) (J : _) {E rv rhs rhv} (hE : EnvOK E Try.prog Try.f9 3 64 rv rhs rhv) (hL : (g5L n Ls C1 X U V ma mc md ca cc cd Q).OK 64) (hob : all ([SameK (mkLp (lp Try.f9 2) J) (mkLp (lp Try.f9 2) J), Enter (g5L n Ls C1 X U V ma mc md ca cc cd Q) 0 (some (ma.length - seen.length)) [.slice (some (Addr.mk 90 0 none)) n C1, .slice (some (Addr.mk 96 0 none)) X.length Ev.mark, .slice (some (Addr.mk 98 0 none)) U.length Ev.mark, .slice (some (Addr.mk 99 0 none)) V.length Ev.mark, .map (some 101), .map (some 102), .map (some 103), .pointer (some (Addr.mk 104 0 none))] [Blk.ro (lsG Ls (fun x => mk) (fun t => 91 + (n - 1 - t)) n), Blk.ro (rvL Ls n 0), Blk.ro (rvL Ls n 1), Blk.ro (rvL Ls n 2), Blk.ro (rvL Ls n 3), Blk.vec (ePc.row X) 27 11, Blk.vec (ePc.row U) 27 11, Blk.vec (ePc.row V) 27 11, Blk.map [some IntKind.i64, some IntKind.i64, some IntKind.i64, some IntKind.i64, some IntKind.i64, some IntKind.i64, some IntKind.i64, some IntKind.i64, some IntKind.i64, some IntKind.i64] true (some IntKind.i64) (esB ma) ca, Blk.map [some IntKind.i64, some IntKind.i64, some IntKind.i64, some IntKind.i64, some IntKind.i64, some IntKind.i64, some IntKind.i64, some IntKind.i64, some IntKind.i64, some IntKind.i64] true (some IntKind.i64) (esB mc) cc, Blk.map [some IntKind.i64, some IntKind.i64, some IntKind.i64, some IntKind.i64, some IntKind.i64, some IntKind.i64, some IntKind.i64, some IntKind.i64, some IntKind.i64, some IntKind.i64] true (some IntKind.i64) (esB md) cd, Blk.it 101 ca (seen ++ [(EB.mk bo v s).ent.snd.snd]) ca] [], Value.bool (v != v) = .bool false, Value.int IntKind.i64 (mgetI (Value.agg (Array.mk [.int .i64 bo.a0, .int .i64 bo.b0, .int .i64 bo.a1, .int .i64 bo.b1, .int .i64 bo.a2, .int .i64 bo.b2, .int .i64 bo.a3, .int .i64 bo.b3, .int .i64 bo.a4, .int .i64 bo.b4])) (esB md)) = .int .i64 v, Value.bool (v != v) = .bool false, Value.int IntKind.i64 (mgetI (Value.agg (Array.mk [.int .i64 bo.a0, .int .i64 bo.b0, .int .i64 bo.a1, .int .i64 bo.b1, .int .i64 bo.a2, .int .i64 bo.b2, .int .i64 bo.a3, .int .i64 bo.b3, .int .i64 bo.a4, .int .i64 bo.b4])) (esB mc)) = .int .i64 v, EntryOK (esB ma) (seen ++ [(EB.mk bo v s).ent.snd.snd]) ca ca (Value.tuple (Array.mk [.agg (Array.mk [.int .i64 bo.a0, .int .i64 bo.b0, .int .i64 bo.a1, .int .i64 bo.b1, .int .i64 bo.a2, .int .i64 bo.b2, .int .i64 bo.a3, .int .i64 bo.b3, .int .i64 bo.a4, .int .i64 bo.b4]), .int .i64 v])), true = true])) (hK : ∀ zz, (g5L n Ls C1 X U V ma mc md ca cc cd Q).inv 0 zz → ltO ((g5L n Ls C1 X U V ma mc md ca cc cd Q).mu 0 zz) (some (ma.length - seen.length)) → Sat E (mkLp (lp Try.f9 2) J) ((g5L n Ls C1 X U V ma mc md ca cc cd Q).st 0 zz)) : Sat E (afterN (inLp (lp Try.f9 2) J)) (stYes ((g5L n Ls C1 X U V ma mc md ca cc cd Q).st 0 seen) 164 165 104 101 ca seen ca (EB.ent ⟨bo, v, s⟩)) :=
 by_toR (r := []) (T := auto0 (t_co p n b PL none none MR.few mergeL mergeC)) (h := hints [(27, 0, {o := some (.tuple ⟨[kB bo, .int .i64 v]⟩)}), (28, 2, {v := some (.int .i64 v)}), (28, 4, ht false), (28, 8, {v := some (.int .i64 v)}), (28, 10, ht false)]) (ws := [.b true, .go]) (i0 := (seen ++ [s])) hE hm (auto0_ok (t_co_ok p n b PL none none MR.few mergeL mergeC)) hL (by kernel_rfl) hob hK
theorem coZ (p : FP) (b : Bx) (PL : List Int → Bx → List Pc) (n C1 : Nat) (Ls : Nat → List Pc) (X U V : List Pc) (ma mc md : List EB) (ca cc cd : Nat) (Q : List Nat → Prop) (seen : List Nat) (m1 : Int) (J : _) {E : Env} (hE : EnvOK E Try.prog Try.f9 3 64 (.bool true) [] []) (hob : all ([Back (Value.bool true) (Value.bool true) [] [] [], Value.bool (Int.ofNat (esB md).length == Int.ofNat (esB ma).length) = .bool true, Value.bool (Int.ofNat (esB mc).length == Int.ofNat (esB ma).length) = .bool true, plainR [ePc.row U, ePc.row V], meetL (ePc.list (ePc.row U) 0 U.length) (ePc.list (ePc.row V) 0 V.length) m1 = none, MR.few.ok, ePc.Row (ePc.row U) 0 U.length, ePc.Row (ePc.row V) 0 V.length, U.length ≤ 100000, V.length ≤ 100000, m1 ≤ (100000 : Int), Value.int IntKind.i64 (IntKind.i64.wrap (Int.ofNat X.length - (1 : Int))) = .int .i64 m1, AllG 90 91 (some X) [.slice (some (Addr.mk 90 0 none)) n C1, .int .i64 (Int.ofNat X.length)] [some (Blk.ro (lsG Ls (fun x => mk) (fun t => 91 + (n - 1 - t)) n)), some (Blk.ro (rvL Ls n 0)), some (Blk.ro (rvL Ls n 1)), some (Blk.ro (rvL Ls n 2)), some (Blk.ro (rvL Ls n 3))], false = false])) : Sat E (afterN (inLp (lp Try.f9 2) J)) (stNo ((g5L n Ls C1 X U V ma mc md ca cc cd Q).st 0 seen) 164 165) :=
 by_ret (T := auto0 (t_co p n b PL (some X) none MR.few mergeL mergeC)) (h := hints [(31, 4, {v := some (.int .i64 m1)}), (32, 10, ht true), (32, 17, ht true)]) (ws := [.b false]) (nx' := 64) hE hm (auto0_ok (t_co_ok p n b PL (some X) none MR.few mergeL mergeC)) (by omega) (by simp) (by simp) (by kernel_rfl) hob
end Go.Proofs.Ythbaccmhdffjdaa.Co
namespace Go.Proofs.Ythbaccmhdffjdaa.Tc
end Go.Proofs.Ythbaccmhdffjdaa.Tc
namespace Go.Proofs.Ythbaccmhdffjdaa.Tc
end Go.Proofs.Ythbaccmhdffjdaa.Tc
namespace Go.Proofs.Ythbaccmhdffjdaa.Tc
end Go.Proofs.Ythbaccmhdffjdaa.Tc
namespace Go.Proofs.Ythbaccmhdffjdaa.Tc
open Go Go.RowKit Ev NodeE BoxF Lv Tr Within PickE Tn Fo Lp Cl Mt Tc
theorem tns_lt {K : Nat} (hK : K ≤ 4) : ∀ k ∈ tns 73 K, k < 96 := by
 intro k hk
 cases K with
 | zero => simp [tns] at hk
 | succ K =>
  rcases List.mem_cons.1 hk with rfl | hk
  ·omega
  ·have := upN_lt 74 _ k hk; omega
theorem lns_lt {K : Nat} (hK : K ≤ 4) : ∀ k ∈ lns K, k < 96 := by
 intro k hk
 cases K with
 | zero => simp [lns] at hk
 | succ K =>
  rcases List.mem_cons.1 hk with rfl | hk
  ·omega
  ·have := upN_lt 91 _ k hk; omega
theorem lsC_lt (Ls : Nat → List Pc) (dd : Nat → Nat) (q : Nat) : ∀ K, ∀ c ∈ lsC Ls dd q K, ∀ k ∈ nm0 c, k ≤ q + K
 | 0, c, h, k, hk => by simp [lsC] at h
 | K + 1, c, h, k, hk => by
  simp only [lsC, List.mem_append, List.mem_cons, List.not_mem_nil, or_false] at h
  rcases h with h | rfl
  ·have := lsC_lt Ls dd q K c h k hk; omega
  ·simp [nm0] at hk; omega
theorem pcsB_plain (Ls : Nat → List Pc) : ∀ K, ∀ x ∈ pcsB Ls K, x.plain
 | 0, x, h => by simp [pcsB] at h
 | K + 1, x, h => by
  simp only [pcsB, List.mem_append, List.mem_cons, List.not_mem_nil, or_false] at h
  rcases h with h | rfl
  ·exact pcsB_plain Ls K x h
  ·exact Elt.row_pl _
theorem lbs_lt {K : Nat} (hK : K ≤ 4) (Ls : Nat → List Pc) : (∀ x ∈ lbs Ls K, x.namesLt 96) ∧ ∀ x ∈ lbsR Ls K, x.namesLt 96 := by
 cases K with
 | zero => exact ⟨fun x h => by simp [lbs] at h, fun x h => by simp [lbsR] at h⟩
 | succ K =>
  refine ⟨fun x hx => ?_, fun x hx => ?_⟩
  ·rcases List.mem_cons.1 hx with rfl | hx
   ·exact fun c hc k hk => by have := lsC_lt _ _ _ _ c hc k hk; omega
   ·exact (pcsB_plain _ _ x hx).namesLt _
  ·rcases List.mem_cons.1 hx with rfl | hx
   ·exact fun c hc k hk => by have := lsC_lt _ _ _ _ c hc k hk; omega
   ·exact (pcsB_plain _ _ x hx).namesLt _
theorem lsl_lt (K C : Nat) : (∀ k ∈ nms (lsl K), k < 96) ∧ ∀ k ∈ nms (lsC1 C K), k < 96 := by
 cases K with
 | zero => exact ⟨fun k hk => by simp [lsl, nms, nm1, nm0] at hk, fun k hk => by simp [lsC1, nms, nm1, nm0] at hk⟩
 | succ K => exact ⟨fun k hk => by simp [lsl, nms, nm1, nm0] at hk; omega, fun k hk => by simp [lsC1, nms, nm1, nm0] at hk; omega⟩
theorem tsl_lt (K : Nat) : ∀ k ∈ nms (tsl 73 K), k < 96 := by
 cases K with
 | zero => exact fun k hk => by simp [tsl, nms, nm1, nm0] at hk
 | succ K => exact fun k hk => by simp [tsl, nms, nm1, nm0] at hk; omega
end Go.Proofs.Ythbaccmhdffjdaa.Tc
namespace Go.Proofs.Ythbaccmhdffjdaa.Tc
open Go Go.RowKit Ev NodeE BoxF Lv Tr Within PickE Tn Fo Lp Cl Mt Tc
theorem rnwT (f : Nat → Nat) (l : List Int) : Blk.rnB f (.vec (eWord.row l) 83 1) = .vec (eWord.row l) 83 1 := Blk.plain.rnB (b := .vec (eWord.row l) 83 1) (Elt.row_pl _) f
theorem rnsT (f : Nat → Nat) (l : List Pc) : Blk.rnB f (.vec (ePc.row l) 27 11) = .vec (ePc.row l) 27 11 := Blk.plain.rnB (b := .vec (ePc.row l) 27 11) (Elt.row_pl _) f
end Go.Proofs.Ythbaccmhdffjdaa.Tc
namespace Go.Proofs.Ythbaccmhdffjdaa.Tc
open Go Go.RowKit Ev NodeE BoxF Lv Tr Within PickE Tn Fo Lp Cl Mt Tc
def lsF (PL : List Int → Bx → List Pc) (p : FP) (b : Bx) (z : Nat) : List Pc := PL (eWord.list (eWord.row (p.W z)) 0 (p.l z)) b
theorem wd (D : FD) (i : Nat) : rightI (D.fp.W i) 4 = true ∧ (∀ w ∈ D.fp.W i, U64 w) ∧ D.fp.l i = (D.fp.W i).length ∧ D.fp.l i ≤ 15 := by
 have hd := within_range D.d (show (1 : Int) ≤ 3 by decide)
 obtain ⟨a, b, c⟩ := nodes4 (D.rw (2 + 4 * i)).l (D.rw (3 + 4 * i)).l (D.rw (4 + 4 * i)).l (D.rw (5 + 4 * i)).l hd.1 hd.2
 exact ⟨a, b, by show (D.nd i).length = ((D.nd i).map packN).length; simp, c⟩
theorem lsF_is {D : FD} {PL : List Int → Bx → List Pc} (hP : PL = listP) (b : Bx) (z : Nat) : lsF PL D.fp b z = listP (D.fp.W z) b := by
 unfold lsF
 rw [(wd D z).2.2.1, (Elt.canon0 (e := eWord) _).2, hP]
end Go.Proofs.Ythbaccmhdffjdaa.Tc
namespace Go.Proofs.Ythbaccmhdffjdaa.Mg
open Go Go.RowKit Ev
theorem mgGo_snoc (l : List Pc) (x : Pc) : mgGo (l ++ [x]) = mgS (mgGo l) x := by unfold mgGo; rw [List.foldl_append]; rfl
theorem nodup_len : ∀ {xs ys : List Nat}, xs.Nodup → (∀ x ∈ xs, x ∈ ys) → xs.length ≤ ys.length
 | [], _, _, _ => Nat.zero_le _
 | x :: xs, ys, hn, hs => by
  obtain ⟨h1, h2⟩ := List.nodup_cons.1 hn
  have hx := hs x (List.mem_cons_self ..)
  have := nodup_len (xs := xs) (ys := ys.erase x) h2 fun y hy => by
   have hne : y ≠ x := fun e => h1 (e ▸ hy)
   exact (List.mem_erase_of_ne hne).2 (hs y (List.mem_cons_of_mem _ hy))
  rw [List.length_erase_of_mem hx] at this
  have hpos : 1 ≤ ys.length := by cases ys with | nil => simp at hx | cons _ _ => simp
  simp only [List.length_cons]
  omega
theorem find_stamp {l : List EB} (hp : l.Pairwise fun a b => a.s < b.s) {e : EB} (he : e ∈ l) : (esB l).find? (fun x => x.2.2 == e.s) = some e.ent := by
 induction l with
 | nil => simp at he
 | cons x l ih =>
  obtain ⟨p1, p2⟩ := List.pairwise_cons.1 hp
  show List.find? _ (x.ent :: esB l) = _
  rw [List.find?_cons]
  rcases List.mem_cons.1 he with rfl | he
  ·simp [EB.ent]
  ·have : (x.ent.2.2 == e.s) = false := by
    rw [beq_eq_false_iff_ne]
    have := p1 e he
    show x.s ≠ e.s
    omega
   rw [this]
   exact ih p2 he
end Go.Proofs.Ythbaccmhdffjdaa.Mg
namespace Go.Proofs.Ythbaccmhdffjdaa.Co
open Go Go.RowKit Ev NodeE BoxF Lv Tr Within PickE Tn Fo Lp Cl Mt Mg Tc Co
theorem lsG_lt {Ls : Nat → List Pc} {dd f : Nat → Nat} {T m : Nat} (h : ∀ t, t < T → f t < m) : ∀ c ∈ lsG Ls dd f T, ∀ k ∈ nm0 c, k < m := by
 intro c hc k hk
 obtain ⟨t, ht, rfl⟩ := List.mem_map.1 hc
 simp [nm0] at hk
 subst hk
 exact h t (List.mem_range.1 ht)
theorem rvL_pl (Ls : Nat → List Pc) (n j : Nat) : ∀ c ∈ rvL Ls n j, leafG c = true := by
 unfold rvL
 split
 ·exact Elt.row_pl _
 ·intro c hc; simp at hc
theorem nrw_pl (p : FP) (n j : Nat) : ∀ c ∈ nrw p n j, leafG c = true := by
 unfold nrw
 split
 ·exact Elt.row_pl _
 ·intro c hc; simp at hc
theorem tcs_lt (p : FP) : ∀ n, ∀ c ∈ p.tcs 74 n, ∀ k ∈ nm0 c, k < 74 + n
 | 0, c, hc, k, hk => by simp [FP.tcs] at hc
 | n + 1, c, hc, k, hk => by
  simp only [FP.tcs, List.mem_append, List.mem_cons, List.not_mem_nil, or_false] at hc
  rcases hc with hc | rfl | rfl
  ·have := tcs_lt p n c hc k hk; omega
  ·simp [nm0] at hk
  ·simp [nm0] at hk; omega
theorem tcs10 (p : FP) : readPart Try.prog 47 (p.tcs 74 1) 0 = some (.agg ⟨[.int .i64 (p.C 0), .slice (some ⟨74, 0, none⟩) (p.l 0) mk]⟩) := by kernel_rfl
theorem tcs20 (p : FP) : readPart Try.prog 47 (p.tcs 74 2) 0 = some (.agg ⟨[.int .i64 (p.C 0), .slice (some ⟨74, 0, none⟩) (p.l 0) mk]⟩) := by kernel_rfl
theorem tcs21 (p : FP) : readPart Try.prog 47 (p.tcs 74 2) 2 = some (.agg ⟨[.int .i64 (p.C 1), .slice (some ⟨75, 0, none⟩) (p.l 1) mk]⟩) := by kernel_rfl
theorem tcs30 (p : FP) : readPart Try.prog 47 (p.tcs 74 3) 0 = some (.agg ⟨[.int .i64 (p.C 0), .slice (some ⟨74, 0, none⟩) (p.l 0) mk]⟩) := by kernel_rfl
theorem tcs31 (p : FP) : readPart Try.prog 47 (p.tcs 74 3) 2 = some (.agg ⟨[.int .i64 (p.C 1), .slice (some ⟨75, 0, none⟩) (p.l 1) mk]⟩) := by kernel_rfl
theorem tcs32 (p : FP) : readPart Try.prog 47 (p.tcs 74 3) 4 = some (.agg ⟨[.int .i64 (p.C 2), .slice (some ⟨76, 0, none⟩) (p.l 2) mk]⟩) := by kernel_rfl
theorem tcs40 (p : FP) : readPart Try.prog 47 (p.tcs 74 4) 0 = some (.agg ⟨[.int .i64 (p.C 0), .slice (some ⟨74, 0, none⟩) (p.l 0) mk]⟩) := by kernel_rfl
theorem tcs41 (p : FP) : readPart Try.prog 47 (p.tcs 74 4) 2 = some (.agg ⟨[.int .i64 (p.C 1), .slice (some ⟨75, 0, none⟩) (p.l 1) mk]⟩) := by kernel_rfl
theorem tcs42 (p : FP) : readPart Try.prog 47 (p.tcs 74 4) 4 = some (.agg ⟨[.int .i64 (p.C 2), .slice (some ⟨76, 0, none⟩) (p.l 2) mk]⟩) := by kernel_rfl
theorem tcs43 (p : FP) : readPart Try.prog 47 (p.tcs 74 4) 6 = some (.agg ⟨[.int .i64 (p.C 3), .slice (some ⟨77, 0, none⟩) (p.l 3) mk]⟩) := by kernel_rfl
theorem names_mono {b : Blk} {m n : Nat} (h : b.namesLt m) (hmn : m ≤ n) : b.namesLt n := by
 cases b with
 | map => trivial
 | it => exact Nat.lt_of_lt_of_le h hmn
 | cells cs ty => exact fun c hc k hk => Nat.lt_of_lt_of_le (h c hc k hk) hmn
 | vec cs ty s => exact fun c hc k hk => Nat.lt_of_lt_of_le (h c hc k hk) hmn
 | ro cs => exact fun c hc k hk => Nat.lt_of_lt_of_le (h c hc k hk) hmn
theorem f0L_ok {K : Nat} (hK : K ≤ 4) (p : FP) (b : Bx) (ct : Int) : (f0L p K b ct).OK 64 := by
 refine ⟨(by decide : 64 ≤ 110), fun z i h k hk => ?_, fun z i h v hv k hk => ?_, fun z i h y hy => ?_⟩
 ·show k < 110
  rcases List.mem_cons.1 hk with rfl | hk
  ·omega
  ·have := tns_lt hK k hk; omega
 ·show k < 110
  have ht := tsl_lt K
  simp only [f0L, ptr, List.mem_cons, List.not_mem_nil, or_false] at hv
  rcases hv with rfl | rfl | rfl | rfl | rfl | rfl | rfl <;> first | (have := ht k hk; omega) | (simp [nms, nm1, nm0] at hk; done) | (simp [nms, nm1, nm0] at hk; omega)
 ·rcases List.mem_cons.1 hy with rfl | hy
  ·exact Blk.plain.namesLt (b := .cells _ _) (bcs_pl b) _
  ·exact tbs_lt p 73 K (nx := 110) (by omega) y hy
theorem lns_lt' {z : Nat} (hz : z ≤ 4) : ∀ k ∈ lns z, k < 110 := fun k hk => by have := lns_lt hz k hk; omega
theorem g0L_ok {n : Nat} (hn : n ≤ 4) (p : FP) (b : Bx) (ct : Int) (Ls : Nat → List Pc) (Q : Nat → Prop) (hQ : ∀ z, Q z → z ≤ 4) : (g0L p n b ct Ls Q).OK 64 := by
 refine ⟨(by decide : 64 ≤ 110), fun z i h k hk => ?_, fun z i h v hv k hk => ?_, fun z i h y hy => ?_⟩
 ·show k < 110
  have hk : k ∈ [80, 73, 74, 75, 76, 77] ++ lns z := hk
  rcases List.mem_append.1 hk with hk | hk
  ·simp at hk; omega
  ·exact lns_lt' (hQ z h) k hk
 ·show k < 110
  have hl := (lsl_lt z 0).1
  simp only [g0L, ptr, List.mem_cons, List.not_mem_nil, or_false] at hv
  rcases hv with rfl | rfl | rfl | rfl | rfl | rfl | rfl <;> first | (have := hl k hk; omega) | (simp [nms, nm1, nm0] at hk; done) | (simp [nms, nm1, nm0] at hk; omega)
 ·have hy : y ∈ [.cells b.cs 25, .ro (p.tcs 74 n), .ro (nrw p n 0), .ro (nrw p n 1), .ro (nrw p n 2), .ro (nrw p n 3)] ++ lbs Ls z := hy
  rcases List.mem_append.1 hy with hy | hy
  ·simp only [List.mem_cons, List.not_mem_nil, or_false] at hy
   rcases hy with rfl | rfl | rfl | rfl | rfl | rfl
   ·exact Blk.plain.namesLt (b := .cells _ _) (bcs_pl b) _
   ·intro c hc k hk; have := tcs_lt p n c hc k hk; show k < 110; omega
   all_goals exact Blk.plain.namesLt (b := .ro _) (nrw_pl _ _ _) _
  ·exact names_mono ((lbs_lt (hQ z h) Ls).1 y hy) (show 96 ≤ 110 by decide)
theorem h1L_ok {K : Nat} (hK : K ≤ 4) (Ls : Nat → List Pc) (ct : Int) : (h1L K Ls ct).OK 64 := by
 refine ⟨(by decide : 64 ≤ 110), fun z i h k hk => ?_, fun z i h v hv k hk => ?_, fun z i h y hy => ?_⟩
 ·show k < 110
  rcases List.mem_cons.1 hk with rfl | hk
  ·omega
  ·have := upN_lt 91 _ k hk; omega
 ·show k < 110
  simp only [h1L, List.mem_cons, List.not_mem_nil, or_false] at hv
  rcases hv with rfl | rfl | rfl | rfl | rfl <;> first | (simp [nms, nm1, nm0] at hk; done) | (simp [nms, nm1, nm0] at hk; omega)
 ·rcases List.mem_cons.1 hy with rfl | hy
  ·intro c hc k hk
   exact lsG_lt (m := 110) (fun t ht => by omega) c hc k hk
  ·obtain ⟨j, _, rfl⟩ := List.mem_map.1 hy
   exact Blk.plain.namesLt (b := .vec _ _ _) (Elt.row_pl _) _
theorem base_lt {n : Nat} (hn : n ≤ 4) (Ls : Nat → List Pc) : ∀ y ∈ ([.ro (lsG Ls (fun _ => mk) (fun t => 91 + (n - 1 - t)) n), .ro (rvL Ls n 0), .ro (rvL Ls n 1), .ro (rvL Ls n 2), .ro (rvL Ls n 3)] : List Blk), y.namesLt 110 := by
 intro y hy
 simp only [List.mem_cons, List.not_mem_nil, or_false] at hy
 rcases hy with rfl | rfl | rfl | rfl | rfl
 ·intro c hc k hk; exact lsG_lt (m := 110) (fun t ht => by omega) c hc k hk
 all_goals exact Blk.plain.namesLt (b := .ro _) (rvL_pl _ _ _) _
theorem g1L_ok {n : Nat} (hn : n ≤ 4) (Ls : Nat → List Pc) (C1 : Nat) (ct : Int) (Q : Nat → Prop) (hQ : ∀ z, Q z → z ≤ 4) : (g1L n Ls C1 ct Q).OK 64 := by
 refine ⟨(by decide : 64 ≤ 110), fun z i h k hk => ?_, fun z i h v hv k hk => ?_, fun z i h y hy => ?_⟩
 ·show k < 110
  have hk : k ∈ [90, 91, 92, 93, 94] ++ bkn z := hk
  rcases List.mem_append.1 hk with hk | hk
  ·simp at hk; omega
  ·cases z <;> simp [bkn] at hk; omega
 ·show k < 110
  simp only [g1L, List.mem_cons, List.not_mem_nil, or_false] at hv
  rcases hv with rfl | rfl | rfl | rfl | rfl <;> first | (simp [nms, nm1, nm0] at hk; done) | (simp [nms, nm1, nm0] at hk; omega) | (cases z <;> simp [bk, nms, nm1, nm0] at hk; omega)
 ·have hy : y ∈ [.ro (lsG Ls (fun _ => mk) (fun t => 91 + (n - 1 - t)) n), .ro (rvL Ls n 0), .ro (rvL Ls n 1), .ro (rvL Ls n 2), .ro (rvL Ls n 3)] ++ bkb Ls n z := hy
  rcases List.mem_append.1 hy with hy | hy
  ·exact base_lt hn Ls y hy
  ·have hz := hQ z h
   cases z with
   | zero => simp [bkb] at hy
   | succ z =>
    simp only [bkb, List.mem_cons, List.not_mem_nil, or_false] at hy
    subst hy
    intro c hc k hk
    exact lsG_lt (m := 110) (fun t ht => by omega) c hc k hk
theorem g2V_ok {n : Nat} (hn : n ≤ 4) (Ls : Nat → List Pc) (C1 : Nat) (ct : Int) : (g2V n Ls C1 ct).OK 64 := by
 refine ⟨(by decide : 64 ≤ 110), fun z i h k hk => ?_, fun z i h v hv k hk => ?_, fun z i h y hy => ?_⟩
 ·show k < 110
  simp [g2V] at hk; omega
 ·show k < 110
  simp only [g2V, List.mem_cons, List.not_mem_nil, or_false] at hv
  rcases hv with rfl | rfl | rfl <;> first | (simp [nms, nm1, nm0] at hk; done) | (simp [nms, nm1, nm0] at hk; omega)
 ·have hy : y ∈ [.ro (lsG Ls (fun _ => mk) (fun t => 91 + (n - 1 - t)) n), .ro (rvL Ls n 0), .ro (rvL Ls n 1), .ro (rvL Ls n 2), .ro (rvL Ls n 3)] ++ [.vec (lsG (fun j => Ls (n - 1 - j)) (fun _ => mk) (fun j => 91 + j) n) 28 1] := hy
  rcases List.mem_append.1 hy with hy | hy
  ·exact base_lt hn Ls y hy
  ·obtain rfl := List.mem_singleton.1 hy
   intro c hc k hk
   exact lsG_lt (m := 110) (fun t ht => by omega) c hc k hk
theorem g3L_ok {n : Nat} (hn : n ≤ 4) (Ls : Nat → List Pc) (C1 kk : Nat) (X Y : List Pc) : (g3L n Ls C1 kk X Y).OK 64 := by
 refine ⟨(by decide : 64 ≤ 110), fun z i h k hk => ?_, fun z i h v hv k hk => ?_, fun z i h y hy => ?_⟩
 ·show k < 110
  simp [g3L] at hk; omega
 ·show k < 110
  simp only [g3L, List.mem_cons, List.not_mem_nil, or_false] at hv
  rcases hv with rfl | rfl | rfl | rfl <;> first | (simp [nms, nm1, nm0] at hk; done) | (simp [nms, nm1, nm0] at hk; omega)
 ·have hy : y ∈ [.ro (lsG Ls (fun _ => mk) (fun t => 91 + (n - 1 - t)) n), .ro (rvL Ls n 0), .ro (rvL Ls n 1), .ro (rvL Ls n 2), .ro (rvL Ls n 3)] ++ [.vec (ePc.row X) 27 11, .vec (ePc.row Y) 27 11] := hy
  rcases List.mem_append.1 hy with hy | hy
  ·exact base_lt hn Ls y hy
  ·simp only [List.mem_cons, List.not_mem_nil, or_false] at hy
   rcases hy with rfl | rfl
   ·exact Blk.plain.namesLt (b := .vec _ _ _) (Elt.row_pl _) _
   ·exact Blk.plain.namesLt (b := .vec _ _ _) (Elt.row_pl _) _
theorem g4L_ok {n : Nat} (hn : n ≤ 4) (Ls : Nat → List Pc) (C1 kk : Nat) (X Y U : List Pc) : (g4L n Ls C1 kk X Y U).OK 64 := by
 refine ⟨(by decide : 64 ≤ 110), fun z i h k hk => ?_, fun z i h v hv k hk => ?_, fun z i h y hy => ?_⟩
 ·show k < 110
  simp [g4L] at hk; omega
 ·show k < 110
  simp only [g4L, List.mem_cons, List.not_mem_nil, or_false] at hv
  rcases hv with rfl | rfl | rfl | rfl | rfl <;> first | (simp [nms, nm1, nm0] at hk; done) | (simp [nms, nm1, nm0] at hk; omega)
 ·have hy : y ∈ [.ro (lsG Ls (fun _ => mk) (fun t => 91 + (n - 1 - t)) n), .ro (rvL Ls n 0), .ro (rvL Ls n 1), .ro (rvL Ls n 2), .ro (rvL Ls n 3)] ++ [.vec (ePc.row X) 27 11, .vec (ePc.row Y) 27 11, .vec (ePc.row U) 27 11] := hy
  rcases List.mem_append.1 hy with hy | hy
  ·exact base_lt hn Ls y hy
  ·simp only [List.mem_cons, List.not_mem_nil, or_false] at hy
   rcases hy with rfl | rfl | rfl
   ·exact Blk.plain.namesLt (b := .vec _ _ _) (Elt.row_pl _) _
   ·exact Blk.plain.namesLt (b := .vec _ _ _) (Elt.row_pl _) _
   ·exact Blk.plain.namesLt (b := .vec _ _ _) (Elt.row_pl _) _
theorem g5L_ok {n : Nat} (hn : n ≤ 4) (Ls : Nat → List Pc) (C1 : Nat) (X U V : List Pc) (ma mc md : List EB) (ca cc cd : Nat) (Q : List Nat → Prop) : (g5L n Ls C1 X U V ma mc md ca cc cd Q).OK 64 := by
 refine ⟨(by decide : 64 ≤ 110), fun z i h k hk => ?_, fun z i h v hv k hk => ?_, fun z i h y hy => ?_⟩
 ·show k < 110
  simp [g5L] at hk; omega
 ·show k < 110
  simp only [g5L, List.mem_cons, List.not_mem_nil, or_false] at hv
  rcases hv with rfl | rfl | rfl | rfl | rfl | rfl | rfl | rfl <;> first | (simp [nms, nm1, nm0] at hk; done) | (simp [nms, nm1, nm0] at hk; omega)
 ·have hy : y ∈ [.ro (lsG Ls (fun _ => mk) (fun t => 91 + (n - 1 - t)) n), .ro (rvL Ls n 0), .ro (rvL Ls n 1), .ro (rvL Ls n 2), .ro (rvL Ls n 3)] ++ [.vec (ePc.row X) 27 11, .vec (ePc.row U) 27 11, .vec (ePc.row V) 27 11, .map L10 true (some .i64) (esB ma) ca, .map L10 true (some .i64) (esB mc) cc, .map L10 true (some .i64) (esB md) cd, .it 101 ca i ca] := hy
  rcases List.mem_append.1 hy with hy | hy
  ·exact base_lt hn Ls y hy
  ·simp only [List.mem_cons, List.not_mem_nil, or_false] at hy
   rcases hy with rfl | rfl | rfl | rfl | rfl | rfl | rfl
   ·exact Blk.plain.namesLt (b := .vec _ _ _) (Elt.row_pl _) _
   ·exact Blk.plain.namesLt (b := .vec _ _ _) (Elt.row_pl _) _
   ·exact Blk.plain.namesLt (b := .vec _ _ _) (Elt.row_pl _) _
   ·trivial
   ·trivial
   ·trivial
   ·show 101 < 110; omega
theorem gen0_1 (p : FP) (b : Bx) (ct : Int) (Ls : Nat → List Pc) (Q : Nat → Prop) {E : Env} (hA : ∀ k, E.An.2 k → k < 64) {C : List Ctl} (h : Sat E C ((g0L p 1 b ct Ls Q).st 0 ())) : Sat E C ((f0L p 1 b ct).st 0 ()) := by
 refine sat_ro (hv' := .cells b.cs 25 :: .ro (p.tcs 74 1) :: [.ro (eWord.row (p.W 0))]) (nx := 110) (c' := 0) (ob' := []) rfl (fun i b b' h1 h2 => by
  match i with
  | 0 => simp [f0L] at h1 h2; subst h1; subst h2; exact Or.inl rfl
  | 1 => simp [f0L, FP.tbs, FP.nds] at h1 h2; subst h1; subst h2; exact Or.inr ⟨_, rfl, rfl⟩
  | 2 => simp [f0L, FP.tbs, FP.nds] at h1 h2; subst h1; subst h2; exact Or.inr ⟨_, rfl, rfl⟩
  | i + 3 => simp at h2) ?_
 refine sat_dummy (D := (fun k => 74 < k ∧ k < 78)) (k0 := 73) (cs0 := p.tcs 74 1) (c' := 0) (ob' := []) rfl (fun k h => by omega) (fun k h => by have := hA k h; omega) (fun i v hv k hk => ?_) (fun k b' hb => ?_) ?_
 ·obtain ⟨j, _, hj⟩ := assocN_mem hv
  have hm := List.mem_of_getElem? hj
  simp only [f0L, tsl, ptr, List.mem_cons, List.not_mem_nil, or_false] at hm
  rcases hm with rfl | rfl | rfl | rfl | rfl | rfl | rfl <;> simp [nms, nm1, nm0] at hk <;> omega
 ·obtain ⟨j, hj1, hj2⟩ := assocN_mem hb
  have hm := List.mem_of_getElem? hj1
  have hm2 := List.mem_of_getElem? hj2
  have hpl : ∀ cs : List Value, (∀ c ∈ cs, leafG c = true) → ∀ j ∈ nmL nm0 cs, ¬ (74 < j ∧ j < 78) := fun cs hc j hj => by
   obtain ⟨c, hcm, hjc⟩ := mem_nmL' (f := nm0) hj
   rw [nm0_leafG (hc c hcm)] at hjc
   simp at hjc
  simp only [f0L, tns, upN, List.nil_append, List.cons_append, List.mem_cons, List.not_mem_nil, or_false] at hm
  simp only [List.mem_cons, List.not_mem_nil, or_false] at hm2
  refine ⟨by omega, ?_⟩
  rcases hm2 with rfl | rfl | rfl
  ·exact hpl _ (bcs_pl b)
  ·intro j hj
   obtain ⟨c, hcm, hjc⟩ := mem_nmL' (f := nm0) (show j ∈ nmL nm0 (p.tcs 74 1) from hj)
   have := tcs_lt p 1 c hcm j hjc
   omega
  ·exact hpl _ (Elt.row_pl _)
 refine sat_weak (T' := assocN ((g0L p 1 b ct Ls Q).ts 0) ((g0L p 1 b ct Ls Q).tv 0 ())) (H' := assocN ((g0L p 1 b ct Ls Q).hs 0) ((g0L p 1 b ct Ls Q).hv 0 ())) (c' := 0) (ob' := []) (fun i v h => h) (fun k b' hb => ?_) h
 refine ⟨b', ?_, Or.inl rfl⟩
 have hk : k ∈ [80, 73, 74, 75, 76, 77] := by obtain ⟨j, hj1, _⟩ := assocN_mem hb; exact List.mem_of_getElem? hj1
 simp only [List.mem_cons, List.not_mem_nil, or_false] at hk
 rcases hk with rfl | rfl | rfl | rfl | rfl | rfl <;> first | (rw [if_neg (by omega)]; exact hb) | (rw [if_pos (by omega)]; exact hb)
theorem gen1_1 (Ls : Nat → List Pc) (ct : Int) (Q : Nat → Prop) {E : Env} (hA : ∀ k, E.An.2 k → k < 64) {K0 : List Ctl} (h : ∀ C, 1 ≤ C → C ≤ maxLen → Sat E K0 ((g1L 1 Ls C ct Q).st 0 ())) : Sat E K0 ((h1L 1 Ls ct).st 0 ()) := by
 refine sat_cap (k := 90) (s := 1) (cs := lsG Ls (fun _ => mk) (fun t => 91 + (1 - 1 - t)) 1) (ty := 28) (T' := fun C => assocN ((g1L 1 Ls C ct Q).ts 0) ((g1L 1 Ls C ct Q).tv 0 ())) (nx := 110) (H' := assocN [90, 91] [.ro (lsG Ls (fun _ => mk) (fun t => 91 + (1 - 1 - t)) 1), .ro (rvL Ls 1 0)]) (c' := 0) (ob' := []) rfl (fun C i v hv => ?_) (assoc_le rfl (fun i b b' h1 h2 => ?_)) (fun C h1 h2 => ?_)
 ·by_cases hi : i = 9
  ·subst hi
   exact Or.inr ⟨⟨90, 0, none⟩, 1, rfl, rfl, (Option.some.inj hv).symm⟩
  ·left
   have h9 : Nat.beq i 9 = false := by
    cases e : Nat.beq i 9
    ·rfl
    ·exact absurd (Nat.eq_of_beq_eq_true e) hi
   simp only [g1L, h1L, bk, assocN, h9, cond_false] at hv ⊢
   exact hv
 ·match i with
  | 0 => simp [h1L, List.range_succ] at h1 h2; subst h1; subst h2; exact Or.inr ⟨_, rfl, rfl⟩
  | 1 => simp [h1L, List.range_succ] at h1 h2; subst h1; subst h2; exact Or.inr ⟨_, rfl, rfl⟩
  | i + 2 => simp at h2
 have h1 : 1 ≤ C := by
  have hl : (lsG Ls (fun _ => mk) (fun t => 91 + (1 - 1 - t)) 1).length = 1 := by simp [lsG]
  omega
 refine sat_dummy (D := fun k => 91 < k ∧ k < 95) (k0 := 90) (cs0 := lsG Ls (fun _ => mk) (fun t => 91 + (1 - 1 - t)) 1) (c' := 0) (ob' := []) rfl (fun k h => by omega) (fun k h => by have := hA k h; omega) (fun i v hv k hk => ?_) (fun k b' hb => ?_) ?_
 ·obtain ⟨j, _, hj⟩ := assocN_mem hv
  have hm := List.mem_of_getElem? hj
  simp only [g1L, bk, List.mem_cons, List.not_mem_nil, or_false] at hm
  rcases hm with rfl | rfl | rfl | rfl | rfl <;> simp [nms, nm1, nm0] at hk <;> omega
 ·obtain ⟨j, hj1, hj2⟩ := assocN_mem hb
  have hm := List.mem_of_getElem? hj1
  have hm2 := List.mem_of_getElem? hj2
  have hpl : ∀ cs : List Value, (∀ c ∈ cs, leafG c = true) → ∀ j ∈ nmL nm0 cs, ¬ (91 < j ∧ j < 95) := fun cs hc j hj => by
   obtain ⟨c, hcm, hjc⟩ := mem_nmL' (f := nm0) hj
   rw [nm0_leafG (hc c hcm)] at hjc
   simp at hjc
  simp only [List.mem_cons, List.not_mem_nil, or_false] at hm hm2
  refine ⟨by omega, ?_⟩
  rcases hm2 with rfl | rfl
  ·intro j hj
   obtain ⟨c, hcm, hjc⟩ := mem_nmL' (f := nm0) (show j ∈ nmL nm0 (lsG Ls (fun _ => mk) (fun t => 91 + (1 - 1 - t)) 1) from hj)
   have := lsG_lt (m := 92) (fun t ht => by omega) c hcm j hjc
   omega
  ·exact hpl _ (rvL_pl _ _ _)
 refine sat_weak (T' := assocN ((g1L 1 Ls C ct Q).ts 0) ((g1L 1 Ls C ct Q).tv 0 ())) (H' := assocN ((g1L 1 Ls C ct Q).hs 0) ((g1L 1 Ls C ct Q).hv 0 ())) (c' := 0) (ob' := []) (fun i v h => h) (fun k b' hb => ?_) (h C h1 h2)
 refine ⟨b', ?_, Or.inl rfl⟩
 have hk : k ∈ [90, 91, 92, 93, 94] := by obtain ⟨j, hj1, _⟩ := assocN_mem hb; exact List.mem_of_getElem? hj1
 simp only [List.mem_cons, List.not_mem_nil, or_false] at hk
 rcases hk with rfl | rfl | rfl | rfl | rfl <;> first | (rw [if_neg (by omega)]; exact hb) | (rw [if_pos (by omega)]; exact hb)
theorem gen0_2 (p : FP) (b : Bx) (ct : Int) (Ls : Nat → List Pc) (Q : Nat → Prop) {E : Env} (hA : ∀ k, E.An.2 k → k < 64) {C : List Ctl} (h : Sat E C ((g0L p 2 b ct Ls Q).st 0 ())) : Sat E C ((f0L p 2 b ct).st 0 ()) := by
 refine sat_ro (hv' := .cells b.cs 25 :: .ro (p.tcs 74 2) :: [.ro (eWord.row (p.W 0)), .ro (eWord.row (p.W 1))]) (nx := 110) (c' := 0) (ob' := []) rfl (fun i b b' h1 h2 => by
  match i with
  | 0 => simp [f0L] at h1 h2; subst h1; subst h2; exact Or.inl rfl
  | 1 => simp [f0L, FP.tbs, FP.nds] at h1 h2; subst h1; subst h2; exact Or.inr ⟨_, rfl, rfl⟩
  | 2 => simp [f0L, FP.tbs, FP.nds] at h1 h2; subst h1; subst h2; exact Or.inr ⟨_, rfl, rfl⟩
  | 3 => simp [f0L, FP.tbs, FP.nds] at h1 h2; subst h1; subst h2; exact Or.inr ⟨_, rfl, rfl⟩
  | i + 4 => simp at h2) ?_
 refine sat_dummy (D := (fun k => 75 < k ∧ k < 78)) (k0 := 73) (cs0 := p.tcs 74 2) (c' := 0) (ob' := []) rfl (fun k h => by omega) (fun k h => by have := hA k h; omega) (fun i v hv k hk => ?_) (fun k b' hb => ?_) ?_
 ·obtain ⟨j, _, hj⟩ := assocN_mem hv
  have hm := List.mem_of_getElem? hj
  simp only [f0L, tsl, ptr, List.mem_cons, List.not_mem_nil, or_false] at hm
  rcases hm with rfl | rfl | rfl | rfl | rfl | rfl | rfl <;> simp [nms, nm1, nm0] at hk <;> omega
 ·obtain ⟨j, hj1, hj2⟩ := assocN_mem hb
  have hm := List.mem_of_getElem? hj1
  have hm2 := List.mem_of_getElem? hj2
  have hpl : ∀ cs : List Value, (∀ c ∈ cs, leafG c = true) → ∀ j ∈ nmL nm0 cs, ¬ (75 < j ∧ j < 78) := fun cs hc j hj => by
   obtain ⟨c, hcm, hjc⟩ := mem_nmL' (f := nm0) hj
   rw [nm0_leafG (hc c hcm)] at hjc
   simp at hjc
  simp only [f0L, tns, upN, List.nil_append, List.cons_append, List.mem_cons, List.not_mem_nil, or_false] at hm
  simp only [List.mem_cons, List.not_mem_nil, or_false] at hm2
  refine ⟨by omega, ?_⟩
  rcases hm2 with rfl | rfl | rfl | rfl
  ·exact hpl _ (bcs_pl b)
  ·intro j hj
   obtain ⟨c, hcm, hjc⟩ := mem_nmL' (f := nm0) (show j ∈ nmL nm0 (p.tcs 74 2) from hj)
   have := tcs_lt p 2 c hcm j hjc
   omega
  ·exact hpl _ (Elt.row_pl _)
  ·exact hpl _ (Elt.row_pl _)
 refine sat_weak (T' := assocN ((g0L p 2 b ct Ls Q).ts 0) ((g0L p 2 b ct Ls Q).tv 0 ())) (H' := assocN ((g0L p 2 b ct Ls Q).hs 0) ((g0L p 2 b ct Ls Q).hv 0 ())) (c' := 0) (ob' := []) (fun i v h => h) (fun k b' hb => ?_) h
 refine ⟨b', ?_, Or.inl rfl⟩
 have hk : k ∈ [80, 73, 74, 75, 76, 77] := by obtain ⟨j, hj1, _⟩ := assocN_mem hb; exact List.mem_of_getElem? hj1
 simp only [List.mem_cons, List.not_mem_nil, or_false] at hk
 rcases hk with rfl | rfl | rfl | rfl | rfl | rfl <;> first | (rw [if_neg (by omega)]; exact hb) | (rw [if_pos (by omega)]; exact hb)
theorem gen1_2 (Ls : Nat → List Pc) (ct : Int) (Q : Nat → Prop) {E : Env} (hA : ∀ k, E.An.2 k → k < 64) {K0 : List Ctl} (h : ∀ C, 2 ≤ C → C ≤ maxLen → Sat E K0 ((g1L 2 Ls C ct Q).st 0 ())) : Sat E K0 ((h1L 2 Ls ct).st 0 ()) := by
 refine sat_cap (k := 90) (s := 1) (cs := lsG Ls (fun _ => mk) (fun t => 91 + (2 - 1 - t)) 2) (ty := 28) (T' := fun C => assocN ((g1L 2 Ls C ct Q).ts 0) ((g1L 2 Ls C ct Q).tv 0 ())) (nx := 110) (H' := assocN [90, 91, 92] [.ro (lsG Ls (fun _ => mk) (fun t => 91 + (2 - 1 - t)) 2), .ro (rvL Ls 2 0), .ro (rvL Ls 2 1)]) (c' := 0) (ob' := []) rfl (fun C i v hv => ?_) (assoc_le rfl (fun i b b' h1 h2 => ?_)) (fun C h1 h2 => ?_)
 ·by_cases hi : i = 9
  ·subst hi
   exact Or.inr ⟨⟨90, 0, none⟩, 2, rfl, rfl, (Option.some.inj hv).symm⟩
  ·left
   have h9 : Nat.beq i 9 = false := by
    cases e : Nat.beq i 9
    ·rfl
    ·exact absurd (Nat.eq_of_beq_eq_true e) hi
   simp only [g1L, h1L, bk, assocN, h9, cond_false] at hv ⊢
   exact hv
 ·match i with
  | 0 => simp [h1L, List.range_succ] at h1 h2; subst h1; subst h2; exact Or.inr ⟨_, rfl, rfl⟩
  | 1 => simp [h1L, List.range_succ] at h1 h2; subst h1; subst h2; exact Or.inr ⟨_, rfl, rfl⟩
  | 2 => simp [h1L, List.range_succ] at h1 h2; subst h1; subst h2; exact Or.inr ⟨_, rfl, rfl⟩
  | i + 3 => simp at h2
 have h1 : 2 ≤ C := by
  have hl : (lsG Ls (fun _ => mk) (fun t => 91 + (2 - 1 - t)) 2).length = 2 := by simp [lsG]
  omega
 refine sat_dummy (D := fun k => 92 < k ∧ k < 95) (k0 := 90) (cs0 := lsG Ls (fun _ => mk) (fun t => 91 + (2 - 1 - t)) 2) (c' := 0) (ob' := []) rfl (fun k h => by omega) (fun k h => by have := hA k h; omega) (fun i v hv k hk => ?_) (fun k b' hb => ?_) ?_
 ·obtain ⟨j, _, hj⟩ := assocN_mem hv
  have hm := List.mem_of_getElem? hj
  simp only [g1L, bk, List.mem_cons, List.not_mem_nil, or_false] at hm
  rcases hm with rfl | rfl | rfl | rfl | rfl <;> simp [nms, nm1, nm0] at hk <;> omega
 ·obtain ⟨j, hj1, hj2⟩ := assocN_mem hb
  have hm := List.mem_of_getElem? hj1
  have hm2 := List.mem_of_getElem? hj2
  have hpl : ∀ cs : List Value, (∀ c ∈ cs, leafG c = true) → ∀ j ∈ nmL nm0 cs, ¬ (92 < j ∧ j < 95) := fun cs hc j hj => by
   obtain ⟨c, hcm, hjc⟩ := mem_nmL' (f := nm0) hj
   rw [nm0_leafG (hc c hcm)] at hjc
   simp at hjc
  simp only [List.mem_cons, List.not_mem_nil, or_false] at hm hm2
  refine ⟨by omega, ?_⟩
  rcases hm2 with rfl | rfl | rfl
  ·intro j hj
   obtain ⟨c, hcm, hjc⟩ := mem_nmL' (f := nm0) (show j ∈ nmL nm0 (lsG Ls (fun _ => mk) (fun t => 91 + (2 - 1 - t)) 2) from hj)
   have := lsG_lt (m := 93) (fun t ht => by omega) c hcm j hjc
   omega
  ·exact hpl _ (rvL_pl _ _ _)
  ·exact hpl _ (rvL_pl _ _ _)
 refine sat_weak (T' := assocN ((g1L 2 Ls C ct Q).ts 0) ((g1L 2 Ls C ct Q).tv 0 ())) (H' := assocN ((g1L 2 Ls C ct Q).hs 0) ((g1L 2 Ls C ct Q).hv 0 ())) (c' := 0) (ob' := []) (fun i v h => h) (fun k b' hb => ?_) (h C h1 h2)
 refine ⟨b', ?_, Or.inl rfl⟩
 have hk : k ∈ [90, 91, 92, 93, 94] := by obtain ⟨j, hj1, _⟩ := assocN_mem hb; exact List.mem_of_getElem? hj1
 simp only [List.mem_cons, List.not_mem_nil, or_false] at hk
 rcases hk with rfl | rfl | rfl | rfl | rfl <;> first | (rw [if_neg (by omega)]; exact hb) | (rw [if_pos (by omega)]; exact hb)
theorem gen0_3 (p : FP) (b : Bx) (ct : Int) (Ls : Nat → List Pc) (Q : Nat → Prop) {E : Env} (hA : ∀ k, E.An.2 k → k < 64) {C : List Ctl} (h : Sat E C ((g0L p 3 b ct Ls Q).st 0 ())) : Sat E C ((f0L p 3 b ct).st 0 ()) := by
 refine sat_ro (hv' := .cells b.cs 25 :: .ro (p.tcs 74 3) :: [.ro (eWord.row (p.W 0)), .ro (eWord.row (p.W 1)), .ro (eWord.row (p.W 2))]) (nx := 110) (c' := 0) (ob' := []) rfl (fun i b b' h1 h2 => by
  match i with
  | 0 => simp [f0L] at h1 h2; subst h1; subst h2; exact Or.inl rfl
  | 1 => simp [f0L, FP.tbs, FP.nds] at h1 h2; subst h1; subst h2; exact Or.inr ⟨_, rfl, rfl⟩
  | 2 => simp [f0L, FP.tbs, FP.nds] at h1 h2; subst h1; subst h2; exact Or.inr ⟨_, rfl, rfl⟩
  | 3 => simp [f0L, FP.tbs, FP.nds] at h1 h2; subst h1; subst h2; exact Or.inr ⟨_, rfl, rfl⟩
  | 4 => simp [f0L, FP.tbs, FP.nds] at h1 h2; subst h1; subst h2; exact Or.inr ⟨_, rfl, rfl⟩
  | i + 5 => simp at h2) ?_
 refine sat_dummy (D := (fun k => 76 < k ∧ k < 78)) (k0 := 73) (cs0 := p.tcs 74 3) (c' := 0) (ob' := []) rfl (fun k h => by omega) (fun k h => by have := hA k h; omega) (fun i v hv k hk => ?_) (fun k b' hb => ?_) ?_
 ·obtain ⟨j, _, hj⟩ := assocN_mem hv
  have hm := List.mem_of_getElem? hj
  simp only [f0L, tsl, ptr, List.mem_cons, List.not_mem_nil, or_false] at hm
  rcases hm with rfl | rfl | rfl | rfl | rfl | rfl | rfl <;> simp [nms, nm1, nm0] at hk <;> omega
 ·obtain ⟨j, hj1, hj2⟩ := assocN_mem hb
  have hm := List.mem_of_getElem? hj1
  have hm2 := List.mem_of_getElem? hj2
  have hpl : ∀ cs : List Value, (∀ c ∈ cs, leafG c = true) → ∀ j ∈ nmL nm0 cs, ¬ (76 < j ∧ j < 78) := fun cs hc j hj => by
   obtain ⟨c, hcm, hjc⟩ := mem_nmL' (f := nm0) hj
   rw [nm0_leafG (hc c hcm)] at hjc
   simp at hjc
  simp only [f0L, tns, upN, List.nil_append, List.cons_append, List.mem_cons, List.not_mem_nil, or_false] at hm
  simp only [List.mem_cons, List.not_mem_nil, or_false] at hm2
  refine ⟨by omega, ?_⟩
  rcases hm2 with rfl | rfl | rfl | rfl | rfl
  ·exact hpl _ (bcs_pl b)
  ·intro j hj
   obtain ⟨c, hcm, hjc⟩ := mem_nmL' (f := nm0) (show j ∈ nmL nm0 (p.tcs 74 3) from hj)
   have := tcs_lt p 3 c hcm j hjc
   omega
  ·exact hpl _ (Elt.row_pl _)
  ·exact hpl _ (Elt.row_pl _)
  ·exact hpl _ (Elt.row_pl _)
 refine sat_weak (T' := assocN ((g0L p 3 b ct Ls Q).ts 0) ((g0L p 3 b ct Ls Q).tv 0 ())) (H' := assocN ((g0L p 3 b ct Ls Q).hs 0) ((g0L p 3 b ct Ls Q).hv 0 ())) (c' := 0) (ob' := []) (fun i v h => h) (fun k b' hb => ?_) h
 refine ⟨b', ?_, Or.inl rfl⟩
 have hk : k ∈ [80, 73, 74, 75, 76, 77] := by obtain ⟨j, hj1, _⟩ := assocN_mem hb; exact List.mem_of_getElem? hj1
 simp only [List.mem_cons, List.not_mem_nil, or_false] at hk
 rcases hk with rfl | rfl | rfl | rfl | rfl | rfl <;> first | (rw [if_neg (by omega)]; exact hb) | (rw [if_pos (by omega)]; exact hb)
theorem gen1_3 (Ls : Nat → List Pc) (ct : Int) (Q : Nat → Prop) {E : Env} (hA : ∀ k, E.An.2 k → k < 64) {K0 : List Ctl} (h : ∀ C, 3 ≤ C → C ≤ maxLen → Sat E K0 ((g1L 3 Ls C ct Q).st 0 ())) : Sat E K0 ((h1L 3 Ls ct).st 0 ()) := by
 refine sat_cap (k := 90) (s := 1) (cs := lsG Ls (fun _ => mk) (fun t => 91 + (3 - 1 - t)) 3) (ty := 28) (T' := fun C => assocN ((g1L 3 Ls C ct Q).ts 0) ((g1L 3 Ls C ct Q).tv 0 ())) (nx := 110) (H' := assocN [90, 91, 92, 93] [.ro (lsG Ls (fun _ => mk) (fun t => 91 + (3 - 1 - t)) 3), .ro (rvL Ls 3 0), .ro (rvL Ls 3 1), .ro (rvL Ls 3 2)]) (c' := 0) (ob' := []) rfl (fun C i v hv => ?_) (assoc_le rfl (fun i b b' h1 h2 => ?_)) (fun C h1 h2 => ?_)
 ·by_cases hi : i = 9
  ·subst hi
   exact Or.inr ⟨⟨90, 0, none⟩, 3, rfl, rfl, (Option.some.inj hv).symm⟩
  ·left
   have h9 : Nat.beq i 9 = false := by
    cases e : Nat.beq i 9
    ·rfl
    ·exact absurd (Nat.eq_of_beq_eq_true e) hi
   simp only [g1L, h1L, bk, assocN, h9, cond_false] at hv ⊢
   exact hv
 ·match i with
  | 0 => simp [h1L, List.range_succ] at h1 h2; subst h1; subst h2; exact Or.inr ⟨_, rfl, rfl⟩
  | 1 => simp [h1L, List.range_succ] at h1 h2; subst h1; subst h2; exact Or.inr ⟨_, rfl, rfl⟩
  | 2 => simp [h1L, List.range_succ] at h1 h2; subst h1; subst h2; exact Or.inr ⟨_, rfl, rfl⟩
  | 3 => simp [h1L, List.range_succ] at h1 h2; subst h1; subst h2; exact Or.inr ⟨_, rfl, rfl⟩
  | i + 4 => simp at h2
 have h1 : 3 ≤ C := by
  have hl : (lsG Ls (fun _ => mk) (fun t => 91 + (3 - 1 - t)) 3).length = 3 := by simp [lsG]
  omega
 refine sat_dummy (D := fun k => 93 < k ∧ k < 95) (k0 := 90) (cs0 := lsG Ls (fun _ => mk) (fun t => 91 + (3 - 1 - t)) 3) (c' := 0) (ob' := []) rfl (fun k h => by omega) (fun k h => by have := hA k h; omega) (fun i v hv k hk => ?_) (fun k b' hb => ?_) ?_
 ·obtain ⟨j, _, hj⟩ := assocN_mem hv
  have hm := List.mem_of_getElem? hj
  simp only [g1L, bk, List.mem_cons, List.not_mem_nil, or_false] at hm
  rcases hm with rfl | rfl | rfl | rfl | rfl <;> simp [nms, nm1, nm0] at hk <;> omega
 ·obtain ⟨j, hj1, hj2⟩ := assocN_mem hb
  have hm := List.mem_of_getElem? hj1
  have hm2 := List.mem_of_getElem? hj2
  have hpl : ∀ cs : List Value, (∀ c ∈ cs, leafG c = true) → ∀ j ∈ nmL nm0 cs, ¬ (93 < j ∧ j < 95) := fun cs hc j hj => by
   obtain ⟨c, hcm, hjc⟩ := mem_nmL' (f := nm0) hj
   rw [nm0_leafG (hc c hcm)] at hjc
   simp at hjc
  simp only [List.mem_cons, List.not_mem_nil, or_false] at hm hm2
  refine ⟨by omega, ?_⟩
  rcases hm2 with rfl | rfl | rfl | rfl
  ·intro j hj
   obtain ⟨c, hcm, hjc⟩ := mem_nmL' (f := nm0) (show j ∈ nmL nm0 (lsG Ls (fun _ => mk) (fun t => 91 + (3 - 1 - t)) 3) from hj)
   have := lsG_lt (m := 94) (fun t ht => by omega) c hcm j hjc
   omega
  ·exact hpl _ (rvL_pl _ _ _)
  ·exact hpl _ (rvL_pl _ _ _)
  ·exact hpl _ (rvL_pl _ _ _)
 refine sat_weak (T' := assocN ((g1L 3 Ls C ct Q).ts 0) ((g1L 3 Ls C ct Q).tv 0 ())) (H' := assocN ((g1L 3 Ls C ct Q).hs 0) ((g1L 3 Ls C ct Q).hv 0 ())) (c' := 0) (ob' := []) (fun i v h => h) (fun k b' hb => ?_) (h C h1 h2)
 refine ⟨b', ?_, Or.inl rfl⟩
 have hk : k ∈ [90, 91, 92, 93, 94] := by obtain ⟨j, hj1, _⟩ := assocN_mem hb; exact List.mem_of_getElem? hj1
 simp only [List.mem_cons, List.not_mem_nil, or_false] at hk
 rcases hk with rfl | rfl | rfl | rfl | rfl <;> first | (rw [if_neg (by omega)]; exact hb) | (rw [if_pos (by omega)]; exact hb)
theorem gen0_4 (p : FP) (b : Bx) (ct : Int) (Ls : Nat → List Pc) (Q : Nat → Prop) {E : Env} (hA : ∀ k, E.An.2 k → k < 64) {C : List Ctl} (h : Sat E C ((g0L p 4 b ct Ls Q).st 0 ())) : Sat E C ((f0L p 4 b ct).st 0 ()) := by
 refine sat_ro (hv' := .cells b.cs 25 :: .ro (p.tcs 74 4) :: [.ro (eWord.row (p.W 0)), .ro (eWord.row (p.W 1)), .ro (eWord.row (p.W 2)), .ro (eWord.row (p.W 3))]) (nx := 110) (c' := 0) (ob' := []) rfl (fun i b b' h1 h2 => by
  match i with
  | 0 => simp [f0L] at h1 h2; subst h1; subst h2; exact Or.inl rfl
  | 1 => simp [f0L, FP.tbs, FP.nds] at h1 h2; subst h1; subst h2; exact Or.inr ⟨_, rfl, rfl⟩
  | 2 => simp [f0L, FP.tbs, FP.nds] at h1 h2; subst h1; subst h2; exact Or.inr ⟨_, rfl, rfl⟩
  | 3 => simp [f0L, FP.tbs, FP.nds] at h1 h2; subst h1; subst h2; exact Or.inr ⟨_, rfl, rfl⟩
  | 4 => simp [f0L, FP.tbs, FP.nds] at h1 h2; subst h1; subst h2; exact Or.inr ⟨_, rfl, rfl⟩
  | 5 => simp [f0L, FP.tbs, FP.nds] at h1 h2; subst h1; subst h2; exact Or.inr ⟨_, rfl, rfl⟩
  | i + 6 => simp at h2) ?_
 refine sat_dummy (D := (fun k => 77 < k ∧ k < 78)) (k0 := 73) (cs0 := p.tcs 74 4) (c' := 0) (ob' := []) rfl (fun k h => by omega) (fun k h => by have := hA k h; omega) (fun i v hv k hk => ?_) (fun k b' hb => ?_) ?_
 ·obtain ⟨j, _, hj⟩ := assocN_mem hv
  have hm := List.mem_of_getElem? hj
  simp only [f0L, tsl, ptr, List.mem_cons, List.not_mem_nil, or_false] at hm
  rcases hm with rfl | rfl | rfl | rfl | rfl | rfl | rfl <;> simp [nms, nm1, nm0] at hk <;> omega
 ·obtain ⟨j, hj1, hj2⟩ := assocN_mem hb
  have hm := List.mem_of_getElem? hj1
  have hm2 := List.mem_of_getElem? hj2
  have hpl : ∀ cs : List Value, (∀ c ∈ cs, leafG c = true) → ∀ j ∈ nmL nm0 cs, ¬ (77 < j ∧ j < 78) := fun cs hc j hj => by
   obtain ⟨c, hcm, hjc⟩ := mem_nmL' (f := nm0) hj
   rw [nm0_leafG (hc c hcm)] at hjc
   simp at hjc
  simp only [f0L, tns, upN, List.nil_append, List.cons_append, List.mem_cons, List.not_mem_nil, or_false] at hm
  simp only [List.mem_cons, List.not_mem_nil, or_false] at hm2
  refine ⟨by omega, ?_⟩
  rcases hm2 with rfl | rfl | rfl | rfl | rfl | rfl
  ·exact hpl _ (bcs_pl b)
  ·intro j hj
   obtain ⟨c, hcm, hjc⟩ := mem_nmL' (f := nm0) (show j ∈ nmL nm0 (p.tcs 74 4) from hj)
   have := tcs_lt p 4 c hcm j hjc
   omega
  ·exact hpl _ (Elt.row_pl _)
  ·exact hpl _ (Elt.row_pl _)
  ·exact hpl _ (Elt.row_pl _)
  ·exact hpl _ (Elt.row_pl _)
 refine sat_weak (T' := assocN ((g0L p 4 b ct Ls Q).ts 0) ((g0L p 4 b ct Ls Q).tv 0 ())) (H' := assocN ((g0L p 4 b ct Ls Q).hs 0) ((g0L p 4 b ct Ls Q).hv 0 ())) (c' := 0) (ob' := []) (fun i v h => h) (fun k b' hb => ?_) h
 refine ⟨b', ?_, Or.inl rfl⟩
 have hk : k ∈ [80, 73, 74, 75, 76, 77] := by obtain ⟨j, hj1, _⟩ := assocN_mem hb; exact List.mem_of_getElem? hj1
 simp only [List.mem_cons, List.not_mem_nil, or_false] at hk
 rcases hk with rfl | rfl | rfl | rfl | rfl | rfl <;> first | (rw [if_neg (by omega)]; exact hb) | (rw [if_pos (by omega)]; exact hb)
theorem gen1_4 (Ls : Nat → List Pc) (ct : Int) (Q : Nat → Prop) {E : Env} (hA : ∀ k, E.An.2 k → k < 64) {K0 : List Ctl} (h : ∀ C, 4 ≤ C → C ≤ maxLen → Sat E K0 ((g1L 4 Ls C ct Q).st 0 ())) : Sat E K0 ((h1L 4 Ls ct).st 0 ()) := by
 refine sat_cap (k := 90) (s := 1) (cs := lsG Ls (fun _ => mk) (fun t => 91 + (4 - 1 - t)) 4) (ty := 28) (T' := fun C => assocN ((g1L 4 Ls C ct Q).ts 0) ((g1L 4 Ls C ct Q).tv 0 ())) (nx := 110) (H' := assocN [90, 91, 92, 93, 94] [.ro (lsG Ls (fun _ => mk) (fun t => 91 + (4 - 1 - t)) 4), .ro (rvL Ls 4 0), .ro (rvL Ls 4 1), .ro (rvL Ls 4 2), .ro (rvL Ls 4 3)]) (c' := 0) (ob' := []) rfl (fun C i v hv => ?_) (assoc_le rfl (fun i b b' h1 h2 => ?_)) (fun C h1 h2 => ?_)
 ·by_cases hi : i = 9
  ·subst hi
   exact Or.inr ⟨⟨90, 0, none⟩, 4, rfl, rfl, (Option.some.inj hv).symm⟩
  ·left
   have h9 : Nat.beq i 9 = false := by
    cases e : Nat.beq i 9
    ·rfl
    ·exact absurd (Nat.eq_of_beq_eq_true e) hi
   simp only [g1L, h1L, bk, assocN, h9, cond_false] at hv ⊢
   exact hv
 ·match i with
  | 0 => simp [h1L, List.range_succ] at h1 h2; subst h1; subst h2; exact Or.inr ⟨_, rfl, rfl⟩
  | 1 => simp [h1L, List.range_succ] at h1 h2; subst h1; subst h2; exact Or.inr ⟨_, rfl, rfl⟩
  | 2 => simp [h1L, List.range_succ] at h1 h2; subst h1; subst h2; exact Or.inr ⟨_, rfl, rfl⟩
  | 3 => simp [h1L, List.range_succ] at h1 h2; subst h1; subst h2; exact Or.inr ⟨_, rfl, rfl⟩
  | 4 => simp [h1L, List.range_succ] at h1 h2; subst h1; subst h2; exact Or.inr ⟨_, rfl, rfl⟩
  | i + 5 => simp at h2
 have h1 : 4 ≤ C := by
  have hl : (lsG Ls (fun _ => mk) (fun t => 91 + (4 - 1 - t)) 4).length = 4 := by simp [lsG]
  omega
 refine sat_dummy (D := fun k => 94 < k ∧ k < 95) (k0 := 90) (cs0 := lsG Ls (fun _ => mk) (fun t => 91 + (4 - 1 - t)) 4) (c' := 0) (ob' := []) rfl (fun k h => by omega) (fun k h => by have := hA k h; omega) (fun i v hv k hk => ?_) (fun k b' hb => ?_) ?_
 ·obtain ⟨j, _, hj⟩ := assocN_mem hv
  have hm := List.mem_of_getElem? hj
  simp only [g1L, bk, List.mem_cons, List.not_mem_nil, or_false] at hm
  rcases hm with rfl | rfl | rfl | rfl | rfl <;> simp [nms, nm1, nm0] at hk <;> omega
 ·obtain ⟨j, hj1, hj2⟩ := assocN_mem hb
  have hm := List.mem_of_getElem? hj1
  have hm2 := List.mem_of_getElem? hj2
  have hpl : ∀ cs : List Value, (∀ c ∈ cs, leafG c = true) → ∀ j ∈ nmL nm0 cs, ¬ (94 < j ∧ j < 95) := fun cs hc j hj => by
   obtain ⟨c, hcm, hjc⟩ := mem_nmL' (f := nm0) hj
   rw [nm0_leafG (hc c hcm)] at hjc
   simp at hjc
  simp only [List.mem_cons, List.not_mem_nil, or_false] at hm hm2
  refine ⟨by omega, ?_⟩
  rcases hm2 with rfl | rfl | rfl | rfl | rfl
  ·intro j hj
   obtain ⟨c, hcm, hjc⟩ := mem_nmL' (f := nm0) (show j ∈ nmL nm0 (lsG Ls (fun _ => mk) (fun t => 91 + (4 - 1 - t)) 4) from hj)
   have := lsG_lt (m := 95) (fun t ht => by omega) c hcm j hjc
   omega
  ·exact hpl _ (rvL_pl _ _ _)
  ·exact hpl _ (rvL_pl _ _ _)
  ·exact hpl _ (rvL_pl _ _ _)
  ·exact hpl _ (rvL_pl _ _ _)
 refine sat_weak (T' := assocN ((g1L 4 Ls C ct Q).ts 0) ((g1L 4 Ls C ct Q).tv 0 ())) (H' := assocN ((g1L 4 Ls C ct Q).hs 0) ((g1L 4 Ls C ct Q).hv 0 ())) (c' := 0) (ob' := []) (fun i v h => h) (fun k b' hb => ?_) (h C h1 h2)
 refine ⟨b', ?_, Or.inl rfl⟩
 have hk : k ∈ [90, 91, 92, 93, 94] := by obtain ⟨j, hj1, _⟩ := assocN_mem hb; exact List.mem_of_getElem? hj1
 simp only [List.mem_cons, List.not_mem_nil, or_false] at hk
 rcases hk with rfl | rfl | rfl | rfl | rfl <;> first | (rw [if_neg (by omega)]; exact hb) | (rw [if_pos (by omega)]; exact hb)
theorem gen2 {n : Nat} (Ls : Nat → List Pc) (C1 : Nat) (ct : Int) {E : Env} {K0 : List Ctl} (h : ∀ C, n ≤ C → C ≤ maxLen → Sat E K0 ((g2L n Ls C1 C ct).st 0 ())) : Sat E K0 ((g2V n Ls C1 ct).st 0 ()) := by
 refine sat_cap (k := 95) (s := 1) (cs := lsG (fun j => Ls (n - 1 - j)) (fun _ => mk) (fun j => 91 + j) n) (ty := 28) (T' := fun C => assocN ((g2L n Ls C1 C ct).ts 0) ((g2L n Ls C1 C ct).tv 0 ())) (H' := assocN ((g2L n Ls C1 0 ct).hs 0) ((g2L n Ls C1 0 ct).hv 0 ())) (c' := 0) (ob' := []) rfl (fun C i v hv => ?_) (assoc_le rfl (fun i b b' h1 h2 => ?_)) (fun C h1 h2 => ?_)
 ·by_cases hi : i = 10
  ·subst hi
   exact Or.inr ⟨⟨95, 0, none⟩, n, rfl, rfl, (Option.some.inj hv).symm⟩
  ·left
   have h9 : Nat.beq i 10 = false := by
    cases e : Nat.beq i 10
    ·rfl
    ·exact absurd (Nat.eq_of_beq_eq_true e) hi
   simp only [g2L, g2V, assocN, h9, cond_false] at hv ⊢
   exact hv
 ·match i with
  | 0 | 1 | 2 | 3 | 4 => simp [g2L, g2V] at h1 h2; subst h1; subst h2; exact Or.inl rfl
  | 5 => simp [g2L, g2V] at h1 h2; subst h1; subst h2; exact Or.inr ⟨_, rfl, rfl⟩
  | i + 6 => simp [g2L] at h2
 ·refine h C ?_ h2
  have hl : (lsG (fun j => Ls (n - 1 - j)) (fun _ => mk) (fun j => 91 + j) n).length = n := by simp [lsG]
  omega
end Go.Proofs.Ythbaccmhdffjdaa.Co
namespace Go.Proofs.Ythbaccmhdffjdaa.Co
open Go Go.RowKit Ev NodeE BoxF Lv Tr Within PickE Tn Fo Lp Cl Mt Mg Tc Co
theorem rnO (f : Nat → Nat) (n : Nat) (hf : ∀ k, k < 95 → f k = k) (hn : n ≤ 4) (Ls : Nat → List Pc) (dd : Nat → Nat) (g : Nat → Nat) (hg : ∀ t, t < n → g t < 95) : Blk.rnB f (.ro (lsG Ls dd g n)) = .ro (lsG Ls dd g n) := by
 show Blk.ro (mapL (rn0 f) _) = _
 rw [mapL_fix fun c hc k hk => hf k (lsG_lt hg c hc k hk)]
theorem rnV (f : Nat → Nat) (n : Nat) (hf : ∀ k, k < 95 → f k = k) (hn : n ≤ 4) (Ls : Nat → List Pc) (dd : Nat → Nat) (g : Nat → Nat) (hg : ∀ t, t < n → g t < 95) : Blk.rnB f (.vec (lsG Ls dd g n) 28 1) = .vec (lsG Ls dd g n) 28 1 := by
 show Blk.vec (mapL (rn0 f) _) _ _ = _
 rw [mapL_fix fun c hc k hk => hf k (lsG_lt hg c hc k hk)]
theorem rnR (f : Nat → Nat) (Ls : Nat → List Pc) (n j : Nat) : Blk.rnB f (.ro (rvL Ls n j)) = .ro (rvL Ls n j) := Blk.plain.rnB (b := .ro _) (rvL_pl Ls n j) f
theorem rnN (f : Nat → Nat) (p : FP) (n j : Nat) : Blk.rnB f (.ro (nrw p n j)) = .ro (nrw p n j) := Blk.plain.rnB (b := .ro _) (nrw_pl p n j) f
theorem rnT (f : Nat → Nat) (p : FP) {n : Nat} (hn : n ≤ 4) (hf : ∀ k, k < 80 → f k = k) : Blk.rnB f (.ro (p.tcs 74 n)) = .ro (p.tcs 74 n) := by
 show Blk.ro (mapL (rn0 f) _) = _
 rw [mapL_fix fun c hc k hk => hf k (by have := tcs_lt p n c hc k hk; omega)]
theorem rnM (f : Nat → Nat) (es : List Ent) (c : Nat) : Blk.rnB f (.map L10 true (some .i64) es c) = .map L10 true (some .i64) es c := rfl
theorem rnI (f : Nat → Nat) (k s : Nat) (x : List Nat) (c : Nat) : Blk.rnB f (.it k s x c) = .it (f k) s x c := rfl
def QM (l : List EB) : List Nat → Prop := fun seen => seen.Nodup ∧ (∀ x ∈ seen, x ∈ l.map (·.s))
theorem rows4 (Ls : Nat → List Pc) {n : Nat} (h1 : 1 ≤ n) (hn : n ≤ 4) (t : Nat) (ht : t < n) : n - 1 - t < 4 ∧ ∃ bi, [some (Blk.ro (lsG Ls (fun _ => mk) (fun t => 91 + (n - 1 - t)) n)), some (.ro (rvL Ls n 0)), some (.ro (rvL Ls n 1)), some (.ro (rvL Ls n 2)), some (.ro (rvL Ls n 3))].getD (n - 1 - t + 1) none = some bi ∧ bi.row = some (ePc.row (Ls t)) := by
 refine ⟨by omega, .ro (rvL Ls n (n - 1 - t)), ?_, ?_⟩
 ·have h : n - 1 - t = 0 ∨ n - 1 - t = 1 ∨ n - 1 - t = 2 ∨ n - 1 - t = 3 := by omega
  rcases h with h | h | h | h <;> rw [h] <;> rfl
 ·show some (rvL Ls n (n - 1 - t)) = _
  unfold rvL
  rw [if_pos (by omega)]
  have : n - 1 - (n - 1 - t) = t := by omega
  rw [this]
theorem rows4b (Ls : Nat → List Pc) {n : Nat} (h1 : 1 ≤ n) (hn : n ≤ 4) (x : Option Blk) (t : Nat) (ht : t < n) : t < 4 ∧ ∃ bi, [x, some (.ro (rvL Ls n 0)), some (.ro (rvL Ls n 1)), some (.ro (rvL Ls n 2)), some (.ro (rvL Ls n 3))].getD (t + 1) none = some bi ∧ bi.row = some (ePc.row (Ls (n - 1 - t))) := by
 refine ⟨by omega, .ro (rvL Ls n t), ?_, ?_⟩
 ·have h : t = 0 ∨ t = 1 ∨ t = 2 ∨ t = 3 := by omega
  rcases h with h | h | h | h <;> rw [h] <;> rfl
 ·show some (rvL Ls n t) = _
  unfold rvL
  rw [if_pos (by omega)]
structure Pre (b : Bx) (g : Nat → Pt → Int) (Ls : Nat → List Pc) (n : Nat) : Prop where
 h1 : 1 ≤ n
 hn : n ≤ 4
 he : b.emp = false
 hb : b.I64s
 pt : ∀ i, Part b (Ls i) (g i)
 hg : ∀ i p, I64 (g i p)
 len : ∀ i, (Ls i).length ≤ 5000
theorem pre_all {b : Bx} {g : Nat → Pt → Int} {Ls : Nat → List Pc} {n : Nat} (h : Pre b g Ls n) {o m c : Nat} {most : Int} (hom : m ≠ 0 → o + m ≤ n) (hc : m ≤ c) (hcm : c ≤ maxLen) (hm : most ≤ 100000) :
  ∀ R, R = allO Ls most o m → AllG 90 91 R [.slice (some ⟨90, o, none⟩) m c, .int .i64 most] [some (.ro (lsG Ls (fun _ => mk) (fun t => 91 + (n - 1 - t)) n)), some (.ro (rvL Ls n 0)), some (.ro (rvL Ls n 1)), some (.ro (rvL Ls n 2)), some (.ro (rvL Ls n 3))] := fun R hR =>
 ⟨n, o, m, c, most, Ls, fun _ => mk, fun t => n - 1 - t, b, g, rfl, hom, h.hn, ⟨_, rfl, rfl⟩, fun t ht => rows4 Ls h.h1 h.hn t ht, hc, hcm, h.he, h.pt, fun i => by have := h.len i; omega, hm, hR⟩
theorem pre_back {b : Bx} {g : Nat → Pt → Int} {Ls : Nat → List Pc} {n : Nat} (h : Pre b g Ls n) {c : Nat} (hc : n ≤ c) (hcm : c ≤ maxLen) :
  ∀ R, R = allN (fun i => Ls (n - 1 - i)) 5000 (n - 1) → AllG 95 91 R [.slice (some ⟨95, 0, none⟩) n c, .int .i64 5000] [some (.ro (lsG (fun j => Ls (n - 1 - j)) (fun _ => mk) (fun j => 91 + j) n)), some (.ro (rvL Ls n 0)), some (.ro (rvL Ls n 1)), some (.ro (rvL Ls n 2)), some (.ro (rvL Ls n 3))] := fun R hR =>
 ⟨n, 0, n, c, 5000, fun i => Ls (n - 1 - i), fun _ => mk, fun t => t, b, fun i => g (n - 1 - i), rfl, fun _ => by omega, h.hn, ⟨_, rfl, rfl⟩, fun t ht => rows4b Ls h.h1 h.hn _ t ht, hc, hcm, h.he, fun i => h.pt _, fun i => by have := h.len (n - 1 - i); show (Ls (n - 1 - i)).length ≤ 100000; omega, by decide, by
  obtain ⟨k, rfl⟩ : ∃ k, n = k + 1 := ⟨n - 1, by have := h.h1; omega⟩
  have e : (fun i => (fun i => Ls (k + 1 - 1 - i)) (0 + i)) = fun i => Ls (k + 1 - 1 - i) := by funext i; simp
  show R = allN (fun i => (fun i => Ls (k + 1 - 1 - i)) (0 + i)) 5000 k
  rw [e]; exact hR⟩
theorem allO_full (Ls : Nat → List Pc) (most : Int) {n : Nat} (h : 1 ≤ n) : allO Ls most 0 n = allN Ls most (n - 1) := by
 obtain ⟨k, rfl⟩ : ∃ k, n = k + 1 := ⟨n - 1, by omega⟩
 have e : (fun i => Ls (0 + i)) = Ls := by funext i; rw [Nat.zero_add]
 show allN (fun i => Ls (0 + i)) most k = _
 rw [e]; rfl
theorem ro_slice {n C lo hi : Nat} (h1 : lo ≤ hi) (h2 : hi ≤ n) (hc : n ≤ C) (hm : C ≤ maxLen) (loO hiO : Option Int) (hl : loO.getD 0 = (lo : Int)) (hh : hiO.getD (n : Int) = (hi : Int)) (b : Option Blk) : SlOK 1 90 0 n C loO hiO b (.slice (some ⟨90, if C = lo then 0 else lo, none⟩) (hi - lo) (C - lo)) := by
 refine ⟨lo, hi, hl, hh, h1, h2, Or.inr ⟨?_, hc, ?_⟩⟩
 ·have := small_cap hm
  exact Nat.not_le.1 fun h => by rw [Nat.ble_eq_true_of_le h] at this; exact absurd this (by simp)
 ·by_cases h : C = lo
  ·exact Or.inl ⟨h, by rw [if_pos h]⟩
  ·exact Or.inr ⟨h, by rw [if_neg h, Nat.zero_add, Nat.mul_one]⟩
theorem loopM (p : FP) (b0 : Bx) (PL : List Int → Bx → List Pc) {b : Bx} {g : Nat → Pt → Int} {Ls : Nat → List Pc} {n kk C1 : Nat} (h : Pre b g Ls n) (hC : n ≤ C1) (hCm : C1 ≤ maxLen) {X Y U V W : List Pc} (O : Orders b Ls (n - 1) kk X Y U V W) {E : Env} (hE : EnvOK E Try.prog Try.f9 3 64 (.bool true) [] []) :
  ∀ zz, QM (Mg.mergeL X) zz → Sat E (atLp (lp Try.f9 2)) ((g5L n Ls C1 X U V (Mg.mergeL X) (Mg.mergeL Y) (Mg.mergeL W) (mergeC X) (mergeC Y) (mergeC W) (QM (Mg.mergeL X))).st 0 zz) := by
 intro zz hz
 have ok : OKB (Mg.mergeL X) (mergeC X) := mg_ok X
 have hn := h.hn
 obtain ⟨ma, hma⟩ : ∃ ma, ma = Mg.mergeL X := ⟨_, rfl⟩
 obtain ⟨ca, hca⟩ : ∃ ca, ca = mergeC X := ⟨_, rfl⟩
 obtain ⟨mc, hmc⟩ : ∃ mc, mc = Mg.mergeL Y := ⟨_, rfl⟩
 obtain ⟨md, hmd⟩ : ∃ md, md = Mg.mergeL W := ⟨_, rfl⟩
 have hval := O.val
 have hml := O.ml
 rw [← hma, ← hmc, ← hmd] at hval hml
 rw [← hma] at ok hz
 rw [← hca] at ok
 rw [← hma, ← hmc, ← hmd, ← hca]
 generalize mergeC Y = cc
 generalize mergeC W = cd
 refine by_loop (g5L n Ls C1 X U V ma mc md ca cc cd (QM ma)) (lp Try.f9 2) (fun bb seen hinv J hJ => ?_) 0 zz hz
 show Sat E (inLp (lp Try.f9 2) J) ((g5L n Ls C1 X U V ma mc md ca cc cd (QM ma)).st 0 seen)
 have okL := g5L_ok hn Ls C1 X U V ma mc md ca cc cd (QM ma)
 have hinv : QM ma seen := hinv
 obtain ⟨q1, q2⟩ := hinv
 have hEn : 165 < E.n := by rw [hE.n]; decide
 refine sat_nextB (tx := 163) (t0 := 164) (t1 := 165) (j := 104) (k := 101) (since := ca) (c := ca) (clock := ca) (seen := seen) (lay := L10) (agg := true) (ek := some .i64) (es := esB ma) (by kernel_rfl) (by omega) hEn (by kernel_rfl) (by kernel_rfl) (by kernel_rfl) (fun e he => ?_) (Nat.le_refl _) (fun hall => ?_) (fun e he hne => ?_)
 ·obtain ⟨x, hx, rfl⟩ := List.mem_map.1 he
  exact ok.clock x hx
 ·have cU := Elt.canon0 (e := ePc) U
  have cV := Elt.canon0 (e := ePc) V
  have l1 := O.le
  have l2 := O.pos
  have hfull := O.full
  rw [← allO_full Ls _ h.h1] at hfull
  have w1 : IntKind.i64.wrap (Int.ofNat X.length - 1) = (X.length : Int) - 1 := by
   show IntKind.i64.wrap ((X.length : Int) - 1) = _
   exact wrap_id ⟨by omega, by omega⟩
  have w2 : Int.ofNat X.length ≤ 100000 := by show (X.length : Int) ≤ 100000; omega
  exact coZ p b0 PL n C1 Ls X U V ma mc md ca cc cd (QM ma) seen ((X.length : Int) - 1) J hE ⟨⟨rfl, rfl⟩, congrArg Value.bool (by simp [esB]; omega), congrArg Value.bool (by simp [esB]; omega), plain2 (Elt.row_pl _) (Elt.row_pl _), (by rw [cU.2, cV.2]; exact O.less), trivial, cU.1, cV.1, (by omega), (by omega), (by omega), congrArg _ w1, pre_all h (o := 0) (m := n) (most := Int.ofNat X.length) (fun _ => by omega) hC hCm w2 _ hfull.symm, rfl, trivial⟩
 ·obtain ⟨x, hx, rfl⟩ := List.mem_map.1 he
  have hne : x.s ∉ seen := hne
  obtain ⟨bo, v, s⟩ := x
  have hv := hval _ hx
  have hnd : (seen ++ [s]).Nodup := by
   rw [List.nodup_append]
   exact ⟨q1, by simp, fun a ha b hb => by simp at hb; subst hb; intro e; subst e; exact hne ha⟩
  have hsub : ∀ y ∈ seen ++ [s], y ∈ ma.map (·.s) := fun y hy => by
   rcases List.mem_append.1 hy with h | h
   ·exact q2 y h
   ·simp at h; subst h; exact List.mem_map.2 ⟨_, hx, rfl⟩
  have hcnt := nodup_len hnd hsub
  rw [List.length_append, List.length_map] at hcnt
  have hcnt : seen.length + 1 ≤ ma.length := hcnt
  have hfd : EntryOK (esB ma) (seen ++ [s]) ca ca (.tuple ⟨[kB bo, .int .i64 v]⟩) := ⟨rfl, EB.ent ⟨bo, v, s⟩, by simp [EB.ent], find_stamp ok.borns hx, rfl⟩
  have hlk : ∀ l : List EB, getK bo l = v → Value.int .i64 (mgetI (kB bo) (esB l)) = .int .i64 v := fun l hl => by rw [mget_esB, hl]
  have vv : (v != v) = false := by simp
  have rl := rnO (Ev.look []) n (fun k _ => rfl) hn Ls (fun _ => mk) (fun t => 91 + (n - 1 - t)) (fun t ht => by omega)
  exact coY p b0 PL n C1 Ls X U V ma mc md ca cc cd (QM ma) seen bo v s J hE okL ⟨rfl, ⟨seen ++ [s], ⟨hnd, hsub⟩, (by show ma.length - (seen ++ [s]).length < ma.length - seen.length; rw [List.length_append]; simp only [List.length_cons, List.length_nil]; omega), rfl, by simp only [g5L, List.map_cons, List.map_nil, rl, rnR, rnsT, rnM, rnI] <;> rfl⟩, congrArg Value.bool vv, hlk md hv.2, congrArg Value.bool vv, hlk mc hv.1, hfd, rfl, trivial⟩ fun zz h1 h2 => hJ 0 zz h1 h2
theorem main (p : FP) (b0 : Bx) (PL : List Int → Bx → List Pc) {b : Bx} {g : Nat → Pt → Int} {Ls : Nat → List Pc} {n C1 C2 : Nat} {ct : Int} (h : Pre b g Ls n) (hct : I64 ct) (hC : n ≤ C1) (hCm : C1 ≤ maxLen) (hC2 : n ≤ C2) (hCm2 : C2 ≤ maxLen) {E : Env} (hE : EnvOK E Try.prog Try.f9 3 64 (.bool true) [] []) :
  Sat E (fromR Try.f9 14) ((g2L n Ls C1 C2 ct).st 0 ()) := by
 have h1 := h.h1
 have hn := h.hn
 have idn : ∀ (l : List (Nat × Nat)), (∀ k, k < 95 → Ev.look l k = k) → Blk.rnB (Ev.look l) (.ro (lsG Ls (fun _ => mk) (fun t => 91 + (n - 1 - t)) n)) = .ro (lsG Ls (fun _ => mk) (fun t => 91 + (n - 1 - t)) n) := fun l hl => rnO _ n hl hn Ls (fun _ => mk) (fun t => 91 + (n - 1 - t)) (fun t ht => by omega)
 have lk : ∀ (l : List (Nat × Nat)), (∀ x ∈ l, 95 ≤ x.1) → ∀ k, k < 95 → Ev.look l k = k := fun l => by
  induction l with
  | nil => intro _ k _; rfl
  | cons x l ih =>
   intro hx k hk
   obtain ⟨a, c⟩ := x
   have ha : 95 ≤ a := hx _ (List.mem_cons_self ..)
   have : Nat.beq k a = false := by
    cases e : Nat.beq k a
    ·rfl
    ·have := Nat.eq_of_beq_eq_true e; omega
   simp only [Ev.look, this, cond_false]
   exact ih (fun y hy => hx y (List.mem_cons_of_mem _ hy)) k hk
 have e5 : Value.int .i64 (5000 : Int) = Value.int .i64 5000 := rfl
 rcases orders_none h.pt h.hg (k := n - 1) (by omega) with ⟨a1, a2⟩ | ⟨X, Y, a1, a2⟩
 ·rw [← allO_full Ls _ h1] at a1
  exact coN p b0 PL n C1 C2 ct Ls hE ⟨⟨rfl, rfl⟩, congrArg Value.bool (decide_eq_true (by omega)), pre_back h hC2 hCm2 none a2.symm, pre_all h (o := 0) (m := n) (fun _ => by omega) hC hCm (by decide) none a1.symm, trivial⟩
 ·obtain ⟨kk, hkk⟩ : ∃ kk : Nat, (kk : Int) = withinS ct 0 (n : Int) := ⟨(withinS ct 0 (n : Int)).toNat, by have := within_range ct (show (0 : Int) ≤ n by omega); omega⟩
  have hkn : kk ≤ n := by have := within_range ct (show (0 : Int) ≤ n by omega); omega
  obtain ⟨U, V, W, O⟩ := orders h.pt h.hg h.he h.hb (k := n - 1) (kk := kk) (by omega) (by omega) h.len a1 a2
  have l1 := O.le
  have l2 := O.pos
  have lens := O.lens
  rw [← allO_full Ls _ h1] at a1
  have hU := O.u
  have hV := O.v
  have en : n - 1 + 1 - kk = n - kk := by omega
  rw [en] at hV
  refine coX p b0 PL n C1 C2 kk ct Ls X Y hE (g3L_ok hn _ _ _ _ _) ⟨rfl, ⟨(), trivial, trivial, rfl, by simp only [g3L, List.map_cons, List.map_nil, idn [(96, 118), (97, 174)] (lk _ (by decide)), rnR, rnsT] <;> rfl⟩, congrArg _ hkk.symm, hct, by decide, (by omega), (by omega), congrArg Value.bool (beq_eq_false_iff_ne.2 (by omega)), pre_back h hC2 hCm2 (some Y) a2.symm, pre_all h (o := 0) (m := n) (fun _ => by omega) hC hCm (by decide) (some X) a1.symm, trivial⟩ fun zz _ _ => ?_
  have sU := ro_slice (n := n) (C := C1) (lo := 0) (hi := kk) (Nat.zero_le _) hkn hC hCm none (some (kk : Int)) rfl rfl (some (.ro (lsG Ls (fun _ => mk) (fun t => 91 + (n - 1 - t)) n)))
  have eU : Value.slice (some ⟨90, if C1 = 0 then 0 else 0, none⟩) (kk - 0) (C1 - 0) = .slice (some ⟨90, 0, none⟩) kk C1 := by simp
  rw [eU] at sU
  refine coU p b0 PL n C1 kk Ls X Y U hE (g4L_ok hn _ _ _ _ _ _) ⟨rfl, ⟨(), trivial, trivial, rfl, by simp only [g4L, List.map_cons, List.map_nil, idn [(98, 134)] (lk _ (by decide)), rnR, rnsT] <;> rfl⟩, pre_all h (o := 0) (m := kk) (fun _ => by omega) (by omega) hCm (by decide) (some U) hU.symm, sU, trivial⟩ fun zz _ _ => ?_
  have sV := ro_slice (n := n) (C := C1) (lo := kk) (hi := n) hkn (Nat.le_refl _) hC hCm (some (kk : Int)) none rfl rfl (some (.ro (lsG Ls (fun _ => mk) (fun t => 91 + (n - 1 - t)) n)))
  have cX := Elt.canon0 (e := ePc) X
  have cY := Elt.canon0 (e := ePc) Y
  have cU := Elt.canon0 (e := ePc) U
  have cV := Elt.canon0 (e := ePc) V
  have cW := Elt.canon0 (e := ePc) W
  have ml := O.ml
  have hw : W ≠ [] := by
   intro e
   have h0 := lens.2
   rw [e, List.length_nil] at h0
   omega
  have hall : AllG 90 91 (some V) [.slice (some ⟨90, if C1 = kk then 0 else kk, none⟩) (n - kk) (C1 - kk), .int .i64 5000] [some (.ro (lsG Ls (fun _ => mk) (fun t => 91 + (n - 1 - t)) n)), some (.ro (rvL Ls n 0)), some (.ro (rvL Ls n 1)), some (.ro (rvL Ls n 2)), some (.ro (rvL Ls n 3))] := by
   by_cases hc : C1 = kk
   ·have h0 : n - kk = 0 := by omega
    rw [if_pos hc]
    refine pre_all h (o := 0) (m := n - kk) (fun hne => absurd h0 hne) (by omega) (by omega) (by decide) (some V) ?_
    rw [h0] at hV ⊢
    exact hV.symm
   ·rw [if_neg hc]
    exact pre_all h (o := kk) (m := n - kk) (fun _ => by omega) (by omega) (by omega) (by decide) (some V) hV.symm
  refine coV p b0 PL Mg.mergeL mergeC n C1 kk (if C1 = kk then 0 else kk) (n - kk) (C1 - kk) Ls X Y U V W (QM (Mg.mergeL X)) hE (g5L_ok hn _ _ _ _ _ _ _ _ _ _ _ _) ⟨rfl, ⟨[], ⟨List.nodup_nil, fun x hx => by simp at hx⟩, trivial, rfl, by rw [cX.2, cY.2, cW.2]; simp only [g5L, List.map_cons, List.map_nil, idn [(99, 134), (101, 254), (102, 270), (103, 286), (104, 478)] (lk _ (by decide)), rnR, rnsT, rnM, rnI] <;> rfl⟩,
   congrArg Value.bool (by rw [cX.2]; simp [esB]; omega), congrArg Value.bool (by simp; omega), congrArg Value.bool (by simp; omega), plain1 (Elt.row_pl _), rfl, rfl, cW.1, (by omega), plain1 (Elt.row_pl _), rfl, rfl, cY.1, (by omega), plain1 (Elt.row_pl _), rfl, rfl, cX.1, (by omega), plain2 (Elt.row_pl _) (Elt.row_pl _), (by rw [cU.2, cV.2]; exact O.w), hw, cU.1, cV.1, (by omega), (by omega), by decide, hall, sV, trivial⟩ fun zz hz _ => loopM p b0 PL h hC hCm O hE zz hz
end Go.Proofs.Ythbaccmhdffjdaa.Co
namespace Go.Proofs.Ythbaccmhdffjdaa.Tc
open Go Go.RowKit Ev NodeE BoxF Lv Tr Within PickE Tn Fo Lp Cl Mt Tc
theorem endV_64 (ws : List Int) (x : Pt) : I64 (endV ws x) := by
 unfold endV
 split
 ·exact low32_64 _
 ·show I64 0; decide
theorem ls_len {D : FD} {PL : List Int → Bx → List Pc} (hP : PL = listP) (b : Bx) (i : Nat) : (lsF PL D.fp b i).length ≤ 5000 := by
 rw [lsF_is hP]
 have h1 := list_len5 (D.fp.W i) b
 obtain ⟨_, _, h2, h3⟩ := wd D i
 omega
end Go.Proofs.Ythbaccmhdffjdaa.Tc
namespace Go.Proofs.Ythbaccmhdffjdaa.Co
open Go Go.RowKit Ev NodeE BoxF Lv Tr Within PickE Tn Fo Lp Cl Mt Mg Tc Co
theorem lk2 : ∀ {l : List (Nat × Nat)}, (∀ x ∈ l, 80 ≤ x.1) → ∀ k, k < 80 → Ev.look l k = k
 | [], _, k, _ => rfl
 | (a, c) :: l, hx, k, hk => by
  have ha : 80 ≤ a := hx _ (List.mem_cons_self ..)
  have : Nat.beq k a = false := by
   cases e : Nat.beq k a
   ·rfl
   ·have := Nat.eq_of_beq_eq_true e; omega
  simp only [Ev.look, this, cond_false]
  exact lk2 (fun y hy => hx y (List.mem_cons_of_mem _ hy)) k hk
theorem loop1 {n : Nat} (p : FP) (b0 : Bx) (PL : List Int → Bx → List Pc) {b : Bx} {g : Nat → Pt → Int} {Ls : Nat → List Pc} {C1 : Nat} {ct : Int} (h : Pre b g Ls n) (hct : I64 ct) (hC : n ≤ C1) (hCm : C1 ≤ maxLen) {E : Env} (hE : EnvOK E Try.prog Try.f9 3 64 (.bool true) [] []) :
  Sat E (atLp (lp Try.f9 1)) ((g1L n Ls C1 ct (fun z => z ≤ n)).st 0 ()) := by
 have hn := h.hn
 have h1 := h.h1
 refine by_loop (g1L n Ls C1 ct (fun z => z ≤ n)) (lp Try.f9 1) ?_ 0 () (Nat.zero_le _)
 rintro z ⟨⟩ hinv J hJ
 have hz : z ≤ n := hinv
 have okG := g1L_ok hn Ls C1 ct (fun z => z ≤ n) (fun z hz => by have hz : z ≤ n := hz; omega)
 have hI := fun (f : Nat → Nat) (hf : ∀ k, k < 95 → f k = k) => rnO f n hf hn Ls (fun _ => mk) (fun t => 91 + (n - 1 - t)) (fun t ht => by omega)
 have l1 := hI (Ev.look [(95, 214)]) (fun k hk => by
  have : Nat.beq k 95 = false := by
   cases e : Nat.beq k 95
   ·rfl
   ·have := Nat.eq_of_beq_eq_true e; omega
  simp only [Ev.look, this, cond_false])
 have l0 := hI (Ev.look []) (fun k hk => rfl)
 have hrd : ∀ z, z < n → readPart Try.prog 28 (lsG Ls (fun _ => mk) (fun t => 91 + (n - 1 - t)) n) (0 + (((n - 1 - z : Nat) : Int)).toNat * 1) = some (.slice (some ⟨91 + z, 0, none⟩) (Ls (n - 1 - z)).length mk) := fun z hz => by
  have e : 0 + (((n - 1 - z : Nat) : Int)).toNat * 1 = n - 1 - z := by simp
  rw [e]
  refine read_at ?_ rfl
  unfold lsG
  rw [List.getElem?_map, List.getElem?_range (by omega)]
  have e2 : n - 1 - (n - 1 - z) = z := by omega
  show some (Value.slice (some ⟨91 + (n - 1 - (n - 1 - z)), 0, none⟩) _ _) = _
  rw [e2]
 have hix : ∀ z, z < n → (0 : Int) ≤ ((n - 1 - z : Nat) : Int) ∧ ((n - 1 - z : Nat) : Int) < (n : Int) := fun z hz => ⟨Int.natCast_nonneg _, by omega⟩
 have w1 : Value.int .i64 (IntKind.i64.wrap ((n : Int) - 1)) = .int .i64 ((n - 1 : Nat) : Int) := congrArg _ (by rw [wrap_id ⟨by omega, by omega⟩]; omega)
 have w2 : ∀ z : Nat, z < n → Value.int .i64 (IntKind.i64.wrap (((n - 1 : Nat) : Int) - (z : Int))) = .int .i64 ((n - 1 - z : Nat) : Int) := fun z hz => congrArg _ (by rw [wrap_id ⟨by omega, by omega⟩]; omega)
 have w3 : Value.int .i64 (IntKind.i64.wrap ((n - 1 : Nat) : Int)) = .int .i64 ((n - 1 - 0 : Nat) : Int) := congrArg _ (by rw [wrap_id ⟨by omega, by omega⟩]; omega)
 show Sat E (inLp (lp Try.f9 1) J) ((g1L n Ls C1 ct (fun z => z ≤ n)).st z ())
 by_cases hzn : z < n
 ·have h4 : z = 0 ∨ z = 1 ∨ z = 2 ∨ z = 3 := by omega
  rcases h4 with rfl | rfl | rfl | rfl
  ·exact coB0 p b0 PL n (n - 1 - 0) (n - 1) (Ls (n - 1 - 0)).length C1 ct Ls (fun z => z ≤ n) J hE okG ⟨rfl, ⟨(), (by show 1 ≤ n; omega), (by show n - 1 < n - 0; omega), rfl, (by simp only [g1L, FP.tbs, FP.nds, lbs, pcsB, bkb, List.range, List.range.loop, List.nil_append, List.append_nil, List.cons_append, List.map_cons, List.map_nil, rnwT, rnsT, l1, rnR] <;> rfl)⟩, hrd 0 hzn, hix 0 hzn, w3, w1, decide_eq_true (by omega), trivial⟩ fun zz g1 g2 => hJ 1 zz g1 g2
  ·exact coB1 p b0 PL n (n - 1 - 1) (n - 1) (Ls (n - 1 - 1)).length C1 ct Ls (fun z => z ≤ n) J hE okG ⟨rfl, ⟨(), (by show 2 ≤ n; omega), (by show n - 2 < n - 1; omega), rfl, (by simp only [g1L, FP.tbs, FP.nds, lbs, pcsB, bkb, List.range, List.range.loop, List.nil_append, List.append_nil, List.cons_append, List.map_cons, List.map_nil, rnwT, rnsT, l1, rnR] <;> rfl)⟩, hrd 1 hzn, hix 1 hzn, w2 1 hzn, w1, decide_eq_true (by omega), trivial⟩ fun zz g1 g2 => hJ 2 zz g1 g2
  ·exact coB2 p b0 PL n (n - 1 - 2) (n - 1) (Ls (n - 1 - 2)).length C1 ct Ls (fun z => z ≤ n) J hE okG ⟨rfl, ⟨(), (by show 3 ≤ n; omega), (by show n - 3 < n - 2; omega), rfl, (by simp only [g1L, FP.tbs, FP.nds, lbs, pcsB, bkb, List.range, List.range.loop, List.nil_append, List.append_nil, List.cons_append, List.map_cons, List.map_nil, rnwT, rnsT, l1, rnR] <;> rfl)⟩, hrd 2 hzn, hix 2 hzn, w2 2 hzn, w1, decide_eq_true (by omega), trivial⟩ fun zz g1 g2 => hJ 3 zz g1 g2
  ·exact coB3 p b0 PL n (n - 1 - 3) (n - 1) (Ls (n - 1 - 3)).length C1 ct Ls (fun z => z ≤ n) J hE okG ⟨rfl, ⟨(), (by show 4 ≤ n; omega), (by show n - 4 < n - 3; omega), rfl, (by simp only [g1L, FP.tbs, FP.nds, lbs, pcsB, bkb, List.range, List.range.loop, List.nil_append, List.append_nil, List.cons_append, List.map_cons, List.map_nil, rnwT, rnsT, l1, rnR] <;> rfl)⟩, hrd 3 hzn, hix 3 hzn, w2 3 hzn, w1, decide_eq_true (by omega), trivial⟩ fun zz g1 g2 => hJ 4 zz g1 g2
 ·obtain ⟨k, rfl⟩ : ∃ k, n = k + 1 := ⟨n - 1, by omega⟩
  obtain rfl : z = k + 1 := by omega
  refine coBS p b0 PL (k + 1) k C1 ct Ls (fun z => z ≤ k + 1) J hE (g2V_ok hn _ _ _) ⟨rfl, ⟨(), trivial, trivial, rfl, ?_⟩, decide_eq_false (by omega), trivial⟩ fun zz _ _ => gen2 Ls C1 ct fun C2 c1 c2 => main p b0 PL h hct hC hCm c1 c2 hE
  have l2 := rnV (Ev.look []) (k + 1) (fun k hk => rfl) hn (fun j => Ls (k + 1 - 1 - j)) (fun _ => mk) (fun j => 91 + j) (fun t ht => by omega)
  simp only [g2V, List.map_cons, List.map_nil, l0, l2, rnR] <;> rfl
theorem pre_of {D : FD} {PL : List Int → Bx → List Pc} (hP : PL = listP) {b : Bx} (he : b.emp = false) (hb : b.I64s) {n : Nat} (h1 : 1 ≤ n) (hn : n ≤ 4) : Pre b (fun i => endV (D.fp.W i)) (lsF PL D.fp b) n :=
 ⟨h1, hn, he, hb, fun i => by rw [lsF_is hP]; exact list_part (wd D i).1 he, fun i p => endV_64 _ _, fun i => ls_len hP b i⟩
theorem loop0_1 {D : FD} (b : Bx) (PL : List Int → Bx → List Pc) (hP : PL = listP) (hbe : b.emp = false) (hb64 : b.I64s) {ct : Int} (hct : I64 ct) {E : Env} (hE : EnvOK E Try.prog Try.f9 3 64 (.bool true) [] []) : Sat E (atLp (lp Try.f9 0)) ((g0L D.fp 1 b ct (lsF PL D.fp b) (fun z => z ≤ 1)).st 0 ()) := by
 refine by_loop (g0L D.fp 1 b ct (lsF PL D.fp b) (fun z => z ≤ 1)) (lp Try.f9 0) ?_ 0 () (Nat.zero_le _)
 rintro z ⟨⟩ hinv J hJ
 have hz : z ≤ 1 := hinv
 have okG := g0L_ok (n := 1) (by decide) D.fp b ct (lsF PL D.fp b) (fun z => z ≤ 1) (fun z h => by have h : z ≤ 1 := h; omega)
 have row : ∀ z, eWord.Row (eWord.row (D.fp.W z)) 0 (D.fp.l z) ∧ eWord.list (eWord.row (D.fp.W z)) 0 (D.fp.l z) = D.fp.W z := fun z => by
  rw [(wd D z).2.2.1]; exact Elt.canon0 (e := eWord) _
 have hne : ∀ z, PL (eWord.list (eWord.row (D.fp.W z)) 0 (D.fp.l z)) b ≠ [] := fun z => by rw [(row z).2, hP]; exact list_ne (wd D z).1 hbe
 have uX : ∀ z, ∀ w ∈ eWord.list (eWord.row (D.fp.W z)) 0 (D.fp.l z), U64 w := fun z => by rw [(row z).2]; exact (wd D z).2.1
 have rt := fun (f : Nat → Nat) (hf : ∀ k, k < 80 → f k = k) => rnT f D.fp (n := 1) (by decide) hf
 show Sat E (inLp (lp Try.f9 0) J) ((g0L D.fp 1 b ct (lsF PL D.fp b) (fun z => z ≤ 1)).st z ())
 have h5 : z = 0 ∨ z = 1 := by omega
 rcases h5 with rfl | rfl
 ·have r0 := rt (Ev.look [(90, 198), (91, 182)]) (fun k hk => lk2 (by decide) k hk)
  exact coA0 D.fp b PL 1 ct (lsF PL D.fp b) (fun z => z ≤ 1) J hE okG ⟨rfl, ⟨(), (by show 1 ≤ 1; decide), (by show 1 - 1 < 1 - 0; decide), rfl, (by simp only [g0L, FP.tbs, FP.nds, lbs, pcsB, bkb, List.range, List.range.loop, List.nil_append, List.append_nil, List.cons_append, List.map_cons, List.map_nil, rnwT, rnsT, r0, rnN] <;> rfl)⟩, plain1 (Elt.row_pl _), hP, hne 0, (row 0).1, uX 0, (by have := (wd D 0).2.2.2; omega), hb64, tcs10 D.fp, ⟨by decide, by decide⟩, by decide, trivial⟩ fun zz g1 g2 => hJ 1 zz g1 g2
 ·exact coS1 D.fp b PL ct (lsF PL D.fp b) (fun z => z ≤ 1) J hE (h1L_ok (by decide) _ _) ⟨rfl, ⟨(), trivial, trivial, rfl, (by simp only [h1L, FP.tbs, FP.nds, lbs, pcsB, bkb, List.range, List.range.loop, List.nil_append, List.append_nil, List.cons_append, List.map_cons, List.map_nil, rnwT, rnsT] <;> rfl)⟩, rfl, trivial⟩ fun zz _ _ => gen1_1 _ ct (fun z => z ≤ 1) (fun k hk => hE.A k hk) fun C1 c1 c2 => loop1 D.fp b PL (pre_of hP hbe hb64 (by decide) (by decide)) hct c1 c2 hE
theorem loop0_2 {D : FD} (b : Bx) (PL : List Int → Bx → List Pc) (hP : PL = listP) (hbe : b.emp = false) (hb64 : b.I64s) {ct : Int} (hct : I64 ct) {E : Env} (hE : EnvOK E Try.prog Try.f9 3 64 (.bool true) [] []) : Sat E (atLp (lp Try.f9 0)) ((g0L D.fp 2 b ct (lsF PL D.fp b) (fun z => z ≤ 2)).st 0 ()) := by
 refine by_loop (g0L D.fp 2 b ct (lsF PL D.fp b) (fun z => z ≤ 2)) (lp Try.f9 0) ?_ 0 () (Nat.zero_le _)
 rintro z ⟨⟩ hinv J hJ
 have hz : z ≤ 2 := hinv
 have okG := g0L_ok (n := 2) (by decide) D.fp b ct (lsF PL D.fp b) (fun z => z ≤ 2) (fun z h => by have h : z ≤ 2 := h; omega)
 have row : ∀ z, eWord.Row (eWord.row (D.fp.W z)) 0 (D.fp.l z) ∧ eWord.list (eWord.row (D.fp.W z)) 0 (D.fp.l z) = D.fp.W z := fun z => by
  rw [(wd D z).2.2.1]; exact Elt.canon0 (e := eWord) _
 have hne : ∀ z, PL (eWord.list (eWord.row (D.fp.W z)) 0 (D.fp.l z)) b ≠ [] := fun z => by rw [(row z).2, hP]; exact list_ne (wd D z).1 hbe
 have uX : ∀ z, ∀ w ∈ eWord.list (eWord.row (D.fp.W z)) 0 (D.fp.l z), U64 w := fun z => by rw [(row z).2]; exact (wd D z).2.1
 have rt := fun (f : Nat → Nat) (hf : ∀ k, k < 80 → f k = k) => rnT f D.fp (n := 2) (by decide) hf
 show Sat E (inLp (lp Try.f9 0) J) ((g0L D.fp 2 b ct (lsF PL D.fp b) (fun z => z ≤ 2)).st z ())
 have h5 : z = 0 ∨ z = 1 ∨ z = 2 := by omega
 rcases h5 with rfl | rfl | rfl
 ·have r0 := rt (Ev.look [(90, 198), (91, 182)]) (fun k hk => lk2 (by decide) k hk)
  exact coA0 D.fp b PL 2 ct (lsF PL D.fp b) (fun z => z ≤ 2) J hE okG ⟨rfl, ⟨(), (by show 1 ≤ 2; decide), (by show 2 - 1 < 2 - 0; decide), rfl, (by simp only [g0L, FP.tbs, FP.nds, lbs, pcsB, bkb, List.range, List.range.loop, List.nil_append, List.append_nil, List.cons_append, List.map_cons, List.map_nil, rnwT, rnsT, r0, rnN] <;> rfl)⟩, plain1 (Elt.row_pl _), hP, hne 0, (row 0).1, uX 0, (by have := (wd D 0).2.2.2; omega), hb64, tcs20 D.fp, ⟨by decide, by decide⟩, by decide, trivial⟩ fun zz g1 g2 => hJ 1 zz g1 g2
 ·have r0 := rt (Ev.look [(90, 198), (92, 182)]) (fun k hk => lk2 (by decide) k hk)
  exact coA1 D.fp b PL 2 ct (lsF PL D.fp b) (fun z => z ≤ 2) J hE okG ⟨rfl, ⟨(), (by show 2 ≤ 2; decide), (by show 2 - 2 < 2 - 1; decide), rfl, (by simp only [g0L, FP.tbs, FP.nds, lbs, pcsB, bkb, List.range, List.range.loop, List.nil_append, List.append_nil, List.cons_append, List.map_cons, List.map_nil, rnwT, rnsT, r0, rnN] <;> rfl)⟩, plain1 (Elt.row_pl _), hP, hne 1, (row 1).1, uX 1, (by have := (wd D 1).2.2.2; omega), hb64, tcs21 D.fp, ⟨by decide, by decide⟩, by decide, trivial⟩ fun zz g1 g2 => hJ 2 zz g1 g2
 ·exact coS2 D.fp b PL ct (lsF PL D.fp b) (fun z => z ≤ 2) J hE (h1L_ok (by decide) _ _) ⟨rfl, ⟨(), trivial, trivial, rfl, (by simp only [h1L, FP.tbs, FP.nds, lbs, pcsB, bkb, List.range, List.range.loop, List.nil_append, List.append_nil, List.cons_append, List.map_cons, List.map_nil, rnwT, rnsT] <;> rfl)⟩, rfl, trivial⟩ fun zz _ _ => gen1_2 _ ct (fun z => z ≤ 2) (fun k hk => hE.A k hk) fun C1 c1 c2 => loop1 D.fp b PL (pre_of hP hbe hb64 (by decide) (by decide)) hct c1 c2 hE
theorem loop0_3 {D : FD} (b : Bx) (PL : List Int → Bx → List Pc) (hP : PL = listP) (hbe : b.emp = false) (hb64 : b.I64s) {ct : Int} (hct : I64 ct) {E : Env} (hE : EnvOK E Try.prog Try.f9 3 64 (.bool true) [] []) : Sat E (atLp (lp Try.f9 0)) ((g0L D.fp 3 b ct (lsF PL D.fp b) (fun z => z ≤ 3)).st 0 ()) := by
 refine by_loop (g0L D.fp 3 b ct (lsF PL D.fp b) (fun z => z ≤ 3)) (lp Try.f9 0) ?_ 0 () (Nat.zero_le _)
 rintro z ⟨⟩ hinv J hJ
 have hz : z ≤ 3 := hinv
 have okG := g0L_ok (n := 3) (by decide) D.fp b ct (lsF PL D.fp b) (fun z => z ≤ 3) (fun z h => by have h : z ≤ 3 := h; omega)
 have row : ∀ z, eWord.Row (eWord.row (D.fp.W z)) 0 (D.fp.l z) ∧ eWord.list (eWord.row (D.fp.W z)) 0 (D.fp.l z) = D.fp.W z := fun z => by
  rw [(wd D z).2.2.1]; exact Elt.canon0 (e := eWord) _
 have hne : ∀ z, PL (eWord.list (eWord.row (D.fp.W z)) 0 (D.fp.l z)) b ≠ [] := fun z => by rw [(row z).2, hP]; exact list_ne (wd D z).1 hbe
 have uX : ∀ z, ∀ w ∈ eWord.list (eWord.row (D.fp.W z)) 0 (D.fp.l z), U64 w := fun z => by rw [(row z).2]; exact (wd D z).2.1
 have rt := fun (f : Nat → Nat) (hf : ∀ k, k < 80 → f k = k) => rnT f D.fp (n := 3) (by decide) hf
 show Sat E (inLp (lp Try.f9 0) J) ((g0L D.fp 3 b ct (lsF PL D.fp b) (fun z => z ≤ 3)).st z ())
 have h5 : z = 0 ∨ z = 1 ∨ z = 2 ∨ z = 3 := by omega
 rcases h5 with rfl | rfl | rfl | rfl
 ·have r0 := rt (Ev.look [(90, 198), (91, 182)]) (fun k hk => lk2 (by decide) k hk)
  exact coA0 D.fp b PL 3 ct (lsF PL D.fp b) (fun z => z ≤ 3) J hE okG ⟨rfl, ⟨(), (by show 1 ≤ 3; decide), (by show 3 - 1 < 3 - 0; decide), rfl, (by simp only [g0L, FP.tbs, FP.nds, lbs, pcsB, bkb, List.range, List.range.loop, List.nil_append, List.append_nil, List.cons_append, List.map_cons, List.map_nil, rnwT, rnsT, r0, rnN] <;> rfl)⟩, plain1 (Elt.row_pl _), hP, hne 0, (row 0).1, uX 0, (by have := (wd D 0).2.2.2; omega), hb64, tcs30 D.fp, ⟨by decide, by decide⟩, by decide, trivial⟩ fun zz g1 g2 => hJ 1 zz g1 g2
 ·have r0 := rt (Ev.look [(90, 198), (92, 182)]) (fun k hk => lk2 (by decide) k hk)
  exact coA1 D.fp b PL 3 ct (lsF PL D.fp b) (fun z => z ≤ 3) J hE okG ⟨rfl, ⟨(), (by show 2 ≤ 3; decide), (by show 3 - 2 < 3 - 1; decide), rfl, (by simp only [g0L, FP.tbs, FP.nds, lbs, pcsB, bkb, List.range, List.range.loop, List.nil_append, List.append_nil, List.cons_append, List.map_cons, List.map_nil, rnwT, rnsT, r0, rnN] <;> rfl)⟩, plain1 (Elt.row_pl _), hP, hne 1, (row 1).1, uX 1, (by have := (wd D 1).2.2.2; omega), hb64, tcs31 D.fp, ⟨by decide, by decide⟩, by decide, trivial⟩ fun zz g1 g2 => hJ 2 zz g1 g2
 ·have r0 := rt (Ev.look [(90, 198), (93, 182)]) (fun k hk => lk2 (by decide) k hk)
  exact coA2 D.fp b PL 3 ct (lsF PL D.fp b) (fun z => z ≤ 3) J hE okG ⟨rfl, ⟨(), (by show 3 ≤ 3; decide), (by show 3 - 3 < 3 - 2; decide), rfl, (by simp only [g0L, FP.tbs, FP.nds, lbs, pcsB, bkb, List.range, List.range.loop, List.nil_append, List.append_nil, List.cons_append, List.map_cons, List.map_nil, rnwT, rnsT, r0, rnN] <;> rfl)⟩, plain1 (Elt.row_pl _), hP, hne 2, (row 2).1, uX 2, (by have := (wd D 2).2.2.2; omega), hb64, tcs32 D.fp, ⟨by decide, by decide⟩, by decide, trivial⟩ fun zz g1 g2 => hJ 3 zz g1 g2
 ·exact coS3 D.fp b PL ct (lsF PL D.fp b) (fun z => z ≤ 3) J hE (h1L_ok (by decide) _ _) ⟨rfl, ⟨(), trivial, trivial, rfl, (by simp only [h1L, FP.tbs, FP.nds, lbs, pcsB, bkb, List.range, List.range.loop, List.nil_append, List.append_nil, List.cons_append, List.map_cons, List.map_nil, rnwT, rnsT] <;> rfl)⟩, rfl, trivial⟩ fun zz _ _ => gen1_3 _ ct (fun z => z ≤ 3) (fun k hk => hE.A k hk) fun C1 c1 c2 => loop1 D.fp b PL (pre_of hP hbe hb64 (by decide) (by decide)) hct c1 c2 hE
theorem loop0_4 {D : FD} (b : Bx) (PL : List Int → Bx → List Pc) (hP : PL = listP) (hbe : b.emp = false) (hb64 : b.I64s) {ct : Int} (hct : I64 ct) {E : Env} (hE : EnvOK E Try.prog Try.f9 3 64 (.bool true) [] []) : Sat E (atLp (lp Try.f9 0)) ((g0L D.fp 4 b ct (lsF PL D.fp b) (fun z => z ≤ 4)).st 0 ()) := by
 refine by_loop (g0L D.fp 4 b ct (lsF PL D.fp b) (fun z => z ≤ 4)) (lp Try.f9 0) ?_ 0 () (Nat.zero_le _)
 rintro z ⟨⟩ hinv J hJ
 have hz : z ≤ 4 := hinv
 have okG := g0L_ok (n := 4) (by decide) D.fp b ct (lsF PL D.fp b) (fun z => z ≤ 4) (fun z h => by have h : z ≤ 4 := h; omega)
 have row : ∀ z, eWord.Row (eWord.row (D.fp.W z)) 0 (D.fp.l z) ∧ eWord.list (eWord.row (D.fp.W z)) 0 (D.fp.l z) = D.fp.W z := fun z => by
  rw [(wd D z).2.2.1]; exact Elt.canon0 (e := eWord) _
 have hne : ∀ z, PL (eWord.list (eWord.row (D.fp.W z)) 0 (D.fp.l z)) b ≠ [] := fun z => by rw [(row z).2, hP]; exact list_ne (wd D z).1 hbe
 have uX : ∀ z, ∀ w ∈ eWord.list (eWord.row (D.fp.W z)) 0 (D.fp.l z), U64 w := fun z => by rw [(row z).2]; exact (wd D z).2.1
 have rt := fun (f : Nat → Nat) (hf : ∀ k, k < 80 → f k = k) => rnT f D.fp (n := 4) (by decide) hf
 show Sat E (inLp (lp Try.f9 0) J) ((g0L D.fp 4 b ct (lsF PL D.fp b) (fun z => z ≤ 4)).st z ())
 have h5 : z = 0 ∨ z = 1 ∨ z = 2 ∨ z = 3 ∨ z = 4 := by omega
 rcases h5 with rfl | rfl | rfl | rfl | rfl
 ·have r0 := rt (Ev.look [(90, 198), (91, 182)]) (fun k hk => lk2 (by decide) k hk)
  exact coA0 D.fp b PL 4 ct (lsF PL D.fp b) (fun z => z ≤ 4) J hE okG ⟨rfl, ⟨(), (by show 1 ≤ 4; decide), (by show 4 - 1 < 4 - 0; decide), rfl, (by simp only [g0L, FP.tbs, FP.nds, lbs, pcsB, bkb, List.range, List.range.loop, List.nil_append, List.append_nil, List.cons_append, List.map_cons, List.map_nil, rnwT, rnsT, r0, rnN] <;> rfl)⟩, plain1 (Elt.row_pl _), hP, hne 0, (row 0).1, uX 0, (by have := (wd D 0).2.2.2; omega), hb64, tcs40 D.fp, ⟨by decide, by decide⟩, by decide, trivial⟩ fun zz g1 g2 => hJ 1 zz g1 g2
 ·have r0 := rt (Ev.look [(90, 198), (92, 182)]) (fun k hk => lk2 (by decide) k hk)
  exact coA1 D.fp b PL 4 ct (lsF PL D.fp b) (fun z => z ≤ 4) J hE okG ⟨rfl, ⟨(), (by show 2 ≤ 4; decide), (by show 4 - 2 < 4 - 1; decide), rfl, (by simp only [g0L, FP.tbs, FP.nds, lbs, pcsB, bkb, List.range, List.range.loop, List.nil_append, List.append_nil, List.cons_append, List.map_cons, List.map_nil, rnwT, rnsT, r0, rnN] <;> rfl)⟩, plain1 (Elt.row_pl _), hP, hne 1, (row 1).1, uX 1, (by have := (wd D 1).2.2.2; omega), hb64, tcs41 D.fp, ⟨by decide, by decide⟩, by decide, trivial⟩ fun zz g1 g2 => hJ 2 zz g1 g2
 ·have r0 := rt (Ev.look [(90, 198), (93, 182)]) (fun k hk => lk2 (by decide) k hk)
  exact coA2 D.fp b PL 4 ct (lsF PL D.fp b) (fun z => z ≤ 4) J hE okG ⟨rfl, ⟨(), (by show 3 ≤ 4; decide), (by show 4 - 3 < 4 - 2; decide), rfl, (by simp only [g0L, FP.tbs, FP.nds, lbs, pcsB, bkb, List.range, List.range.loop, List.nil_append, List.append_nil, List.cons_append, List.map_cons, List.map_nil, rnwT, rnsT, r0, rnN] <;> rfl)⟩, plain1 (Elt.row_pl _), hP, hne 2, (row 2).1, uX 2, (by have := (wd D 2).2.2.2; omega), hb64, tcs42 D.fp, ⟨by decide, by decide⟩, by decide, trivial⟩ fun zz g1 g2 => hJ 3 zz g1 g2
 ·have r0 := rt (Ev.look [(90, 198), (94, 182)]) (fun k hk => lk2 (by decide) k hk)
  exact coA3 D.fp b PL 4 ct (lsF PL D.fp b) (fun z => z ≤ 4) J hE okG ⟨rfl, ⟨(), (by show 4 ≤ 4; decide), (by show 4 - 4 < 4 - 3; decide), rfl, (by simp only [g0L, FP.tbs, FP.nds, lbs, pcsB, bkb, List.range, List.range.loop, List.nil_append, List.append_nil, List.cons_append, List.map_cons, List.map_nil, rnwT, rnsT, r0, rnN] <;> rfl)⟩, plain1 (Elt.row_pl _), hP, hne 3, (row 3).1, uX 3, (by have := (wd D 3).2.2.2; omega), hb64, tcs43 D.fp, ⟨by decide, by decide⟩, by decide, trivial⟩ fun zz g1 g2 => hJ 4 zz g1 g2
 ·exact coS4 D.fp b PL ct (lsF PL D.fp b) (fun z => z ≤ 4) J hE (h1L_ok (by decide) _ _) ⟨rfl, ⟨(), trivial, trivial, rfl, (by simp only [h1L, FP.tbs, FP.nds, lbs, pcsB, bkb, List.range, List.range.loop, List.nil_append, List.append_nil, List.cons_append, List.map_cons, List.map_nil, rnwT, rnsT] <;> rfl)⟩, rfl, trivial⟩ fun zz _ _ => gen1_4 _ ct (fun z => z ≤ 4) (fun k hk => hE.A k hk) fun C1 c1 c2 => loop1 D.fp b PL (pre_of hP hbe hb64 (by decide) (by decide)) hct c1 c2 hE
end Go.Proofs.Ythbaccmhdffjdaa.Co
namespace Go.Proofs.Ythbaccmhdffjdaa.Co
open Go Go.RowKit Ev NodeE BoxF Lv Tr Within PickE Tn Fo Lp Cl Mt Mg Tc Co
def w1L (ct : Int) (bf : Blk) : LoopF Unit where
 ts _ := [1, 2, 3]
 hs _ := [80]
 tv _ _ := [.slice none 0 0, .int .i64 ct, ptr 80]
 hv _ _ := [bf]
 inv _ _ := True
 mu _ _ := 0
 nx := 82
theorem w1L_ok (ct : Int) (bf : Blk) (h2 : bf.plain) : (w1L ct bf).OK 0 := by
 refine ⟨(by decide : 0 ≤ 82), fun z i h k hk => ?_, fun z i h v hv k hk => ?_, fun z i h y hy => ?_⟩
 ·show k < 82
  simp [w1L] at hk; omega
 ·show k < 82
  simp only [w1L, ptr, List.mem_cons, List.not_mem_nil, or_false] at hv
  rcases hv with rfl | rfl | rfl <;> simp [nms, nm1, nm0] at hk <;> omega
 ·simp only [w1L, List.mem_cons, List.not_mem_nil, or_false] at hy
  subst hy
  exact h2.namesLt _
def w2L (ct d cl : Int) : LoopF Unit where
 ts _ := [1, 2, 3]
 hs _ := [0, 1, 2, 3, 4, 5, 6, 7, 8, 9, 10, 11, 12, 13, 14, 15, 16, 17, 18, 19, 20, 21, 22, 23, 80]
 tv _ _ := [.slice none 0 0, .int .i64 ct, ptr 80]
 hv _ _ := [.ro [], .ro [], .ro [], .ro [], .ro [], .ro [], .ro [], .ro [], .ro [], .ro [], .ro [], .ro [], .ro [], .ro [], .ro [], .ro [], .ro [], .ro [], .ro [], .ro [], .ro [], .ro [], .ro [], .ro [], .ro (zfc d cl)]
 inv _ _ := True
 mu _ _ := 0
 nx := 82
end Go.Proofs.Ythbaccmhdffjdaa.Co
namespace Go.Proofs.Ythbaccmhdffjdaa.Co
open Go Go.RowKit Ev NodeE BoxF Lv Tr Within PickE Tn Fo Lp Cl Mt Mg Tc Co
theorem cwZ1 (d cl ct : Int)  {E rv rhs rhv} (hE : EnvOK E Try.prog Try.f9 3 0 rv rhs rhv) (hL : (w1L ct (.cells (zfc d cl) 61)).OK 0) (hob : all ([SameK (fromR Try.f9 1) (fromR Try.f9 1), Enter (w1L ct (Blk.cells (zfc d cl) 61)) 0 none [.slice none 0 0, .int .i64 ct, .pointer (some (Addr.mk 0 0 none))] [Blk.cells [.int .i64 d, .int .i64 cl, .slice none 0 0, .slice none 0 0] 61] [(80, 0)]])) (hK : ∀ zz, (w1L ct (.cells (zfc d cl) 61)).inv 0 zz → ltO ((w1L ct (.cells (zfc d cl) 61)).mu 0 zz) none → Sat E (fromR Try.f9 1) ((w1L ct (.cells (zfc d cl) 61)).st 0 zz)) : Sat E [.code (bodyOf Try.f9)] (st0 Try.f9 [.agg ⟨[.int .i64 d, .int .i64 cl, .slice none 0 0, .slice none 0 0]⟩, .slice none 0 0, .int .i64 ct] (roRows []) 0) :=
 by_to (T := auto0 t_none) (h := hints []) (ws := [.at 1]) (i0 := ()) hE hm (auto0_ok t_none_ok) hL (by kernel_rfl) hob hK
theorem cwZ2 (p : FP) (b : Bx) (PL : List Int → Bx → List Pc) (d cl ct : Int)  {E : Env} (hE : EnvOK E Try.prog Try.f9 3 64 (.bool true) [] []) (hob : all ([Back (Value.bool true) (Value.bool true) [] [] [], plainR [], plainR [], RegOK b 18 [.agg (Array.mk [.int .i64 p.dim, .int .i64 p.cls, .int .i64 p.b0, .int .i64 p.b1, .int .i64 p.b2, .slice none 0 0]), .slice none 0 0] (some (Blk.ro [])), ModOK p 0 [.agg (Array.mk [.int .i64 d, .int .i64 cl, .slice none 0 0, .slice none 0 0])] [some (Blk.ro []), some (Blk.ro []), some (Blk.ro []), some (Blk.ro []), some (Blk.ro []), some (Blk.ro []), some (Blk.ro []), some (Blk.ro []), some (Blk.ro []), some (Blk.ro []), some (Blk.ro []), some (Blk.ro []), some (Blk.ro []), some (Blk.ro []), some (Blk.ro []), some (Blk.ro []), some (Blk.ro []), some (Blk.ro [])]])) : Sat E (fromR Try.f9 1) ((w2L ct d cl).st 0 ()) :=
 by_ret (T := auto0 (t_co p 0 b PL none none MR.few mergeL mergeC)) (h := hints []) (ws := []) (nx' := 64) hE hm (auto0_ok (t_co_ok p 0 b PL none none MR.few mergeL mergeC)) (by omega) (by simp) (by simp) (by kernel_rfl) hob
end Go.Proofs.Ythbaccmhdffjdaa.Co
namespace Go.Proofs.Ythbaccmhdffjdaa.WkCliqueOrder
open Go Go.RowKit Ev NodeE BoxF Lv Tr Within PickE Tn Fo Lp Cl Mt Mg Tc Co
theorem spec {D : FD} (ok : D.OK) {zt : Option Addr} (hz : ztOK D zt) {ct : Int} (hct : I64 ct) :
  CallSpec Try.prog 9 [.agg ⟨D.fp.fcs zt⟩, (D.rw 18).v 18, .int .i64 ct] (roRows [D.fp.cs0, D.fp.R 1, D.fp.R 2, D.fp.R 3, D.fp.R 4, D.fp.R 5, D.fp.R 6, D.fp.R 7, D.fp.R 8, D.fp.R 9, D.fp.R 10, D.fp.R 11, D.fp.R 12, D.fp.R 13, D.fp.R 14, D.fp.R 15, D.fp.R 16, D.fp.R 17, D.fp.R 18, D.fp.R 19, D.fp.R 20, D.fp.R 21, D.fp.R 22, D.fp.R 23]) 64 (.bool true) (assocN [] []) := by
 refine spec_of_sat Try.func9 rfl fun E hE => ?_
 rw [← FD.sv18 ok (k := 18) (by decide)]
 have hd := within_range D.d (show (1 : Int) ≤ 3 by decide)
 obtain ⟨h1, h3⟩ := hd
 obtain ⟨K, hK⟩ : ∃ K, K = min D.n 4 := ⟨_, rfl⟩
 obtain ⟨PL, hP⟩ : ∃ PL : List Int → Bx → List Pc, PL = listP := ⟨_, rfl⟩
 obtain ⟨b, hb⟩ : ∃ b, b = regI (D.rw 18).l (withinS D.d 1 3) := ⟨_, rfl⟩
 have hin : b.In (insI [] b) 0 := by rw [hb]; exact ins_in _ _ _
 have hb64 : b.I64s := by rw [hb]; exact reg_I64s _ _
 have rOK := fun (zm : Option Addr) (hz : zm = none ∨ ∃ j, zm = some ⟨j, 0, none⟩) (lm cm : Nat) (c0 b0 b1 b2 : Int) => regOK (c0 := c0) (b0 := b0) (b1 := b1) (b2 := b2) ok h1 h3 hz lm cm (show 18 ≤ 18 by decide)
 simp only [← hb] at rOK
 have h5 : K = 0 ∨ K = 1 ∨ K = 2 ∨ K = 3 ∨ K = 4 := by omega
 rcases h5 with rfl | rfl | rfl | rfl | rfl
 ·exact coE0 D.fp b PL zt ct hE ⟨⟨rfl, rfl⟩, (fun y hy => by simp at hy), (fun y hy => by simp at hy), rOK _ (Or.inl rfl) _ _ _ _ _ _, modOK ok hz hK rfl, trivial⟩
 ·obtain rfl : zt = some ⟨0, 0, none⟩ := by
   rcases hz with h | ⟨_, h⟩
   ·exact h
   ·omega
  exact coIn1 D.fp b PL (some ⟨0, 0, none⟩) ct hE (f0L_ok (by decide) _ _ _) ⟨rfl, ⟨(), trivial, trivial, rfl, (by simp only [f0L, FP.tbs, FP.nds, List.nil_append, List.append_nil, List.cons_append, List.map_cons, List.map_nil, rnwT] <;> rfl)⟩, rOK _ (Or.inr ⟨_, rfl⟩) _ _ _ _ _ _, modOK ok hz hK rfl, trivial⟩ fun zz _ _ => gen0_1 D.fp b ct (lsF PL D.fp b) (fun z => z ≤ 1) (fun k hk => hE.A k hk) (loop0_1 b PL hP (in_emp hin) hb64 hct hE)
 ·obtain rfl : zt = some ⟨0, 0, none⟩ := by
   rcases hz with h | ⟨_, h⟩
   ·exact h
   ·omega
  exact coIn2 D.fp b PL (some ⟨0, 0, none⟩) ct hE (f0L_ok (by decide) _ _ _) ⟨rfl, ⟨(), trivial, trivial, rfl, (by simp only [f0L, FP.tbs, FP.nds, List.nil_append, List.append_nil, List.cons_append, List.map_cons, List.map_nil, rnwT] <;> rfl)⟩, rOK _ (Or.inr ⟨_, rfl⟩) _ _ _ _ _ _, modOK ok hz hK rfl, trivial⟩ fun zz _ _ => gen0_2 D.fp b ct (lsF PL D.fp b) (fun z => z ≤ 2) (fun k hk => hE.A k hk) (loop0_2 b PL hP (in_emp hin) hb64 hct hE)
 ·obtain rfl : zt = some ⟨0, 0, none⟩ := by
   rcases hz with h | ⟨_, h⟩
   ·exact h
   ·omega
  exact coIn3 D.fp b PL (some ⟨0, 0, none⟩) ct hE (f0L_ok (by decide) _ _ _) ⟨rfl, ⟨(), trivial, trivial, rfl, (by simp only [f0L, FP.tbs, FP.nds, List.nil_append, List.append_nil, List.cons_append, List.map_cons, List.map_nil, rnwT] <;> rfl)⟩, rOK _ (Or.inr ⟨_, rfl⟩) _ _ _ _ _ _, modOK ok hz hK rfl, trivial⟩ fun zz _ _ => gen0_3 D.fp b ct (lsF PL D.fp b) (fun z => z ≤ 3) (fun k hk => hE.A k hk) (loop0_3 b PL hP (in_emp hin) hb64 hct hE)
 ·obtain rfl : zt = some ⟨0, 0, none⟩ := by
   rcases hz with h | ⟨_, h⟩
   ·exact h
   ·omega
  exact coIn4 D.fp b PL (some ⟨0, 0, none⟩) ct hE (f0L_ok (by decide) _ _ _) ⟨rfl, ⟨(), trivial, trivial, rfl, (by simp only [f0L, FP.tbs, FP.nds, List.nil_append, List.append_nil, List.cons_append, List.map_cons, List.map_nil, rnwT] <;> rfl)⟩, rOK _ (Or.inr ⟨_, rfl⟩) _ _ _ _ _ _, modOK ok hz hK rfl, trivial⟩ fun zz _ _ => gen0_4 D.fp b ct (lsF PL D.fp b) (fun z => z ≤ 4) (fun k hk => hE.A k hk) (loop0_4 b PL hP (in_emp hin) hb64 hct hE)
def nilD (d cl : Int) : FD := ⟨d, cl, 0, 0, fun _ => ⟨false, [], 0, 0⟩, fun _ => 0, fun _ => none⟩
theorem nilD_ok {d cl : Int} (hd : I64 d) (hcl : I64 cl) : (nilD d cl).OK := ⟨hd, hcl, fun k h => absurd h (by simp [nilD]), fun k _ => rfl, fun i => by show I64 0; decide, fun k => Or.inl rfl, fun k _ => rfl, rfl, fun k _ => rfl⟩
theorem specZ {d cl ct : Int} (hd : I64 d) (hcl : I64 cl) (hct : I64 ct) :
  CallSpec Try.prog 9 [.agg ⟨zfc d cl⟩, .slice none 0 0, .int .i64 ct] (roRows []) 0 (.bool true) (assocN [] []) := by
 refine spec_of_sat Try.func9 rfl fun E hE => ?_
 have p2 : ∀ c ∈ zfc d cl, leafG c = true := by intro c hc; simp only [zfc, List.mem_cons, List.not_mem_nil, or_false] at hc; rcases hc with rfl | rfl | rfl | rfl <;> rfl
 refine cwZ1 d cl ct hE (w1L_ok ct _ p2) ⟨rfl, ⟨(), trivial, trivial, rfl, rfl⟩, trivial⟩ fun zz _ _ => ?_
 refine sat_ro (hv' := [.ro (zfc d cl)]) (nx := 82) (c' := 0) (ob' := []) rfl (fun i b b' h1 h2 => by
  match i with
  | 0 => simp [w1L] at h1 h2; subst h1; subst h2; exact Or.inr ⟨_, rfl, rfl⟩
  | i + 1 => simp [w1L] at h1) ?_
 refine sat_dummy (D := fun k => k < 64) (k0 := 80) (cs0 := zfc d cl) (c' := 0) (ob' := []) rfl (fun k h => by omega) (fun k h => absurd (hE.A k h) (Nat.not_lt_zero _)) (fun i v hv k hk => ?_) (fun k b hb => ?_) ?_
 ·obtain ⟨j, _, hj⟩ := assocN_mem hv
  have hm := List.mem_of_getElem? hj
  simp only [w1L, ptr, List.mem_cons, List.not_mem_nil, or_false] at hm
  rcases hm with rfl | rfl | rfl <;> simp [nms, nm1, nm0] at hk <;> omega
 ·obtain ⟨j, hj1, hj2⟩ := assocN_mem hb
  have hm := List.mem_of_getElem? hj1
  have hm2 := List.mem_of_getElem? hj2
  simp only [w1L, List.mem_cons, List.not_mem_nil, or_false] at hm
  simp only [List.mem_cons, List.not_mem_nil, or_false] at hm2
  have hpl : ∀ cs : List Value, (∀ c ∈ cs, leafG c = true) → ∀ j ∈ Blk.nmB (.ro cs), ¬ j < 64 := fun cs hc j hj => by
   obtain ⟨c, hcm, hjc⟩ := mem_nmL' (f := nm0) (show j ∈ nmL nm0 cs from hj)
   rw [nm0_leafG (hc c hcm)] at hjc
   simp at hjc
  subst hm
  subst hm2
  exact ⟨by omega, hpl _ p2⟩
 refine sat_weak (T' := assocN ((w2L ct d cl).ts 0) ((w2L ct d cl).tv 0 ())) (H' := assocN ((w2L ct d cl).hs 0) ((w2L ct d cl).hv 0 ())) (c' := 0) (ob' := []) (fun i v h => h) (fun k b hb => ?_) ?_
 ·refine ⟨b, ?_, Or.inl rfl⟩
  have hk : k ∈ [0, 1, 2, 3, 4, 5, 6, 7, 8, 9, 10, 11, 12, 13, 14, 15, 16, 17, 18, 19, 20, 21, 22, 23, 80] := by obtain ⟨j, hj1, _⟩ := assocN_mem hb; exact List.mem_of_getElem? hj1
  simp only [List.mem_cons, List.not_mem_nil, or_false] at hk
  rcases hk with rfl | rfl | rfl | rfl | rfl | rfl | rfl | rfl | rfl | rfl | rfl | rfl | rfl | rfl | rfl | rfl | rfl | rfl | rfl | rfl | rfl | rfl | rfl | rfl | rfl <;> first | exact hb | (rw [if_pos (by decide)]; exact hb) | (rw [if_neg (by decide)]; exact hb)
 have ok := nilD_ok hd hcl
 have hz : ztOK (nilD d cl) none := Or.inr ⟨rfl, rfl⟩
 have hE := hE.mono (show 0 ≤ 64 by decide)
 have key : ∀ D : FD, D = nilD d cl → Sat E (fromR Try.f9 1) ((w2L ct d cl).st 0 ()) := by
  intro D hD
  rw [← hD] at ok hz
  have hd := within_range D.d (show (1 : Int) ≤ 3 by decide)
  obtain ⟨h1, h3⟩ := hd
  obtain ⟨PL, hP⟩ : ∃ PL : List Int → Bx → List Pc, PL = listP := ⟨_, rfl⟩
  obtain ⟨b, hb⟩ : ∃ b, b = regI (D.rw 18).l (withinS D.d 1 3) := ⟨_, rfl⟩
  have hin : b.In (insI [] b) 0 := by rw [hb]; exact ins_in _ _ _
  have hb64 : b.I64s := by rw [hb]; exact reg_I64s _ _
  have rOK := fun (zm : Option Addr) (hz : zm = none ∨ ∃ j, zm = some ⟨j, 0, none⟩) (lm cm : Nat) (c0 b0 b1 b2 : Int) => regOK (c0 := c0) (b0 := b0) (b1 := b1) (b2 := b2) ok h1 h3 hz lm cm (show 18 ≤ 18 by decide)
  simp only [← hb] at rOK
  subst hD
  exact cwZ2 (nilD d cl).fp b PL d cl ct hE ⟨⟨rfl, rfl⟩, (fun y hy => by simp at hy), (fun y hy => by simp at hy), rOK _ (Or.inl rfl) _ _ _ _ _ _, modOK ok hz rfl rfl, trivial⟩
 exact key _ rfl
theorem walk (W : World) (d cl : Int) (vb vt : Value) (hd : I64 d) (hcl : I64 cl) (hb : Opened W eInt I64 vb) (ht : OpenedT W vt) (v18 : Value) (o18 : Opened W eInt I64 v18) (ct : Int) (hct : (Lit.int .i64 ct).wf = true) :
  Calls Try.prog 9 #[.agg #[.int .i64 d, .int .i64 cl, vb, vt], v18, .int .i64 ct] W fun e w' => e = .returned (.bool true) ∧ Below W.heap.size W w' := by
 have hct : I64 ct := BitLib.wf_i64 hct
 rcases mem_or W with hn | hm
 ·obtain rfl := opened_nil hn hb
  obtain rfl := openedT_nil hn ht
  obtain rfl := opened_nil hn o18
  have h := calls_ro2 (W := W) (l := []) (specZ hd hcl hct) rfl (fun j b h => by simp [roRows] at h) (fun u hu j hj => by
   simp only [List.mem_cons, List.not_mem_nil, or_false] at hu
   rcases hu with rfl | rfl | rfl <;> simp [zfc, nms, nm1, nmL, nm0] at hj) (fun j cs h => by simp [roRows] at h)
  have hmap : ([.agg ⟨zfc d cl⟩, .slice none 0 0, .int .i64 ct].map (ren (Nm.at []))).toArray = #[.agg #[.int .i64 d, .int .i64 cl, .slice none 0 0, .slice none 0 0], .slice none 0 0, .int .i64 ct] := by
   simp only [zfc, List.map_cons, List.map_nil, ren_agg, List.map_toArray]
   rfl
  rw [hmap] at h
  exact h
 ·let X : Nat → Value := fun k => if k = 18 then v18 else .slice none 0 0
  have hX : ∀ k, Opened W eInt I64 (X k) := fun k => by
   show Opened W eInt I64 (if k = 18 then v18 else .slice none 0 0)
   split
   ·assumption
   exact Or.inl rfl
  obtain ⟨D, zt, l, F⟩ := forest_in (N := 64) (by decide) hd hcl hb ht hX hm
  have h := forest_calls F (spec F.ok F.z hct) (fun u hu j hj => by
   simp only [List.mem_cons, List.not_mem_nil, or_false] at hu
   rcases hu with rfl | rfl | rfl
   ·have := fcs_nms F.ok F.z j hj; omega
   ·have := rwv_nms _ _ j hj; omega
   ·simp [nms, nm1, nm0] at hj)
  have e18 := F.more 18 (by decide) (by decide)
  have hval := F.val
  have hmap : ([.agg ⟨D.fp.fcs zt⟩, (D.rw 18).v 18, .int .i64 ct].map (ren (Nm.at l))).toArray = #[.agg #[.int .i64 d, .int .i64 cl, vb, vt], v18, .int .i64 ct] := by
   simp only [List.map_cons, List.map_nil] at hval ⊢
   rw [hval, rwvF_ren, e18]
   rfl
  rw [hmap] at h
  exact h
end Go.Proofs.Ythbaccmhdffjdaa.WkCliqueOrder
namespace Go.Proofs.Ythbaccmhdffjdaa.cliqueOrderRow
open Go.ChangeShapes Go.WideShapes Go.ChangeAt Go.RowKit
open Go.ChangeMaps (open_string shut_string)
theorem own : ownKnob Try.prog.godebug = none := by kernel_rfl
theorem laidOut : laidOutB Try.prog = true := by kernel_rfl
set_option maxHeartbeats 4000000 in
set_option maxRecDepth 100000 in
theorem lifted (os : Os) (started : os.Started) (H : Type) (enc : TypeId × Value → H) :
    ReturnsInHanded {} Try.checked os 9 .any (Rows.cliqueOrderSpec.pre6 enc Try.prog Try.f9 Rows.cliqueOrderRow.domain false) (Rows.cliqueOrderSpec.post enc Try.prog Try.f9 false true false false) := by
  refine returnsInHanded_of_change_sized (C := Try.checked) own started (by kernel_rfl) Try.func9
    (ChangeSpec.witness6 (enc := enc) (C := Try.checked) false ⟨#[], #[.agg #[.int .i64 0, .int .i64 0, .slice none 0 0, .slice none 0 0], .slice none 0 0, .int .i64 0], []⟩ 8 (by kernel_rfl) (by kernel_rfl) (by kernel_rfl) (by kernel_rfl)) ?_
  intro W base args ds gs before hval0 hW hcnd hsz0 _
  have hsz : (DataW.weightsEach Try.prog (Try.f9.params.toList ++ Rows.cliqueOrderSpec.plain.varTypes Try.prog) (ds ++ gs)).all (· ≤ reachBytes) = true := hsz0
  have hval : ∀ (j : Nat) t v, Try.f9.params[j]? = some t → args[j]? = some v → Value.okWide Try.prog W .any base t v := hval0
  have hW' := hW
  obtain ⟨p, q, hA0, hV, rfl, hfz, hnd⟩ := hW
  have hA : DataW.TrodAll enc Try.prog W 0 (fun _ => true) true Try.f9.params.toList args.toList ds p := hA0
  rw [Try.params9] at hA hval hsz
  obtain ⟨v0, vs0, d0, ds0, p0, q0, hargs, rfl, rfl, h0, r0⟩ := trodAll_cons hA
  obtain ⟨v1, vs1, d1, ds1, p1, q1, rfl, rfl, rfl, h1, r1⟩ := trodAll_cons r0
  obtain ⟨v2, vs2, d2, ds2, p2, q2, rfl, rfl, rfl, h2, r2⟩ := trodAll_cons r1
  obtain ⟨rfl, rfl, rfl⟩ := trodAll_nil r2
  obtain rfl : args = #[v0, v1, v2] := by cases args; simp_all
  obtain ⟨rfl, rfl⟩ := trodVars_none hV
  have k0 := h0
  have lt0 : ∀ x ∈ p0, x.block < W.heap.size := by obtain ⟨m, hm⟩ := k0; exact DataW.trod_lt m _ _ _ hm
  obtain ⟨d0y, c0y, b0y, t0y, rfl, wd0, wc0, wb0, wt0⟩ := Ev.open_forest (hval 0 61 v0 rfl rfl) h0
  have k1 := h1
  have lt1 : ∀ x ∈ p1, x.block < W.heap.size := by obtain ⟨m, hm⟩ := k1; exact DataW.trod_lt m _ _ _ hm
  have w1 := Ev.open_ints64 (hval 1 43 v1 rfl rfl) h1
  obtain ⟨a2, rfl, rfl, rfl, w2⟩ := open_int Try.underlying3 (hval 2 3 v2 rfl rfl) h2
  clear hA0 hval0 hsz0 hsz
  refine (WkCliqueOrder.walk W d0y c0y b0y t0y wd0 wc0 wb0 wt0 v1 w1 a2 w2).mono fun e W' ⟨he, bel⟩ => ?_
  subst he
  exact ⟨_, rfl, _, _, _, [], _, [], hW', trodAll_mk1 (shut_bool Try.underlying4 _), (trodAll_cons_mk (Below.trod laidOut (by kernel_rfl) (of_decide_eq_true (by kernel_rfl)) k0 bel lt0) (trodAll_cons_mk (Below.trod laidOut (by kernel_rfl) (of_decide_eq_true (by kernel_rfl)) k1 bel lt1) (trodAll_cons_mk (shut_int Try.underlying3 w2) trodAll_mk0))), rfl, bel.frame _, fun h => by cases h⟩
theorem over : Rows.cliqueOrderRow.holds Try.pinned (OpenSpec.ofChange Rows.cliqueOrderSpec) :=
  OpenClaim.holds_of_wide 9 Try.f9 rfl rfl rfl rfl rfl rfl rfl ⟨rfl, rfl, rfl, rfl, rfl⟩ rfl rfl rfl rfl rfl (by kernel_rfl) Try.func9 (by kernel_rfl)
    (of_decide_eq_true (by kernel_rfl)) (by unfold Func.isWrapper; first | (rw [if_pos (by decide +kernel)]; kernel_rfl) | (rw [if_neg (by decide +kernel)]; exact ⟨rfl, rfl⟩))
    (fun os started H enc _ => lifted os started H enc)
end Go.Proofs.Ythbaccmhdffjdaa.cliqueOrderRow
namespace Go.Proofs.Ythbaccmhdffjdaa
theorem cliqueOrder_holds : Rows.CliqueOrderSaid := cliqueOrderRow.over
#print axioms cliqueOrder_holds
end Go.Proofs.Ythbaccmhdffjdaa
