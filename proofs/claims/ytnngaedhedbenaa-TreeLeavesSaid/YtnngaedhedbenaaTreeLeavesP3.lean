/-
  The row of the law copselaw7.TreeLeaves: for every input the call returns true, and each argument reads afterwards as it read before. No condition beside the form's own.
-/
import Derived.Laws.IdiomArrays
import Derived.Test.YtnngaedhedbenaaRows
import Derived.WalkKit
import Derived.ProofKit
import Derived.OpenShut
import Derived.ShutString
import Derived.ChangeOld
import Derived.Below
import Derived.SizedLaws
import Derived.Test.YtnngaedhedbenaaTreeLeavesP2
set_option linter.unusedVariables false
set_option linter.unusedSimpArgs false
set_option maxRecDepth 100000
namespace Go.Proofs.Ytnngaedhedbenaa.Tr
open Go Go.RowKit Go.Proofs.Ytnngaedhedbenaa.Ev Go.Proofs.Ytnngaedhedbenaa.NodeE Go.Proofs.Ytnngaedhedbenaa.Tr

theorem enIn (cs : List Value) (o n c : Nat) (p : Pt) (Q : Nat × Nat → Prop)  {E : Env} {rv : Value} {rhs : List Nat} {rhv : List Blk} (hE : EnvOK E Try.prog Try.f44 2 1 rv rhs rhv) (hL : (fEn cs o n c p Q).OK 1) (hob : all [SameK (atLp (lp Try.f44 0)) (atLp (lp Try.f44 0)), Enter (fEn cs o n c p Q) 0 none [Value.slice (some (Addr.mk 0 o none)) n c, Value.pointer (some (Addr.mk 1 0 none)), Value.pointer (some (Addr.mk 9 0 none)), Value.int IntKind.i64 ((0 : Int)), Value.int IntKind.i64 ((0 : Int))] [Blk.ro cs, Blk.cells [Value.int IntKind.i64 p.p0, Value.int IntKind.i64 p.p1, Value.int IntKind.i64 p.p2, Value.int IntKind.i64 p.p3] 41, Blk.cells [Value.bool false, Value.int IntKind.i64 ((0 : Int)), Value.int IntKind.i64 ((0 : Int)), Value.int IntKind.i64 ((0 : Int)), Value.int IntKind.i64 ((0 : Int)), Value.int IntKind.i64 ((0 : Int))] 23] [(0, 0), (10, 1), (11, 9)]]) (hK : ∀ zz, (fEn cs o n c p Q).inv 0 zz → ltO ((fEn cs o n c p Q).mu 0 zz) none → Sat E (atLp (lp Try.f44 0)) ((fEn cs o n c p Q).st 0 zz)) : Sat E [.code (bodyOf Try.f44)] (st0 Try.f44 [.slice (some ⟨0, o, none⟩) n c, .agg ⟨p.cs⟩] (roRows [cs]) 1) :=
  by_to (T := auto0 t_runpack) (h := hints []) (ws := [.stop]) (i0 := (0, 0)) hE hm (auto0_ok t_runpack_ok) hL (by kernel_rfl) hob hK
theorem enK (cs : List Value) (o n c : Nat) (p : Pt) (Q : Nat × Nat → Prop) (k a : Nat) (J : Act → World → Prop) {E : Env} (hE : EnvOK E Try.prog Try.f44 2 1 (.tuple ⟨[.int .i64 (-1), nd false 0 0 0 0 0]⟩) [] []) (hob : all [Back (Value.tuple (Array.mk [Value.int IntKind.i64 ((-1 : Int)), Value.agg (Array.mk [Value.bool false, Value.int IntKind.i64 ((0 : Int)), Value.int IntKind.i64 ((0 : Int)), Value.int IntKind.i64 ((0 : Int)), Value.int IntKind.i64 ((0 : Int)), Value.int IntKind.i64 ((0 : Int))])])) (Value.tuple (Array.mk [Value.int IntKind.i64 ((-1 : Int)), Value.agg (Array.mk [Value.bool false, Value.int IntKind.i64 ((0 : Int)), Value.int IntKind.i64 ((0 : Int)), Value.int IntKind.i64 ((0 : Int)), Value.int IntKind.i64 ((0 : Int)), Value.int IntKind.i64 ((0 : Int))])])) [] [] [], decide ((↑k : Int) < 31) = false]) : Sat E (inLp (lp Try.f44 0) J) ((fEn cs o n c p Q).st 0 (k, a)) :=
  by_ret (T := auto0 t_runpack) (h := hints []) (ws := [.b false]) (nx' := 1) hE hm (auto0_ok t_runpack_ok) (by omega) (by simp) (by simp) (by kernel_rfl) hob
theorem enO (cs : List Value) (o n c : Nat) (p : Pt) (Q : Nat × Nat → Prop) (k a : Nat) (J : Act → World → Prop) {E : Env} (hE : EnvOK E Try.prog Try.f44 2 1 (.tuple ⟨[.int .i64 (-1), nd false 0 0 0 0 0]⟩) [] []) (hob : all [Back (Value.tuple (Array.mk [Value.int IntKind.i64 ((-1 : Int)), Value.agg (Array.mk [Value.bool false, Value.int IntKind.i64 ((0 : Int)), Value.int IntKind.i64 ((0 : Int)), Value.int IntKind.i64 ((0 : Int)), Value.int IntKind.i64 ((0 : Int)), Value.int IntKind.i64 ((0 : Int))])])) (Value.tuple (Array.mk [Value.int IntKind.i64 ((-1 : Int)), Value.agg (Array.mk [Value.bool false, Value.int IntKind.i64 ((0 : Int)), Value.int IntKind.i64 ((0 : Int)), Value.int IntKind.i64 ((0 : Int)), Value.int IntKind.i64 ((0 : Int)), Value.int IntKind.i64 ((0 : Int))])])) [] [] [], decide ((↑a : Int) ≥ (↑n : Int)) = true, decide ((↑k : Int) < 31) = true]) : Sat E (inLp (lp Try.f44 0) J) ((fEn cs o n c p Q).st 0 (k, a)) :=
  by_ret (T := auto0 t_runpack) (h := hints []) (ws := [.b true, .b true]) (nx' := 1) hE hm (auto0_ok t_runpack_ok) (by omega) (by simp) (by simp) (by kernel_rfl) hob
theorem enN (cs : List Value) (o n c : Nat) (p : Pt) (Q : Nat × Nat → Prop) (k a : Nat) (w : Int) (J : Act → World → Prop) {E : Env} (hE : EnvOK E Try.prog Try.f44 2 1 (.tuple ⟨[.int .i64 (-1), nd false 0 0 0 0 0]⟩) [] []) (hob : all [Back (Value.tuple (Array.mk [Value.int IntKind.i64 ((-1 : Int)), Value.agg (Array.mk [Value.bool false, Value.int IntKind.i64 ((0 : Int)), Value.int IntKind.i64 ((0 : Int)), Value.int IntKind.i64 ((0 : Int)), Value.int IntKind.i64 ((0 : Int)), Value.int IntKind.i64 ((0 : Int))])])) (Value.tuple (Array.mk [Value.int IntKind.i64 ((-1 : Int)), Value.agg (Array.mk [Value.bool false, Value.int IntKind.i64 ((0 : Int)), Value.int IntKind.i64 ((0 : Int)), Value.int IntKind.i64 ((0 : Int)), Value.int IntKind.i64 ((0 : Int)), Value.int IntKind.i64 ((0 : Int))])])) [] [] [], Value.tuple (Array.mk [Value.agg (Array.mk [Value.bool (okB w && lfB w), Value.int IntKind.i64 (sV w), Value.int IntKind.i64 (sF w), Value.int IntKind.i64 (sA w), Value.int IntKind.i64 (sX w), Value.int IntKind.i64 (sY w)]), Value.bool (okB w)]) = Value.tuple (Array.mk [Value.agg (Array.mk [Value.bool false, Value.int IntKind.i64 ((0 : Int)), Value.int IntKind.i64 ((0 : Int)), Value.int IntKind.i64 ((0 : Int)), Value.int IntKind.i64 ((0 : Int)), Value.int IntKind.i64 ((0 : Int))]), Value.bool false]), U64 w, readPart Try.prog 26 cs (o + ((a : Int)).toNat * 1) = some (Value.int IntKind.u64 w), (0 : Int) ≤ (a : Int) ∧ (a : Int) < (n : Int), decide ((↑a : Int) ≥ (↑n : Int)) = false, decide ((↑k : Int) < 31) = true]) : Sat E (inLp (lp Try.f44 0) J) ((fEn cs o n c p Q).st 0 (k, a)) :=
  by_ret (T := auto0 t_runpack) (h := hints [(5, 2, {p := true}), (5, 3, {o := some (.int .u64 w)}), (5, 4, {v := some (.tuple ⟨[nd false 0 0 0 0 0, .bool false]⟩)})]) (ws := [.b true, .b false]) (nx' := 1) hE hm (auto0_ok t_runpack_ok) (by omega) (by simp) (by simp) (by kernel_rfl) hob
theorem enF (cs : List Value) (o n c : Nat) (p : Pt) (Q : Nat × Nat → Prop) (k a : Nat) (w v : Int) (J : Act → World → Prop) {E : Env} (hE : EnvOK E Try.prog Try.f44 2 1 (.tuple ⟨[.int .i64 (a : Int), nd true v 0 0 0 0]⟩) [] []) (hob : all [Back (Value.tuple (Array.mk [Value.int IntKind.i64 ((a : Int)), Value.agg (Array.mk [Value.bool true, Value.int IntKind.i64 v, Value.int IntKind.i64 ((0 : Int)), Value.int IntKind.i64 ((0 : Int)), Value.int IntKind.i64 ((0 : Int)), Value.int IntKind.i64 ((0 : Int))])])) (Value.tuple (Array.mk [Value.int IntKind.i64 ((a : Int)), Value.agg (Array.mk [Value.bool true, Value.int IntKind.i64 v, Value.int IntKind.i64 ((0 : Int)), Value.int IntKind.i64 ((0 : Int)), Value.int IntKind.i64 ((0 : Int)), Value.int IntKind.i64 ((0 : Int))])])) [] [] [], Value.tuple (Array.mk [Value.agg (Array.mk [Value.bool (okB w && lfB w), Value.int IntKind.i64 (sV w), Value.int IntKind.i64 (sF w), Value.int IntKind.i64 (sA w), Value.int IntKind.i64 (sX w), Value.int IntKind.i64 (sY w)]), Value.bool (okB w)]) = Value.tuple (Array.mk [Value.agg (Array.mk [Value.bool true, Value.int IntKind.i64 v, Value.int IntKind.i64 ((0 : Int)), Value.int IntKind.i64 ((0 : Int)), Value.int IntKind.i64 ((0 : Int)), Value.int IntKind.i64 ((0 : Int))]), Value.bool true]), U64 w, readPart Try.prog 26 cs (o + ((a : Int)).toNat * 1) = some (Value.int IntKind.u64 w), (0 : Int) ≤ (a : Int) ∧ (a : Int) < (n : Int), decide ((↑a : Int) ≥ (↑n : Int)) = false, decide ((↑k : Int) < 31) = true]) : Sat E (inLp (lp Try.f44 0) J) ((fEn cs o n c p Q).st 0 (k, a)) :=
  by_ret (T := auto0 t_runpack) (h := hints [(5, 2, {p := true}), (5, 3, {o := some (.int .u64 w)}), (5, 4, {v := some (.tuple ⟨[nd true v 0 0 0 0, .bool true]⟩)})]) (ws := [.b true, .b false]) (nx' := 1) hE hm (auto0_ok t_runpack_ok) (by omega) (by simp) (by simp) (by kernel_rfl) hob
theorem enL (cs : List Value) (o n c : Nat) (p : Pt) (Q : Nat × Nat → Prop) (k m b : Nat) (w f a x y g : Int) (J : Act → World → Prop) {E : Env} {rv : Value} {rhs : List Nat} {rhv : List Blk} (hE : EnvOK E Try.prog Try.f44 2 1 rv rhs rhv) (hL : (fEn cs o n c p Q).OK 1) (hob : all [SameK (mkLp (lp Try.f44 0) J) (mkLp (lp Try.f44 0) J), Enter (fEn cs o n c p Q) 0 (some (31 - k)) [Value.slice (some (Addr.mk 0 o none)) n c, Value.pointer (some (Addr.mk 10 0 none)), Value.pointer (some (Addr.mk 11 0 none)), Value.int IntKind.i64 ((b : Int)), Value.int IntKind.i64 (Int.ofNat k.succ)] [Blk.ro cs, Blk.cells [Value.int IntKind.i64 p.p0, Value.int IntKind.i64 p.p1, Value.int IntKind.i64 p.p2, Value.int IntKind.i64 p.p3] 41, Blk.cells [Value.bool false, Value.int IntKind.i64 ((0 : Int)), Value.int IntKind.i64 ((0 : Int)), Value.int IntKind.i64 ((0 : Int)), Value.int IntKind.i64 ((0 : Int)), Value.int IntKind.i64 ((0 : Int))] 23] [(0, 0), (10, 10), (11, 11)], Value.int IntKind.i64 (IntKind.i64.wrap (Int.ofNat k.succ)) = Value.int IntKind.i64 (Int.ofNat k.succ), Value.int IntKind.i64 x = Value.int IntKind.i64 ((b : Int)), decide (g ≤ a) = true, readPart Try.prog 3 p.cs (0 + f.toNat * 1) = some (Value.int IntKind.i64 g), (0 : Int) ≤ f ∧ f < (4 : Int), Value.tuple (Array.mk [Value.agg (Array.mk [Value.bool (okB w && lfB w), Value.int IntKind.i64 (sV w), Value.int IntKind.i64 (sF w), Value.int IntKind.i64 (sA w), Value.int IntKind.i64 (sX w), Value.int IntKind.i64 (sY w)]), Value.bool (okB w)]) = Value.tuple (Array.mk [Value.agg (Array.mk [Value.bool false, Value.int IntKind.i64 ((0 : Int)), Value.int IntKind.i64 f, Value.int IntKind.i64 a, Value.int IntKind.i64 x, Value.int IntKind.i64 y]), Value.bool true]), U64 w, readPart Try.prog 26 cs (o + ((m : Int)).toNat * 1) = some (Value.int IntKind.u64 w), (0 : Int) ≤ (m : Int) ∧ (m : Int) < (n : Int), decide ((↑m : Int) ≥ (↑n : Int)) = false, decide ((↑k : Int) < 31) = true]) (hK : ∀ zz, (fEn cs o n c p Q).inv 0 zz → ltO ((fEn cs o n c p Q).mu 0 zz) (some (31 - k)) → Sat E (mkLp (lp Try.f44 0) J) ((fEn cs o n c p Q).st 0 zz)) : Sat E (inLp (lp Try.f44 0) J) ((fEn cs o n c p Q).st 0 (k, m)) :=
  by_to (T := auto0 t_runpack) (h := hints [(5, 2, {p := true}), (5, 3, {o := some (.int .u64 w)}), (5, 4, {v := some (.tuple ⟨[nd false 0 f a x y, .bool true]⟩)}), (11, 2, {p := true}), (11, 3, {o := some (.int .i64 g)}), (12, 1, {v := some (.int .i64 (b : Int))}), (13, 0, {v := some (.int .i64 ((k + 1 : Nat) : Int))})]) (ws := [.b true, .b false, .go, .go, .b true]) (i0 := (k + 1, b)) hE hm (auto0_ok t_runpack_ok) hL (by kernel_rfl) hob hK
theorem enR (cs : List Value) (o n c : Nat) (p : Pt) (Q : Nat × Nat → Prop) (k m b : Nat) (w f a x y g : Int) (J : Act → World → Prop) {E : Env} {rv : Value} {rhs : List Nat} {rhv : List Blk} (hE : EnvOK E Try.prog Try.f44 2 1 rv rhs rhv) (hL : (fEn cs o n c p Q).OK 1) (hob : all [SameK (mkLp (lp Try.f44 0) J) (mkLp (lp Try.f44 0) J), Enter (fEn cs o n c p Q) 0 (some (31 - k)) [Value.slice (some (Addr.mk 0 o none)) n c, Value.pointer (some (Addr.mk 10 0 none)), Value.pointer (some (Addr.mk 11 0 none)), Value.int IntKind.i64 ((b : Int)), Value.int IntKind.i64 (Int.ofNat k.succ)] [Blk.ro cs, Blk.cells [Value.int IntKind.i64 p.p0, Value.int IntKind.i64 p.p1, Value.int IntKind.i64 p.p2, Value.int IntKind.i64 p.p3] 41, Blk.cells [Value.bool false, Value.int IntKind.i64 ((0 : Int)), Value.int IntKind.i64 ((0 : Int)), Value.int IntKind.i64 ((0 : Int)), Value.int IntKind.i64 ((0 : Int)), Value.int IntKind.i64 ((0 : Int))] 23] [(0, 0), (10, 10), (11, 11)], Value.int IntKind.i64 (IntKind.i64.wrap (Int.ofNat k.succ)) = Value.int IntKind.i64 (Int.ofNat k.succ), Value.int IntKind.i64 y = Value.int IntKind.i64 ((b : Int)), decide (g ≤ a) = false, readPart Try.prog 3 p.cs (0 + f.toNat * 1) = some (Value.int IntKind.i64 g), (0 : Int) ≤ f ∧ f < (4 : Int), Value.tuple (Array.mk [Value.agg (Array.mk [Value.bool (okB w && lfB w), Value.int IntKind.i64 (sV w), Value.int IntKind.i64 (sF w), Value.int IntKind.i64 (sA w), Value.int IntKind.i64 (sX w), Value.int IntKind.i64 (sY w)]), Value.bool (okB w)]) = Value.tuple (Array.mk [Value.agg (Array.mk [Value.bool false, Value.int IntKind.i64 ((0 : Int)), Value.int IntKind.i64 f, Value.int IntKind.i64 a, Value.int IntKind.i64 x, Value.int IntKind.i64 y]), Value.bool true]), U64 w, readPart Try.prog 26 cs (o + ((m : Int)).toNat * 1) = some (Value.int IntKind.u64 w), (0 : Int) ≤ (m : Int) ∧ (m : Int) < (n : Int), decide ((↑m : Int) ≥ (↑n : Int)) = false, decide ((↑k : Int) < 31) = true]) (hK : ∀ zz, (fEn cs o n c p Q).inv 0 zz → ltO ((fEn cs o n c p Q).mu 0 zz) (some (31 - k)) → Sat E (mkLp (lp Try.f44 0) J) ((fEn cs o n c p Q).st 0 zz)) : Sat E (inLp (lp Try.f44 0) J) ((fEn cs o n c p Q).st 0 (k, m)) :=
  by_to (T := auto0 t_runpack) (h := hints [(5, 2, {p := true}), (5, 3, {o := some (.int .u64 w)}), (5, 4, {v := some (.tuple ⟨[nd false 0 f a x y, .bool true]⟩)}), (11, 2, {p := true}), (11, 3, {o := some (.int .i64 g)}), (6, 1, {v := some (.int .i64 (b : Int))}), (13, 0, {v := some (.int .i64 ((k + 1 : Nat) : Int))})]) (ws := [.b true, .b false, .go, .go, .b false]) (i0 := (k + 1, b)) hE hm (auto0_ok t_runpack_ok) hL (by kernel_rfl) hob hK
end Go.Proofs.Ytnngaedhedbenaa.Tr


set_option linter.unusedVariables false
set_option linter.unusedSimpArgs false
set_option maxRecDepth 100000
namespace Go.Proofs.Ytnngaedhedbenaa.Tr
open Go Go.RowKit Go.Proofs.Ytnngaedhedbenaa.Ev Go.Proofs.Ytnngaedhedbenaa.NodeE

theorem pt_read {p : Pt} {f : Int} (hf : 0 ≤ f ∧ f < 4) : readPart Try.prog 3 p.cs (0 + f.toNat * 1) = some (.int .i64 (p.at f)) := by
  have hc : f = 0 ∨ f = 1 ∨ f = 2 ∨ f = 3 := by omega
  have h0 : readPart Try.prog 3 p.cs 0 = some (.int .i64 p.p0) := by kernel_rfl
  have h1 : readPart Try.prog 3 p.cs 1 = some (.int .i64 p.p1) := by kernel_rfl
  have h2 : readPart Try.prog 3 p.cs 2 = some (.int .i64 p.p2) := by kernel_rfl
  have h3 : readPart Try.prog 3 p.cs 3 = some (.int .i64 p.p3) := by kernel_rfl
  rcases hc with rfl | rfl | rfl | rfl
  · exact h0
  · exact h1
  · exact h2
  · exact h3

theorem end_spec (cs : List Value) (o n c : Nat) (p : Pt) (hr : eWord.Row cs o n) (hpl : ∀ x ∈ cs, leafG x = true) (hU : ∀ w ∈ eWord.list cs o n, U64 w) (hn : n ≤ 65536) :
    CallSpec Try.prog 44 [.slice (some ⟨0, o, none⟩) n c, .agg ⟨p.cs⟩] (roRows [cs]) 1 (.tuple ⟨[.int .i64 (walkI (eWord.list cs o n) p), nd (endL (eWord.list cs o n) p) (endV (eWord.list cs o n) p) 0 0 0 0]⟩) (assocN [] []) := by
  refine spec_of_sat Try.func44 rfl fun E hE => ?_
  have hlen : (eWord.list cs o n).length = n := Elt.list_len _ _ _
  let Q : Nat × Nat → Prop := fun s => s.1 ≤ 31 ∧ goW (eWord.list cs o n) p (31 - s.1) s.2 = goW (eWord.list cs o n) p 31 0
  have okL := fEn_ok cs o n c p Q hpl
  have rnr : ∀ f : Nat → Nat, Blk.rnB f (.ro cs) = .ro cs := fun f => Blk.plain.rnB (b := .ro cs) hpl f
  have rn0 : ∀ f : Nat → Nat, Blk.rnB f (.cells p.cs 41) = .cells [.int .i64 p.p0, .int .i64 p.p1, .int .i64 p.p2, .int .i64 p.p3] 41 := fun f => rfl
  have rn1 : ∀ f : Nat → Nat, Blk.rnB f (.cells [.int .i64 p.p0, .int .i64 p.p1, .int .i64 p.p2, .int .i64 p.p3] 41) = .cells [.int .i64 p.p0, .int .i64 p.p1, .int .i64 p.p2, .int .i64 p.p3] 41 := fun f => rfl
  have rn2 : ∀ f : Nat → Nat, Blk.rnB f (.cells [.bool false, .int .i64 0, .int .i64 0, .int .i64 0, .int .i64 0, .int .i64 0] 23) = .cells [.bool false, .int .i64 0, .int .i64 0, .int .i64 0, .int .i64 0, .int .i64 0] 23 := fun f => rfl
  refine enIn cs o n c p Q hE okL ⟨rfl, ⟨(0, 0), ⟨Nat.zero_le _, rfl⟩, trivial, rfl, by simp [fEn, rnr, rn0, rn1, rn2]⟩, trivial⟩ fun zz hz _ => by_loop (fEn cs o n c p Q) (lp Try.f44 0) ?_ 0 zz hz
  rintro b ⟨k, a⟩ hinv J hJ
  have hinv : k ≤ 31 ∧ goW (eWord.list cs o n) p (31 - k) a = goW (eWord.list cs o n) p 31 0 := hinv
  obtain ⟨k1, k2⟩ := hinv
  show Sat E (inLp (lp Try.f44 0) J) ((fEn cs o n c p Q).st 0 (k, a))
  have hJ' : ∀ zz, (fEn cs o n c p Q).inv 0 zz → ltO ((fEn cs o n c p Q).mu 0 zz) (some (31 - k)) → Sat E (mkLp (lp Try.f44 0) J) ((fEn cs o n c p Q).st 0 zz) := fun zz h1 h2 => hJ 0 zz h1 h2
  by_cases hk : k < 31
  · have hlt : decide ((k : Int) < 31) = true := decide_eq_true (by omega)
    have hs : 31 - k = (31 - (k + 1)) + 1 := by omega
    by_cases han : a < n
    · have hlt2 : decide ((a : Int) ≥ (n : Int)) = false := decide_eq_false (by omega)
      obtain ⟨w, hw⟩ : ∃ w, (eWord.list cs o n)[a]? = some w := ⟨_, List.getElem?_eq_getElem (by rw [hlen]; omega)⟩
      have hrd := hr.read1 (P := Try.prog) (ty := 26) (by kernel_rfl) rfl (i := a) hw rfl rfl
      rw [← Nat.mul_one a] at hrd
      cases ho : okB w
      · have hg : goW (eWord.list cs o n) p 31 0 = none := by rw [← k2, hs]; exact goW_bad hw ho
        obtain ⟨q1, q2, q3⟩ := end_none hg
        rw [q1, q2, q3] at hE
        exact enN cs o n c p Q k a w J hE ⟨⟨rfl, rfl⟩, unp_no ho, hU w (List.mem_of_getElem? hw), hrd, ⟨Int.natCast_nonneg _, Int.ofNat_lt.2 han⟩, hlt2, hlt, trivial⟩
      · cases hl : lfB w
        · have hib := inner_bounds ho hl
          have hf := hib.1
          have hgo : goW (eWord.list cs o n) p (31 - (k + 1)) (goes p w).toNat = goW (eWord.list cs o n) p 31 0 := by rw [← k2, hs, goW_step hw ho hl]
          cases hd : decide (p.at (uF w) ≤ low32 w)
          · have hb : goes p w = uY w := by unfold goes; rw [hd]; rfl
            rw [hb] at hgo
            exact enR cs o n c p Q k a (uY w).toNat w (uF w) (low32 w) (uX w) (uY w) (p.at (uF w)) J hE okL ⟨rfl, ⟨(k + 1, (uY w).toNat), ⟨hk, hgo⟩, (by show 31 - (k + 1) < 31 - k; omega), rfl, by simp [fEn, rnr, rn0, rn1, rn2]⟩, i64_succ (by omega), (congrArg _ (Int.toNat_of_nonneg (by omega)).symm), hd, pt_read hf, hf, unp_inner ho hl, hU w (List.mem_of_getElem? hw), hrd, ⟨Int.natCast_nonneg _, Int.ofNat_lt.2 han⟩, hlt2, hlt, trivial⟩ hJ'
          · have hb : goes p w = uX w := by unfold goes; rw [hd]; rfl
            rw [hb] at hgo
            exact enL cs o n c p Q k a (uX w).toNat w (uF w) (low32 w) (uX w) (uY w) (p.at (uF w)) J hE okL ⟨rfl, ⟨(k + 1, (uX w).toNat), ⟨hk, hgo⟩, (by show 31 - (k + 1) < 31 - k; omega), rfl, by simp [fEn, rnr, rn0, rn1, rn2]⟩, i64_succ (by omega), (congrArg _ (Int.toNat_of_nonneg (by omega)).symm), hd, pt_read hf, hf, unp_inner ho hl, hU w (List.mem_of_getElem? hw), hrd, ⟨Int.natCast_nonneg _, Int.ofNat_lt.2 han⟩, hlt2, hlt, trivial⟩ hJ'
        · have hg : goW (eWord.list cs o n) p 31 0 = some a := by rw [← k2, hs]; exact goW_leaf hw ho hl
          obtain ⟨q1, q2, q3⟩ := end_some hg
          have q4 : (eWord.list cs o n).getD a 0 = w := by rw [List.getD_eq_getElem?_getD, hw]; rfl
          rw [q4] at q2
          rw [q1, q2, q3] at hE
          exact enF cs o n c p Q k a w (low32 w) J hE ⟨⟨rfl, rfl⟩, unp_leaf ho hl, hU w (List.mem_of_getElem? hw), hrd, ⟨Int.natCast_nonneg _, Int.ofNat_lt.2 han⟩, hlt2, hlt, trivial⟩
    · have hlt2 : decide ((a : Int) ≥ (n : Int)) = true := decide_eq_true (by omega)
      have hg : goW (eWord.list cs o n) p 31 0 = none := by rw [← k2, hs]; exact goW_out (by rw [hlen]; omega)
      obtain ⟨q1, q2, q3⟩ := end_none hg
      rw [q1, q2, q3] at hE
      exact enO cs o n c p Q k a J hE ⟨⟨rfl, rfl⟩, hlt2, hlt, trivial⟩
  · have hlt : decide ((k : Int) < 31) = false := decide_eq_false (by omega)
    have hg : goW (eWord.list cs o n) p 31 0 = none := by rw [← k2, show 31 - k = 0 by omega]; rfl
    obtain ⟨q1, q2, q3⟩ := end_none hg
    rw [q1, q2, q3] at hE
    exact enK cs o n c p Q k a J hE ⟨⟨rfl, rfl⟩, hlt, trivial⟩

def end_F : RoF := fun xs css => match xs, css with
  | [.slice (some ⟨0, o, none⟩) n c, .agg ⟨[.int .i64 p0, .int .i64 p1, .int .i64 p2, .int .i64 p3]⟩], [cs] => some (.tuple ⟨[.int .i64 (walkI (eWord.list cs o n) ⟨p0, p1, p2, p3⟩), nd (endL (eWord.list cs o n) ⟨p0, p1, p2, p3⟩) (endV (eWord.list cs o n) ⟨p0, p1, p2, p3⟩) 0 0 0 0]⟩, [], [eWord.Row cs o n, ∀ w ∈ eWord.list cs o n, U64 w, n ≤ 65536])
  | _, _ => none
theorem end_sum : SumOK Try.prog 44 (roSum end_F) := by
  refine roSum_ok (en Try.func44 rfl) ?_ (fun xs css r h => ?_)
  · intro xs css v blks ob h hob hpl hl
    unfold end_F at h
    split at h
    · rename_i o n c p0 p1 p2 p3 cs
      simp only [Option.some.injEq, Prod.mk.injEq] at h
      obtain ⟨rfl, rfl, rfl⟩ := h
      refine ⟨by simp, by simp, fun j hj => by simp [nms, nm1, nmL, nm0] at hj, ?_⟩
      exact end_spec cs o n c ⟨p0, p1, p2, p3⟩ (hob _ (List.mem_cons_self ..)) (hpl cs (by simp)) (hob _ (List.mem_cons_of_mem _ (List.mem_cons_self ..))) (hob _ (by simp))
    · simp at h
  · unfold end_F at h
    split at h <;> simp at h <;> simp

noncomputable def t_end : Sums := upd t_runpack 44 (some (roSum end_F))
theorem t_end_ok : SumsOK Try.prog t_end := sums_cons t_runpack_ok end_sum
end Go.Proofs.Ytnngaedhedbenaa.Tr


set_option linter.unusedVariables false
set_option linter.unusedSimpArgs false
set_option maxRecDepth 100000
namespace Go.Proofs.Ytnngaedhedbenaa.Tr
open Go Go.RowKit Go.Proofs.Ytnngaedhedbenaa.Ev Go.Proofs.Ytnngaedhedbenaa.NodeE Go.Proofs.Ytnngaedhedbenaa.Tr

theorem wkP (cs : List Value) (o n c : Nat) (p : Pt) (a v : Int) (l : Bool)  {E : Env} (hE : EnvOK E Try.prog Try.f23 2 1 (.int .i64 a) [] []) (hob : all [Back (Value.int IntKind.i64 a) (Value.int IntKind.i64 a) [] [] [], Value.tuple (Array.mk [Value.int IntKind.i64 (walkI (eWord.list cs o n) (Pt.mk p.p0 p.p1 p.p2 p.p3)), Value.agg (Array.mk [Value.bool (endL (eWord.list cs o n) (Pt.mk p.p0 p.p1 p.p2 p.p3)), Value.int IntKind.i64 (endV (eWord.list cs o n) (Pt.mk p.p0 p.p1 p.p2 p.p3)), Value.int IntKind.i64 ((0 : Int)), Value.int IntKind.i64 ((0 : Int)), Value.int IntKind.i64 ((0 : Int)), Value.int IntKind.i64 ((0 : Int))])]) = Value.tuple (Array.mk [Value.int IntKind.i64 a, Value.agg (Array.mk [Value.bool l, Value.int IntKind.i64 v, Value.int IntKind.i64 ((0 : Int)), Value.int IntKind.i64 ((0 : Int)), Value.int IntKind.i64 ((0 : Int)), Value.int IntKind.i64 ((0 : Int))])]), plainR [cs], eWord.Row cs o n, ∀ (w : Int), w ∈ eWord.list cs o n → U64 w, n ≤ 65536]) : Sat E [.code (bodyOf Try.f23)] (st0 Try.f23 [.slice (some ⟨0, o, none⟩) n c, .agg ⟨p.cs⟩] (roRows [cs]) 1) :=
  by_ret (T := auto0 t_end) (h := hints [(1, 2, {v := some (.tuple ⟨[.int .i64 a, nd l v 0 0 0 0]⟩)})]) (ws := []) (nx' := 1) hE hm (auto0_ok t_end_ok) (by omega) (by simp) (by simp) (by kernel_rfl) hob
theorem vlP (cs : List Value) (o n c : Nat) (p : Pt) (a v : Int) (l : Bool)  {E : Env} (hE : EnvOK E Try.prog Try.f27 2 1 (.int .i64 v) [] []) (hob : all [Back (Value.int IntKind.i64 v) (Value.int IntKind.i64 v) [] [] [], Value.tuple (Array.mk [Value.int IntKind.i64 (walkI (eWord.list cs o n) (Pt.mk p.p0 p.p1 p.p2 p.p3)), Value.agg (Array.mk [Value.bool (endL (eWord.list cs o n) (Pt.mk p.p0 p.p1 p.p2 p.p3)), Value.int IntKind.i64 (endV (eWord.list cs o n) (Pt.mk p.p0 p.p1 p.p2 p.p3)), Value.int IntKind.i64 ((0 : Int)), Value.int IntKind.i64 ((0 : Int)), Value.int IntKind.i64 ((0 : Int)), Value.int IntKind.i64 ((0 : Int))])]) = Value.tuple (Array.mk [Value.int IntKind.i64 a, Value.agg (Array.mk [Value.bool l, Value.int IntKind.i64 v, Value.int IntKind.i64 ((0 : Int)), Value.int IntKind.i64 ((0 : Int)), Value.int IntKind.i64 ((0 : Int)), Value.int IntKind.i64 ((0 : Int))])]), plainR [cs], eWord.Row cs o n, ∀ (w : Int), w ∈ eWord.list cs o n → U64 w, n ≤ 65536]) : Sat E [.code (bodyOf Try.f27)] (st0 Try.f27 [.slice (some ⟨0, o, none⟩) n c, .agg ⟨p.cs⟩] (roRows [cs]) 1) :=
  by_ret (T := auto0 t_end) (h := hints [(1, 2, {v := some (.tuple ⟨[.int .i64 a, nd l v 0 0 0 0]⟩)})]) (ws := []) (nx' := 1) hE hm (auto0_ok t_end_ok) (by omega) (by simp) (by simp) (by kernel_rfl) hob
end Go.Proofs.Ytnngaedhedbenaa.Tr


set_option linter.unusedVariables false
set_option linter.unusedSimpArgs false
set_option maxRecDepth 100000
namespace Go.Proofs.Ytnngaedhedbenaa.Tr
open Go Go.RowKit Go.Proofs.Ytnngaedhedbenaa.Ev Go.Proofs.Ytnngaedhedbenaa.NodeE

theorem walk_spec (cs : List Value) (o n c : Nat) (p : Pt) (hr : eWord.Row cs o n) (hpl : ∀ x ∈ cs, leafG x = true) (hU : ∀ w ∈ eWord.list cs o n, U64 w) (hn : n ≤ 65536) :
    CallSpec Try.prog 23 [.slice (some ⟨0, o, none⟩) n c, .agg ⟨p.cs⟩] (roRows [cs]) 1 (.int .i64 (walkI (eWord.list cs o n) p)) (assocN [] []) := by
  refine spec_of_sat Try.func23 rfl fun E hE => ?_
  exact wkP cs o n c p (walkI (eWord.list cs o n) p) (endV (eWord.list cs o n) p) (endL (eWord.list cs o n) p) hE ⟨⟨rfl, rfl⟩, rfl, plain1 hpl, hr, hU, hn, trivial⟩

def walk_F : RoF := fun xs css => match xs, css with
  | [.slice (some ⟨0, o, none⟩) n c, .agg ⟨[.int .i64 p0, .int .i64 p1, .int .i64 p2, .int .i64 p3]⟩], [cs] => some (.int .i64 (walkI (eWord.list cs o n) ⟨p0, p1, p2, p3⟩), [], [eWord.Row cs o n, ∀ w ∈ eWord.list cs o n, U64 w, n ≤ 65536])
  | _, _ => none
theorem walk_sum : SumOK Try.prog 23 (roSum walk_F) := by
  refine roSum_ok (en Try.func23 rfl) ?_ (fun xs css r h => ?_)
  · intro xs css v blks ob h hob hpl hl
    unfold walk_F at h
    split at h
    · rename_i o n c p0 p1 p2 p3 cs
      simp only [Option.some.injEq, Prod.mk.injEq] at h
      obtain ⟨rfl, rfl, rfl⟩ := h
      refine ⟨by simp, by simp, fun j hj => by simp [nms, nm1, nmL, nm0] at hj, ?_⟩
      exact walk_spec cs o n c ⟨p0, p1, p2, p3⟩ (hob _ (List.mem_cons_self ..)) (hpl cs (by simp)) (hob _ (List.mem_cons_of_mem _ (List.mem_cons_self ..))) (hob _ (by simp))
    · simp at h
  · unfold walk_F at h
    split at h <;> simp at h <;> simp

theorem value_spec (cs : List Value) (o n c : Nat) (p : Pt) (hr : eWord.Row cs o n) (hpl : ∀ x ∈ cs, leafG x = true) (hU : ∀ w ∈ eWord.list cs o n, U64 w) (hn : n ≤ 65536) :
    CallSpec Try.prog 27 [.slice (some ⟨0, o, none⟩) n c, .agg ⟨p.cs⟩] (roRows [cs]) 1 (.int .i64 (endV (eWord.list cs o n) p)) (assocN [] []) := by
  refine spec_of_sat Try.func27 rfl fun E hE => ?_
  exact vlP cs o n c p (walkI (eWord.list cs o n) p) (endV (eWord.list cs o n) p) (endL (eWord.list cs o n) p) hE ⟨⟨rfl, rfl⟩, rfl, plain1 hpl, hr, hU, hn, trivial⟩

def value_F : RoF := fun xs css => match xs, css with
  | [.slice (some ⟨0, o, none⟩) n c, .agg ⟨[.int .i64 p0, .int .i64 p1, .int .i64 p2, .int .i64 p3]⟩], [cs] => some (.int .i64 (endV (eWord.list cs o n) ⟨p0, p1, p2, p3⟩), [], [eWord.Row cs o n, ∀ w ∈ eWord.list cs o n, U64 w, n ≤ 65536])
  | _, _ => none
theorem value_sum : SumOK Try.prog 27 (roSum value_F) := by
  refine roSum_ok (en Try.func27 rfl) ?_ (fun xs css r h => ?_)
  · intro xs css v blks ob h hob hpl hl
    unfold value_F at h
    split at h
    · rename_i o n c p0 p1 p2 p3 cs
      simp only [Option.some.injEq, Prod.mk.injEq] at h
      obtain ⟨rfl, rfl, rfl⟩ := h
      refine ⟨by simp, by simp, fun j hj => by simp [nms, nm1, nmL, nm0] at hj, ?_⟩
      exact value_spec cs o n c ⟨p0, p1, p2, p3⟩ (hob _ (List.mem_cons_self ..)) (hpl cs (by simp)) (hob _ (List.mem_cons_of_mem _ (List.mem_cons_self ..))) (hob _ (by simp))
    · simp at h
  · unfold value_F at h
    split at h <;> simp at h <;> simp

end Go.Proofs.Ytnngaedhedbenaa.Tr


set_option linter.unusedVariables false
set_option linter.unusedSimpArgs false
set_option maxRecDepth 100000
namespace Go.Proofs.Ytnngaedhedbenaa.Tr
open Go Go.RowKit Go.Proofs.Ytnngaedhedbenaa.Ev Go.Proofs.Ytnngaedhedbenaa.NodeE

/-- The counts so far, as the program keeps them. -/
def cntL (ws : List Int) (n : Nat) : List Int := (List.range n).map fun (k : Nat) => (Int.ofNat (named ws (k : Int)))
theorem cntL_len (ws : List Int) (n : Nat) : (cntL ws n).length = n := by simp [cntL]
theorem cntL_get {ws : List Int} {n k : Nat} (h : k < n) : (cntL ws n)[k]? = some (named ws (k : Int) : Int) := by
  simp [cntL, h]
theorem named_le (ws : List Int) (k : Int) : named ws k ≤ 2 * ws.length := by
  induction ws with
  | nil => simp [named]
  | cons w ws ih =>
    have h1 : (namesW w).length ≤ 2 := by unfold namesW; cases lfB w <;> simp
    have h2 := List.count_le_length (a := k) (l := namesW w)
    simp only [named, List.flatMap_cons, List.count_append, List.length_cons] at ih ⊢
    omega
theorem cnt_two {ws : List Int} {w : Int} {n : Nat} {X Y : Nat} (hl : lfB w = false) (hx : uX w = X) (hy : uY w = Y) (hne : X ≠ Y) (hX : X < n) (hY : Y < n) :
    ((cntL ws n).set X ((named ws (X : Int) : Int) + 1)).set Y ((named ws (Y : Int) : Int) + 1) = cntL (ws ++ [w]) n := by
  apply List.ext_getElem
  · simp [cntL]
  · intro k h1 h2
    have hk : k < n := by simpa [cntL] using h2
    simp only [List.getElem_set]
    simp only [cntL, List.getElem_map, List.getElem_range, named_snoc, namesW, hl, cond_false, hx, hy, List.count_cons, List.count_nil]
    by_cases e1 : Y = k
    · subst e1
      have : ¬ (X : Int) = (Y : Int) := by omega
      simp [this]
    · by_cases e2 : X = k
      · subst e2
        have : ¬ (Y : Int) = (X : Int) := by omega
        simp [e1, this]
      · have h3 : ¬ (X : Int) = (k : Int) := by omega
        have h4 : ¬ (Y : Int) = (k : Int) := by omega
        simp [e1, e2, h3, h4]
theorem cnt_leaf {ws : List Int} {w : Int} {n : Nat} (hl : lfB w = true) : cntL (ws ++ [w]) n = cntL ws n := by
  unfold cntL
  refine List.map_congr_left fun k _ => ?_
  rw [named_snoc]; simp [namesW, hl]
theorem cnt_zero (n : Nat) : cntL [] n = List.replicate n 0 := by
  apply List.ext_getElem
  · simp [cntL]
  · intro k h1 h2; simp [cntL, named_nil]
theorem rd_int {l : List Int} {k : Nat} {z : Int} (h : l[k]? = some z) : readPart Try.prog 3 (eInt.row l) (0 + k * 1) = some (.int .i64 z) := by
  rw [Nat.mul_one]
  exact (Elt.canon0 (e := eInt) l).1.read1 (P := Try.prog) (ty := 3) (by kernel_rfl) rfl (i := k) (x := z) (by rw [(Elt.canon0 l).2]; exact h) rfl rfl
theorem rd_off {l : List Int} {q j : Nat} {z : Int} (h : l[q + j]? = some z) : readPart Try.prog 3 (eInt.row l) (q + ((j : Nat) : Int).toNat * 1) = some (.int .i64 z) := by
  have := rd_int h
  rw [Nat.mul_one, Nat.zero_add] at this
  rw [Int.toNat_natCast, Nat.mul_one]
  exact this
theorem min_gt {x y i : Int} (h : ¬ minI x y ≤ i) : i < x ∧ i < y := by unfold minI at h; split at h <;> omega
theorem max_lt {x y i : Int} (h : ¬ maxI x y ≥ i) : x < i ∧ y < i := by unfold maxI at h; split at h <;> omega
theorem not_min {x y i : Int} (h1 : i < x) (h2 : i < y) : ¬ minI x y ≤ i := by unfold minI; split <;> omega
theorem not_max {x y i : Int} (h1 : x < i) (h2 : y < i) : ¬ maxI x y ≥ i := by unfold maxI; split <;> omega
theorem right_spec (cs : List Value) (o n c : Nat) (dim : Int) (hr : eWord.Row cs o n) (hpl : ∀ x ∈ cs, leafG x = true) (hU : ∀ w ∈ eWord.list cs o n, U64 w) (hn : n ≤ 65536) :
    CallSpec Try.prog 22 [.slice (some ⟨0, o, none⟩) n c, .int .i64 dim] (roRows [cs]) 1 (.bool (rightI (eWord.list cs o n) dim)) (assocN [] []) := by
  refine spec_of_sat Try.func22 rfl fun E hE => ?_
  have hlen : (eWord.list cs o n).length = n := Elt.list_len _ _ _
  generalize hws : eWord.list cs o n = ws at hU hlen hE
  refine (Classical.em (1 ≤ n)).symm.elim (fun h1 => ?_) (fun h1 => ?_)
  · rw [right_len (by omega)] at hE
    exact rtShort cs o n c dim hE ⟨⟨rfl, rfl⟩, (congrArg _ (decide_eq_true (by omega))), trivial⟩
  have g1 : Value.bool (decide ((n : Int) < 1)) = .bool false := congrArg _ (decide_eq_false (by omega))
  refine (Classical.em (n ≤ 31)).symm.elim (fun h31 => ?_) (fun h31 => ?_)
  · rw [right_len (by omega)] at hE
    exact rtLong cs o n c dim hE ⟨⟨rfl, rfl⟩, (congrArg _ (decide_eq_true (by omega))), g1, trivial⟩
  have g2 : Value.bool (decide ((n : Int) > 31)) = .bool false := congrArg _ (decide_eq_false (by omega))
  let Q : Nat × List Int → Prop := fun s => s.1 ≤ n ∧ (∀ (j : Nat) (w : Int), j < s.1 → ws[j]? = some w → goodW dim n j w = true) ∧ s.2 = cntL (ws.take s.1) n
  have okL := fRt_ok cs o n c dim Q hpl
  have rnr : ∀ f : Nat → Nat, Blk.rnB f (.ro cs) = .ro cs := fun f => Blk.plain.rnB (b := .ro cs) hpl f
  have rni : ∀ (f : Nat → Nat) (l : List Int), Blk.rnB f (.cells (eInt.row l) 3) = .cells (eInt.row l) 3 := fun f l => Blk.plain.rnB (b := .cells (eInt.row l) 3) (Elt.row_pl _) f
  have hz : repl [Value.int .i64 0] n = eInt.row (cntL [] n) := by rw [cnt_zero]; exact repl_row (e := eInt) (x := 0) rfl _
  refine rtIn cs o n c dim Q (cntL [] n) hE okL ⟨rfl, ⟨(0, cntL [] n), ⟨Nat.zero_le _, fun j w hj => absurd hj (Nat.not_lt_zero _), rfl⟩, trivial, rfl, by simp [fRt, rnr, rni]⟩, ⟨rfl, Int.natCast_nonneg _, by show (n : Int) ≤ _; omega, by show (8 : Int) * (n : Int) ≤ _; omega, hz.symm⟩, g2, g1, trivial⟩ fun zz hz _ => by_loop (fRt cs o n c dim Q) (lp Try.f22 0) ?_ 0 zz hz
  rintro b ⟨i, r⟩ hinv J hJ
  have hinv : i ≤ n ∧ (∀ (j : Nat) (w : Int), j < i → ws[j]? = some w → goodW dim n j w = true) ∧ r = cntL (ws.take i) n := hinv
  obtain ⟨k1, k2, k3⟩ := hinv
  show Sat E (inLp (lp Try.f22 0) J) ((fRt cs o n c dim Q).st 0 (i, r))
  have hJ' : ∀ zz, (fRt cs o n c dim Q).inv 0 zz → ltO ((fRt cs o n c dim Q).mu 0 zz) (some (n - i)) → Sat E (mkLp (lp Try.f22 0) J) ((fRt cs o n c dim Q).st 0 zz) := fun zz h1 h2 => hJ 0 zz h1 h2
  by_cases hin : i < n
  · have hlt : decide ((i : Int) < (n : Int)) = true := decide_eq_true (by omega)
    obtain ⟨w, hw⟩ : ∃ w, ws[i]? = some w := ⟨_, List.getElem?_eq_getElem (by rw [hlen]; omega)⟩
    have hrd := hr.read1 (P := Try.prog) (ty := 26) (by kernel_rfl) rfl (i := i) (x := w) (by rw [hws]; exact hw) rfl rfl
    rw [← Nat.mul_one i] at hrd
    have htk : ws.take (i + 1) = ws.take i ++ [w] := by rw [List.take_add_one, hw]; rfl
    have nxt : goodW dim n i w = true → ∀ (j : Nat) (v : Int), j < i + 1 → ws[j]? = some v → goodW dim n j v = true := fun hg j v hj hv => by
      by_cases e : j < i
      · exact k2 j v e hv
      · obtain rfl : j = i := by omega
        rw [hw] at hv; injection hv with hv; subst hv; exact hg
    cases hgd : goodW dim n i w
    · have hbad : rightI ws dim = false := right_bad hw (by rw [hlen]; exact hgd)
      rw [hbad] at hE
      cases ho : okB w
      · exact rtN cs o n c dim Q i r w J hE ⟨⟨rfl, rfl⟩, unp_no ho, hU w (List.mem_of_getElem? hw), hrd, ⟨Int.natCast_nonneg _, Int.ofNat_lt.2 hin⟩, hlt, trivial⟩
      · refine (Bool.eq_false_or_eq_true (lfB w)).elim (fun hl => ?_) (fun hl => ?_)
        · rw [good_leaf ho hl] at hgd; exact absurd hgd (by simp)
        refine (Classical.em (uF w < dim)).symm.elim (fun d1 => ?_) (fun d1 => ?_)
        · exact rtD cs o n c dim Q i r w (uF w) (low32 w) (uX w) (uY w) J hE ⟨⟨rfl, rfl⟩, (congrArg _ (decide_eq_true (by omega))), unp_inner ho hl, hU w (List.mem_of_getElem? hw), hrd, ⟨Int.natCast_nonneg _, Int.ofNat_lt.2 hin⟩, hlt, trivial⟩
        have e1 : Value.bool (decide (uF w ≥ dim)) = .bool false := congrArg _ (decide_eq_false (by omega))
        by_cases d2 : uX w = uY w
        · exact rtE cs o n c dim Q i r w (uF w) (low32 w) (uX w) (uY w) J hE ⟨⟨rfl, rfl⟩, (congrArg _ (beq_iff_eq.2 d2)), e1, unp_inner ho hl, hU w (List.mem_of_getElem? hw), hrd, ⟨Int.natCast_nonneg _, Int.ofNat_lt.2 hin⟩, hlt, trivial⟩
        have e2 : Value.bool (uX w == uY w) = .bool false := congrArg _ (beq_eq_false_iff_ne.2 d2)
        by_cases d3 : minI (uX w) (uY w) ≤ (i : Int)
        · exact rtM cs o n c dim Q i r w (uF w) (low32 w) (uX w) (uY w) J hE ⟨⟨rfl, rfl⟩, (congrArg _ (decide_eq_true d3)), e2, e1, unp_inner ho hl, hU w (List.mem_of_getElem? hw), hrd, ⟨Int.natCast_nonneg _, Int.ofNat_lt.2 hin⟩, hlt, trivial⟩
        have e3 : Value.bool (decide (minI (uX w) (uY w) ≤ (i : Int))) = .bool false := congrArg _ (decide_eq_false d3)
        by_cases d4 : maxI (uX w) (uY w) ≥ (n : Int)
        · exact rtX cs o n c dim Q i r w (uF w) (low32 w) (uX w) (uY w) J hE ⟨⟨rfl, rfl⟩, (congrArg _ (decide_eq_true d4)), e3, e2, e1, unp_inner ho hl, hU w (List.mem_of_getElem? hw), hrd, ⟨Int.natCast_nonneg _, Int.ofNat_lt.2 hin⟩, hlt, trivial⟩
        rw [good_mk hl ho d1 d2 (min_gt d3).1 (min_gt d3).2 (max_lt d4).1 (max_lt d4).2] at hgd
        exact absurd hgd (by simp)
    · cases hl : lfB w
      · obtain ⟨ho, d1, d2, d3, d4, d5, d6⟩ := good_inner hgd hl
        obtain ⟨X, hX⟩ := Int.eq_ofNat_of_zero_le (show 0 ≤ uX w by omega)
        obtain ⟨Y, hY⟩ := Int.eq_ofNat_of_zero_le (show 0 ≤ uY w by omega)
        have e1 : Value.bool (decide (uF w ≥ dim)) = .bool false := congrArg _ (decide_eq_false (by omega))
        have e2 : Value.bool (uX w == uY w) = .bool false := congrArg _ (beq_eq_false_iff_ne.2 d2)
        have e3 : Value.bool (decide (minI (uX w) (uY w) ≤ (i : Int))) = .bool false := congrArg _ (decide_eq_false (not_min d3 d4))
        have e4 : Value.bool (decide (maxI (uX w) (uY w) ≥ (n : Int))) = .bool false := congrArg _ (decide_eq_false (not_max d5 d6))
        have hXn : X < n := by omega
        have hYn : Y < n := by omega
        have hne : X ≠ Y := by omega
        have hlX := named_le (ws.take i) X
        have hlY := named_le (ws.take i) Y
        have htl : (ws.take i).length ≤ 31 := by rw [List.length_take, hlen]; omega
        have r1 := cntL_get (ws := ws.take i) hXn
        have hrd1 := rd_int (l := r) (k := X) (z := (named (ws.take i) (X : Int) : Int)) (by rw [k3]; exact r1)
        have hst1 := lsetE (e := eInt) (l := r) (k := X) (f := 0) (o := 0 + X * 1) (x := (named (ws.take i) (X : Int) : Int) + 1) (vs := [.int .i64 ((named (ws.take i) (X : Int) : Int) + 1)]) (by rw [k3]; exact r1) rfl (by simp [eInt])
        have r2 : (r.set X ((named (ws.take i) (X : Int) : Int) + 1))[Y]? = some (named (ws.take i) (Y : Int) : Int) := by
          rw [List.getElem?_set_ne hne, k3]; exact cntL_get hYn
        have hrd2 := rd_int (l := r.set X ((named (ws.take i) (X : Int) : Int) + 1)) (k := Y) (z := (named (ws.take i) (Y : Int) : Int)) r2
        have hst2 := lsetE (e := eInt) (l := r.set X ((named (ws.take i) (X : Int) : Int) + 1)) (k := Y) (f := 0) (o := 0 + Y * 1) (x := (named (ws.take i) (Y : Int) : Int) + 1) (vs := [.int .i64 ((named (ws.take i) (Y : Int) : Int) + 1)]) r2 rfl (by simp [eInt])
        have hfin : (r.set X ((named (ws.take i) (X : Int) : Int) + 1)).set Y ((named (ws.take i) (Y : Int) : Int) + 1) = cntL (ws.take (i + 1)) n := by rw [k3, htk]; exact cnt_two hl hX hY hne hXn hYn
        rw [hX, hY] at e2 e3 e4
        have hun := unp_inner ho hl
        rw [hX, hY] at hun
        exact rtG cs o n c dim Q i r _ _ w (uF w) (low32 w) X Y _ _ _ _ J hE okL ⟨rfl, ⟨(i + 1, (r.set X ((named (ws.take i) (X : Int) : Int) + 1)).set Y ((named (ws.take i) (Y : Int) : Int) + 1)), ⟨hin, nxt hgd, hfin⟩, (by show n - (i + 1) < n - i; omega), rfl, by simp [fRt, rnr, rni]⟩, i64_succ (by omega), hst2, ⟨Int.natCast_nonneg _, Int.ofNat_lt.2 hYn⟩, (i64_id rfl (by omega) (by omega)), hrd2, ⟨Int.natCast_nonneg _, Int.ofNat_lt.2 hYn⟩, hst1, ⟨Int.natCast_nonneg _, Int.ofNat_lt.2 hXn⟩, (i64_id rfl (by omega) (by omega)), hrd1, ⟨Int.natCast_nonneg _, Int.ofNat_lt.2 hXn⟩, e4, e3, e2, e1, hun, hU w (List.mem_of_getElem? hw), hrd, ⟨Int.natCast_nonneg _, Int.ofNat_lt.2 hin⟩, hlt, trivial⟩ hJ'
      · have ho : okB w = true := by simp [goodW] at hgd; exact hgd.1
        exact rtF cs o n c dim Q i r w (low32 w) J hE okL ⟨rfl, ⟨(i + 1, r), ⟨hin, nxt hgd, by rw [htk, cnt_leaf hl]; exact k3⟩, (by show n - (i + 1) < n - i; omega), rfl, by simp [fRt, rnr, rni]⟩, i64_succ (by omega), unp_leaf ho hl, hU w (List.mem_of_getElem? hw), hrd, ⟨Int.natCast_nonneg _, Int.ofNat_lt.2 hin⟩, hlt, trivial⟩ hJ'
  · have hlt : decide ((i : Int) < (n : Int)) = false := decide_eq_false (by omega)
    obtain rfl : i = n := by omega
    have hall : ∀ (j : Nat) (w : Int), ws[j]? = some w → goodW dim i j w = true := fun j w hw => k2 j w (by have := (List.getElem?_eq_some_iff.1 hw).1; omega) hw
    have hr3 : r = cntL ws i := by rw [k3, List.take_of_length_le (by omega)]
    clear k3 k2 hJ' hJ
    have hrl : r.length = i := by rw [hr3]; exact cntL_len _ _
    let Q2 : Nat → Prop := fun j => j ≤ i - 1 ∧ ∀ k : Nat, 1 ≤ k → k < j + 1 → named ws (k : Int) = 1
    have sl : ∃ q : Nat, (q = 1 ∨ i = 1) ∧ SlOK 1 10 0 i i (some 1) none (some (.cells (eInt.row r) 3)) (.slice (some ⟨10, q, none⟩) (i - 1) (i - 1)) := by
      by_cases h : i = 1
      · refine ⟨0, Or.inr h, 1, i, rfl, rfl, by omega, Nat.le_refl _, Or.inr ⟨by unfold Ev.mark; omega, Nat.le_refl _, Or.inl ⟨by omega, ?_⟩⟩⟩
        simp
      · refine ⟨1, Or.inl rfl, 1, i, rfl, rfl, by omega, Nat.le_refl _, Or.inr ⟨by unfold Ev.mark; omega, Nat.le_refl _, Or.inr ⟨by omega, ?_⟩⟩⟩
        simp
    obtain ⟨q, hq, hsl⟩ := sl
    refine rtZ cs o i c (i - 1) q dim Q Q2 i r J hE (fRn_ok (i - 1) q r Q2) ⟨rfl, ⟨0, ⟨Nat.zero_le _, fun k a b => by omega⟩, trivial, rfl, by simp [fRn, rni]⟩, hsl, hlt, trivial⟩ fun zz hz _ => by_loop (fRn (i - 1) q r Q2) (lp Try.f22 1) ?_ 0 zz hz
    rintro b j hinv J hJ
    have hinv : j ≤ i - 1 ∧ ∀ k : Nat, 1 ≤ k → k < j + 1 → named ws (k : Int) = 1 := hinv
    obtain ⟨m1, m2⟩ := hinv
    show Sat E (inLp (lp Try.f22 1) J) ((fRn (i - 1) q r Q2).st 0 j)
    have hJ' : ∀ zz, (fRn (i - 1) q r Q2).inv 0 zz → ltO ((fRn (i - 1) q r Q2).mu 0 zz) (some (i - 1 - j)) → Sat E (mkLp (lp Try.f22 1) J) ((fRn (i - 1) q r Q2).st 0 zz) := fun zz h1 h2 => hJ 0 zz h1 h2
    by_cases hji : j < i - 1
    · have hlt : decide ((j : Int) < ((i - 1 : Nat) : Int)) = true := decide_eq_true (by omega)
      obtain rfl : q = 1 := by omega
      have hrd := rd_off (l := r) (q := 1) (j := j) (z := (named ws ((1 + j : Nat) : Int) : Int)) (by rw [hr3]; exact cntL_get (by omega))
      by_cases h1' : named ws ((1 + j : Nat) : Int) = 1
      · exact rnY (i - 1) 1 r Q2 j _ J hE (fRn_ok (i - 1) 1 r Q2) ⟨rfl, ⟨j + 1, ⟨by omega, fun k a b => by
            by_cases e : k < j + 1
            · exact m2 k a e
            · obtain rfl : k = 1 + j := by omega
              exact h1'⟩, (by show i - 1 - (j + 1) < i - 1 - j; omega), rfl, by simp [fRn, rni]⟩, i64_succ (by omega), (by rw [h1']; rfl), hrd, ⟨Int.natCast_nonneg _, Int.ofNat_lt.2 hji⟩, hlt, trivial⟩ hJ'
      · rw [right_once (k := 1 + j) (by omega) (by omega) h1'] at hE
        exact rnN (i - 1) 1 r Q2 j _ J hE ⟨⟨rfl, rfl⟩, (by simp only [bne_iff_ne, ne_eq]; omega), hrd, ⟨Int.natCast_nonneg _, Int.ofNat_lt.2 hji⟩, hlt, trivial⟩
    · have hlt : decide ((j : Int) < ((i - 1 : Nat) : Int)) = false := decide_eq_false (by omega)
      have hR : rightI ws dim = true := right_parts.2 ⟨⟨by omega, by omega⟩, fun j w hw => by rw [hlen]; exact hall j w hw, fun k a b => m2 k a (by omega)⟩
      rw [hR] at hE
      exact rnE (i - 1) q r Q2 j J hE ⟨⟨rfl, rfl⟩, hlt, trivial⟩
def right_F : RoF := fun xs css => match xs, css with
  | [.slice (some ⟨0, o, none⟩) n c, .int .i64 dim], [cs] => some (.bool (rightI (eWord.list cs o n) dim), [], [eWord.Row cs o n, ∀ w ∈ eWord.list cs o n, U64 w, n ≤ 65536])
  | [.slice none 0 0, .int .i64 dim], [] => some (.bool false, [], [])
  | _, _ => none
theorem right_sum : SumOK Try.prog 22 (roSum right_F) := by
  refine roSum_ok (en Try.func22 rfl) ?_ (fun xs css r h => ?_)
  · intro xs css v blks ob h hob hpl hl
    unfold right_F at h
    split at h
    · rename_i o n c dim cs
      simp only [Option.some.injEq, Prod.mk.injEq] at h
      obtain ⟨rfl, rfl, rfl⟩ := h
      refine ⟨by simp, by simp, fun j hj => by simp [nms, nm1, nmL, nm0] at hj, ?_⟩
      exact right_spec cs o n c dim (hob _ (List.mem_cons_self ..)) (hpl cs (by simp)) (hob _ (List.mem_cons_of_mem _ (List.mem_cons_self ..))) (hob _ (by simp))
    · rename_i dim
      simp only [Option.some.injEq, Prod.mk.injEq] at h
      obtain ⟨rfl, rfl, rfl⟩ := h
      refine ⟨by simp, by simp, fun j hj => by simp [nms, nm1, nmL, nm0] at hj, ?_⟩
      exact spec_of_sat Try.func22 rfl fun E hE => rtNil dim hE ⟨⟨rfl, rfl⟩, trivial⟩
    · simp at h
  · unfold right_F at h
    split at h <;> simp at h <;> simp
noncomputable def t_right : Sums := upd t_runpack 22 (some (roSum right_F))
theorem t_right_ok : SumsOK Try.prog t_right := sums_cons t_runpack_ok right_sum
end Go.Proofs.Ytnngaedhedbenaa.Tr


set_option linter.unusedVariables false
set_option linter.unusedSimpArgs false
set_option maxRecDepth 100000
namespace Go.Proofs.Ytnngaedhedbenaa.Tr
open Go Go.RowKit Go.Proofs.Ytnngaedhedbenaa.Ev Go.Proofs.Ytnngaedhedbenaa.NodeE Go.Proofs.Ytnngaedhedbenaa.Tr

def fLv (cs : List Value) (o n c : Nat) (Q : Nat → Nat × List Int → Prop) : LoopF (Nat × List Int) where
  ts _ := [3, 11, 12, 13]
  hs z := match z with | 0 => [0] | _ => [0, 13]
  tv z := fun ⟨i, out⟩ => [match z with | 0 => .slice none 0 0 | _ => .slice (some ⟨13, 0, none⟩) out.length mk, .slice (some ⟨0, o, none⟩) n c, .int .i64 (n : Int), .int .i64 (i : Int)]
  hv z := fun ⟨i, out⟩ => match z with | 0 => [.ro cs] | _ => [.ro cs, .vec (eInt.row out) 3 1]
  inv := Q
  mu _ := fun ⟨i, out⟩ => n - i
  nx := 14
theorem fLv_ok (cs : List Value) (o n c : Nat) (Q : Nat → Nat × List Int → Prop) (hpl : ∀ x ∈ cs, leafG x = true) : (fLv cs o n c Q).OK 1 := by
  refine ⟨(by decide : 1 ≤ 14), fun z i h k hk => ?_, fun z i h v hv k hk => ?_, fun z i h x hx => ?_⟩
  · show k < 14
    match z with
    | 0 => simp [fLv] at hk; omega
    | z + 1 => simp [fLv] at hk; omega
  · show k < 14
    match z with
    | 0 =>
      simp [fLv] at hv
      repeat' (refine Or.elim hv (fun hv => ?_) (fun hv => ?_))
      all_goals (subst hv; simp [nms, nm1, nm0] at hk; try omega)
    | z + 1 =>
      simp [fLv] at hv
      repeat' (refine Or.elim hv (fun hv => ?_) (fun hv => ?_))
      all_goals (subst hv; simp [nms, nm1, nm0] at hk; try omega)
  · match z with
    | 0 =>
      simp [fLv] at hx
      subst hx
      exact Blk.plain.namesLt (b := .ro cs) hpl _
    | z + 1 =>
      simp [fLv] at hx
      rcases hx with rfl | rfl
      · exact Blk.plain.namesLt (b := .ro cs) hpl _
      · exact Blk.plain.namesLt (b := .vec _ _ _) (Elt.row_pl _) _
structure DP where
  i : Nat
  m : Int
  r : List Int
def fDp (cs : List Value) (o n c : Nat) (Q : DP → Prop) : LoopF DP where
  ts _ := [3, 4, 17, 18, 19]
  hs _ := [0, 10]
  tv _ := fun ⟨i, m, r⟩ => [.slice (some ⟨10, 0, none⟩) n n, .int .i64 m, .slice (some ⟨0, o, none⟩) n c, .int .i64 (n : Int), .int .i64 (i : Int)]
  hv _ := fun ⟨i, m, r⟩ => [.ro cs, .cells (eInt.row r) 3]
  inv _ := Q
  mu _ := fun ⟨i, m, r⟩ => n - i
  nx := 14

theorem fDp_ok (cs : List Value) (o n c : Nat) (Q : DP → Prop) (hpl : ∀ x ∈ cs, leafG x = true) : (fDp cs o n c Q).OK 1 := by
  refine ⟨(by decide : 1 ≤ 14), fun z i h k hk => ?_, fun z i h v hv k hk => ?_, fun z i h x hx => ?_⟩
  · show k < 14
    simp [fDp] at hk; omega
  · show k < 14
    simp [fDp] at hv
    repeat' (refine Or.elim hv (fun hv => ?_) (fun hv => ?_))
    all_goals (subst hv; simp [nms, nm1, nm0] at hk; try omega)
  · simp [fDp] at hx
    rcases hx with rfl | rfl
    · exact Blk.plain.namesLt (b := .ro cs) hpl _
    · exact Blk.plain.namesLt (b := .cells _ 3) (Elt.row_pl _) _

noncomputable def t_rgt : Sums := upd t_runpack 22 (some (roSum right_F))
theorem t_rgt_ok : SumsOK Try.prog t_rgt := sums_cons t_runpack_ok right_sum
end Go.Proofs.Ytnngaedhedbenaa.Tr


set_option linter.unusedVariables false
set_option linter.unusedSimpArgs false
set_option maxRecDepth 100000
namespace Go.Proofs.Ytnngaedhedbenaa.Tr
open Go Go.RowKit Go.Proofs.Ytnngaedhedbenaa.Ev Go.Proofs.Ytnngaedhedbenaa.NodeE Go.Proofs.Ytnngaedhedbenaa.Tr

theorem lvNil (u : Unit)  {E : Env} (hE : EnvOK E Try.prog Try.f25 1 0 (.slice none 0 0) [] []) (hob : all ([Back (Value.slice none 0 0) (Value.slice none 0 0) [] [] [], plainR []])) : Sat E [.code (bodyOf Try.f25)] (st0 Try.f25 [.slice none 0 0] (roRows []) 0) :=
  by_ret (T := auto0 t_rgt) (h := hints []) (ws := []) (nx' := 0) hE hm (auto0_ok t_rgt_ok) (by omega) (by simp) (by simp) (by kernel_rfl) hob
theorem lvIn (cs : List Value) (o n c : Nat) (Q : Nat → Nat × List Int → Prop)  {E : Env} {rv : Value} {rhs : List Nat} {rhv : List Blk} (hE : EnvOK E Try.prog Try.f25 1 1 rv rhs rhv) (hL : (fLv cs o n c Q).OK 1) (hob : all ([SameK (atLp (lp Try.f25 0)) (atLp (lp Try.f25 0)), Enter (fLv cs o n c Q) 0 none [Value.slice none 0 0, Value.slice (some (Addr.mk 0 o none)) n c, Value.int IntKind.i64 ((n : Int)), Value.int IntKind.i64 ((0 : Int))] [Blk.ro cs] [(0, 0)], Value.bool (rightI (eWord.list cs o n) ((4 : Int))) = Value.bool true, plainR [cs], eWord.Row cs o n, ∀ (w : Int), w ∈ eWord.list cs o n → U64 w, n ≤ 65536])) (hK : ∀ zz, (fLv cs o n c Q).inv 0 zz → ltO ((fLv cs o n c Q).mu 0 zz) none → Sat E (atLp (lp Try.f25 0)) ((fLv cs o n c Q).st 0 zz)) : Sat E [.code (bodyOf Try.f25)] (st0 Try.f25 [.slice (some ⟨0, o, none⟩) n c] (roRows [cs]) 1) :=
  by_to (T := auto0 t_rgt) (h := hints [(1, 1, {v := some (.bool true)})]) (ws := [.go, .stop]) (i0 := (0, [])) hE hm (auto0_ok t_rgt_ok) hL (by kernel_rfl) hob hK
theorem lvF0 (cs : List Value) (o n c : Nat) (Q : Nat → Nat × List Int → Prop) (i : Nat) (w v : Int) (out2 : List Int) (J : Act → World → Prop) {E : Env} {rv : Value} {rhs : List Nat} {rhv : List Blk} (hE : EnvOK E Try.prog Try.f25 1 1 rv rhs rhv) (hL : (fLv cs o n c Q).OK 1) (hob : all ([SameK (mkLp (lp Try.f25 0) J) (mkLp (lp Try.f25 0) J), Enter (fLv cs o n c Q) 1 (some (n - i)) [Value.slice (some (Addr.mk 90 0 none)) 1 1267650600228229401496703205376, Value.slice (some (Addr.mk 0 o none)) n c, Value.int IntKind.i64 ((n : Int)), Value.int IntKind.i64 (Int.ofNat i.succ)] [Blk.ro cs, Blk.vec (eInt.row out2) 3 1] [(13, 90), (0, 0)], Value.int IntKind.i64 (IntKind.i64.wrap (Int.ofNat i.succ)) = Value.int IntKind.i64 (Int.ofNat i.succ), AppOK none 0 0 1 8 1 [Value.int IntKind.i64 ((i : Int))] 0 (eInt.row out2), Value.tuple (Array.mk [Value.agg (Array.mk [Value.bool (okB w && lfB w), Value.int IntKind.i64 (sV w), Value.int IntKind.i64 (sF w), Value.int IntKind.i64 (sA w), Value.int IntKind.i64 (sX w), Value.int IntKind.i64 (sY w)]), Value.bool (okB w)]) = Value.tuple (Array.mk [Value.agg (Array.mk [Value.bool true, Value.int IntKind.i64 v, Value.int IntKind.i64 ((0 : Int)), Value.int IntKind.i64 ((0 : Int)), Value.int IntKind.i64 ((0 : Int)), Value.int IntKind.i64 ((0 : Int))]), Value.bool true]), U64 w, readPart Try.prog 26 cs (o + ((i : Int)).toNat * 1) = some (Value.int IntKind.u64 w), (0 : Int) ≤ (i : Int) ∧ (i : Int) < (n : Int), decide ((↑i : Int) < (↑n : Int)) = true])) (hK : ∀ zz, (fLv cs o n c Q).inv 1 zz → ltO ((fLv cs o n c Q).mu 1 zz) (some (n - i)) → Sat E (mkLp (lp Try.f25 0) J) ((fLv cs o n c Q).st 1 zz)) : Sat E (inLp (lp Try.f25 0) J) ((fLv cs o n c Q).st 0 (i, [])) :=
  by_to (T := auto0 t_rgt) (h := hints [(6, 1, {p := true}), (6, 2, {o := some (.int .u64 w)}), (7, 1, {v := some (.tuple ⟨[nd true v 0 0 0 0, .bool true]⟩)}), (9, 3, {c := some (eInt.row out2)}), (10, 0, {v := some (.int .i64 ((i + 1 : Nat) : Int))})]) (ws := [.b true]) (i0 := (i + 1, out2)) hE hm (auto0_ok t_rgt_ok) hL (by kernel_rfl) hob hK
theorem lvI0 (cs : List Value) (o n c : Nat) (Q : Nat → Nat × List Int → Prop) (i : Nat) (w f a x y : Int) (J : Act → World → Prop) {E : Env} {rv : Value} {rhs : List Nat} {rhv : List Blk} (hE : EnvOK E Try.prog Try.f25 1 1 rv rhs rhv) (hL : (fLv cs o n c Q).OK 1) (hob : all ([SameK (mkLp (lp Try.f25 0) J) (mkLp (lp Try.f25 0) J), Enter (fLv cs o n c Q) 0 (some (n - i)) [Value.slice none 0 0, Value.slice (some (Addr.mk 0 o none)) n c, Value.int IntKind.i64 ((n : Int)), Value.int IntKind.i64 (Int.ofNat i.succ)] [Blk.ro cs] [(0, 0)], Value.int IntKind.i64 (IntKind.i64.wrap (Int.ofNat i.succ)) = Value.int IntKind.i64 (Int.ofNat i.succ), Value.tuple (Array.mk [Value.agg (Array.mk [Value.bool (okB w && lfB w), Value.int IntKind.i64 (sV w), Value.int IntKind.i64 (sF w), Value.int IntKind.i64 (sA w), Value.int IntKind.i64 (sX w), Value.int IntKind.i64 (sY w)]), Value.bool (okB w)]) = Value.tuple (Array.mk [Value.agg (Array.mk [Value.bool false, Value.int IntKind.i64 ((0 : Int)), Value.int IntKind.i64 f, Value.int IntKind.i64 a, Value.int IntKind.i64 x, Value.int IntKind.i64 y]), Value.bool true]), U64 w, readPart Try.prog 26 cs (o + ((i : Int)).toNat * 1) = some (Value.int IntKind.u64 w), (0 : Int) ≤ (i : Int) ∧ (i : Int) < (n : Int), decide ((↑i : Int) < (↑n : Int)) = true])) (hK : ∀ zz, (fLv cs o n c Q).inv 0 zz → ltO ((fLv cs o n c Q).mu 0 zz) (some (n - i)) → Sat E (mkLp (lp Try.f25 0) J) ((fLv cs o n c Q).st 0 zz)) : Sat E (inLp (lp Try.f25 0) J) ((fLv cs o n c Q).st 0 (i, [])) :=
  by_to (T := auto0 t_rgt) (h := hints [(6, 1, {p := true}), (6, 2, {o := some (.int .u64 w)}), (7, 1, {v := some (.tuple ⟨[nd false 0 f a x y, .bool true]⟩)}), (10, 0, {v := some (.int .i64 ((i + 1 : Nat) : Int))})]) (ws := [.b true]) (i0 := (i + 1, [])) hE hm (auto0_ok t_rgt_ok) hL (by kernel_rfl) hob hK
theorem lvF1 (cs : List Value) (o n c : Nat) (Q : Nat → Nat × List Int → Prop) (i : Nat) (out : List Int) (w v : Int) (out2 : List Int) (J : Act → World → Prop) {E : Env} {rv : Value} {rhs : List Nat} {rhv : List Blk} (hE : EnvOK E Try.prog Try.f25 1 1 rv rhs rhv) (hL : (fLv cs o n c Q).OK 1) (hob : all ([SameK (mkLp (lp Try.f25 0) J) (mkLp (lp Try.f25 0) J), Enter (fLv cs o n c Q) 1 (some (n - i)) [Value.slice (some (Addr.mk 90 0 none)) (out.length + 1) 1267650600228229401496703205376, Value.slice (some (Addr.mk 0 o none)) n c, Value.int IntKind.i64 ((n : Int)), Value.int IntKind.i64 (Int.ofNat i.succ)] [Blk.ro cs, Blk.vec (eInt.row out2) 3 1] [(13, 90), (0, 0)], Value.int IntKind.i64 (IntKind.i64.wrap (Int.ofNat i.succ)) = Value.int IntKind.i64 (Int.ofNat i.succ), AppOK (some (Blk.vec (eInt.row out) 3 1)) out.length 1267650600228229401496703205376 1 8 1 [Value.int IntKind.i64 ((i : Int))] 0 (eInt.row out2), Value.tuple (Array.mk [Value.agg (Array.mk [Value.bool (okB w && lfB w), Value.int IntKind.i64 (sV w), Value.int IntKind.i64 (sF w), Value.int IntKind.i64 (sA w), Value.int IntKind.i64 (sX w), Value.int IntKind.i64 (sY w)]), Value.bool (okB w)]) = Value.tuple (Array.mk [Value.agg (Array.mk [Value.bool true, Value.int IntKind.i64 v, Value.int IntKind.i64 ((0 : Int)), Value.int IntKind.i64 ((0 : Int)), Value.int IntKind.i64 ((0 : Int)), Value.int IntKind.i64 ((0 : Int))]), Value.bool true]), U64 w, readPart Try.prog 26 cs (o + ((i : Int)).toNat * 1) = some (Value.int IntKind.u64 w), (0 : Int) ≤ (i : Int) ∧ (i : Int) < (n : Int), decide ((↑i : Int) < (↑n : Int)) = true])) (hK : ∀ zz, (fLv cs o n c Q).inv 1 zz → ltO ((fLv cs o n c Q).mu 1 zz) (some (n - i)) → Sat E (mkLp (lp Try.f25 0) J) ((fLv cs o n c Q).st 1 zz)) : Sat E (inLp (lp Try.f25 0) J) ((fLv cs o n c Q).st 1 (i, out)) :=
  by_to (T := auto0 t_rgt) (h := hints [(6, 1, {p := true}), (6, 2, {o := some (.int .u64 w)}), (7, 1, {v := some (.tuple ⟨[nd true v 0 0 0 0, .bool true]⟩)}), (9, 3, {c := some (eInt.row out2)}), (10, 0, {v := some (.int .i64 ((i + 1 : Nat) : Int))})]) (ws := [.b true]) (i0 := (i + 1, out2)) hE hm (auto0_ok t_rgt_ok) hL (by kernel_rfl) hob hK
theorem lvI1 (cs : List Value) (o n c : Nat) (Q : Nat → Nat × List Int → Prop) (i : Nat) (out : List Int) (w f a x y : Int) (J : Act → World → Prop) {E : Env} {rv : Value} {rhs : List Nat} {rhv : List Blk} (hE : EnvOK E Try.prog Try.f25 1 1 rv rhs rhv) (hL : (fLv cs o n c Q).OK 1) (hob : all ([SameK (mkLp (lp Try.f25 0) J) (mkLp (lp Try.f25 0) J), Enter (fLv cs o n c Q) 1 (some (n - i)) [Value.slice (some (Addr.mk 13 0 none)) out.length 1267650600228229401496703205376, Value.slice (some (Addr.mk 0 o none)) n c, Value.int IntKind.i64 ((n : Int)), Value.int IntKind.i64 (Int.ofNat i.succ)] [Blk.ro cs, Blk.vec (eInt.row out) 3 1] [(13, 13), (0, 0)], Value.int IntKind.i64 (IntKind.i64.wrap (Int.ofNat i.succ)) = Value.int IntKind.i64 (Int.ofNat i.succ), Value.tuple (Array.mk [Value.agg (Array.mk [Value.bool (okB w && lfB w), Value.int IntKind.i64 (sV w), Value.int IntKind.i64 (sF w), Value.int IntKind.i64 (sA w), Value.int IntKind.i64 (sX w), Value.int IntKind.i64 (sY w)]), Value.bool (okB w)]) = Value.tuple (Array.mk [Value.agg (Array.mk [Value.bool false, Value.int IntKind.i64 ((0 : Int)), Value.int IntKind.i64 f, Value.int IntKind.i64 a, Value.int IntKind.i64 x, Value.int IntKind.i64 y]), Value.bool true]), U64 w, readPart Try.prog 26 cs (o + ((i : Int)).toNat * 1) = some (Value.int IntKind.u64 w), (0 : Int) ≤ (i : Int) ∧ (i : Int) < (n : Int), decide ((↑i : Int) < (↑n : Int)) = true])) (hK : ∀ zz, (fLv cs o n c Q).inv 1 zz → ltO ((fLv cs o n c Q).mu 1 zz) (some (n - i)) → Sat E (mkLp (lp Try.f25 0) J) ((fLv cs o n c Q).st 1 zz)) : Sat E (inLp (lp Try.f25 0) J) ((fLv cs o n c Q).st 1 (i, out)) :=
  by_to (T := auto0 t_rgt) (h := hints [(6, 1, {p := true}), (6, 2, {o := some (.int .u64 w)}), (7, 1, {v := some (.tuple ⟨[nd false 0 f a x y, .bool true]⟩)}), (10, 0, {v := some (.int .i64 ((i + 1 : Nat) : Int))})]) (ws := [.b true]) (i0 := (i + 1, out)) hE hm (auto0_ok t_rgt_ok) hL (by kernel_rfl) hob hK
theorem lvE (cs : List Value) (o n c : Nat) (Q : Nat → Nat × List Int → Prop) (i : Nat) (out : List Int) (J : Act → World → Prop) {E : Env} (hE : EnvOK E Try.prog Try.f25 1 1 (.slice (some ⟨100, 0, none⟩) out.length mk) [100] [.vec (eInt.row out) 3 1]) (hob : all ([Back (Value.slice (some (Addr.mk 13 0 none)) out.length 1267650600228229401496703205376) (Value.slice (some (Addr.mk 100 0 none)) out.length 1267650600228229401496703205376) [Blk.vec (eInt.row out) 3 1] [Blk.vec (eInt.row out) 3 1] [(100, 13)], decide ((↑i : Int) < (↑n : Int)) = false])) : Sat E (inLp (lp Try.f25 0) J) ((fLv cs o n c Q).st 1 (i, out)) :=
  by_ret (T := auto0 t_rgt) (h := hints []) (ws := [.b false]) (nx' := 101) hE hm (auto0_ok t_rgt_ok) (by omega) (by simp) (by intro x hx; simp at hx; subst hx; exact Blk.plain.namesLt (b := .vec _ _ _) (Elt.row_pl _) _) (by kernel_rfl) hob
theorem dpNil (u : Unit)  {E : Env} (hE : EnvOK E Try.prog Try.f26 1 0 (.int .i64 0) [] []) (hob : all ([Back (Value.int IntKind.i64 ((0 : Int))) (Value.int IntKind.i64 ((0 : Int))) [] [] [], plainR []])) : Sat E [.code (bodyOf Try.f26)] (st0 Try.f26 [.slice none 0 0] (roRows []) 0) :=
  by_ret (T := auto0 t_rgt) (h := hints []) (ws := []) (nx' := 0) hE hm (auto0_ok t_rgt_ok) (by omega) (by simp) (by simp) (by kernel_rfl) hob
theorem dpIn (cs : List Value) (o n c : Nat) (Q : DP → Prop) (zs r : List Int)  {E : Env} {rv : Value} {rhs : List Nat} {rhv : List Blk} (hE : EnvOK E Try.prog Try.f26 1 1 rv rhs rhv) (hL : (fDp cs o n c Q).OK 1) (hob : all ([SameK (atLp (lp Try.f26 0)) (atLp (lp Try.f26 0)), Enter (fDp cs o n c Q) 0 none [Value.slice (some (Addr.mk 25 0 none)) ((n : Int)).toNat ((n : Int)).toNat, Value.int IntKind.i64 ((1 : Int)), Value.slice (some (Addr.mk 0 o none)) n c, Value.int IntKind.i64 ((n : Int)), Value.int IntKind.i64 ((0 : Int))] [Blk.ro cs, Blk.cells (eInt.row r) 3] [(10, 25), (0, 0)], lset (eInt.row zs) 0 [Value.int IntKind.i64 1] = some (eInt.row r), (0 : Int) ≤ (0 : Int) ∧ (0 : Int) < (n : Int), MkOK ((n : Int)) ((n : Int)) 8 [Value.int IntKind.i64 ((0 : Int))] (eInt.row zs), Value.bool (rightI (eWord.list cs o n) ((4 : Int))) = Value.bool true, plainR [cs], eWord.Row cs o n, ∀ (w : Int), w ∈ eWord.list cs o n → U64 w, n ≤ 65536])) (hK : ∀ zz, (fDp cs o n c Q).inv 0 zz → ltO ((fDp cs o n c Q).mu 0 zz) none → Sat E (atLp (lp Try.f26 0)) ((fDp cs o n c Q).st 0 zz)) : Sat E [.code (bodyOf Try.f26)] (st0 Try.f26 [.slice (some ⟨0, o, none⟩) n c] (roRows [cs]) 1) :=
  by_to (T := auto0 t_rgt) (h := hints [(1, 1, {v := some (.bool true)}), (3, 2, {c := some (eInt.row zs)}), (4, 1, {p := true}), (4, 2, {c := some (eInt.row r)})]) (ws := [.go, .stop]) (i0 := ⟨0, 1, r⟩) hE hm (auto0_ok t_rgt_ok) hL (by kernel_rfl) hob hK
theorem dpF (cs : List Value) (o n c : Nat) (Q : DP → Prop) (i : Nat) (m m2 : Int) (r : List Int) (w v g : Int) (J : Act → World → Prop) {E : Env} {rv : Value} {rhs : List Nat} {rhv : List Blk} (hE : EnvOK E Try.prog Try.f26 1 1 rv rhs rhv) (hL : (fDp cs o n c Q).OK 1) (hob : all ([SameK (mkLp (lp Try.f26 0) J) (mkLp (lp Try.f26 0) J), Enter (fDp cs o n c Q) 0 (some (n - i)) [Value.slice (some (Addr.mk 10 0 none)) n n, Value.int IntKind.i64 m2, Value.slice (some (Addr.mk 0 o none)) n c, Value.int IntKind.i64 ((n : Int)), Value.int IntKind.i64 (Int.ofNat i.succ)] [Blk.ro cs, Blk.cells (eInt.row r) 3] [(10, 10), (0, 0)], Value.int IntKind.i64 (IntKind.i64.wrap (Int.ofNat i.succ)) = Value.int IntKind.i64 (Int.ofNat i.succ), Value.tuple (Array.mk [Value.agg (Array.mk [Value.bool (okB w && lfB w), Value.int IntKind.i64 (sV w), Value.int IntKind.i64 (sF w), Value.int IntKind.i64 (sA w), Value.int IntKind.i64 (sX w), Value.int IntKind.i64 (sY w)]), Value.bool (okB w)]) = Value.tuple (Array.mk [Value.agg (Array.mk [Value.bool true, Value.int IntKind.i64 v, Value.int IntKind.i64 ((0 : Int)), Value.int IntKind.i64 ((0 : Int)), Value.int IntKind.i64 ((0 : Int)), Value.int IntKind.i64 ((0 : Int))]), Value.bool true]), U64 w, Value.int IntKind.i64 (maxI m g) = Value.int IntKind.i64 m2, readPart Try.prog 3 (eInt.row r) (0 + ((i : Int)).toNat * 1) = some (Value.int IntKind.i64 g), (0 : Int) ≤ (i : Int) ∧ (i : Int) < (n : Int), readPart Try.prog 26 cs (o + ((i : Int)).toNat * 1) = some (Value.int IntKind.u64 w), (0 : Int) ≤ (i : Int) ∧ (i : Int) < (n : Int), decide ((↑i : Int) < (↑n : Int)) = true])) (hK : ∀ zz, (fDp cs o n c Q).inv 0 zz → ltO ((fDp cs o n c Q).mu 0 zz) (some (n - i)) → Sat E (mkLp (lp Try.f26 0) J) ((fDp cs o n c Q).st 0 zz)) : Sat E (inLp (lp Try.f26 0) J) ((fDp cs o n c Q).st 0 ⟨i, m, r⟩) :=
  by_to (T := auto0 t_rgt) (h := hints [(8, 1, {p := true}), (8, 2, {o := some (.int .u64 w)}), (9, 3, {p := true}), (9, 4, {o := some (.int .i64 g)}), (9, 5, {v := some (.int .i64 m2)}), (10, 1, {v := some (.tuple ⟨[nd true v 0 0 0 0, .bool true]⟩)}), (13, 0, {v := some (.int .i64 ((i + 1 : Nat) : Int))})]) (ws := [.b true]) (i0 := ⟨i + 1, m2, r⟩) hE hm (auto0_ok t_rgt_ok) hL (by kernel_rfl) hob hK
theorem dpI (cs : List Value) (o n c : Nat) (Q : DP → Prop) (i : Nat) (m m2 : Int) (r r1 r2 : List Int) (w f a x y g g1 : Int) (J : Act → World → Prop) {E : Env} {rv : Value} {rhs : List Nat} {rhv : List Blk} (hE : EnvOK E Try.prog Try.f26 1 1 rv rhs rhv) (hL : (fDp cs o n c Q).OK 1) (hob : all ([SameK (mkLp (lp Try.f26 0) J) (mkLp (lp Try.f26 0) J), Enter (fDp cs o n c Q) 0 (some (n - i)) [Value.slice (some (Addr.mk 10 0 none)) n n, Value.int IntKind.i64 m2, Value.slice (some (Addr.mk 0 o none)) n c, Value.int IntKind.i64 ((n : Int)), Value.int IntKind.i64 (Int.ofNat i.succ)] [Blk.ro cs, Blk.cells (eInt.row r2) 3] [(10, 10), (0, 0)], Value.int IntKind.i64 (IntKind.i64.wrap (Int.ofNat i.succ)) = Value.int IntKind.i64 (Int.ofNat i.succ), lset (eInt.row r1) (0 + y.toNat * 1) [Value.int IntKind.i64 g1] = some (eInt.row r2), (0 : Int) ≤ y ∧ y < (n : Int), lset (eInt.row r) (0 + x.toNat * 1) [Value.int IntKind.i64 g1] = some (eInt.row r1), (0 : Int) ≤ x ∧ x < (n : Int), Value.int IntKind.i64 (IntKind.i64.wrap (g + (1 : Int))) = Value.int IntKind.i64 g1, readPart Try.prog 3 (eInt.row r) (0 + ((i : Int)).toNat * 1) = some (Value.int IntKind.i64 g), (0 : Int) ≤ (i : Int) ∧ (i : Int) < (n : Int), Value.int IntKind.i64 (IntKind.i64.wrap (g + (1 : Int))) = Value.int IntKind.i64 g1, readPart Try.prog 3 (eInt.row r) (0 + ((i : Int)).toNat * 1) = some (Value.int IntKind.i64 g), (0 : Int) ≤ (i : Int) ∧ (i : Int) < (n : Int), Value.tuple (Array.mk [Value.agg (Array.mk [Value.bool (okB w && lfB w), Value.int IntKind.i64 (sV w), Value.int IntKind.i64 (sF w), Value.int IntKind.i64 (sA w), Value.int IntKind.i64 (sX w), Value.int IntKind.i64 (sY w)]), Value.bool (okB w)]) = Value.tuple (Array.mk [Value.agg (Array.mk [Value.bool false, Value.int IntKind.i64 ((0 : Int)), Value.int IntKind.i64 f, Value.int IntKind.i64 a, Value.int IntKind.i64 x, Value.int IntKind.i64 y]), Value.bool true]), U64 w, Value.int IntKind.i64 (maxI m g) = Value.int IntKind.i64 m2, readPart Try.prog 3 (eInt.row r) (0 + ((i : Int)).toNat * 1) = some (Value.int IntKind.i64 g), (0 : Int) ≤ (i : Int) ∧ (i : Int) < (n : Int), readPart Try.prog 26 cs (o + ((i : Int)).toNat * 1) = some (Value.int IntKind.u64 w), (0 : Int) ≤ (i : Int) ∧ (i : Int) < (n : Int), decide ((↑i : Int) < (↑n : Int)) = true])) (hK : ∀ zz, (fDp cs o n c Q).inv 0 zz → ltO ((fDp cs o n c Q).mu 0 zz) (some (n - i)) → Sat E (mkLp (lp Try.f26 0) J) ((fDp cs o n c Q).st 0 zz)) : Sat E (inLp (lp Try.f26 0) J) ((fDp cs o n c Q).st 0 ⟨i, m, r⟩) :=
  by_to (T := auto0 t_rgt) (h := hints [(8, 1, {p := true}), (8, 2, {o := some (.int .u64 w)}), (9, 3, {p := true}), (9, 4, {o := some (.int .i64 g)}), (9, 5, {v := some (.int .i64 m2)}), (10, 1, {v := some (.tuple ⟨[nd false 0 f a x y, .bool true]⟩)}), (12, 8, {p := true}), (12, 9, {o := some (.int .i64 g)}), (12, 10, {v := some (.int .i64 g1)}), (12, 13, {p := true}), (12, 14, {o := some (.int .i64 g)}), (12, 15, {v := some (.int .i64 g1)}), (12, 16, {p := true}), (12, 17, {c := some (eInt.row r1)}), (12, 18, {p := true}), (12, 19, {c := some (eInt.row r2)}), (13, 0, {v := some (.int .i64 ((i + 1 : Nat) : Int))})]) (ws := [.b true]) (i0 := ⟨i + 1, m2, r2⟩) hE hm (auto0_ok t_rgt_ok) hL (by kernel_rfl) hob hK
theorem dpE (cs : List Value) (o n c : Nat) (Q : DP → Prop) (i : Nat) (m : Int) (r : List Int) (J : Act → World → Prop) {E : Env} (hE : EnvOK E Try.prog Try.f26 1 1 (.int .i64 m) [] []) (hob : all ([Back (Value.int IntKind.i64 m) (Value.int IntKind.i64 m) [] [] [], decide ((↑i : Int) < (↑n : Int)) = false])) : Sat E (inLp (lp Try.f26 0) J) ((fDp cs o n c Q).st 0 ⟨i, m, r⟩) :=
  by_ret (T := auto0 t_rgt) (h := hints []) (ws := [.b false]) (nx' := 1) hE hm (auto0_ok t_rgt_ok) (by omega) (by simp) (by simp) (by kernel_rfl) hob
end Go.Proofs.Ytnngaedhedbenaa.Tr


set_option linter.unusedVariables false
set_option linter.unusedSimpArgs false
set_option maxRecDepth 100000
namespace Go.Proofs.Ytnngaedhedbenaa.Tr
open Go Go.RowKit Go.Proofs.Ytnngaedhedbenaa.Ev Go.Proofs.Ytnngaedhedbenaa.NodeE Go.Proofs.Ytnngaedhedbenaa.Tr

theorem last_leaf {ws : List Int} {dim : Int} (h : rightI ws dim = true) {w : Int} (hw : ws[ws.length - 1]? = some w) : lfB w = true := by
  obtain ⟨⟨h1, _⟩, h2, _⟩ := right_parts.1 h
  have hg := h2 _ w hw
  cases hl : lfB w
  · obtain ⟨_, _, _, a, b, c, d⟩ := good_inner hg hl
    omega
  · rfl
theorem leafIx_one (i : Nat) (w : Int) : leafIx i [w] = bif okB w && lfB w then [(i : Int)] else [] := rfl
theorem leafIx_ne {ws : List Int} {dim : Int} (h : rightI ws dim = true) : leafIx 0 ws ≠ [] := by
  obtain ⟨⟨h1, _⟩, _, _⟩ := right_parts.1 h
  have hw : ws[ws.length - 1]? = some (ws[ws.length - 1]'(by omega)) := List.getElem?_eq_getElem (by omega)
  have hl := last_leaf h hw
  have ho := right_ok h _ (List.mem_of_getElem? hw)
  generalize hx : ws[ws.length - 1]'(by omega) = x at hw hl ho
  have e : ws = ws.take (ws.length - 1) ++ [x] := by
    have := List.take_add_one (l := ws) (i := ws.length - 1)
    rw [hw, show ws.length - 1 + 1 = ws.length by omega, List.take_length] at this
    exact this
  rw [e, leafIx_app, leafIx_one, ho, hl]
  simp
theorem leafIx_len : ∀ (i : Nat) (ws : List Int), (leafIx i ws).length ≤ ws.length
  | _, [] => Nat.le_refl _
  | i, w :: ws => by
    have := leafIx_len (i + 1) ws
    simp only [leafIx]
    cases okB w && lfB w <;> simp <;> omega
theorem leaves_spec (cs : List Value) (o n c : Nat) (hr : eWord.Row cs o n) (hpl : ∀ x ∈ cs, leafG x = true) (hU : ∀ w ∈ eWord.list cs o n, U64 w) (hn : n ≤ 65536) (hR : rightI (eWord.list cs o n) 4 = true) :
    CallSpec Try.prog 25 [.slice (some ⟨0, o, none⟩) n c] (roRows [cs]) 1 (.slice (some ⟨100, 0, none⟩) (leafIx 0 (eWord.list cs o n)).length mk) (assocN [100] [.vec (eInt.row (leafIx 0 (eWord.list cs o n))) 3 1]) := by
  refine spec_of_sat Try.func25 rfl fun E hE => ?_
  have hlen : (eWord.list cs o n).length = n := Elt.list_len _ _ _
  generalize hws : eWord.list cs o n = ws at hU hlen hE hR
  obtain ⟨⟨hn1, hn31⟩, hgood, hone⟩ := right_parts.1 hR
  have rnr : ∀ f : Nat → Nat, Blk.rnB f (.ro cs) = .ro cs := fun f => Blk.plain.rnB (b := .ro cs) hpl f
  have hUl : ∀ w ∈ eWord.list cs o n, U64 w := by rw [hws]; exact hU
  have hr1 : Value.bool (rightI (eWord.list cs o n) 4) = .bool true := by rw [hws, hR]
  let Q : Nat → Nat × List Int → Prop := fun z s => s.1 ≤ n ∧ s.2 = leafIx 0 (ws.take s.1) ∧ ((z = 0 ∧ s.2 = []) ∨ (z = 1 ∧ s.2 ≠ []))
  have okL := fLv_ok cs o n c Q hpl
  have rnv : ∀ (f : Nat → Nat) (l : List Int), Blk.rnB f (.vec (eInt.row l) 3 1) = .vec (eInt.row l) 3 1 := fun f l => Blk.plain.rnB (b := .vec (eInt.row l) 3 1) (Elt.row_pl _) f
  refine lvIn cs o n c Q hE okL ⟨rfl, ⟨(0, []), ⟨Nat.zero_le _, rfl, Or.inl ⟨rfl, rfl⟩⟩, trivial, rfl, by simp only [fLv, List.map_cons, List.map_nil, rnr]⟩, hr1, plain1 hpl, hr, hUl, hn, trivial⟩ fun zz hz _ => by_loop (fLv cs o n c Q) (lp Try.f25 0) ?_ 0 zz hz
  rintro b ⟨i, out⟩ hinv J hJ
  have hinv : i ≤ n ∧ out = leafIx 0 (ws.take i) ∧ ((b = 0 ∧ out = []) ∨ (b = 1 ∧ out ≠ [])) := hinv
  obtain ⟨k1, k2, k3⟩ := hinv
  have hJ' : ∀ b' zz, (fLv cs o n c Q).inv b' zz → ltO ((fLv cs o n c Q).mu b' zz) (some (n - i)) → Sat E (mkLp (lp Try.f25 0) J) ((fLv cs o n c Q).st b' zz) := fun b' zz h1 h2 => hJ b' zz h1 h2
  by_cases hin : i < n
  · have hlt : decide ((i : Int) < (n : Int)) = true := decide_eq_true (by omega)
    obtain ⟨w, hw⟩ : ∃ w, ws[i]? = some w := ⟨_, List.getElem?_eq_getElem (by rw [hlen]; omega)⟩
    have hrd := hr.read1 (P := Try.prog) (ty := 26) (by kernel_rfl) rfl (i := i) (x := w) (by rw [hws]; exact hw) rfl rfl
    rw [← Nat.mul_one i] at hrd
    have htk : ws.take (i + 1) = ws.take i ++ [w] := by rw [List.take_add_one, hw]; rfl
    have ho := right_ok hR w (List.mem_of_getElem? hw)
    have htl : (ws.take i).length = i := by rw [List.length_take, hlen]; omega
    have hmu : n - (i + 1) < n - i := by omega
    cases hl : lfB w
    · have hnx : leafIx 0 (ws.take (i + 1)) = out := by rw [htk, leafIx_app, leafIx_one, hl, Bool.and_false, k2]; simp
      rcases k3 with ⟨rfl, ko⟩ | ⟨rfl, ko⟩
      · rw [ko] at hnx ⊢
        exact lvI0 cs o n c Q i w (uF w) (low32 w) (uX w) (uY w) J hE okL ⟨rfl, ⟨(i + 1, []), ⟨hin, hnx.symm, Or.inl ⟨rfl, rfl⟩⟩, hmu, rfl, by simp only [fLv, List.map_cons, List.map_nil, rnr]⟩, i64_succ (by omega), unp_inner ho hl, hU w (List.mem_of_getElem? hw), hrd, ⟨Int.natCast_nonneg _, Int.ofNat_lt.2 hin⟩, hlt, trivial⟩ (hJ' 0)
      · exact lvI1 cs o n c Q i out w (uF w) (low32 w) (uX w) (uY w) J hE okL ⟨rfl, ⟨(i + 1, out), ⟨hin, hnx.symm, Or.inr ⟨rfl, ko⟩⟩, hmu, rfl, by simp only [fLv, List.map_cons, List.map_nil, rnr, rnv]⟩, i64_succ (by omega), unp_inner ho hl, hU w (List.mem_of_getElem? hw), hrd, ⟨Int.natCast_nonneg _, Int.ofNat_lt.2 hin⟩, hlt, trivial⟩ (hJ' 1)
    · have hnx : leafIx 0 (ws.take (i + 1)) = out ++ [(i : Int)] := by rw [htk, leafIx_app, leafIx_one, ho, hl, k2, htl]; simp
      have hol : out.length ≤ i := by
        rw [k2]
        exact Nat.le_trans (leafIx_len 0 _) (by omega)
      rcases k3 with ⟨rfl, ko⟩ | ⟨rfl, ko⟩
      · rw [ko] at hnx ⊢
        exact lvF0 cs o n c Q i w (low32 w) [(i : Int)] J hE okL ⟨rfl, ⟨(i + 1, [(i : Int)]), ⟨hin, hnx.symm, Or.inr ⟨rfl, by simp⟩⟩, hmu, rfl, by simp only [fLv, List.map_cons, List.map_nil, rnr, rnv]⟩, i64_succ (by omega), appOK_nil (e := eInt) (new := [(i : Int)]) rfl rfl rfl rfl (by decide) (by decide) (by decide), unp_leaf ho hl, hU w (List.mem_of_getElem? hw), hrd, ⟨Int.natCast_nonneg _, Int.ofNat_lt.2 hin⟩, hlt, trivial⟩ (hJ' 1)
      · exact lvF1 cs o n c Q i out w (low32 w) (out ++ [(i : Int)]) J hE okL ⟨rfl, ⟨(i + 1, out ++ [(i : Int)]), ⟨hin, hnx.symm, Or.inr ⟨rfl, by simp⟩⟩, hmu, (by simp [fLv]; first | rfl | exact ⟨rfl, rfl, rfl, rfl⟩ | exact ⟨rfl, rfl, rfl⟩ | exact ⟨rfl, rfl⟩), by simp only [fLv, List.map_cons, List.map_nil, rnr, rnv]⟩, i64_succ (by omega), appOK (e := eInt) (L := out) (new := [(i : Int)]) rfl rfl rfl rfl (Nat.le_refl _) (by simp) (by decide) (by omega) (by omega), unp_leaf ho hl, hU w (List.mem_of_getElem? hw), hrd, ⟨Int.natCast_nonneg _, Int.ofNat_lt.2 hin⟩, hlt, trivial⟩ (hJ' 1)
  · have hlt : decide ((i : Int) < (n : Int)) = false := decide_eq_false (by omega)
    rw [List.take_of_length_le (by omega)] at k2
    rcases k3 with ⟨rfl, ko⟩ | ⟨rfl, ko⟩
    · exact absurd (k2.symm.trans ko) (leafIx_ne hR)
    · rw [← k2] at hE
      exact lvE cs o n c Q i out J hE ⟨⟨rfl, by simp only [List.map_cons, List.map_nil, rnv]⟩, hlt, trivial⟩
def leafI0 (ws : List Int) : List Int := leafIx 0 ws
def depI (ws : List Int) (n : Nat) : Int := (depGo 0 ws (dep0 n)).1
def leaves_F (LX : List Int → List Int) : RoF := fun xs css => match xs, css with
  | [.slice (some ⟨0, o, none⟩) n c], [cs] => some (.slice (some ⟨100, 0, none⟩) (LX (eWord.list cs o n)).length mk, [.vec (eInt.row (LX (eWord.list cs o n))) 3 1], [LX = leafI0, eWord.Row cs o n, ∀ w ∈ eWord.list cs o n, U64 w, n ≤ 65536, rightI (eWord.list cs o n) 4 = true])
  | [.slice none 0 0], [] => some (.slice none 0 0, [], [])
  | _, _ => none
theorem leaves_sum (LX : List Int → List Int) : SumOK Try.prog 25 (roSum (leaves_F LX)) := by
  refine roSum_ok (en Try.func25 rfl) ?_ (fun xs css r h => ?_)
  · intro xs css v blks ob h hob hpl hl
    unfold leaves_F at h
    split at h
    · rename_i o n c cs
      simp only [Option.some.injEq, Prod.mk.injEq] at h
      obtain ⟨rfl, rfl, rfl⟩ := h
      obtain rfl : LX = leafI0 := hob _ (List.mem_cons_self ..)
      refine ⟨by simp, fun x hx => by simp at hx; subst hx; exact ⟨Elt.row_pl _, rfl⟩, fun j hj => by simp [nms, nm1, nm0] at hj; subst hj; simp, ?_⟩
      exact leaves_spec cs o n c (hob _ (List.mem_cons_of_mem _ (List.mem_cons_self ..))) (hpl cs (by simp)) (hob _ (List.mem_cons_of_mem _ (List.mem_cons_of_mem _ (List.mem_cons_self ..)))) (hob _ (by simp)) (hob _ (by simp))
    · simp only [Option.some.injEq, Prod.mk.injEq] at h
      obtain ⟨rfl, rfl, rfl⟩ := h
      refine ⟨by simp, by simp, fun j hj => by simp [nms, nm1, nmL, nm0] at hj, ?_⟩
      exact spec_of_sat Try.func25 rfl fun E hE => lvNil () hE ⟨⟨rfl, rfl⟩, (fun x hx => by simp at hx), trivial⟩
    · simp at h
  · unfold leaves_F at h
    split at h <;> simp at h <;> simp
/-! ### Depth -/
structure DpOK (n i : Nat) (d : Int × List Int) : Prop where
  len : d.2.length = n
  mr : 1 ≤ d.1 ∧ d.1 ≤ i + 1
  rr : ∀ v ∈ d.2, 0 ≤ v ∧ v ≤ i + 1
theorem dep0_ok (n : Nat) : DpOK n 0 (dep0 n) := by
  refine ⟨by simp [dep0], by simp [dep0], fun v hv => ?_⟩
  simp only [dep0] at hv
  rcases List.mem_or_eq_of_mem_set hv with hv | rfl
  · have := List.eq_of_mem_replicate hv; omega
  · decide
theorem getD_mem {r : List Int} {i : Nat} (h : i < r.length) : r.getD i 0 ∈ r ∧ r[i]? = some (r.getD i 0) := by
  have e : r.getD i 0 = r[i] := by rw [List.getD_eq_getElem?_getD, List.getElem?_eq_getElem h]; rfl
  rw [e]
  exact ⟨List.getElem_mem h, List.getElem?_eq_getElem h⟩
theorem depS_ok {n i : Nat} {d : Int × List Int} (w : Int) (h : DpOK n i d) (hi : i < n) : DpOK n (i + 1) (depS i w d) := by
  have hg := getD_mem (r := d.2) (i := i) (by rw [h.len]; exact hi)
  have hgr := h.rr _ hg.1
  have hm := h.mr
  refine ⟨?_, ?_, fun v hv => ?_⟩
  · simp only [depS]
    cases okB w && lfB w <;> simp [h.len]
  · simp only [depS]; omega
  · simp only [depS] at hv
    cases hb : okB w && lfB w <;> rw [hb] at hv
    · simp only [cond_false] at hv
      rcases List.mem_or_eq_of_mem_set hv with hv | rfl
      · rcases List.mem_or_eq_of_mem_set hv with hv | rfl
        · have := h.rr v hv; omega
        · omega
      · omega
    · have := h.rr v hv; omega
theorem depth_spec (cs : List Value) (o n c : Nat) (hr : eWord.Row cs o n) (hpl : ∀ x ∈ cs, leafG x = true) (hU : ∀ w ∈ eWord.list cs o n, U64 w) (hn : n ≤ 65536) (hR : rightI (eWord.list cs o n) 4 = true) :
    CallSpec Try.prog 26 [.slice (some ⟨0, o, none⟩) n c] (roRows [cs]) 1 (.int .i64 (depGo 0 (eWord.list cs o n) (dep0 n)).1) (assocN [] []) := by
  refine spec_of_sat Try.func26 rfl fun E hE => ?_
  have hlen : (eWord.list cs o n).length = n := Elt.list_len _ _ _
  generalize hws : eWord.list cs o n = ws at hU hlen hE hR
  obtain ⟨⟨hn1, hn31⟩, hgood, hone⟩ := right_parts.1 hR
  have rnr : ∀ f : Nat → Nat, Blk.rnB f (.ro cs) = .ro cs := fun f => Blk.plain.rnB (b := .ro cs) hpl f
  have hUl : ∀ w ∈ eWord.list cs o n, U64 w := by rw [hws]; exact hU
  have hr1 : Value.bool (rightI (eWord.list cs o n) 4) = .bool true := by rw [hws, hR]
  let Q : DP → Prop := fun s => s.i ≤ n ∧ DpOK n s.i (s.m, s.r) ∧ (s.m, s.r) = depGo 0 (ws.take s.i) (dep0 n)
  have okL := fDp_ok cs o n c Q hpl
  have rni : ∀ (f : Nat → Nat) (l : List Int), Blk.rnB f (.cells (eInt.row l) 3) = .cells (eInt.row l) 3 := fun f l => Blk.plain.rnB (b := .cells (eInt.row l) 3) (Elt.row_pl _) f
  have hz : repl [Value.int .i64 0] n = eInt.row (List.replicate n 0) := repl_row (e := eInt) (x := 0) rfl _
  have hst : lset (eInt.row (List.replicate n 0)) 0 [.int .i64 1] = some (eInt.row ((List.replicate n 0).set 0 1)) := lsetE (e := eInt) (l := List.replicate n 0) (k := 0) (f := 0) (x := 1) (y := 0) (by rw [List.getElem?_replicate, if_pos (by omega)]) rfl (by simp)
  refine dpIn cs o n c Q (List.replicate n 0) ((List.replicate n 0).set 0 1) hE okL ⟨rfl, ⟨⟨0, 1, (List.replicate n 0).set 0 1⟩, ⟨Nat.zero_le _, dep0_ok n, rfl⟩, trivial, rfl, by simp only [fDp, List.map_cons, List.map_nil, rnr, rni]⟩, hst, ⟨by decide, by omega⟩, ⟨rfl, Int.natCast_nonneg _, by show (n : Int) ≤ _; omega, by show (8 : Int) * (n : Int) ≤ _; omega, hz.symm⟩, hr1, plain1 hpl, hr, hUl, hn, trivial⟩ fun zz hz _ => by_loop (fDp cs o n c Q) (lp Try.f26 0) ?_ 0 zz hz
  rintro b ⟨i, m, r⟩ hinv J hJ
  have hinv : i ≤ n ∧ DpOK n i (m, r) ∧ (m, r) = depGo 0 (ws.take i) (dep0 n) := hinv
  obtain ⟨k1, k2, k3⟩ := hinv
  show Sat E (inLp (lp Try.f26 0) J) ((fDp cs o n c Q).st 0 ⟨i, m, r⟩)
  have hJ' : ∀ zz, (fDp cs o n c Q).inv 0 zz → ltO ((fDp cs o n c Q).mu 0 zz) (some (n - i)) → Sat E (mkLp (lp Try.f26 0) J) ((fDp cs o n c Q).st 0 zz) := fun zz h1 h2 => hJ 0 zz h1 h2
  have hrl : r.length = n := k2.len
  by_cases hin : i < n
  · have hlt : decide ((i : Int) < (n : Int)) = true := decide_eq_true (by omega)
    obtain ⟨w, hw⟩ : ∃ w, ws[i]? = some w := ⟨_, List.getElem?_eq_getElem (by rw [hlen]; omega)⟩
    have hrd := hr.read1 (P := Try.prog) (ty := 26) (by kernel_rfl) rfl (i := i) (x := w) (by rw [hws]; exact hw) rfl rfl
    rw [← Nat.mul_one i] at hrd
    have htk : ws.take (i + 1) = ws.take i ++ [w] := by rw [List.take_add_one, hw]; rfl
    have ho := right_ok hR w (List.mem_of_getElem? hw)
    have htl : (ws.take i).length = i := by rw [List.length_take, hlen]; omega
    have hmu : n - (i + 1) < n - i := by omega
    obtain ⟨g1, g2⟩ := getD_mem (r := r) (i := i) (by omega)
    have hgr := k2.rr _ g1
    have hrg := rd_int g2
    have hmx : Value.int .i64 (maxI m (r.getD i 0)) = .int .i64 (max m (r.getD i 0)) := congrArg _ (by unfold maxI; split <;> omega)
    have hnx : depGo 0 (ws.take (i + 1)) (dep0 n) = depS i w (m, r) := by rw [htk, depGo_app, ← k3, htl, Nat.zero_add]; rfl
    have hok := depS_ok w k2 hin
    cases hl : lfB w
    · obtain ⟨_, d1, d2, d3, d4, d5, d6⟩ := good_inner (hgood i w hw) hl
      rw [hlen] at d5 d6
      obtain ⟨X, hX⟩ := Int.eq_ofNat_of_zero_le (show 0 ≤ uX w by omega)
      obtain ⟨Y, hY⟩ := Int.eq_ofNat_of_zero_le (show 0 ≤ uY w by omega)
      have hun := unp_inner ho hl
      rw [hX, hY] at hun
      have s1 := lsetE (e := eInt) (l := r) (k := X) (f := 0) (o := 0 + X * 1) (x := r.getD i 0 + 1) (vs := [.int .i64 (r.getD i 0 + 1)]) (List.getElem?_eq_getElem (by omega)) rfl (by simp [eInt])
      have s2 := lsetE (e := eInt) (l := r.set X (r.getD i 0 + 1)) (k := Y) (f := 0) (o := 0 + Y * 1) (x := r.getD i 0 + 1) (vs := [.int .i64 (r.getD i 0 + 1)]) (List.getElem?_eq_getElem (by rw [List.length_set]; omega)) rfl (by simp [eInt])
      have hdS : depS i w (m, r) = (max m (r.getD i 0), (r.set X (r.getD i 0 + 1)).set Y (r.getD i 0 + 1)) := by
        simp only [depS, sX, sY, ho, hl, Bool.and_false, Bool.not_false, Bool.and_self, cond_false, cond_true, hX, hY, Int.toNat_natCast]
      rw [hdS] at hnx hok
      exact dpI cs o n c Q i m (max m (r.getD i 0)) r _ _ w (uF w) (low32 w) X Y (r.getD i 0) (r.getD i 0 + 1) J hE okL ⟨rfl, ⟨⟨i + 1, max m (r.getD i 0), (r.set X (r.getD i 0 + 1)).set Y (r.getD i 0 + 1)⟩, ⟨hin, hok, hnx.symm⟩, hmu, rfl, by simp only [fDp, List.map_cons, List.map_nil, rnr, rni]⟩, i64_succ (by omega), s2, ⟨Int.natCast_nonneg _, Int.ofNat_lt.2 (by omega)⟩, s1, ⟨Int.natCast_nonneg _, Int.ofNat_lt.2 (by omega)⟩, (i64_id rfl (by omega) (by omega)), hrg, ⟨Int.natCast_nonneg _, Int.ofNat_lt.2 hin⟩, (i64_id rfl (by omega) (by omega)), hrg, ⟨Int.natCast_nonneg _, Int.ofNat_lt.2 hin⟩, hun, hU w (List.mem_of_getElem? hw), hmx, hrg, ⟨Int.natCast_nonneg _, Int.ofNat_lt.2 hin⟩, hrd, ⟨Int.natCast_nonneg _, Int.ofNat_lt.2 hin⟩, hlt, trivial⟩ hJ'
    · have hdS : depS i w (m, r) = (max m (r.getD i 0), r) := by simp only [depS, ho, hl, Bool.and_self, cond_true]
      rw [hdS] at hnx hok
      exact dpF cs o n c Q i m (max m (r.getD i 0)) r w (low32 w) (r.getD i 0) J hE okL ⟨rfl, ⟨⟨i + 1, max m (r.getD i 0), r⟩, ⟨hin, hok, hnx.symm⟩, hmu, rfl, by simp only [fDp, List.map_cons, List.map_nil, rnr, rni]⟩, i64_succ (by omega), unp_leaf ho hl, hU w (List.mem_of_getElem? hw), hmx, hrg, ⟨Int.natCast_nonneg _, Int.ofNat_lt.2 hin⟩, hrd, ⟨Int.natCast_nonneg _, Int.ofNat_lt.2 hin⟩, hlt, trivial⟩ hJ'
  · have hlt : decide ((i : Int) < (n : Int)) = false := decide_eq_false (by omega)
    rw [List.take_of_length_le (by omega)] at k3
    rw [← k3] at hE
    exact dpE cs o n c Q i m r J hE ⟨⟨rfl, rfl⟩, hlt, trivial⟩
def depth_F (DX : List Int → Nat → Int) : RoF := fun xs css => match xs, css with
  | [.slice (some ⟨0, o, none⟩) n c], [cs] => some (.int .i64 (DX (eWord.list cs o n) n), [], [DX = depI, eWord.Row cs o n, ∀ w ∈ eWord.list cs o n, U64 w, n ≤ 65536, rightI (eWord.list cs o n) 4 = true])
  | [.slice none 0 0], [] => some (.int .i64 0, [], [])
  | _, _ => none
theorem depth_sum (DX : List Int → Nat → Int) : SumOK Try.prog 26 (roSum (depth_F DX)) := by
  refine roSum_ok (en Try.func26 rfl) ?_ (fun xs css r h => ?_)
  · intro xs css v blks ob h hob hpl hl
    unfold depth_F at h
    split at h
    · rename_i o n c cs
      simp only [Option.some.injEq, Prod.mk.injEq] at h
      obtain ⟨rfl, rfl, rfl⟩ := h
      obtain rfl : DX = depI := hob _ (List.mem_cons_self ..)
      refine ⟨by simp, by simp, fun j hj => by simp [nms, nm1, nmL, nm0] at hj, ?_⟩
      exact depth_spec cs o n c (hob _ (List.mem_cons_of_mem _ (List.mem_cons_self ..))) (hpl cs (by simp)) (hob _ (List.mem_cons_of_mem _ (List.mem_cons_of_mem _ (List.mem_cons_self ..)))) (hob _ (by simp)) (hob _ (by simp))
    · simp only [Option.some.injEq, Prod.mk.injEq] at h
      obtain ⟨rfl, rfl, rfl⟩ := h
      refine ⟨by simp, by simp, fun j hj => by simp [nms, nm1, nmL, nm0] at hj, ?_⟩
      exact spec_of_sat Try.func26 rfl fun E hE => dpNil () hE ⟨⟨rfl, rfl⟩, (fun x hx => by simp at hx), trivial⟩
    · simp at h
  · unfold depth_F at h
    split at h <;> simp at h <;> simp
end Go.Proofs.Ytnngaedhedbenaa.Tr


set_option linter.unusedVariables false
set_option linter.unusedSimpArgs false
namespace Go.Proofs.Ytnngaedhedbenaa.Ev
open Go Go.RowKit
abbrev kI (z : Int) : Value := .int .i64 z
def keysI (es : List Ent) : Prop := ∀ e ∈ es, ∃ z, e.1 = kI z
theorem keysI_nil : keysI [] := fun e h => by simp at h
theorem keyEq_kI (a b : Int) : keyEq (kI a) (kI b) = (a == b) := rfl
theorem keysI_put {es : List Ent} (h : keysI es) (b : Int) (v : Value) (c : Nat) : keysI (mput (kI b) v c es) := by
  induction es with
  | nil => intro e he; simp [mput] at he; subst he; exact ⟨b, rfl⟩
  | cons e es ih =>
    have hes : keysI es := fun x hx => h x (by simp [hx])
    intro x hx
    simp only [mput] at hx
    cases hk : keyEq (kI b) e.1 <;> rw [hk] at hx
    · simp only [cond_false, List.mem_cons] at hx
      rcases hx with rfl | hx
      · exact h x (by simp)
      · exact ih hes x hx
    · simp only [cond_true, List.mem_cons] at hx
      rcases hx with rfl | hx
      · exact h e (by simp)
      · exact hes x hx
theorem mgetB_put {es : List Ent} (h : keysI es) (a b : Int) (t : Bool) (c : Nat) : mgetB (kI a) (mput (kI b) (.bool t) c es) = bif a == b then t else mgetB (kI a) es := by
  induction es with
  | nil => simp only [mput, mgetB, keyEq_kI, boolV]
  | cons e es ih =>
    have hes : keysI es := fun x hx => h x (by simp [hx])
    obtain ⟨z, hz⟩ := h e (by simp)
    simp only [mput, hz, keyEq_kI]
    cases hb : b == z
    · simp only [cond_false, mgetB, hz, keyEq_kI, ih hes]
      cases ha : a == z
      · rfl
      · have : (a == b) = false := by
          rw [beq_iff_eq] at ha; subst ha
          rw [beq_eq_false_iff_ne] at hb ⊢
          exact fun e => hb e.symm
        rw [this]; rfl
    · rw [beq_iff_eq] at hb; subst hb
      simp only [cond_true, mgetB, hz, keyEq_kI, boolV]
      cases a == b <;> rfl
theorem mgetI_putI {es : List Ent} (h : keysI es) (a b : Int) (n : Int) (c : Nat) : mgetI (kI a) (mput (kI b) (.int .i64 n) c es) = bif a == b then n else mgetI (kI a) es := by
  induction es with
  | nil => simp only [mput, mgetI, keyEq_kI, intV]
  | cons e es ih =>
    have hes : keysI es := fun x hx => h x (by simp [hx])
    obtain ⟨z, hz⟩ := h e (by simp)
    simp only [mput, hz, keyEq_kI]
    cases hb : b == z
    · simp only [cond_false, mgetI, hz, keyEq_kI, ih hes]
      cases ha : a == z
      · rfl
      · have : (a == b) = false := by
          rw [beq_iff_eq] at ha; subst ha
          rw [beq_eq_false_iff_ne] at hb ⊢
          exact fun e => hb e.symm
        rw [this]; rfl
    · rw [beq_iff_eq] at hb; subst hb
      simp only [cond_true, mgetI, hz, keyEq_kI, intV]
      cases a == b <;> rfl
end Go.Proofs.Ytnngaedhedbenaa.Ev


set_option linter.unusedVariables false
set_option linter.unusedSimpArgs false
set_option maxRecDepth 100000
namespace Go.Proofs.Ytnngaedhedbenaa.Tr
open Go Go.RowKit Go.ChangeShapes Go.WideShapes Go.Proofs.Ytnngaedhedbenaa.Ev
def ePt : Elt Pt := ⟨Pt.cs, 4, fun cs => match cs with | [.int _ a, .int _ b, .int _ c, .int _ d] => ⟨a, b, c, d⟩ | _ => ⟨0, 0, 0, 0⟩, fun _ => rfl, fun _ => rfl, pt_pl⟩
theorem elem_pt {H : Type} {enc : TypeId × Value → H} {W : World} {base : Nat} {spare : Nat → Bool} {held : Bool} (n : Nat) (cs : List Value) (z : DataW H × List MemPlace) (h : DataW.trod enc Try.prog W base spare held n 41 cs = some z) : ∃ x : Pt, cs = ePt.cells x ∧ True := by
  have hu : Try.prog.underlying 41 = some (.array 4 3) := by kernel_rfl
  obtain ⟨xs, k, _, _, hl, _, _⟩ := DataW.trod_array hu h
  have hl4 : cs.length = 4 := by rw [hl]; kernel_rfl
  match cs, hl4, h with
  | [c0, c1, c2, c3], _, h =>
    obtain ⟨y0, y1, y2, y3, m, _, h0, h1, h2, h3⟩ := trod_array4 hu (by kernel_rfl) h
    have hi : Try.prog.underlying 3 = some (.int .i64) := by kernel_rfl
    obtain ⟨a0, e0, _⟩ := elem_int (P := Try.prog) (k := .i64) hi m _ _ h0
    obtain ⟨a1, e1, _⟩ := elem_int (P := Try.prog) (k := .i64) hi m _ _ h1
    obtain ⟨a2, e2, _⟩ := elem_int (P := Try.prog) (k := .i64) hi m _ _ h2
    obtain ⟨a3, e3, _⟩ := elem_int (P := Try.prog) (k := .i64) hi m _ _ h3
    simp only [List.cons.injEq, and_true] at e0 e1 e2 e3
    subst e0
    subst e1
    subst e2
    subst e3
    exact ⟨⟨a0, a1, a2, a3⟩, rfl, trivial⟩
theorem open_points {H : Type} {enc : TypeId × Value → H} {W : World} {base : Nat} {spare : Nat → Bool} {held : Bool} {r : Reach} {b0 : Nat} {v : Value} {d : DataW H} {ps : List MemPlace} (hv : Value.okWide Try.prog W r b0 52 v) (h : DataW.Trod enc Try.prog W base spare held 52 v d ps) : Opened W ePt (fun _ => True) v := by
  have hu : Try.prog.underlying 52 = some (.slice 41) := by kernel_rfl
  obtain ⟨fuel, hf⟩ := h
  simp only [Value.okWide, hu] at hv
  have hcs : v.cells.toList = [v] := by
    obtain ⟨a, l, c, rfl⟩ : ∃ a l c, v = .slice a l c := by
      simp only [Cell.okWide, hu, Cell.ok] at hv
      cases v <;> simp_all
    rfl
  rw [hcs] at hf
  exact open_row hu (by kernel_rfl) elem_pt hv hf
end Go.Proofs.Ytnngaedhedbenaa.Tr


set_option linter.unusedVariables false
set_option linter.unusedSimpArgs false
set_option maxRecDepth 100000
namespace Go.Proofs.Ytnngaedhedbenaa.WkTreeRuns
open Go Go.RowKit Go.Proofs.Ytnngaedhedbenaa.Ev
theorem walk (w : World) : Calls Try.prog 8 #[] w fun e w' => e = .returned (.bool true) ∧ Below w.heap.size w w' :=
  (calls_runO hm (auto1_ok t_none_ok) noHint [] [] (by kernel_rfl) trivial).2.2 w
end Go.Proofs.Ytnngaedhedbenaa.WkTreeRuns


set_option linter.unusedVariables false
set_option linter.unusedSimpArgs false
set_option maxRecDepth 100000
namespace Go.Proofs.Ytnngaedhedbenaa.Tr
open Go Go.RowKit Go.Proofs.Ytnngaedhedbenaa.Ev Go.Proofs.Ytnngaedhedbenaa.NodeE Go.Proofs.Ytnngaedhedbenaa.Within Go.Proofs.Ytnngaedhedbenaa.PickE Go.Proofs.Ytnngaedhedbenaa.Tn Go.Proofs.Ytnngaedhedbenaa.Tr

def truns_F : List Value → Option (Value × List Prop)
  | [] => some (.bool true, [])
  | _ => none
theorem truns_sum : SumOK Try.prog 8 (sumOf truns_F) := by
  refine sumOf_ok (en Try.func8 rfl) fun args v ob h hob => ?_
  unfold truns_F at h
  split at h
  · obtain ⟨rfl, rfl⟩ := Prod.mk.inj (Option.some.inj h)
    exact ⟨rfl, rfl, WkTreeRuns.walk⟩
  · exact absurd h (by simp)
noncomputable def t_truns : Sums := upd t_runpack 8 (some (sumOf truns_F))
theorem t_truns_ok : SumsOK Try.prog t_truns := sums_cons t_runpack_ok truns_sum
def clamp_F : List Value → Option (Value × List Prop)
  | [.int .i64 n, .int .i64 lo, .int .i64 hi] => some (.int .i64 n, [lo ≤ n, n ≤ hi])
  | _ => none
theorem clamp_sum : SumOK Try.prog 34 (sumOf clamp_F) := by
  refine sumOf_ok (en Try.func34 rfl) fun args v ob h hob => ?_
  unfold clamp_F at h
  split at h
  · rename_i n lo hi
    obtain ⟨rfl, rfl⟩ := Prod.mk.inj (Option.some.inj h)
    clear h
    have h1 := hob (lo ≤ n) (by simp)
    have h2 := hob (n ≤ hi) (by simp)
    exact calls_runO hm (auto0_ok t_runpack_ok) noHint [.b false, .b false] [decide (n > hi) = false, decide (n < lo) = false] (by kernel_rfl) ⟨decide_eq_false (by omega), decide_eq_false (by omega), trivial⟩
  · exact absurd h (by simp)
noncomputable def t_clamp : Sums := upd t_runpack 34 (some (sumOf clamp_F))
theorem t_clamp_ok : SumsOK Try.prog t_clamp := sums_cons t_runpack_ok clamp_sum
noncomputable def tz_rightt (NI : List Int → List Int → List Int → List Int → Int → List Nd) : Sums := upd (t_nodes NI) 22 (some (roSum right_F))
theorem tz_rightt_ok (NI : List Int → List Int → List Int → List Int → Int → List Nd) : SumsOK Try.prog (tz_rightt NI) := sums_cons (t_nodes_ok NI) right_sum
noncomputable def tz_leavest (NI : List Int → List Int → List Int → List Int → Int → List Nd) (LX : List Int → List Int) (DX : List Int → Nat → Int) : Sums := upd (tz_rightt NI) 25 (some (roSum (leaves_F LX)))
theorem tz_leavest_ok (NI : List Int → List Int → List Int → List Int → Int → List Nd) (LX : List Int → List Int) (DX : List Int → Nat → Int) : SumsOK Try.prog (tz_leavest NI LX DX) := sums_cons (tz_rightt_ok NI) (leaves_sum LX)
noncomputable def tz_deptht (NI : List Int → List Int → List Int → List Int → Int → List Nd) (LX : List Int → List Int) (DX : List Int → Nat → Int) : Sums := upd (tz_leavest NI LX DX) 26 (some (roSum (depth_F DX)))
theorem tz_deptht_ok (NI : List Int → List Int → List Int → List Int → Int → List Nd) (LX : List Int → List Int) (DX : List Int → Nat → Int) : SumsOK Try.prog (tz_deptht NI LX DX) := sums_cons (tz_leavest_ok NI LX DX) (depth_sum DX)
noncomputable def tz_walkt (NI : List Int → List Int → List Int → List Int → Int → List Nd) (LX : List Int → List Int) (DX : List Int → Nat → Int) : Sums := upd (tz_deptht NI LX DX) 23 (some (roSum walk_F))
theorem tz_walkt_ok (NI : List Int → List Int → List Int → List Int → Int → List Nd) (LX : List Int → List Int) (DX : List Int → Nat → Int) : SumsOK Try.prog (tz_walkt NI LX DX) := sums_cons (tz_deptht_ok NI LX DX) walk_sum
noncomputable def tz_valuet (NI : List Int → List Int → List Int → List Int → Int → List Nd) (LX : List Int → List Int) (DX : List Int → Nat → Int) : Sums := upd (tz_walkt NI LX DX) 27 (some (roSum value_F))
theorem tz_valuet_ok (NI : List Int → List Int → List Int → List Int → Int → List Nd) (LX : List Int → List Int) (DX : List Int → Nat → Int) : SumsOK Try.prog (tz_valuet NI LX DX) := sums_cons (tz_walkt_ok NI LX DX) value_sum
noncomputable def tz_clampt (NI : List Int → List Int → List Int → List Int → Int → List Nd) (LX : List Int → List Int) (DX : List Int → Nat → Int) : Sums := upd (tz_valuet NI LX DX) 34 (some (sumOf clamp_F))
theorem tz_clampt_ok (NI : List Int → List Int → List Int → List Int → Int → List Nd) (LX : List Int → List Int) (DX : List Int → Nat → Int) : SumsOK Try.prog (tz_clampt NI LX DX) := sums_cons (tz_valuet_ok NI LX DX) clamp_sum
noncomputable def tz_trunst (NI : List Int → List Int → List Int → List Int → Int → List Nd) (LX : List Int → List Int) (DX : List Int → Nat → Int) : Sums := upd (tz_clampt NI LX DX) 8 (some (sumOf truns_F))
theorem tz_trunst_ok (NI : List Int → List Int → List Int → List Int → Int → List Nd) (LX : List Int → List Int) (DX : List Int → Nat → Int) : SumsOK Try.prog (tz_trunst NI LX DX) := sums_cons (tz_clampt_ok NI LX DX) truns_sum
noncomputable abbrev t_tz (NI : List Int → List Int → List Int → List Int → Int → List Nd) (LX : List Int → List Int) (DX : List Int → Nat → Int) : Sums := tz_trunst NI LX DX
theorem t_tz_ok (NI : List Int → List Int → List Int → List Int → Int → List Nd) (LX : List Int → List Int) (DX : List Int → Nat → Int) : SumsOK Try.prog (t_tz NI LX DX) := tz_trunst_ok NI LX DX
structure TZ where
  i : Nat
  es : List Ent
  c : Nat
def psV (z : Nat) (m cap : Nat) : Value := match z with | 0 => .slice none 0 0 | _ => .slice (some ⟨4, 0, none⟩) m cap
def tzL (n m cap : Nat) (ws lv : List Int) (pl : List Pt) (D : Int) (Q : TZ → Prop) : LoopF TZ where
  ts _ := [1, 5, 6, 7, 8, 50, 51, 52]
  hs z := match z with | 0 => [10, 12, 13] | _ => [10, 12, 13, 4]
  tv z := fun ⟨i, es, c⟩ => [psV z m cap, .slice (some ⟨10, 0, none⟩) n mk, .slice (some ⟨12, 0, none⟩) lv.length mk, .int .i64 D, .map (some 13), .slice (some ⟨12, 0, none⟩) lv.length mk, .int .i64 (lv.length : Int), .int .i64 (i : Int)]
  hv z := fun ⟨i, es, c⟩ => match z with | 0 => [.vec (eWord.row ws) 26 1, .vec (eInt.row lv) 3 1, .map [some .i64] false none es c] | _ => [.vec (eWord.row ws) 26 1, .vec (eInt.row lv) 3 1, .map [some .i64] false none es c, .ro (ePt.row pl)]
  inv _ := Q
  mu _ := fun ⟨i, es, c⟩ => lv.length - i
  nx := 14
def tz1L (n m cap : Nat) (ws lv : List Int) (pl : List Pt) (D : Int) (es : List Ent) (c : Nat) (Q : Nat → Prop) : LoopF Nat where
  ts _ := [1, 5, 7, 8, 13]
  hs z := match z with | 0 => [10, 12, 13] | _ => [10, 12, 13, 4]
  tv z := fun i => [psV z m cap, .slice (some ⟨10, 0, none⟩) n mk, .int .i64 D, .map (some 13), .int .i64 (i : Int)]
  hv z := fun i => match z with | 0 => [.vec (eWord.row ws) 26 1, .vec (eInt.row lv) 3 1, .map [some .i64] false none es c] | _ => [.vec (eWord.row ws) 26 1, .vec (eInt.row lv) 3 1, .map [some .i64] false none es c, .ro (ePt.row pl)]
  inv _ := Q
  mu _ := fun i => m - i
  nx := 14
def tz2L (n m cap : Nat) (ws lv : List Int) (pl : List Pt) (D : Int) (es : List Ent) (c i : Nat) (a : Int) (Q : Nat × Int → Prop) : LoopF (Nat × Int) where
  ts _ := [1, 5, 7, 8, 13, 14, 15, 16]
  hs z := match z with | 0 => [10, 12, 13] | _ => [10, 12, 13, 4]
  tv z := fun ⟨k, s⟩ => [psV z m cap, .slice (some ⟨10, 0, none⟩) n mk, .int .i64 D, .map (some 13), .int .i64 (i : Int), .int .i64 a, .int .i64 (k : Int), .int .i64 s]
  hv z := fun ⟨k, s⟩ => match z with | 0 => [.vec (eWord.row ws) 26 1, .vec (eInt.row lv) 3 1, .map [some .i64] false none es c] | _ => [.vec (eWord.row ws) 26 1, .vec (eInt.row lv) 3 1, .map [some .i64] false none es c, .ro (ePt.row pl)]
  inv _ := Q
  mu _ := fun ⟨k, s⟩ => n - k
  nx := 14

theorem tzL_ok (n m cap : Nat) (ws lv : List Int) (pl : List Pt) (D : Int) (Q : TZ → Prop) : (tzL n m cap ws lv pl D Q).OK 5 := by
  refine ⟨(by decide : 5 ≤ 14), fun z i h k hk => ?_, fun z i h v hv k hk => ?_, fun z i h x hx => ?_⟩
  · show k < 14
    match z with
    | 0 => simp [tzL] at hk; omega
    | z + 1 => simp [tzL] at hk; omega
  · show k < 14
    match z with
    | 0 =>
      simp [tzL, psV] at hv
      repeat' (refine Or.elim hv (fun hv => ?_) (fun hv => ?_))
      all_goals (subst hv; simp [nms, nm1, nm0] at hk; try omega)
    | z + 1 =>
      simp [tzL, psV] at hv
      repeat' (refine Or.elim hv (fun hv => ?_) (fun hv => ?_))
      all_goals (subst hv; simp [nms, nm1, nm0] at hk; try omega)
  · match z with
    | 0 =>
      simp [tzL] at hx
      rcases hx with rfl | rfl | rfl
      · exact Blk.plain.namesLt (b := .vec _ _ _) (Elt.row_pl _) _
      · exact Blk.plain.namesLt (b := .vec _ _ _) (Elt.row_pl _) _
      · trivial
    | z + 1 =>
      simp [tzL] at hx
      rcases hx with rfl | rfl | rfl | rfl
      · exact Blk.plain.namesLt (b := .vec _ _ _) (Elt.row_pl _) _
      · exact Blk.plain.namesLt (b := .vec _ _ _) (Elt.row_pl _) _
      · trivial
      · exact Blk.plain.namesLt (b := .ro _) (Elt.row_pl _) _

theorem tz1L_ok (n m cap : Nat) (ws lv : List Int) (pl : List Pt) (D : Int) (es : List Ent) (c : Nat) (Q : Nat → Prop) : (tz1L n m cap ws lv pl D es c Q).OK 5 := by
  refine ⟨(by decide : 5 ≤ 14), fun z i h k hk => ?_, fun z i h v hv k hk => ?_, fun z i h x hx => ?_⟩
  · show k < 14
    match z with
    | 0 => simp [tz1L] at hk; omega
    | z + 1 => simp [tz1L] at hk; omega
  · show k < 14
    match z with
    | 0 =>
      simp [tz1L, psV] at hv
      repeat' (refine Or.elim hv (fun hv => ?_) (fun hv => ?_))
      all_goals (subst hv; simp [nms, nm1, nm0] at hk; try omega)
    | z + 1 =>
      simp [tz1L, psV] at hv
      repeat' (refine Or.elim hv (fun hv => ?_) (fun hv => ?_))
      all_goals (subst hv; simp [nms, nm1, nm0] at hk; try omega)
  · match z with
    | 0 =>
      simp [tz1L] at hx
      rcases hx with rfl | rfl | rfl
      · exact Blk.plain.namesLt (b := .vec _ _ _) (Elt.row_pl _) _
      · exact Blk.plain.namesLt (b := .vec _ _ _) (Elt.row_pl _) _
      · trivial
    | z + 1 =>
      simp [tz1L] at hx
      rcases hx with rfl | rfl | rfl | rfl
      · exact Blk.plain.namesLt (b := .vec _ _ _) (Elt.row_pl _) _
      · exact Blk.plain.namesLt (b := .vec _ _ _) (Elt.row_pl _) _
      · trivial
      · exact Blk.plain.namesLt (b := .ro _) (Elt.row_pl _) _

theorem tz2L_ok (n m cap : Nat) (ws lv : List Int) (pl : List Pt) (D : Int) (es : List Ent) (c i : Nat) (a : Int) (Q : Nat × Int → Prop) : (tz2L n m cap ws lv pl D es c i a Q).OK 5 := by
  refine ⟨(by decide : 5 ≤ 14), fun z i h k hk => ?_, fun z i h v hv k hk => ?_, fun z i h x hx => ?_⟩
  · show k < 14
    match z with
    | 0 => simp [tz2L] at hk; omega
    | z + 1 => simp [tz2L] at hk; omega
  · show k < 14
    match z with
    | 0 =>
      simp [tz2L, psV] at hv
      repeat' (refine Or.elim hv (fun hv => ?_) (fun hv => ?_))
      all_goals (subst hv; simp [nms, nm1, nm0] at hk; try omega)
    | z + 1 =>
      simp [tz2L, psV] at hv
      repeat' (refine Or.elim hv (fun hv => ?_) (fun hv => ?_))
      all_goals (subst hv; simp [nms, nm1, nm0] at hk; try omega)
  · match z with
    | 0 =>
      simp [tz2L] at hx
      rcases hx with rfl | rfl | rfl
      · exact Blk.plain.namesLt (b := .vec _ _ _) (Elt.row_pl _) _
      · exact Blk.plain.namesLt (b := .vec _ _ _) (Elt.row_pl _) _
      · trivial
    | z + 1 =>
      simp [tz2L] at hx
      rcases hx with rfl | rfl | rfl | rfl
      · exact Blk.plain.namesLt (b := .vec _ _ _) (Elt.row_pl _) _
      · exact Blk.plain.namesLt (b := .vec _ _ _) (Elt.row_pl _) _
      · trivial
      · exact Blk.plain.namesLt (b := .ro _) (Elt.row_pl _) _

end Go.Proofs.Ytnngaedhedbenaa.Tr


set_option linter.unusedVariables false
set_option linter.unusedSimpArgs false
set_option maxRecDepth 100000
namespace Go.Proofs.Ytnngaedhedbenaa.Tr
open Go Go.RowKit Go.Proofs.Ytnngaedhedbenaa.Ev Go.Proofs.Ytnngaedhedbenaa.NodeE Go.Proofs.Ytnngaedhedbenaa.Within Go.Proofs.Ytnngaedhedbenaa.PickE Go.Proofs.Ytnngaedhedbenaa.Tn Go.Proofs.Ytnngaedhedbenaa.Tr

theorem tzIn0 (NI : List Int → List Int → List Int → List Int → Int → List Nd) (LX : List Int → List Int) (DX : List Int → Nat → Int) (cl : Int) (r0 r1 r2 r3 : Rw) (n m cap : Nat) (ws lv : List Int) (pl : List Pt) (D : Int) (ln nn L2 : Int) (Q : TZ → Prop)  {E : Env} {rv : Value} {rhs : List Nat} {rhv : List Blk} (hE : EnvOK E Try.prog Try.f10 2 5 rv rhs rhv) (hL : (tzL n m cap ws lv pl D Q).OK 5) (hob : all ([SameK (atLp (lp Try.f10 0)) (atLp (lp Try.f10 0)), Enter (tzL n m cap ws lv pl D Q) 0 none [Value.slice none 0 0, Value.slice (some (Addr.mk 17 0 none)) (NI (Rw.l r0) (Rw.l r1) (Rw.l r2) (Rw.l r3) 4).length 1267650600228229401496703205376, Value.slice (some (Addr.mk 29 0 none)) (LX (eWord.list (eWord.row (List.map packN (NI (Rw.l r0) (Rw.l r1) (Rw.l r2) (Rw.l r3) 4))) (Addr.mk 100 0 none).off (NI (Rw.l r0) (Rw.l r1) (Rw.l r2) (Rw.l r3) 4).length)).length 1267650600228229401496703205376, Value.int IntKind.i64 D, Value.map (some 137), Value.slice (some (Addr.mk 29 0 none)) (LX (eWord.list (eWord.row (List.map packN (NI (Rw.l r0) (Rw.l r1) (Rw.l r2) (Rw.l r3) 4))) (Addr.mk 100 0 none).off (NI (Rw.l r0) (Rw.l r1) (Rw.l r2) (Rw.l r3) 4).length)).length 1267650600228229401496703205376, Value.int IntKind.i64 (Int.ofNat (LX (eWord.list (eWord.row (List.map packN (NI (Rw.l r0) (Rw.l r1) (Rw.l r2) (Rw.l r3) 4))) (Addr.mk 100 0 none).off (NI (Rw.l r0) (Rw.l r1) (Rw.l r2) (Rw.l r3) 4).length)).length), Value.int IntKind.i64 ((0 : Int))] [Blk.vec (eWord.row (List.map packN (NI (Rw.l r0) (Rw.l r1) (Rw.l r2) (Rw.l r3) 4))) 26 1, Blk.vec (eInt.row (LX (eWord.list (eWord.row (List.map packN (NI (Rw.l r0) (Rw.l r1) (Rw.l r2) (Rw.l r3) 4))) (Addr.mk 100 0 none).off (NI (Rw.l r0) (Rw.l r1) (Rw.l r2) (Rw.l r3) 4).length))) 3 1, Blk.map [some IntKind.i64] false none [] 0] [(10, 17), (12, 29), (13, 137), (12, 29)], Value.bool (decide (D > nn)) = Value.bool false, Value.int IntKind.i64 (Int.ofNat (NI (Rw.l r0) (Rw.l r1) (Rw.l r2) (Rw.l r3) 4).length) = Value.int IntKind.i64 nn, Value.bool (decide (D < 1)) = Value.bool false, Value.bool (L2 != L2) = Value.bool false, Value.int IntKind.i64 (IntKind.i64.wrap (nn + (1 : Int))) = Value.int IntKind.i64 L2, Value.int IntKind.i64 (Int.ofNat (NI (Rw.l r0) (Rw.l r1) (Rw.l r2) (Rw.l r3) 4).length) = Value.int IntKind.i64 nn, Value.int IntKind.i64 (IntKind.i64.wrap ((2 : Int) * ln)) = Value.int IntKind.i64 L2, Value.int IntKind.i64 (Int.ofNat (LX (eWord.list (eWord.row (List.map packN (NI (Rw.l r0) (Rw.l r1) (Rw.l r2) (Rw.l r3) 4))) (Addr.mk 100 0 none).off (NI (Rw.l r0) (Rw.l r1) (Rw.l r2) (Rw.l r3) 4).length)).length) = Value.int IntKind.i64 ln, Value.bool (rightI (eWord.list (eWord.row (List.map packN (NI (Rw.l r0) (Rw.l r1) (Rw.l r2) (Rw.l r3) 4))) (Addr.mk 100 0 none).off (NI (Rw.l r0) (Rw.l r1) (Rw.l r2) (Rw.l r3) 4).length) ((4 : Int))) = Value.bool true, plainR [eWord.row (List.map packN (NI (Rw.l r0) (Rw.l r1) (Rw.l r2) (Rw.l r3) 4))], eWord.Row (eWord.row (List.map packN (NI (Rw.l r0) (Rw.l r1) (Rw.l r2) (Rw.l r3) 4))) 0 (NI (Rw.l r0) (Rw.l r1) (Rw.l r2) (Rw.l r3) 4).length, ∀ (w : Int), w ∈ eWord.list (eWord.row (List.map packN (NI (Rw.l r0) (Rw.l r1) (Rw.l r2) (Rw.l r3) 4))) (Addr.mk 100 0 none).off (NI (Rw.l r0) (Rw.l r1) (Rw.l r2) (Rw.l r3) 4).length → U64 w, (NI (Rw.l r0) (Rw.l r1) (Rw.l r2) (Rw.l r3) 4).length ≤ 65536, Value.int IntKind.i64 (DX (eWord.list (eWord.row (List.map packN (NI (Rw.l r0) (Rw.l r1) (Rw.l r2) (Rw.l r3) 4))) (Addr.mk 100 0 none).off (NI (Rw.l r0) (Rw.l r1) (Rw.l r2) (Rw.l r3) 4).length) (NI (Rw.l r0) (Rw.l r1) (Rw.l r2) (Rw.l r3) 4).length) = Value.int IntKind.i64 D, plainR [eWord.row (List.map packN (NI (Rw.l r0) (Rw.l r1) (Rw.l r2) (Rw.l r3) 4))], DX = depI, eWord.Row (eWord.row (List.map packN (NI (Rw.l r0) (Rw.l r1) (Rw.l r2) (Rw.l r3) 4))) 0 (NI (Rw.l r0) (Rw.l r1) (Rw.l r2) (Rw.l r3) 4).length, ∀ (w : Int), w ∈ eWord.list (eWord.row (List.map packN (NI (Rw.l r0) (Rw.l r1) (Rw.l r2) (Rw.l r3) 4))) (Addr.mk 100 0 none).off (NI (Rw.l r0) (Rw.l r1) (Rw.l r2) (Rw.l r3) 4).length → U64 w, (NI (Rw.l r0) (Rw.l r1) (Rw.l r2) (Rw.l r3) 4).length ≤ 65536, rightI (eWord.list (eWord.row (List.map packN (NI (Rw.l r0) (Rw.l r1) (Rw.l r2) (Rw.l r3) 4))) (Addr.mk 100 0 none).off (NI (Rw.l r0) (Rw.l r1) (Rw.l r2) (Rw.l r3) 4).length) ((4 : Int)) = true, plainR [eWord.row (List.map packN (NI (Rw.l r0) (Rw.l r1) (Rw.l r2) (Rw.l r3) 4))], LX = leafI0, eWord.Row (eWord.row (List.map packN (NI (Rw.l r0) (Rw.l r1) (Rw.l r2) (Rw.l r3) 4))) 0 (NI (Rw.l r0) (Rw.l r1) (Rw.l r2) (Rw.l r3) 4).length, ∀ (w : Int), w ∈ eWord.list (eWord.row (List.map packN (NI (Rw.l r0) (Rw.l r1) (Rw.l r2) (Rw.l r3) 4))) (Addr.mk 100 0 none).off (NI (Rw.l r0) (Rw.l r1) (Rw.l r2) (Rw.l r3) 4).length → U64 w, (NI (Rw.l r0) (Rw.l r1) (Rw.l r2) (Rw.l r3) 4).length ≤ 65536, rightI (eWord.list (eWord.row (List.map packN (NI (Rw.l r0) (Rw.l r1) (Rw.l r2) (Rw.l r3) 4))) (Addr.mk 100 0 none).off (NI (Rw.l r0) (Rw.l r1) (Rw.l r2) (Rw.l r3) 4).length) ((4 : Int)) = true, plainR (cssZ r0 r1 r2 r3), NI = nodesI, (1 : Int) ≤ (4 : Int) ∧ (4 : Int) ≤ (1000 : Int)] ++ (Rw.ob2 r0 ++ (Rw.ob2 r1 ++ (Rw.ob2 r2 ++ (Rw.ob2 r3)))))) (hK : ∀ zz, (tzL n m cap ws lv pl D Q).inv 0 zz → ltO ((tzL n m cap ws lv pl D Q).mu 0 zz) none → Sat E (atLp (lp Try.f10 0)) ((tzL n m cap ws lv pl D Q).st 0 zz)) : Sat E [.code (bodyOf Try.f10)] (st0 Try.f10 [.agg ⟨vsP 0 cl r0 r1 r2 r3⟩, .slice none 0 0] (rowsL [r0.o, r1.o, r2.o, r3.o, none]) 5) :=
  by
  obtain ⟨z0, cs0, n0, c0⟩ := r0
  obtain ⟨z1, cs1, n1, c1⟩ := r1
  obtain ⟨z2, cs2, n2, c2⟩ := r2
  obtain ⟨z3, cs3, n3, c3⟩ := r3
  cases z0 <;> cases z1 <;> cases z2 <;> cases z3 <;> exact by_to (T := auto0 (t_tz NI LX DX)) (h := hints [(2, 3, {v := some (.int .i64 D)}), (3, 1, ht true), (3, 5, {v := some (.int .i64 ln)}), (3, 6, {v := some (.int .i64 L2)}), (3, 8, {v := some (.int .i64 nn)}), (3, 9, {v := some (.int .i64 L2)}), (3, 10, ht false), (3, 14, ht false), (3, 19, {v := some (.int .i64 nn)}), (3, 20, ht false)]) (ws := [.go, .stop]) (i0 := ⟨0, [], 0⟩) hE hm (auto0_ok (t_tz_ok NI LX DX)) hL (by kernel_rfl) hob hK
theorem tzA0 (NI : List Int → List Int → List Int → List Int → Int → List Nd) (LX : List Int → List Int) (DX : List Int → Nat → Int) (n m cap : Nat) (ws lv : List Int) (pl : List Pt) (D : Int) (Q : TZ → Prop) (i c c2 : Nat) (es es2 : List Ent) (x n1 w v i1 u : Int) (J : Act → World → Prop) {E : Env} {rv : Value} {rhs : List Nat} {rhv : List Blk} (hE : EnvOK E Try.prog Try.f10 2 5 rv rhs rhv) (hL : (tzL n m cap ws lv pl D Q).OK 5) (hob : all ([SameK (mkLp (lp Try.f10 0) J) (mkLp (lp Try.f10 0) J), Enter (tzL n m cap ws lv pl D Q) 0 (some (lv.length - i)) [Value.slice none 0 0, Value.slice (some (Addr.mk 10 0 none)) n 1267650600228229401496703205376, Value.slice (some (Addr.mk 12 0 none)) lv.length 1267650600228229401496703205376, Value.int IntKind.i64 D, Value.map (some 13), Value.slice (some (Addr.mk 12 0 none)) lv.length 1267650600228229401496703205376, Value.int IntKind.i64 (Int.ofNat lv.length), Value.int IntKind.i64 (Int.ofNat i.succ)] [Blk.vec (eWord.row ws) 26 1, Blk.vec (eInt.row lv) 3 1, Blk.map [some IntKind.i64] false none es2 (bif mhas (Value.int IntKind.i64 x) es then c else c + 1)] [(10, 10), (12, 12), (13, 13), (12, 12)], Value.int IntKind.i64 (IntKind.i64.wrap (Int.ofNat i.succ)) = Value.int IntKind.i64 (Int.ofNat i.succ), mput (Value.int IntKind.i64 x) (Value.bool true) c es = es2, Value.bool (decide ((↑i : Int) > 0)) = Value.bool false, Value.bool (decide (x ≥ (↑n : Int))) = Value.bool false, Value.tuple (Array.mk [Value.agg (Array.mk [Value.bool (okB w && lfB w), Value.int IntKind.i64 (sV w), Value.int IntKind.i64 (sF w), Value.int IntKind.i64 (sA w), Value.int IntKind.i64 (sX w), Value.int IntKind.i64 (sY w)]), Value.bool (okB w)]) = Value.tuple (Array.mk [Value.agg (Array.mk [Value.bool true, Value.int IntKind.i64 v, Value.int IntKind.i64 ((0 : Int)), Value.int IntKind.i64 ((0 : Int)), Value.int IntKind.i64 ((0 : Int)), Value.int IntKind.i64 ((0 : Int))]), Value.bool true]), U64 w, readPart Try.prog 26 (eWord.row ws) (0 + x.toNat * 1) = some (Value.int IntKind.u64 w), (0 : Int) ≤ x ∧ x < (n : Int), Value.int IntKind.i64 x = Value.int IntKind.i64 x, (0 : Int) ≤ x, x ≤ n1, Value.int IntKind.i64 (IntKind.i64.wrap ((n : Int) - (1 : Int))) = Value.int IntKind.i64 n1, readPart Try.prog 3 (eInt.row lv) (0 + ((i : Int)).toNat * 1) = some (Value.int IntKind.i64 x), (0 : Int) ≤ (i : Int) ∧ (i : Int) < Int.ofNat lv.length, decide ((↑i : Int) < (↑lv.length : Int)) = true])) (hK : ∀ zz, (tzL n m cap ws lv pl D Q).inv 0 zz → ltO ((tzL n m cap ws lv pl D Q).mu 0 zz) (some (lv.length - i)) → Sat E (mkLp (lp Try.f10 0) J) ((tzL n m cap ws lv pl D Q).st 0 zz)) : Sat E (inLp (lp Try.f10 0) J) ((tzL n m cap ws lv pl D Q).st 0 ⟨i, es, c⟩) :=
  by_to (T := auto0 (t_tz NI LX DX)) (h := hints [(8, 1, {p := true}), (8, 2, {o := some (.int .i64 x)}), (9, 4, {v := some (.int .i64 n1)}), (9, 5, {v := some (.int .i64 x)}), (9, 6, {p := true}), (9, 7, {o := some (.int .u64 w)}), (9, 8, {v := some (.tuple ⟨[nd true v 0 0 0 0, .bool true]⟩)}), (10, 11, ht false), (10, 15, ht false), (12, 2, {e := some es2}), (13, 0, {v := some (.int .i64 ((i + 1 : Nat) : Int))})]) (ws := [.b true, .go]) (i0 := ⟨i + 1, es2, c2⟩) hE hm (auto0_ok (t_tz_ok NI LX DX)) hL (by kernel_rfl) hob hK
theorem tzB0 (NI : List Int → List Int → List Int → List Int → Int → List Nd) (LX : List Int → List Int) (DX : List Int → Nat → Int) (n m cap : Nat) (ws lv : List Int) (pl : List Pt) (D : Int) (Q : TZ → Prop) (i c c2 : Nat) (es es2 : List Ent) (x n1 w v i1 u : Int) (J : Act → World → Prop) {E : Env} {rv : Value} {rhs : List Nat} {rhv : List Blk} (hE : EnvOK E Try.prog Try.f10 2 5 rv rhs rhv) (hL : (tzL n m cap ws lv pl D Q).OK 5) (hob : all ([SameK (mkLp (lp Try.f10 0) J) (mkLp (lp Try.f10 0) J), Enter (tzL n m cap ws lv pl D Q) 0 (some (lv.length - i)) [Value.slice none 0 0, Value.slice (some (Addr.mk 10 0 none)) n 1267650600228229401496703205376, Value.slice (some (Addr.mk 12 0 none)) lv.length 1267650600228229401496703205376, Value.int IntKind.i64 D, Value.map (some 13), Value.slice (some (Addr.mk 12 0 none)) lv.length 1267650600228229401496703205376, Value.int IntKind.i64 (Int.ofNat lv.length), Value.int IntKind.i64 (Int.ofNat i.succ)] [Blk.vec (eWord.row ws) 26 1, Blk.vec (eInt.row lv) 3 1, Blk.map [some IntKind.i64] false none es2 (bif mhas (Value.int IntKind.i64 x) es then c else c + 1)] [(10, 10), (12, 12), (13, 13), (12, 12)], Value.int IntKind.i64 (IntKind.i64.wrap (Int.ofNat i.succ)) = Value.int IntKind.i64 (Int.ofNat i.succ), mput (Value.int IntKind.i64 x) (Value.bool true) c es = es2, Value.bool (decide (u ≥ x)) = Value.bool false, readPart Try.prog 3 (eInt.row lv) (0 + i1.toNat * 1) = some (Value.int IntKind.i64 u), (0 : Int) ≤ i1 ∧ i1 < Int.ofNat lv.length, Value.int IntKind.i64 (IntKind.i64.wrap ((i : Int) - (1 : Int))) = Value.int IntKind.i64 i1, Value.bool (decide ((↑i : Int) > 0)) = Value.bool true, Value.bool (decide (x ≥ (↑n : Int))) = Value.bool false, Value.tuple (Array.mk [Value.agg (Array.mk [Value.bool (okB w && lfB w), Value.int IntKind.i64 (sV w), Value.int IntKind.i64 (sF w), Value.int IntKind.i64 (sA w), Value.int IntKind.i64 (sX w), Value.int IntKind.i64 (sY w)]), Value.bool (okB w)]) = Value.tuple (Array.mk [Value.agg (Array.mk [Value.bool true, Value.int IntKind.i64 v, Value.int IntKind.i64 ((0 : Int)), Value.int IntKind.i64 ((0 : Int)), Value.int IntKind.i64 ((0 : Int)), Value.int IntKind.i64 ((0 : Int))]), Value.bool true]), U64 w, readPart Try.prog 26 (eWord.row ws) (0 + x.toNat * 1) = some (Value.int IntKind.u64 w), (0 : Int) ≤ x ∧ x < (n : Int), Value.int IntKind.i64 x = Value.int IntKind.i64 x, (0 : Int) ≤ x, x ≤ n1, Value.int IntKind.i64 (IntKind.i64.wrap ((n : Int) - (1 : Int))) = Value.int IntKind.i64 n1, readPart Try.prog 3 (eInt.row lv) (0 + ((i : Int)).toNat * 1) = some (Value.int IntKind.i64 x), (0 : Int) ≤ (i : Int) ∧ (i : Int) < Int.ofNat lv.length, decide ((↑i : Int) < (↑lv.length : Int)) = true])) (hK : ∀ zz, (tzL n m cap ws lv pl D Q).inv 0 zz → ltO ((tzL n m cap ws lv pl D Q).mu 0 zz) (some (lv.length - i)) → Sat E (mkLp (lp Try.f10 0) J) ((tzL n m cap ws lv pl D Q).st 0 zz)) : Sat E (inLp (lp Try.f10 0) J) ((tzL n m cap ws lv pl D Q).st 0 ⟨i, es, c⟩) :=
  by_to (T := auto0 (t_tz NI LX DX)) (h := hints [(8, 1, {p := true}), (8, 2, {o := some (.int .i64 x)}), (9, 4, {v := some (.int .i64 n1)}), (9, 5, {v := some (.int .i64 x)}), (9, 6, {p := true}), (9, 7, {o := some (.int .u64 w)}), (9, 8, {v := some (.tuple ⟨[nd true v 0 0 0 0, .bool true]⟩)}), (10, 11, ht false), (10, 15, ht true), (10, 19, {v := some (.int .i64 i1)}), (10, 20, {p := true}), (10, 21, {o := some (.int .i64 u)}), (10, 23, ht false), (12, 2, {e := some es2}), (13, 0, {v := some (.int .i64 ((i + 1 : Nat) : Int))})]) (ws := [.b true, .go]) (i0 := ⟨i + 1, es2, c2⟩) hE hm (auto0_ok (t_tz_ok NI LX DX)) hL (by kernel_rfl) hob hK
theorem tzZ0 (NI : List Int → List Int → List Int → List Int → Int → List Nd) (LX : List Int → List Int) (DX : List Int → Nat → Int) (n m cap : Nat) (ws lv : List Int) (pl : List Pt) (D : Int) (Q : TZ → Prop) (Q1 : Nat → Prop) (i c : Nat) (es : List Ent) (J : Act → World → Prop) {E : Env} {rv : Value} {rhs : List Nat} {rhv : List Blk} (hE : EnvOK E Try.prog Try.f10 2 5 rv rhs rhv) (hL : (tz1L n m cap ws lv pl D es c Q1).OK 5) (hob : all ([SameK (atLp (lp Try.f10 1)) (atLp (lp Try.f10 1)), Enter (tz1L n m cap ws lv pl D es c Q1) 0 none [Value.slice none 0 0, Value.slice (some (Addr.mk 10 0 none)) n 1267650600228229401496703205376, Value.int IntKind.i64 D, Value.map (some 13), Value.int IntKind.i64 ((0 : Int))] [Blk.vec (eWord.row ws) 26 1, Blk.vec (eInt.row lv) 3 1, Blk.map [some IntKind.i64] false none es c] [(10, 10), (13, 13)], decide ((↑i : Int) < (↑lv.length : Int)) = false])) (hK : ∀ zz, (tz1L n m cap ws lv pl D es c Q1).inv 0 zz → ltO ((tz1L n m cap ws lv pl D es c Q1).mu 0 zz) none → Sat E (atLp (lp Try.f10 1)) ((tz1L n m cap ws lv pl D es c Q1).st 0 zz)) : Sat E (inLp (lp Try.f10 0) J) ((tzL n m cap ws lv pl D Q).st 0 ⟨i, es, c⟩) :=
  by_to (T := auto0 (t_tz NI LX DX)) (h := hints []) (ws := [.b false, .stop]) (i0 := 0) hE hm (auto0_ok (t_tz_ok NI LX DX)) hL (by kernel_rfl) hob hK
theorem tzIn1 (NI : List Int → List Int → List Int → List Int → Int → List Nd) (LX : List Int → List Int) (DX : List Int → Nat → Int) (cl : Int) (r0 r1 r2 r3 : Rw) (n m cap : Nat) (ws lv : List Int) (pl : List Pt) (D : Int) (ln nn L2 : Int) (Q : TZ → Prop)  {E : Env} {rv : Value} {rhs : List Nat} {rhv : List Blk} (hE : EnvOK E Try.prog Try.f10 2 5 rv rhs rhv) (hL : (tzL n m cap ws lv pl D Q).OK 5) (hob : all ([SameK (atLp (lp Try.f10 0)) (atLp (lp Try.f10 0)), Enter (tzL n m cap ws lv pl D Q) 1 none [Value.slice (some (Addr.mk 4 0 none)) m cap, Value.slice (some (Addr.mk 17 0 none)) (NI (Rw.l r0) (Rw.l r1) (Rw.l r2) (Rw.l r3) 4).length 1267650600228229401496703205376, Value.slice (some (Addr.mk 29 0 none)) (LX (eWord.list (eWord.row (List.map packN (NI (Rw.l r0) (Rw.l r1) (Rw.l r2) (Rw.l r3) 4))) (Addr.mk 100 0 none).off (NI (Rw.l r0) (Rw.l r1) (Rw.l r2) (Rw.l r3) 4).length)).length 1267650600228229401496703205376, Value.int IntKind.i64 D, Value.map (some 137), Value.slice (some (Addr.mk 29 0 none)) (LX (eWord.list (eWord.row (List.map packN (NI (Rw.l r0) (Rw.l r1) (Rw.l r2) (Rw.l r3) 4))) (Addr.mk 100 0 none).off (NI (Rw.l r0) (Rw.l r1) (Rw.l r2) (Rw.l r3) 4).length)).length 1267650600228229401496703205376, Value.int IntKind.i64 (Int.ofNat (LX (eWord.list (eWord.row (List.map packN (NI (Rw.l r0) (Rw.l r1) (Rw.l r2) (Rw.l r3) 4))) (Addr.mk 100 0 none).off (NI (Rw.l r0) (Rw.l r1) (Rw.l r2) (Rw.l r3) 4).length)).length), Value.int IntKind.i64 ((0 : Int))] [Blk.vec (eWord.row (List.map packN (NI (Rw.l r0) (Rw.l r1) (Rw.l r2) (Rw.l r3) 4))) 26 1, Blk.vec (eInt.row (LX (eWord.list (eWord.row (List.map packN (NI (Rw.l r0) (Rw.l r1) (Rw.l r2) (Rw.l r3) 4))) (Addr.mk 100 0 none).off (NI (Rw.l r0) (Rw.l r1) (Rw.l r2) (Rw.l r3) 4).length))) 3 1, Blk.map [some IntKind.i64] false none [] 0, Blk.ro (ePt.row pl)] [(4, 4), (10, 17), (12, 29), (13, 137), (12, 29)], Value.bool (decide (D > nn)) = Value.bool false, Value.int IntKind.i64 (Int.ofNat (NI (Rw.l r0) (Rw.l r1) (Rw.l r2) (Rw.l r3) 4).length) = Value.int IntKind.i64 nn, Value.bool (decide (D < 1)) = Value.bool false, Value.bool (L2 != L2) = Value.bool false, Value.int IntKind.i64 (IntKind.i64.wrap (nn + (1 : Int))) = Value.int IntKind.i64 L2, Value.int IntKind.i64 (Int.ofNat (NI (Rw.l r0) (Rw.l r1) (Rw.l r2) (Rw.l r3) 4).length) = Value.int IntKind.i64 nn, Value.int IntKind.i64 (IntKind.i64.wrap ((2 : Int) * ln)) = Value.int IntKind.i64 L2, Value.int IntKind.i64 (Int.ofNat (LX (eWord.list (eWord.row (List.map packN (NI (Rw.l r0) (Rw.l r1) (Rw.l r2) (Rw.l r3) 4))) (Addr.mk 100 0 none).off (NI (Rw.l r0) (Rw.l r1) (Rw.l r2) (Rw.l r3) 4).length)).length) = Value.int IntKind.i64 ln, Value.bool (rightI (eWord.list (eWord.row (List.map packN (NI (Rw.l r0) (Rw.l r1) (Rw.l r2) (Rw.l r3) 4))) (Addr.mk 100 0 none).off (NI (Rw.l r0) (Rw.l r1) (Rw.l r2) (Rw.l r3) 4).length) ((4 : Int))) = Value.bool true, plainR [eWord.row (List.map packN (NI (Rw.l r0) (Rw.l r1) (Rw.l r2) (Rw.l r3) 4))], eWord.Row (eWord.row (List.map packN (NI (Rw.l r0) (Rw.l r1) (Rw.l r2) (Rw.l r3) 4))) 0 (NI (Rw.l r0) (Rw.l r1) (Rw.l r2) (Rw.l r3) 4).length, ∀ (w : Int), w ∈ eWord.list (eWord.row (List.map packN (NI (Rw.l r0) (Rw.l r1) (Rw.l r2) (Rw.l r3) 4))) (Addr.mk 100 0 none).off (NI (Rw.l r0) (Rw.l r1) (Rw.l r2) (Rw.l r3) 4).length → U64 w, (NI (Rw.l r0) (Rw.l r1) (Rw.l r2) (Rw.l r3) 4).length ≤ 65536, Value.int IntKind.i64 (DX (eWord.list (eWord.row (List.map packN (NI (Rw.l r0) (Rw.l r1) (Rw.l r2) (Rw.l r3) 4))) (Addr.mk 100 0 none).off (NI (Rw.l r0) (Rw.l r1) (Rw.l r2) (Rw.l r3) 4).length) (NI (Rw.l r0) (Rw.l r1) (Rw.l r2) (Rw.l r3) 4).length) = Value.int IntKind.i64 D, plainR [eWord.row (List.map packN (NI (Rw.l r0) (Rw.l r1) (Rw.l r2) (Rw.l r3) 4))], DX = depI, eWord.Row (eWord.row (List.map packN (NI (Rw.l r0) (Rw.l r1) (Rw.l r2) (Rw.l r3) 4))) 0 (NI (Rw.l r0) (Rw.l r1) (Rw.l r2) (Rw.l r3) 4).length, ∀ (w : Int), w ∈ eWord.list (eWord.row (List.map packN (NI (Rw.l r0) (Rw.l r1) (Rw.l r2) (Rw.l r3) 4))) (Addr.mk 100 0 none).off (NI (Rw.l r0) (Rw.l r1) (Rw.l r2) (Rw.l r3) 4).length → U64 w, (NI (Rw.l r0) (Rw.l r1) (Rw.l r2) (Rw.l r3) 4).length ≤ 65536, rightI (eWord.list (eWord.row (List.map packN (NI (Rw.l r0) (Rw.l r1) (Rw.l r2) (Rw.l r3) 4))) (Addr.mk 100 0 none).off (NI (Rw.l r0) (Rw.l r1) (Rw.l r2) (Rw.l r3) 4).length) ((4 : Int)) = true, plainR [eWord.row (List.map packN (NI (Rw.l r0) (Rw.l r1) (Rw.l r2) (Rw.l r3) 4))], LX = leafI0, eWord.Row (eWord.row (List.map packN (NI (Rw.l r0) (Rw.l r1) (Rw.l r2) (Rw.l r3) 4))) 0 (NI (Rw.l r0) (Rw.l r1) (Rw.l r2) (Rw.l r3) 4).length, ∀ (w : Int), w ∈ eWord.list (eWord.row (List.map packN (NI (Rw.l r0) (Rw.l r1) (Rw.l r2) (Rw.l r3) 4))) (Addr.mk 100 0 none).off (NI (Rw.l r0) (Rw.l r1) (Rw.l r2) (Rw.l r3) 4).length → U64 w, (NI (Rw.l r0) (Rw.l r1) (Rw.l r2) (Rw.l r3) 4).length ≤ 65536, rightI (eWord.list (eWord.row (List.map packN (NI (Rw.l r0) (Rw.l r1) (Rw.l r2) (Rw.l r3) 4))) (Addr.mk 100 0 none).off (NI (Rw.l r0) (Rw.l r1) (Rw.l r2) (Rw.l r3) 4).length) ((4 : Int)) = true, plainR (cssZ r0 r1 r2 r3), NI = nodesI, (1 : Int) ≤ (4 : Int) ∧ (4 : Int) ≤ (1000 : Int)] ++ (Rw.ob2 r0 ++ (Rw.ob2 r1 ++ (Rw.ob2 r2 ++ (Rw.ob2 r3)))))) (hK : ∀ zz, (tzL n m cap ws lv pl D Q).inv 1 zz → ltO ((tzL n m cap ws lv pl D Q).mu 1 zz) none → Sat E (atLp (lp Try.f10 0)) ((tzL n m cap ws lv pl D Q).st 1 zz)) : Sat E [.code (bodyOf Try.f10)] (st0 Try.f10 [.agg ⟨vsP 0 cl r0 r1 r2 r3⟩, .slice (some ⟨4, 0, none⟩) m cap] (rowsL [r0.o, r1.o, r2.o, r3.o, some (ePt.row pl)]) 5) :=
  by
  obtain ⟨z0, cs0, n0, c0⟩ := r0
  obtain ⟨z1, cs1, n1, c1⟩ := r1
  obtain ⟨z2, cs2, n2, c2⟩ := r2
  obtain ⟨z3, cs3, n3, c3⟩ := r3
  cases z0 <;> cases z1 <;> cases z2 <;> cases z3 <;> exact by_to (T := auto0 (t_tz NI LX DX)) (h := hints [(2, 3, {v := some (.int .i64 D)}), (3, 1, ht true), (3, 5, {v := some (.int .i64 ln)}), (3, 6, {v := some (.int .i64 L2)}), (3, 8, {v := some (.int .i64 nn)}), (3, 9, {v := some (.int .i64 L2)}), (3, 10, ht false), (3, 14, ht false), (3, 19, {v := some (.int .i64 nn)}), (3, 20, ht false)]) (ws := [.go, .stop]) (i0 := ⟨0, [], 0⟩) hE hm (auto0_ok (t_tz_ok NI LX DX)) hL (by kernel_rfl) hob hK
theorem tzA1 (NI : List Int → List Int → List Int → List Int → Int → List Nd) (LX : List Int → List Int) (DX : List Int → Nat → Int) (n m cap : Nat) (ws lv : List Int) (pl : List Pt) (D : Int) (Q : TZ → Prop) (i c c2 : Nat) (es es2 : List Ent) (x n1 w v i1 u : Int) (J : Act → World → Prop) {E : Env} {rv : Value} {rhs : List Nat} {rhv : List Blk} (hE : EnvOK E Try.prog Try.f10 2 5 rv rhs rhv) (hL : (tzL n m cap ws lv pl D Q).OK 5) (hob : all ([SameK (mkLp (lp Try.f10 0) J) (mkLp (lp Try.f10 0) J), Enter (tzL n m cap ws lv pl D Q) 1 (some (lv.length - i)) [Value.slice (some (Addr.mk 4 0 none)) m cap, Value.slice (some (Addr.mk 10 0 none)) n 1267650600228229401496703205376, Value.slice (some (Addr.mk 12 0 none)) lv.length 1267650600228229401496703205376, Value.int IntKind.i64 D, Value.map (some 13), Value.slice (some (Addr.mk 12 0 none)) lv.length 1267650600228229401496703205376, Value.int IntKind.i64 (Int.ofNat lv.length), Value.int IntKind.i64 (Int.ofNat i.succ)] [Blk.vec (eWord.row ws) 26 1, Blk.vec (eInt.row lv) 3 1, Blk.map [some IntKind.i64] false none es2 (bif mhas (Value.int IntKind.i64 x) es then c else c + 1), Blk.ro (ePt.row pl)] [(4, 4), (10, 10), (12, 12), (13, 13), (12, 12)], Value.int IntKind.i64 (IntKind.i64.wrap (Int.ofNat i.succ)) = Value.int IntKind.i64 (Int.ofNat i.succ), mput (Value.int IntKind.i64 x) (Value.bool true) c es = es2, Value.bool (decide ((↑i : Int) > 0)) = Value.bool false, Value.bool (decide (x ≥ (↑n : Int))) = Value.bool false, Value.tuple (Array.mk [Value.agg (Array.mk [Value.bool (okB w && lfB w), Value.int IntKind.i64 (sV w), Value.int IntKind.i64 (sF w), Value.int IntKind.i64 (sA w), Value.int IntKind.i64 (sX w), Value.int IntKind.i64 (sY w)]), Value.bool (okB w)]) = Value.tuple (Array.mk [Value.agg (Array.mk [Value.bool true, Value.int IntKind.i64 v, Value.int IntKind.i64 ((0 : Int)), Value.int IntKind.i64 ((0 : Int)), Value.int IntKind.i64 ((0 : Int)), Value.int IntKind.i64 ((0 : Int))]), Value.bool true]), U64 w, readPart Try.prog 26 (eWord.row ws) (0 + x.toNat * 1) = some (Value.int IntKind.u64 w), (0 : Int) ≤ x ∧ x < (n : Int), Value.int IntKind.i64 x = Value.int IntKind.i64 x, (0 : Int) ≤ x, x ≤ n1, Value.int IntKind.i64 (IntKind.i64.wrap ((n : Int) - (1 : Int))) = Value.int IntKind.i64 n1, readPart Try.prog 3 (eInt.row lv) (0 + ((i : Int)).toNat * 1) = some (Value.int IntKind.i64 x), (0 : Int) ≤ (i : Int) ∧ (i : Int) < Int.ofNat lv.length, decide ((↑i : Int) < (↑lv.length : Int)) = true])) (hK : ∀ zz, (tzL n m cap ws lv pl D Q).inv 1 zz → ltO ((tzL n m cap ws lv pl D Q).mu 1 zz) (some (lv.length - i)) → Sat E (mkLp (lp Try.f10 0) J) ((tzL n m cap ws lv pl D Q).st 1 zz)) : Sat E (inLp (lp Try.f10 0) J) ((tzL n m cap ws lv pl D Q).st 1 ⟨i, es, c⟩) :=
  by_to (T := auto0 (t_tz NI LX DX)) (h := hints [(8, 1, {p := true}), (8, 2, {o := some (.int .i64 x)}), (9, 4, {v := some (.int .i64 n1)}), (9, 5, {v := some (.int .i64 x)}), (9, 6, {p := true}), (9, 7, {o := some (.int .u64 w)}), (9, 8, {v := some (.tuple ⟨[nd true v 0 0 0 0, .bool true]⟩)}), (10, 11, ht false), (10, 15, ht false), (12, 2, {e := some es2}), (13, 0, {v := some (.int .i64 ((i + 1 : Nat) : Int))})]) (ws := [.b true, .go]) (i0 := ⟨i + 1, es2, c2⟩) hE hm (auto0_ok (t_tz_ok NI LX DX)) hL (by kernel_rfl) hob hK
theorem tzB1 (NI : List Int → List Int → List Int → List Int → Int → List Nd) (LX : List Int → List Int) (DX : List Int → Nat → Int) (n m cap : Nat) (ws lv : List Int) (pl : List Pt) (D : Int) (Q : TZ → Prop) (i c c2 : Nat) (es es2 : List Ent) (x n1 w v i1 u : Int) (J : Act → World → Prop) {E : Env} {rv : Value} {rhs : List Nat} {rhv : List Blk} (hE : EnvOK E Try.prog Try.f10 2 5 rv rhs rhv) (hL : (tzL n m cap ws lv pl D Q).OK 5) (hob : all ([SameK (mkLp (lp Try.f10 0) J) (mkLp (lp Try.f10 0) J), Enter (tzL n m cap ws lv pl D Q) 1 (some (lv.length - i)) [Value.slice (some (Addr.mk 4 0 none)) m cap, Value.slice (some (Addr.mk 10 0 none)) n 1267650600228229401496703205376, Value.slice (some (Addr.mk 12 0 none)) lv.length 1267650600228229401496703205376, Value.int IntKind.i64 D, Value.map (some 13), Value.slice (some (Addr.mk 12 0 none)) lv.length 1267650600228229401496703205376, Value.int IntKind.i64 (Int.ofNat lv.length), Value.int IntKind.i64 (Int.ofNat i.succ)] [Blk.vec (eWord.row ws) 26 1, Blk.vec (eInt.row lv) 3 1, Blk.map [some IntKind.i64] false none es2 (bif mhas (Value.int IntKind.i64 x) es then c else c + 1), Blk.ro (ePt.row pl)] [(4, 4), (10, 10), (12, 12), (13, 13), (12, 12)], Value.int IntKind.i64 (IntKind.i64.wrap (Int.ofNat i.succ)) = Value.int IntKind.i64 (Int.ofNat i.succ), mput (Value.int IntKind.i64 x) (Value.bool true) c es = es2, Value.bool (decide (u ≥ x)) = Value.bool false, readPart Try.prog 3 (eInt.row lv) (0 + i1.toNat * 1) = some (Value.int IntKind.i64 u), (0 : Int) ≤ i1 ∧ i1 < Int.ofNat lv.length, Value.int IntKind.i64 (IntKind.i64.wrap ((i : Int) - (1 : Int))) = Value.int IntKind.i64 i1, Value.bool (decide ((↑i : Int) > 0)) = Value.bool true, Value.bool (decide (x ≥ (↑n : Int))) = Value.bool false, Value.tuple (Array.mk [Value.agg (Array.mk [Value.bool (okB w && lfB w), Value.int IntKind.i64 (sV w), Value.int IntKind.i64 (sF w), Value.int IntKind.i64 (sA w), Value.int IntKind.i64 (sX w), Value.int IntKind.i64 (sY w)]), Value.bool (okB w)]) = Value.tuple (Array.mk [Value.agg (Array.mk [Value.bool true, Value.int IntKind.i64 v, Value.int IntKind.i64 ((0 : Int)), Value.int IntKind.i64 ((0 : Int)), Value.int IntKind.i64 ((0 : Int)), Value.int IntKind.i64 ((0 : Int))]), Value.bool true]), U64 w, readPart Try.prog 26 (eWord.row ws) (0 + x.toNat * 1) = some (Value.int IntKind.u64 w), (0 : Int) ≤ x ∧ x < (n : Int), Value.int IntKind.i64 x = Value.int IntKind.i64 x, (0 : Int) ≤ x, x ≤ n1, Value.int IntKind.i64 (IntKind.i64.wrap ((n : Int) - (1 : Int))) = Value.int IntKind.i64 n1, readPart Try.prog 3 (eInt.row lv) (0 + ((i : Int)).toNat * 1) = some (Value.int IntKind.i64 x), (0 : Int) ≤ (i : Int) ∧ (i : Int) < Int.ofNat lv.length, decide ((↑i : Int) < (↑lv.length : Int)) = true])) (hK : ∀ zz, (tzL n m cap ws lv pl D Q).inv 1 zz → ltO ((tzL n m cap ws lv pl D Q).mu 1 zz) (some (lv.length - i)) → Sat E (mkLp (lp Try.f10 0) J) ((tzL n m cap ws lv pl D Q).st 1 zz)) : Sat E (inLp (lp Try.f10 0) J) ((tzL n m cap ws lv pl D Q).st 1 ⟨i, es, c⟩) :=
  by_to (T := auto0 (t_tz NI LX DX)) (h := hints [(8, 1, {p := true}), (8, 2, {o := some (.int .i64 x)}), (9, 4, {v := some (.int .i64 n1)}), (9, 5, {v := some (.int .i64 x)}), (9, 6, {p := true}), (9, 7, {o := some (.int .u64 w)}), (9, 8, {v := some (.tuple ⟨[nd true v 0 0 0 0, .bool true]⟩)}), (10, 11, ht false), (10, 15, ht true), (10, 19, {v := some (.int .i64 i1)}), (10, 20, {p := true}), (10, 21, {o := some (.int .i64 u)}), (10, 23, ht false), (12, 2, {e := some es2}), (13, 0, {v := some (.int .i64 ((i + 1 : Nat) : Int))})]) (ws := [.b true, .go]) (i0 := ⟨i + 1, es2, c2⟩) hE hm (auto0_ok (t_tz_ok NI LX DX)) hL (by kernel_rfl) hob hK
theorem tzZ1 (NI : List Int → List Int → List Int → List Int → Int → List Nd) (LX : List Int → List Int) (DX : List Int → Nat → Int) (n m cap : Nat) (ws lv : List Int) (pl : List Pt) (D : Int) (Q : TZ → Prop) (Q1 : Nat → Prop) (i c : Nat) (es : List Ent) (J : Act → World → Prop) {E : Env} {rv : Value} {rhs : List Nat} {rhv : List Blk} (hE : EnvOK E Try.prog Try.f10 2 5 rv rhs rhv) (hL : (tz1L n m cap ws lv pl D es c Q1).OK 5) (hob : all ([SameK (atLp (lp Try.f10 1)) (atLp (lp Try.f10 1)), Enter (tz1L n m cap ws lv pl D es c Q1) 1 none [Value.slice (some (Addr.mk 4 0 none)) m cap, Value.slice (some (Addr.mk 10 0 none)) n 1267650600228229401496703205376, Value.int IntKind.i64 D, Value.map (some 13), Value.int IntKind.i64 ((0 : Int))] [Blk.vec (eWord.row ws) 26 1, Blk.vec (eInt.row lv) 3 1, Blk.map [some IntKind.i64] false none es c, Blk.ro (ePt.row pl)] [(4, 4), (10, 10), (13, 13)], decide ((↑i : Int) < (↑lv.length : Int)) = false])) (hK : ∀ zz, (tz1L n m cap ws lv pl D es c Q1).inv 1 zz → ltO ((tz1L n m cap ws lv pl D es c Q1).mu 1 zz) none → Sat E (atLp (lp Try.f10 1)) ((tz1L n m cap ws lv pl D es c Q1).st 1 zz)) : Sat E (inLp (lp Try.f10 0) J) ((tzL n m cap ws lv pl D Q).st 1 ⟨i, es, c⟩) :=
  by_to (T := auto0 (t_tz NI LX DX)) (h := hints []) (ws := [.b false, .stop]) (i0 := 0) hE hm (auto0_ok (t_tz_ok NI LX DX)) hL (by kernel_rfl) hob hK
theorem tzE0 (NI : List Int → List Int → List Int → List Int → Int → List Nd) (LX : List Int → List Int) (DX : List Int → Nat → Int) (n m cap : Nat) (ws lv : List Int) (pl : List Pt) (D : Int) (es : List Ent) (c : Nat) (Q : Nat → Prop) (i : Nat) (J : Act → World → Prop) {E : Env} (hE : EnvOK E Try.prog Try.f10 2 5 (.bool true) [] []) (hob : all ([Back (Value.bool true) (Value.bool true) [] [] [], Value.bool false = Value.bool false])) : Sat E (inLp (lp Try.f10 1) J) ((tz1L n m cap ws lv pl D es c Q).st 0 i) :=
  by_ret (T := auto0 (t_tz NI LX DX)) (h := hints [(15, 3, ht false)]) (ws := [.go]) (nx' := 5) hE hm (auto0_ok (t_tz_ok NI LX DX)) (by omega) (by simp) (by simp) (by kernel_rfl) hob
theorem tzE1 (NI : List Int → List Int → List Int → List Int → Int → List Nd) (LX : List Int → List Int) (DX : List Int → Nat → Int) (n m cap : Nat) (ws lv : List Int) (pl : List Pt) (D : Int) (es : List Ent) (c : Nat) (Q : Nat → Prop) (i : Nat) (J : Act → World → Prop) {E : Env} (hE : EnvOK E Try.prog Try.f10 2 5 (.bool true) [] []) (hob : all ([Back (Value.bool true) (Value.bool true) [] [] [], Value.bool (decide ((↑i : Int) < (↑m : Int))) = Value.bool false])) : Sat E (inLp (lp Try.f10 1) J) ((tz1L n m cap ws lv pl D es c Q).st 1 i) :=
  by_ret (T := auto0 (t_tz NI LX DX)) (h := hints [(15, 3, ht false)]) (ws := [.go]) (nx' := 5) hE hm (auto0_ok (t_tz_ok NI LX DX)) (by omega) (by simp) (by simp) (by kernel_rfl) hob
theorem tzE2 (NI : List Int → List Int → List Int → List Int → Int → List Nd) (LX : List Int → List Int) (DX : List Int → Nat → Int) (n m cap : Nat) (ws lv : List Int) (pl : List Pt) (D : Int) (es : List Ent) (c : Nat) (Q : Nat → Prop) (i : Nat) (J : Act → World → Prop) {E : Env} (hE : EnvOK E Try.prog Try.f10 2 5 (.bool true) [] []) (hob : all ([Back (Value.bool true) (Value.bool true) [] [] [], Value.bool (decide ((↑i : Int) < 10)) = Value.bool false, Value.bool (decide ((↑i : Int) < (↑m : Int))) = Value.bool true])) : Sat E (inLp (lp Try.f10 1) J) ((tz1L n m cap ws lv pl D es c Q).st 1 i) :=
  by_ret (T := auto0 (t_tz NI LX DX)) (h := hints [(15, 3, ht true), (15, 6, ht false)]) (ws := [.go]) (nx' := 5) hE hm (auto0_ok (t_tz_ok NI LX DX)) (by omega) (by simp) (by simp) (by kernel_rfl) hob
theorem tzM (NI : List Int → List Int → List Int → List Int → Int → List Nd) (LX : List Int → List Int) (DX : List Int → Nat → Int) (n m cap : Nat) (ws lv : List Int) (pl : List Pt) (D : Int) (es : List Ent) (c : Nat) (Q : Nat → Prop) (i : Nat) (Q2 : Nat × Int → Prop) (p : Pt) (a : Int) (J : Act → World → Prop) {E : Env} {rv : Value} {rhs : List Nat} {rhv : List Blk} (hE : EnvOK E Try.prog Try.f10 2 5 rv rhs rhv) (hL : (tz2L n m cap ws lv pl D es c i a Q2).OK 5) (hob : all ([SameK (atLp (lpIn (lp Try.f10 1) J 0)) (atLp (lpIn (lp Try.f10 1) J 0)), Enter (tz2L n m cap ws lv pl D es c i a Q2) 1 none [Value.slice (some (Addr.mk 4 0 none)) m cap, Value.slice (some (Addr.mk 10 0 none)) n 1267650600228229401496703205376, Value.int IntKind.i64 D, Value.map (some 13), Value.int IntKind.i64 ((i : Int)), Value.int IntKind.i64 a, Value.int IntKind.i64 ((0 : Int)), Value.int IntKind.i64 ((1 : Int))] [Blk.vec (eWord.row ws) 26 1, Blk.vec (eInt.row lv) 3 1, Blk.map [some IntKind.i64] false none es c, Blk.ro (ePt.row pl)] [(4, 4), (10, 10), (13, 13)], Value.bool (mgetB (Value.int IntKind.i64 a) es) = Value.bool true, Value.int IntKind.i64 (walkI (eWord.list (eWord.row ws) 0 n) (Pt.mk p.p0 p.p1 p.p2 p.p3)) = Value.int IntKind.i64 a, plainR [eWord.row ws], eWord.Row (eWord.row ws) 0 n, ∀ (w : Int), w ∈ eWord.list (eWord.row ws) 0 n → U64 w, n ≤ 65536, readPart Try.prog 41 (ePt.row pl) (0 + ((i : Int)).toNat * 4) = some (Value.agg (Array.mk [Value.int IntKind.i64 p.p0, Value.int IntKind.i64 p.p1, Value.int IntKind.i64 p.p2, Value.int IntKind.i64 p.p3])), (0 : Int) ≤ (i : Int) ∧ (i : Int) < (m : Int), Value.bool (decide ((↑i : Int) < 10)) = Value.bool true, Value.bool (decide ((↑i : Int) < (↑m : Int))) = Value.bool true])) (hK : ∀ zz, (tz2L n m cap ws lv pl D es c i a Q2).inv 1 zz → ltO ((tz2L n m cap ws lv pl D es c i a Q2).mu 1 zz) none → Sat E (atLp (lpIn (lp Try.f10 1) J 0)) ((tz2L n m cap ws lv pl D es c i a Q2).st 1 zz)) : Sat E (inLp (lp Try.f10 1) J) ((tz1L n m cap ws lv pl D es c Q).st 1 i) :=
  by_to (T := auto0 (t_tz NI LX DX)) (h := hints [(15, 3, ht true), (15, 6, ht true), (17, 3, {p := true}), (17, 4, {o := some (.agg ⟨p.cs⟩)}), (17, 5, {v := some (.int .i64 a)}), (18, 2, ht true)]) (ws := [.go, .go, .stop]) (i0 := (0, 1)) hE hm (auto0_ok (t_tz_ok NI LX DX)) hL (by kernel_rfl) hob hK
theorem tzGL (J0 : Act → World → Prop) (NI : List Int → List Int → List Int → List Int → Int → List Nd) (LX : List Int → List Int) (DX : List Int → Nat → Int) (n m cap : Nat) (ws lv : List Int) (pl : List Pt) (D : Int) (es : List Ent) (c i : Nat) (a : Int) (Q : Nat × Int → Prop) (k : Nat) (s : Int) (k2 : Nat) (w f aa x y g s2 : Int) (J : Act → World → Prop) {E : Env} {rv : Value} {rhs : List Nat} {rhv : List Blk} (hE : EnvOK E Try.prog Try.f10 2 5 rv rhs rhv) (hL : (tz2L n m cap ws lv pl D es c i a Q).OK 5) (hob : all ([SameK (mkLp (lpIn (lp Try.f10 1) J0 0) J) (mkLp (lpIn (lp Try.f10 1) J0 0) J), Enter (tz2L n m cap ws lv pl D es c i a Q) 1 (some (n - k)) [Value.slice (some (Addr.mk 4 0 none)) m cap, Value.slice (some (Addr.mk 10 0 none)) n 1267650600228229401496703205376, Value.int IntKind.i64 D, Value.map (some 13), Value.int IntKind.i64 ((i : Int)), Value.int IntKind.i64 a, Value.int IntKind.i64 ((k2 : Int)), Value.int IntKind.i64 s2] [Blk.vec (eWord.row ws) 26 1, Blk.vec (eInt.row lv) 3 1, Blk.map [some IntKind.i64] false none es c, Blk.ro (ePt.row pl)] [(4, 4), (10, 10), (13, 13)], Value.int IntKind.i64 (IntKind.i64.wrap (s + (1 : Int))) = Value.int IntKind.i64 s2, Value.int IntKind.i64 x = Value.int IntKind.i64 ((k2 : Int)), decide (g ≤ aa) = true, readPart Try.prog 3 (ePt.row pl) (0 + ((i : Int)).toNat * 4 + f.toNat * 1) = some (Value.int IntKind.i64 g), (0 : Int) ≤ f ∧ f < (4 : Int), (0 : Int) ≤ (i : Int) ∧ (i : Int) < (m : Int), Value.bool (decide (s > D)) = Value.bool false, Value.tuple (Array.mk [Value.agg (Array.mk [Value.bool (okB w && lfB w), Value.int IntKind.i64 (sV w), Value.int IntKind.i64 (sF w), Value.int IntKind.i64 (sA w), Value.int IntKind.i64 (sX w), Value.int IntKind.i64 (sY w)]), Value.bool (okB w)]) = Value.tuple (Array.mk [Value.agg (Array.mk [Value.bool false, Value.int IntKind.i64 ((0 : Int)), Value.int IntKind.i64 f, Value.int IntKind.i64 aa, Value.int IntKind.i64 x, Value.int IntKind.i64 y]), Value.bool true]), U64 w, readPart Try.prog 26 (eWord.row ws) (0 + ((k : Int)).toNat * 1) = some (Value.int IntKind.u64 w), (0 : Int) ≤ (k : Int) ∧ (k : Int) < (n : Int), ((k : Int) != a) = true])) (hK : ∀ zz, (tz2L n m cap ws lv pl D es c i a Q).inv 1 zz → ltO ((tz2L n m cap ws lv pl D es c i a Q).mu 1 zz) (some (n - k)) → Sat E (mkLp (lpIn (lp Try.f10 1) J0 0) J) ((tz2L n m cap ws lv pl D es c i a Q).st 1 zz)) : Sat E (inLp (lpIn (lp Try.f10 1) J0 0) J) ((tz2L n m cap ws lv pl D es c i a Q).st 1 (k, s)) :=
  by_to (T := auto0 (t_tz NI LX DX)) (h := hints [(22, 2, {p := true}), (22, 3, {o := some (.int .u64 w)}), (22, 4, {v := some (.tuple ⟨[nd false 0 f aa x y, .bool true]⟩)}), (23, 2, ht false), (27, 1, {v := some (.int .i64 (k2 : Int))}), (26, 4, {p := true}), (26, 5, {p := true}), (26, 6, {o := some (.int .i64 g)}), (28, 1, {v := some (.int .i64 s2)})]) (ws := [.b true, .go, .b true]) (i0 := (k2, s2)) hE hm (auto0_ok (t_tz_ok NI LX DX)) hL (by kernel_rfl) hob hK
theorem tzGR (J0 : Act → World → Prop) (NI : List Int → List Int → List Int → List Int → Int → List Nd) (LX : List Int → List Int) (DX : List Int → Nat → Int) (n m cap : Nat) (ws lv : List Int) (pl : List Pt) (D : Int) (es : List Ent) (c i : Nat) (a : Int) (Q : Nat × Int → Prop) (k : Nat) (s : Int) (k2 : Nat) (w f aa x y g s2 : Int) (J : Act → World → Prop) {E : Env} {rv : Value} {rhs : List Nat} {rhv : List Blk} (hE : EnvOK E Try.prog Try.f10 2 5 rv rhs rhv) (hL : (tz2L n m cap ws lv pl D es c i a Q).OK 5) (hob : all ([SameK (mkLp (lpIn (lp Try.f10 1) J0 0) J) (mkLp (lpIn (lp Try.f10 1) J0 0) J), Enter (tz2L n m cap ws lv pl D es c i a Q) 1 (some (n - k)) [Value.slice (some (Addr.mk 4 0 none)) m cap, Value.slice (some (Addr.mk 10 0 none)) n 1267650600228229401496703205376, Value.int IntKind.i64 D, Value.map (some 13), Value.int IntKind.i64 ((i : Int)), Value.int IntKind.i64 a, Value.int IntKind.i64 ((k2 : Int)), Value.int IntKind.i64 s2] [Blk.vec (eWord.row ws) 26 1, Blk.vec (eInt.row lv) 3 1, Blk.map [some IntKind.i64] false none es c, Blk.ro (ePt.row pl)] [(4, 4), (10, 10), (13, 13)], Value.int IntKind.i64 (IntKind.i64.wrap (s + (1 : Int))) = Value.int IntKind.i64 s2, decide (g ≤ aa) = false, readPart Try.prog 3 (ePt.row pl) (0 + ((i : Int)).toNat * 4 + f.toNat * 1) = some (Value.int IntKind.i64 g), (0 : Int) ≤ f ∧ f < (4 : Int), (0 : Int) ≤ (i : Int) ∧ (i : Int) < (m : Int), Value.int IntKind.i64 y = Value.int IntKind.i64 ((k2 : Int)), Value.bool (decide (s > D)) = Value.bool false, Value.tuple (Array.mk [Value.agg (Array.mk [Value.bool (okB w && lfB w), Value.int IntKind.i64 (sV w), Value.int IntKind.i64 (sF w), Value.int IntKind.i64 (sA w), Value.int IntKind.i64 (sX w), Value.int IntKind.i64 (sY w)]), Value.bool (okB w)]) = Value.tuple (Array.mk [Value.agg (Array.mk [Value.bool false, Value.int IntKind.i64 ((0 : Int)), Value.int IntKind.i64 f, Value.int IntKind.i64 aa, Value.int IntKind.i64 x, Value.int IntKind.i64 y]), Value.bool true]), U64 w, readPart Try.prog 26 (eWord.row ws) (0 + ((k : Int)).toNat * 1) = some (Value.int IntKind.u64 w), (0 : Int) ≤ (k : Int) ∧ (k : Int) < (n : Int), ((k : Int) != a) = true])) (hK : ∀ zz, (tz2L n m cap ws lv pl D es c i a Q).inv 1 zz → ltO ((tz2L n m cap ws lv pl D es c i a Q).mu 1 zz) (some (n - k)) → Sat E (mkLp (lpIn (lp Try.f10 1) J0 0) J) ((tz2L n m cap ws lv pl D es c i a Q).st 1 zz)) : Sat E (inLp (lpIn (lp Try.f10 1) J0 0) J) ((tz2L n m cap ws lv pl D es c i a Q).st 1 (k, s)) :=
  by_to (T := auto0 (t_tz NI LX DX)) (h := hints [(22, 2, {p := true}), (22, 3, {o := some (.int .u64 w)}), (22, 4, {v := some (.tuple ⟨[nd false 0 f aa x y, .bool true]⟩)}), (23, 2, ht false), (25, 1, {v := some (.int .i64 (k2 : Int))}), (26, 4, {p := true}), (26, 5, {p := true}), (26, 6, {o := some (.int .i64 g)}), (28, 1, {v := some (.int .i64 s2)})]) (ws := [.b true, .go, .b false]) (i0 := (k2, s2)) hE hm (auto0_ok (t_tz_ok NI LX DX)) hL (by kernel_rfl) hob hK
theorem tzX (J0 : Act → World → Prop) (NI : List Int → List Int → List Int → List Int → Int → List Nd) (LX : List Int → List Int) (DX : List Int → Nat → Int) (n m cap : Nat) (ws lv : List Int) (pl : List Pt) (D : Int) (es : List Ent) (c i : Nat) (a : Int) (Q : Nat × Int → Prop) (k : Nat) (s : Int) (Q1 : Nat → Prop) (p : Pt) (w v v2 : Int) (J : Act → World → Prop) {E : Env} {rv : Value} {rhs : List Nat} {rhv : List Blk} (hE : EnvOK E Try.prog Try.f10 2 5 rv rhs rhv) (hL : (tz1L n m cap ws lv pl D es c Q1).OK 5) (hob : all ([SameK (mkLp (lp Try.f10 1) J0) (mkLp (lp Try.f10 1) J0), Enter (tz1L n m cap ws lv pl D es c Q1) 1 (some (m - i)) [Value.slice (some (Addr.mk 4 0 none)) m cap, Value.slice (some (Addr.mk 10 0 none)) n 1267650600228229401496703205376, Value.int IntKind.i64 D, Value.map (some 13), Value.int IntKind.i64 (Int.ofNat i.succ)] [Blk.vec (eWord.row ws) 26 1, Blk.vec (eInt.row lv) 3 1, Blk.map [some IntKind.i64] false none es c, Blk.ro (ePt.row pl)] [(4, 4), (10, 10), (13, 13)], Value.int IntKind.i64 (IntKind.i64.wrap (Int.ofNat i.succ)) = Value.int IntKind.i64 (Int.ofNat i.succ), Value.bool (v2 != v) = Value.bool false, Value.int IntKind.i64 (endV (eWord.list (eWord.row ws) 0 n) (Pt.mk p.p0 p.p1 p.p2 p.p3)) = Value.int IntKind.i64 v2, plainR [eWord.row ws], eWord.Row (eWord.row ws) 0 n, ∀ (w : Int), w ∈ eWord.list (eWord.row ws) 0 n → U64 w, n ≤ 65536, readPart Try.prog 41 (ePt.row pl) (0 + ((i : Int)).toNat * 4) = some (Value.agg (Array.mk [Value.int IntKind.i64 p.p0, Value.int IntKind.i64 p.p1, Value.int IntKind.i64 p.p2, Value.int IntKind.i64 p.p3])), (0 : Int) ≤ (i : Int) ∧ (i : Int) < (m : Int), Value.bool (decide (s > D)) = Value.bool false, Value.tuple (Array.mk [Value.agg (Array.mk [Value.bool (okB w && lfB w), Value.int IntKind.i64 (sV w), Value.int IntKind.i64 (sF w), Value.int IntKind.i64 (sA w), Value.int IntKind.i64 (sX w), Value.int IntKind.i64 (sY w)]), Value.bool (okB w)]) = Value.tuple (Array.mk [Value.agg (Array.mk [Value.bool true, Value.int IntKind.i64 v, Value.int IntKind.i64 ((0 : Int)), Value.int IntKind.i64 ((0 : Int)), Value.int IntKind.i64 ((0 : Int)), Value.int IntKind.i64 ((0 : Int))]), Value.bool true]), U64 w, readPart Try.prog 26 (eWord.row ws) (0 + a.toNat * 1) = some (Value.int IntKind.u64 w), (0 : Int) ≤ a ∧ a < (n : Int), ((k : Int) != a) = false])) (hK : ∀ zz, (tz1L n m cap ws lv pl D es c Q1).inv 1 zz → ltO ((tz1L n m cap ws lv pl D es c Q1).mu 1 zz) (some (m - i)) → Sat E (mkLp (lp Try.f10 1) J0) ((tz1L n m cap ws lv pl D es c Q1).st 1 zz)) : Sat E (inLp (lpIn (lp Try.f10 1) J0 0) J) ((tz2L n m cap ws lv pl D es c i a Q).st 1 (k, s)) :=
  by_to (T := auto0 (t_tz NI LX DX)) (h := hints [(29, 2, {p := true}), (29, 3, {o := some (.int .u64 w)}), (29, 4, {v := some (.tuple ⟨[nd true v 0 0 0 0, .bool true]⟩)}), (30, 2, ht false), (30, 7, {p := true}), (30, 8, {o := some (.agg ⟨p.cs⟩)}), (30, 9, {v := some (.int .i64 v2)}), (30, 12, ht false), (16, 1, {v := some (.int .i64 ((i + 1 : Nat) : Int))})]) (ws := [.b false, .go]) (i0 := (i + 1)) hE hm (auto0_ok (t_tz_ok NI LX DX)) hL (by kernel_rfl) hob hK
end Go.Proofs.Ytnngaedhedbenaa.Tr


set_option linter.unusedVariables false
set_option linter.unusedSimpArgs false
set_option maxRecDepth 100000
namespace Go.Proofs.Ytnngaedhedbenaa.Tr
open Go Go.RowKit Go.Proofs.Ytnngaedhedbenaa.Ev Go.Proofs.Ytnngaedhedbenaa.NodeE Go.Proofs.Ytnngaedhedbenaa.Within Go.Proofs.Ytnngaedhedbenaa.PickE Go.Proofs.Ytnngaedhedbenaa.Tn Go.Proofs.Ytnngaedhedbenaa.Tr

theorem leafIx_count : ∀ (i : Nat) (ws : List Int), (leafIx i ws).length = (ws.filter fun w => okB w && lfB w).length
  | _, [] => rfl
  | i, w :: ws => by
    simp only [leafIx, List.filter_cons, leafIx_count (i + 1) ws]
    cases h : okB w && lfB w <;> simp [leafIx_count (i + 1) ws]
theorem leaves_half (pl bl al vl : List Int) : 2 * (leafIx 0 (wordsI pl bl al vl 4)).length = (wordsI pl bl al vl 4).length + 1 := by
  obtain ⟨i, lv, _, h⟩ := nodes_ndr pl bl al vl (dim := 4) ⟨by decide, by decide⟩
  rw [leafIx_count, List.filter_map, List.length_map, List.length_map, h.nl]
  have e : (nodesI pl bl al vl 4).filter ((fun w => okB w && lfB w) ∘ packN) = (nodesI pl bl al vl 4).filter fun n => n.leaf := by
    refine List.filter_congr fun n hn => ?_
    obtain ⟨_, h2, h3, _⟩ := pack_tells (h.right n hn)
    simp only [Function.comp, h2, h3, Bool.true_and]
  rw [e, h.lc]; omega
theorem mem_leafIx : ∀ {ws : List Int} {i : Nat} {z : Int}, z ∈ leafIx i ws ↔ ∃ (j : Nat) (w : Int), z = ((i + j : Nat) : Int) ∧ ws[j]? = some w ∧ (okB w && lfB w) = true
  | [], i, z => by simp [leafIx]
  | w :: ws, i, z => by
    have ih := mem_leafIx (ws := ws) (i := i + 1) (z := z)
    have key : (∃ (j : Nat) (v : Int), z = ((i + j : Nat) : Int) ∧ (w :: ws)[j]? = some v ∧ (okB v && lfB v) = true) ↔ ((z = (i : Int) ∧ (okB w && lfB w) = true) ∨ z ∈ leafIx (i + 1) ws) := by
      rw [ih]
      constructor
      · rintro ⟨j, v, h1, h2, h3⟩
        cases j with
        | zero => simp at h2; subst h2; exact Or.inl ⟨h1, h3⟩
        | succ j => exact Or.inr ⟨j, v, by rw [h1]; congr 1; omega, by simpa using h2, h3⟩
      · rintro (⟨h1, h3⟩ | ⟨j, v, h1, h2, h3⟩)
        · exact ⟨0, w, h1, rfl, h3⟩
        · exact ⟨j + 1, v, by rw [h1]; congr 1; omega, by simpa using h2, h3⟩
    rw [key]
    simp only [leafIx]
    cases h : okB w && lfB w <;> simp
theorem leafIx_sorted : ∀ (ws : List Int) (i : Nat), (leafIx i ws).Pairwise (· < ·) ∧ ∀ z ∈ leafIx i ws, (i : Int) ≤ z
  | [], i => ⟨List.Pairwise.nil, fun z hz => by simp [leafIx] at hz⟩
  | w :: ws, i => by
    obtain ⟨h1, h2⟩ := leafIx_sorted ws (i + 1)
    simp only [leafIx]
    cases okB w && lfB w
    · exact ⟨h1, fun z hz => by have := h2 z hz; omega⟩
    · refine ⟨List.pairwise_cons.2 ⟨fun z hz => ?_, h1⟩, fun z hz => ?_⟩
      · have := h2 z hz; omega
      · rcases List.mem_cons.1 hz with rfl | hz
        · exact Int.le_refl _
        · have := h2 z hz; omega
/-! ### Depths -/
abbrev stD (ws : List Int) (i : Nat) : Int × List Int := depGo 0 (ws.take i) (dep0 ws.length)
abbrev rD (ws : List Int) (i : Nat) : Int := (stD ws i).2.getD i 0
theorem stD_succ {ws : List Int} {i : Nat} {w : Int} (hw : ws[i]? = some w) : stD ws (i + 1) = depS i w (stD ws i) := by
  have hi := (List.getElem?_eq_some_iff.1 hw).1
  have htk : ws.take (i + 1) = ws.take i ++ [w] := by rw [List.take_add_one, hw]; rfl
  show depGo 0 (ws.take (i + 1)) _ = _
  rw [htk, depGo_app, List.length_take, Nat.min_eq_left (by omega), Nat.zero_add]
  rfl
theorem stD_ok {ws : List Int} : ∀ {i : Nat}, i ≤ ws.length → DpOK ws.length i (stD ws i)
  | 0, _ => dep0_ok _
  | i + 1, h => by
    rw [stD_succ (List.getElem?_eq_getElem h)]
    exact depS_ok _ (stD_ok (by omega)) h
theorem stD_mono {ws : List Int} : ∀ {i j : Nat}, i ≤ j → j ≤ ws.length → (stD ws i).1 ≤ (stD ws j).1
  | i, 0, h, _ => by have : i = 0 := by omega
                     subst this; exact Int.le_refl _
  | i, j + 1, h, hj => by
    by_cases e : i = j + 1
    · subst e; exact Int.le_refl _
    · have := stD_mono (ws := ws) (i := i) (j := j) (by omega) (by omega)
      rw [stD_succ (List.getElem?_eq_getElem hj)]
      simp only [depS]; omega
theorem rD_le {ws : List Int} {i : Nat} (hi : i < ws.length) : rD ws i ≤ depI ws ws.length := by
  have h1 : rD ws i ≤ (stD ws (i + 1)).1 := by
    rw [stD_succ (List.getElem?_eq_getElem hi)]
    simp only [depS, rD]; omega
  have h2 := stD_mono (ws := ws) (i := i + 1) (j := ws.length) hi (Nat.le_refl _)
  have e : depI ws ws.length = (stD ws ws.length).1 := by
    show (depGo 0 ws _).1 = (depGo 0 (ws.take ws.length) _).1
    rw [List.take_length]
  omega
theorem depI_range {ws : List Int} (h : 1 ≤ ws.length) : 1 ≤ depI ws ws.length ∧ depI ws ws.length ≤ ws.length := by
  have e : depI ws ws.length = (stD ws ws.length).1 := by
    show (depGo 0 ws _).1 = (depGo 0 (ws.take ws.length) _).1
    rw [List.take_length]
  have hl : ws.length = (ws.length - 1) + 1 := by omega
  have hw : ws[ws.length - 1]? = some (ws[ws.length - 1]'(by omega)) := List.getElem?_eq_getElem (by omega)
  have hk := stD_ok (ws := ws) (i := ws.length - 1) (by omega)
  have e2 : stD ws ws.length = depS (ws.length - 1) (ws[ws.length - 1]'(by omega)) (stD ws (ws.length - 1)) := by
    conv => lhs; rw [hl]
    exact stD_succ hw
  have hg := hk.rr _ (getD_mem (r := (stD ws (ws.length - 1)).2) (i := ws.length - 1) (by rw [hk.len]; omega)).1
  have hm := hk.mr
  rw [e, e2]
  simp only [depS]
  omega
theorem rD_zero {ws : List Int} (h : 1 ≤ ws.length) : rD ws 0 = 1 := by
  show (dep0 ws.length).2.getD 0 0 = 1
  simp only [dep0]
  rw [List.getD_eq_getElem?_getD, List.getElem?_set_self (by simp; omega)]
  rfl
/-- A name is given once. -/
theorem named_once {ws : List Int} {dim : Int} (h : rightI ws dim = true) {i j : Nat} {w v c : Int} (hij : i < j) (hw : ws[i]? = some w) (hv : ws[j]? = some v) (h1 : c ∈ namesW w) (h2 : c ∈ namesW v) : False := by
  have hj := (List.getElem?_eq_some_iff.1 hv).1
  have hc : 1 ≤ c ∧ c < ws.length := by
    cases hl : lfB w
    · obtain ⟨_, _, _, a, b, p, q⟩ := good_inner ((right_parts.1 h).2.1 i w hw) hl
      simp only [namesW, hl, cond_false, List.mem_cons, List.not_mem_nil, or_false] at h1
      omega
    · simp [namesW, hl] at h1
  obtain ⟨k, rfl⟩ := Int.eq_ofNat_of_zero_le (show 0 ≤ c by omega)
  have ho := (right_parts.1 h).2.2 k (by omega) (by omega)
  have e : ws = ws.take j ++ (v :: ws.drop (j + 1)) := by
    conv => lhs; rw [← List.take_append_drop j ws]
    rw [List.drop_eq_getElem_cons hj, (List.getElem?_eq_some_iff.1 hv).2]
  have c1 : 1 ≤ ((ws.take j).flatMap namesW).count (k : Int) := List.count_pos_iff.2 (List.mem_flatMap.2 ⟨w, List.mem_of_getElem? (i := i) (by rw [List.getElem?_take, if_pos hij]; exact hw), h1⟩)
  have c2 : 1 ≤ (namesW v).count (k : Int) := List.count_pos_iff.2 h2
  unfold named at ho
  rw [e, List.flatMap_append, List.flatMap_cons, List.count_append, List.count_append] at ho
  omega
theorem depS_other {i : Nat} {w : Int} {d : Int × List Int} {c : Nat} (h : okB w = true) (hc : (c : Int) ∉ namesW w) (hn : lfB w = false → 0 ≤ uX w ∧ 0 ≤ uY w) : (depS i w d).2.getD c 0 = d.2.getD c 0 := by
  simp only [depS, h, Bool.true_and]
  cases hl : lfB w
  · simp only [namesW, hl, cond_false, List.mem_cons, List.not_mem_nil, or_false, not_or] at hc
    obtain ⟨n1, n2⟩ := hn hl
    simp only [cond_false, sX, sY, h, hl, Bool.not_false, Bool.and_self, cond_true]
    rw [List.getD_eq_getElem?_getD, List.getElem?_set_ne (by omega), List.getElem?_set_ne (by omega), List.getD_eq_getElem?_getD]
  · rfl
theorem rD_child {ws : List Int} {dim : Int} (h : rightI ws dim = true) {i : Nat} {w : Int} (hw : ws[i]? = some w) (hl : lfB w = false) {c : Nat} (hc : (c : Int) = uX w ∨ (c : Int) = uY w) : rD ws c = rD ws i + 1 := by
  obtain ⟨ho, d1, d2, d3, d4, d5, d6⟩ := good_inner ((right_parts.1 h).2.1 i w hw) hl
  have hi := (List.getElem?_eq_some_iff.1 hw).1
  have hcn : c < ws.length := by omega
  have hic : i < c := by omega
  have hmem : (c : Int) ∈ namesW w := by
    simp only [namesW, hl, cond_false, List.mem_cons, List.not_mem_nil, or_false]; exact hc
  have base : (stD ws (i + 1)).2.getD c 0 = rD ws i + 1 := by
    rw [stD_succ hw]
    have hlen := (stD_ok (ws := ws) (i := i) (by omega)).len
    simp only [depS, sX, sY, ho, hl, Bool.and_false, Bool.not_false, Bool.and_self, cond_false, cond_true]
    obtain ⟨X, hX⟩ := Int.eq_ofNat_of_zero_le (show 0 ≤ uX w by omega)
    obtain ⟨Y, hY⟩ := Int.eq_ofNat_of_zero_le (show 0 ≤ uY w by omega)
    rw [hX, hY, Int.toNat_natCast, Int.toNat_natCast, List.getD_eq_getElem?_getD]
    rcases hc with hc | hc
    · have : c = X := by omega
      subst this
      rw [List.getElem?_set_ne (by omega), List.getElem?_set_self (by rw [hlen]; omega)]
      rfl
    · have : c = Y := by omega
      subst this
      rw [List.getElem?_set_self (by rw [List.length_set, hlen]; omega)]
      rfl
  have keep : ∀ j : Nat, i + 1 ≤ j → j ≤ c → (stD ws j).2.getD c 0 = rD ws i + 1 := by
    intro j
    induction j with
    | zero => intro a; omega
    | succ j ih =>
      intro a b
      by_cases e : j = i
      · subst e; exact base
      · have hj : j < ws.length := by omega
        have hv : ws[j]? = some ws[j] := List.getElem?_eq_getElem hj
        have hov := right_ok h _ (List.mem_of_getElem? hv)
        rw [stD_succ hv, depS_other hov (fun hm => named_once h (by omega) hw hv hmem hm) (fun hl' => by
          obtain ⟨_, _, _, p, q, _, _⟩ := good_inner ((right_parts.1 h).2.1 j _ hv) hl'
          omega)]
        exact ih (by omega) (by omega)
  exact keep c hic (Nat.le_refl _)
end Go.Proofs.Ytnngaedhedbenaa.Tr


set_option linter.unusedVariables false
set_option linter.unusedSimpArgs false
set_option maxRecDepth 100000
namespace Go.Proofs.Ytnngaedhedbenaa.WkTreeLeaves
open Go Go.RowKit Go.Proofs.Ytnngaedhedbenaa.Ev Go.Proofs.Ytnngaedhedbenaa.NodeE Go.Proofs.Ytnngaedhedbenaa.Within Go.Proofs.Ytnngaedhedbenaa.PickE Go.Proofs.Ytnngaedhedbenaa.Tn Go.Proofs.Ytnngaedhedbenaa.Tr Go.Proofs.Ytnngaedhedbenaa.BitLib

theorem rd_word {ws : List Int} {k : Nat} {w : Int} (h : ws[k]? = some w) : readPart Try.prog 26 (eWord.row ws) (0 + ((k : Nat) : Int).toNat * 1) = some (.int .u64 w) := by
  rw [Int.toNat_natCast, Nat.mul_one]
  exact (Elt.canon0 (e := eWord) ws).1.read1 (P := Try.prog) (ty := 26) (by kernel_rfl) rfl (i := k) (x := w) (by rw [(Elt.canon0 ws).2]; exact h) rfl rfl
theorem rd_intn {l : List Int} {k : Nat} {z : Int} (h : l[k]? = some z) : readPart Try.prog 3 (eInt.row l) (0 + ((k : Nat) : Int).toNat * 1) = some (.int .i64 z) := by
  have := rd_int h
  rwa [Int.toNat_natCast]
theorem rd_pt {pl : List Pt} {k : Nat} {p : Pt} (h : pl[k]? = some p) : readPart Try.prog 41 (ePt.row pl) (0 + ((k : Nat) : Int).toNat * 4) = some (.agg ⟨p.cs⟩) := by
  have := read_row (e := ePt) (P := Try.prog) (ty := 41) (by kernel_rfl) (by kernel_rfl) h
  exact this
theorem rd_ptf {pl : List Pt} {k : Nat} {p : Pt} {f : Int} (h : pl[k]? = some p) (hf : 0 ≤ f ∧ f < 4) : readPart Try.prog 3 (ePt.row pl) (0 + ((k : Nat) : Int).toNat * 4 + f.toNat * 1) = some (.int .i64 (p.at f)) := by
  have hs := Elt.row_sub (e := ePt) pl [] h
  rw [List.append_nil] at hs
  have ha : aggT Try.prog 3 = some false := by kernel_rfl
  have hc : f = 0 ∨ f = 1 ∨ f = 2 ∨ f = 3 := by omega
  have key : ∀ (j : Nat) (v : Value), j < 4 → p.cs[j]? = some v → leaf v = true → readPart Try.prog 3 (ePt.row pl) (0 + ((k : Nat) : Int).toNat * 4 + j * 1) = some v := fun j v hj hv hl => by
    have hget : (ePt.row pl)[k * 4 + j]? = some v := by
      obtain ⟨hln, _, hjj⟩ := sub_spec hs
      exact hjj j v hv
    refine readPart_one ha ?_ hl
    rw [Int.toNat_natCast, Nat.zero_add, Nat.mul_one]
    exact hget
  rcases hc with rfl | rfl | rfl | rfl
  · exact key 0 _ (by decide) rfl rfl
  · exact key 1 _ (by decide) rfl rfl
  · exact key 2 _ (by decide) rfl rfl
  · exact key 3 _ (by decide) rfl rfl
def one {ι : Type} (L : LoopF ι) : LoopF ι := { L with inv := fun b i => b = 1 ∧ L.inv b i }
def zero {ι : Type} (L : LoopF ι) : LoopF ι := { L with inv := fun b i => b = 0 ∧ L.inv b i }
def Q0 (lv : List Int) : TZ → Prop := fun s => s.i ≤ lv.length ∧ keysI s.es ∧ ∀ z, mgetB (kI z) s.es = decide (z ∈ lv.take s.i)
theorem Q00 (lv : List Int) : Q0 lv ⟨0, [], 0⟩ := ⟨Nat.zero_le _, keysI_nil, fun z => by simp [mgetB]⟩
/-- The points, one by one. -/
theorem points {E : Env} (NI : List Int → List Int → List Int → List Int → Int → List Nd) (LX : List Int → List Int) (DX : List Int → Nat → Int) {n m cap : Nat} {ws lv : List Int} {pl : List Pt} {D : Int} {es : List Ent} {c : Nat} (hE : EnvOK E Try.prog Try.f10 2 5 (.bool true) [] []) (hn : ws.length = n) (hR : rightI ws 4 = true) (hU : ∀ w ∈ ws, U64 w) (h15 : n ≤ 15) (hlv : lv = leafIx 0 ws) (hD : D = depI ws ws.length) (hm : pl.length = m) (hes : ∀ z, mgetB (kI z) es = decide (z ∈ lv)) :
    ∀ i, i ≤ m → Sat E (atLp (lp Try.f10 1)) ((tz1L n m cap ws lv pl D es c (fun i => i ≤ m)).st 1 i) := by
  have rnw : ∀ (f : Nat → Nat), Blk.rnB f (.vec (eWord.row ws) 26 1) = .vec (eWord.row ws) 26 1 := fun f => Blk.plain.rnB (b := .vec (eWord.row ws) 26 1) (Elt.row_pl _) f
  have rnv : ∀ (f : Nat → Nat), Blk.rnB f (.vec (eInt.row lv) 3 1) = .vec (eInt.row lv) 3 1 := fun f => Blk.plain.rnB (b := .vec (eInt.row lv) 3 1) (Elt.row_pl _) f
  have rnm : ∀ (f : Nat → Nat) (es : List Ent) (c : Nat), Blk.rnB f (.map [some .i64] false none es c) = .map [some .i64] false none es c := fun f es c => rfl
  have rnp : ∀ (f : Nat → Nat), Blk.rnB f (.ro (ePt.row pl)) = .ro (ePt.row pl) := fun f => Blk.plain.rnB (b := .ro (ePt.row pl)) (Elt.row_pl _) f
  have hrow : eWord.Row (eWord.row ws) 0 n := rowN hn.symm
  have hli : eWord.list (eWord.row ws) 0 n = ws := by rw [listM (by omega), List.take_of_length_le (by omega)]
  have hUl : ∀ w ∈ eWord.list (eWord.row ws) 0 n, U64 w := by rw [hli]; exact hU
  obtain ⟨⟨hn1, _⟩, hgood, _⟩ := right_parts.1 hR
  have okL1 := tz1L_ok n m cap ws lv pl D es c (fun i => i ≤ m)
  intro i0 hi0
  have main := loop_sat (E := E) (k := ((lp Try.f10 1)).2) (c := ((lp Try.f10 1)).1) (one (tz1L n m cap ws lv pl D es c (fun i => i ≤ m))) (fun b i hb J hJ => by
    obtain ⟨rfl, hi⟩ := hb
    have hi : i ≤ m := hi
    have hJ' : ∀ zz, (tz1L n m cap ws lv pl D es c (fun i => i ≤ m)).inv 1 zz → ltO ((tz1L n m cap ws lv pl D es c (fun i => i ≤ m)).mu 1 zz) (some (m - i)) → Sat E (mkLp (lp Try.f10 1) J) ((tz1L n m cap ws lv pl D es c (fun i => i ≤ m)).st 1 zz) := fun zz h1 h2 => hJ 1 zz ⟨rfl, h1⟩ h2
    by_cases him : i < m
    · have lm : Value.bool (decide ((i : Int) < (m : Int))) = .bool true := congrArg _ (decide_eq_true (by omega))
      by_cases hi10 : i < 10
      · have l10 : Value.bool (decide ((i : Int) < 10)) = .bool true := congrArg _ (decide_eq_true (by omega))
        obtain ⟨p, hp⟩ : ∃ p, pl[i]? = some p := ⟨_, List.getElem?_eq_getElem (by omega)⟩
        obtain ⟨a, ha⟩ := walk_ends hR p
        obtain ⟨q1, q2, _⟩ := end_some ha
        obtain ⟨wa, hwa, hoa, hla⟩ := goW_is ha
        have han : a < n := by have := (List.getElem?_eq_some_iff.1 hwa).1; omega
        have hin : (a : Int) ∈ lv := by
          rw [hlv]; exact mem_leafIx.2 ⟨a, wa, by rw [Nat.zero_add], hwa, by rw [hoa, hla]; rfl⟩
        have hmg : Value.bool (mgetB (kI (a : Int)) es) = .bool true := congrArg _ ((hes _).trans (decide_eq_true hin))
        have hwk : Value.int .i64 (walkI (eWord.list (eWord.row ws) 0 n) p) = .int .i64 (a : Int) := by rw [hli, q1]
        have hix : (0 : Int) ≤ (i : Int) ∧ (i : Int) < (m : Int) := ⟨Int.natCast_nonneg _, by omega⟩
        let Q2 : Nat × Int → Prop := fun s => s.1 < n ∧ s.2 = rD ws s.1 ∧ ∃ g, goW ws p g s.1 = some a
        refine tzM NI LX DX n m cap ws lv pl D es c (fun i => i ≤ m) i Q2 p (a : Int) J hE (tz2L_ok n m cap ws lv pl D es c i (a : Int) Q2) ⟨rfl, ⟨(0, 1), ⟨by omega, (rD_zero hn1).symm, 31, ha⟩, trivial, rfl, by simp only [tz2L, List.map_cons, List.map_nil, rnw, rnv, rnm, rnp]⟩, hmg, hwk, (plain1 (Elt.row_pl _)), hrow, hUl, (by omega), rd_pt hp, hix, l10, lm, trivial⟩ fun zz hz _ => ?_
        have inner := loop_sat (E := E) (k := ((lpIn (lp Try.f10 1) J 0)).2) (c := ((lpIn (lp Try.f10 1) J 0)).1) (one (tz2L n m cap ws lv pl D es c i (a : Int) Q2)) (fun b ks hb J2 hJ2 => by
          obtain ⟨rfl, hks⟩ := hb
          obtain ⟨k, s⟩ := ks
          obtain ⟨k1, k2, g, k3⟩ := hks
          have k1 : k < n := k1
          have k2 : s = rD ws k := k2
          have k3 : goW ws p g k = some a := k3
          have hJ2' : ∀ zz, (tz2L n m cap ws lv pl D es c i (a : Int) Q2).inv 1 zz → ltO ((tz2L n m cap ws lv pl D es c i (a : Int) Q2).mu 1 zz) (some (n - k)) → Sat E (mkLp (lpIn (lp Try.f10 1) J 0) J2) ((tz2L n m cap ws lv pl D es c i (a : Int) Q2).st 1 zz) := fun zz h1 h2 => hJ2 1 zz ⟨rfl, h1⟩ h2
          obtain ⟨w, hw⟩ : ∃ w, ws[k]? = some w := ⟨_, List.getElem?_eq_getElem (by omega)⟩
          have ho := right_ok hR w (List.mem_of_getElem? hw)
          have hsD : Value.bool (decide (s > D)) = .bool false := congrArg _ (decide_eq_false (by have := rD_le (ws := ws) (i := k) (by omega); omega))
          have hUw := hU w (List.mem_of_getElem? hw)
          have hkx : (0 : Int) ≤ (k : Int) ∧ (k : Int) < (n : Int) := ⟨Int.natCast_nonneg _, by omega⟩
          have hsr := (stD_ok (ws := ws) (i := k) (by omega)).rr _ (getD_mem (r := (stD ws k).2) (i := k) (by rw [(stD_ok (ws := ws) (i := k) (by omega)).len]; omega)).1
          have hsr2 : 0 ≤ s ∧ s ≤ (k : Int) + 1 := by rw [k2]; exact hsr
          by_cases hka : k = a
          · subst hka
            have hwe : w = wa := by rw [hw] at hwa; injection hwa
            subst hwe
            have q4 : ws.getD k 0 = w := by rw [List.getD_eq_getElem?_getD, hw]; rfl
            rw [q4] at q2
            exact tzX J NI LX DX n m cap ws lv pl D es c i (k : Int) Q2 k s (fun i => i ≤ m) p w (low32 w) (low32 w) J2 hE okL1 ⟨rfl, ⟨i + 1, him, (by show m - (i + 1) < m - i; omega), rfl, by simp only [tz1L, List.map_cons, List.map_nil, rnw, rnv, rnm, rnp]⟩, i64_succ (by omega), (congrArg _ (bne_self_eq_false _)), (by rw [hli, q2]), (plain1 (Elt.row_pl _)), hrow, hUl, (by omega), rd_pt hp, hix, hsD, unp_leaf ho hla, hUw, rd_word hw, hkx, (bne_self_eq_false _), trivial⟩ hJ'
          · have hne : ((k : Int) != (a : Int)) = true := by simp only [bne_iff_ne, ne_eq]; omega
            cases g with
            | zero => exact absurd k3 (by simp [goW])
            | succ g =>
              cases hl : lfB w
              · rw [goW_step hw ho hl] at k3
                obtain ⟨g1, g2⟩ := goes_next hR (p := p) hw hl
                obtain ⟨_, d1, d2, d3, d4, d5, d6⟩ := good_inner (hgood k w hw) hl
                have hf := (inner_bounds ho hl).1
                cases hd : decide (p.at (uF w) ≤ low32 w)
                · have hb : goes p w = uY w := by unfold goes; rw [hd]; rfl
                  rw [hb] at k3 g1 g2
                  have hch := rD_child hR hw hl (c := (uY w).toNat) (Or.inr (by omega))
                  exact tzGR J NI LX DX n m cap ws lv pl D es c i (a : Int) Q2 k s (uY w).toNat w (uF w) (low32 w) (uX w) (uY w) (p.at (uF w)) (s + 1) J2 hE (tz2L_ok n m cap ws lv pl D es c i (a : Int) Q2) ⟨rfl, ⟨((uY w).toNat, s + 1), ⟨by omega, by rw [k2]; exact hch.symm, g, k3⟩, (by show n - (uY w).toNat < n - k; omega), rfl, by simp only [tz2L, List.map_cons, List.map_nil, rnw, rnv, rnm, rnp]⟩, (i64_id rfl (by omega) (by omega)), hd, rd_ptf hp hf, hf, hix, (congrArg _ (Int.toNat_of_nonneg (by omega)).symm), hsD, unp_inner ho hl, hUw, rd_word hw, hkx, hne, trivial⟩ hJ2'
                · have hb : goes p w = uX w := by unfold goes; rw [hd]; rfl
                  rw [hb] at k3 g1 g2
                  have hch := rD_child hR hw hl (c := (uX w).toNat) (Or.inl (by omega))
                  exact tzGL J NI LX DX n m cap ws lv pl D es c i (a : Int) Q2 k s (uX w).toNat w (uF w) (low32 w) (uX w) (uY w) (p.at (uF w)) (s + 1) J2 hE (tz2L_ok n m cap ws lv pl D es c i (a : Int) Q2) ⟨rfl, ⟨((uX w).toNat, s + 1), ⟨by omega, by rw [k2]; exact hch.symm, g, k3⟩, (by show n - (uX w).toNat < n - k; omega), rfl, by simp only [tz2L, List.map_cons, List.map_nil, rnw, rnv, rnm, rnp]⟩, (i64_id rfl (by omega) (by omega)), (congrArg _ (Int.toNat_of_nonneg (by omega)).symm), hd, rd_ptf hp hf, hf, hix, hsD, unp_inner ho hl, hUw, rd_word hw, hkx, hne, trivial⟩ hJ2'
              · rw [goW_leaf hw ho hl] at k3
                injection k3 with k3
                exact absurd k3 hka)
        exact inner 1 zz ⟨rfl, hz⟩
      · have l10 : Value.bool (decide ((i : Int) < 10)) = .bool false := congrArg _ (decide_eq_false (by omega))
        exact tzE2 NI LX DX n m cap ws lv pl D es c (fun i => i ≤ m) i J hE ⟨⟨rfl, rfl⟩, l10, lm, trivial⟩
    · have lm : Value.bool (decide ((i : Int) < (m : Int))) = .bool false := congrArg _ (decide_eq_false (by omega))
      exact tzE1 NI LX DX n m cap ws lv pl D es c (fun i => i ≤ m) i J hE ⟨⟨rfl, rfl⟩, lm, trivial⟩)
  exact main 1 i0 ⟨rfl, hi0⟩

theorem law0 {E : Env} (NI : List Int → List Int → List Int → List Int → Int → List Nd) (LX : List Int → List Int) (DX : List Int → Nat → Int) {n m cap : Nat} {ws lv : List Int} {pl : List Pt} {D : Int} (hE : EnvOK E Try.prog Try.f10 2 5 (.bool true) [] []) (hn : ws.length = n) (hR : rightI ws 4 = true) (hU : ∀ w ∈ ws, U64 w) (h15 : n ≤ 15) (hlv : lv = leafIx 0 ws) (hD : D = depI ws ws.length) (hm : pl.length = m) (zz : TZ) (hz : Q0 lv zz) :
    Sat E (atLp (lp Try.f10 0)) ((tzL n m cap ws lv pl D (Q0 lv)).st 0 zz) := by
  have rnw : ∀ (f : Nat → Nat), Blk.rnB f (.vec (eWord.row ws) 26 1) = .vec (eWord.row ws) 26 1 := fun f => Blk.plain.rnB (b := .vec (eWord.row ws) 26 1) (Elt.row_pl _) f
  have rnv : ∀ (f : Nat → Nat), Blk.rnB f (.vec (eInt.row lv) 3 1) = .vec (eInt.row lv) 3 1 := fun f => Blk.plain.rnB (b := .vec (eInt.row lv) 3 1) (Elt.row_pl _) f
  have rnm : ∀ (f : Nat → Nat) (es : List Ent) (c : Nat), Blk.rnB f (.map [some .i64] false none es c) = .map [some .i64] false none es c := fun f es c => rfl
  have rnp : ∀ (f : Nat → Nat), Blk.rnB f (.ro (ePt.row pl)) = .ro (ePt.row pl) := fun f => Blk.plain.rnB (b := .ro (ePt.row pl)) (Elt.row_pl _) f
  have okL := tzL_ok n m cap ws lv pl D (Q0 lv)
  have hlen : lv.length ≤ n := by rw [hlv, ← hn]; exact leafIx_len 0 ws
  obtain ⟨hsort, _⟩ := leafIx_sorted ws 0
  rw [← hlv] at hsort
  have main := loop_sat (E := E) (k := ((lp Try.f10 0)).2) (c := ((lp Try.f10 0)).1) (zero (tzL n m cap ws lv pl D (Q0 lv))) (fun b s hb J hJ => by
    obtain ⟨rfl, hinv⟩ := hb
    obtain ⟨i, es, c⟩ := s
    obtain ⟨k1, k2, k3⟩ := hinv
    have k1 : i ≤ lv.length := k1
    have k2 : keysI es := k2
    have k3 : ∀ z, mgetB (kI z) es = decide (z ∈ lv.take i) := k3
    have hJ' : ∀ zz, (tzL n m cap ws lv pl D (Q0 lv)).inv 0 zz → ltO ((tzL n m cap ws lv pl D (Q0 lv)).mu 0 zz) (some (lv.length - i)) → Sat E (mkLp (lp Try.f10 0) J) ((tzL n m cap ws lv pl D (Q0 lv)).st 0 zz) := fun zz h1 h2 => hJ 0 zz ⟨rfl, h1⟩ h2
    by_cases hin : i < lv.length
    · have hlt : decide ((i : Int) < (lv.length : Int)) = true := decide_eq_true (by omega)
      obtain ⟨x, hx⟩ : ∃ x, lv[i]? = some x := ⟨_, List.getElem?_eq_getElem hin⟩
      obtain ⟨j, w, hxj, hw, hol⟩ := mem_leafIx.1 (show x ∈ leafIx 0 ws by rw [← hlv]; exact List.mem_of_getElem? hx)
      rw [Nat.zero_add] at hxj
      subst hxj
      rw [Bool.and_eq_true] at hol
      obtain ⟨ho, hl⟩ := hol
      have hjn : j < n := by have := (List.getElem?_eq_some_iff.1 hw).1; omega
      have htk : lv.take (i + 1) = lv.take i ++ [(j : Int)] := by rw [List.take_add_one, hx]; rfl
      have hq : Q0 lv ⟨i + 1, mput (kI (j : Int)) (.bool true) c es, bif mhas (kI (j : Int)) es then c else c + 1⟩ := ⟨hin, keysI_put k2 _ _ _, fun z => by
        rw [mgetB_put k2, htk, k3]
        by_cases e : z = (j : Int)
        · subst e; simp
        · have : (z == (j : Int)) = false := beq_eq_false_iff_ne.2 e
          rw [this]; simp [e]⟩
      have tail1 : Value.bool (decide ((j : Int) ≥ (n : Int))) = .bool false := congrArg _ (decide_eq_false (by omega))
      have n1 : Value.int .i64 (IntKind.i64.wrap ((n : Int) - 1)) = .int .i64 ((n : Int) - 1) := i64_id rfl (by omega) (by omega)
      have jx : (0 : Int) ≤ (j : Int) ∧ (j : Int) < (n : Int) := ⟨Int.natCast_nonneg _, by omega⟩
      have ix : (0 : Int) ≤ (i : Int) ∧ (i : Int) < Int.ofNat lv.length := ⟨Int.natCast_nonneg _, Int.ofNat_lt.2 hin⟩
      by_cases hi0 : i = 0
      · exact tzA0 NI LX DX n m cap ws lv pl D (Q0 lv) i c 0 es _ (j : Int) ((n : Int) - 1) w (low32 w) 0 0 J hE okL ⟨rfl, ⟨_, hq, (by show lv.length - (i + 1) < lv.length - i; omega), rfl, by simp only [tzL, List.map_cons, List.map_nil, rnw, rnv, rnm, rnp]⟩, i64_succ (by omega), rfl, (congrArg _ (decide_eq_false (by omega))), tail1, unp_leaf ho hl, hU w (List.mem_of_getElem? hw), rd_word hw, jx, rfl, Int.natCast_nonneg _, by omega, n1, rd_intn hx, ix, hlt, trivial⟩ hJ'
      · obtain ⟨u, hu⟩ : ∃ u, lv[i - 1]? = some u := ⟨_, List.getElem?_eq_getElem (by omega)⟩
        have hux : u < (j : Int) := by
          have e1 := (List.getElem?_eq_some_iff.1 hu).2
          have e2 := (List.getElem?_eq_some_iff.1 hx).2
          have := List.pairwise_iff_getElem.1 hsort (i - 1) i (by omega) hin (by omega)
          rw [e1, e2] at this
          exact this
        have i1 : Value.int .i64 (IntKind.i64.wrap ((i : Int) - 1)) = .int .i64 ((i - 1 : Nat) : Int) := i64_id (by omega) (by omega) (by omega)
        exact tzB0 NI LX DX n m cap ws lv pl D (Q0 lv) i c 0 es _ (j : Int) ((n : Int) - 1) w (low32 w) ((i - 1 : Nat) : Int) u J hE okL ⟨rfl, ⟨_, hq, (by show lv.length - (i + 1) < lv.length - i; omega), rfl, by simp only [tzL, List.map_cons, List.map_nil, rnw, rnv, rnm, rnp]⟩, i64_succ (by omega), rfl, (congrArg _ (decide_eq_false (by omega))), rd_intn hu, ⟨Int.natCast_nonneg _, Int.ofNat_lt.2 (by omega)⟩, i1, (congrArg _ (decide_eq_true (by omega))), tail1, unp_leaf ho hl, hU w (List.mem_of_getElem? hw), rd_word hw, jx, rfl, Int.natCast_nonneg _, by omega, n1, rd_intn hx, ix, hlt, trivial⟩ hJ'
    · have hlt : decide ((i : Int) < (lv.length : Int)) = false := decide_eq_false (by omega)
      rw [List.take_of_length_le (by omega)] at k3
      have hes := k3
      exact tzZ0 NI LX DX n m cap ws lv pl D (Q0 lv) (fun i => i = 0) i c es J hE (tz1L_ok n m cap ws lv pl D es c (fun i => i = 0)) ⟨rfl, ⟨0, (rfl : (0 : Nat) = 0), trivial, rfl, by simp only [tz1L, List.map_cons, List.map_nil, rnw, rnv, rnm, rnp]⟩, hlt, trivial⟩ (fun zz hz _ => by
        have main := loop_sat (E := E) (k := ((lp Try.f10 1)).2) (c := ((lp Try.f10 1)).1) (zero (tz1L n m cap ws lv pl D es c (fun i => i = 0))) (fun b i hb J hJ => by
          obtain ⟨rfl, hi⟩ := hb
          have hi : i = 0 := hi
          exact tzE0 NI LX DX n m cap ws lv pl D es c (fun i => i = 0) i J hE ⟨⟨rfl, rfl⟩, rfl, trivial⟩)
        exact main 0 zz ⟨rfl, hz⟩))
  exact main 0 zz ⟨rfl, hz⟩

theorem law1 {E : Env} (NI : List Int → List Int → List Int → List Int → Int → List Nd) (LX : List Int → List Int) (DX : List Int → Nat → Int) {n m cap : Nat} {ws lv : List Int} {pl : List Pt} {D : Int} (hE : EnvOK E Try.prog Try.f10 2 5 (.bool true) [] []) (hn : ws.length = n) (hR : rightI ws 4 = true) (hU : ∀ w ∈ ws, U64 w) (h15 : n ≤ 15) (hlv : lv = leafIx 0 ws) (hD : D = depI ws ws.length) (hm : pl.length = m) (zz : TZ) (hz : Q0 lv zz) :
    Sat E (atLp (lp Try.f10 0)) ((tzL n m cap ws lv pl D (Q0 lv)).st 1 zz) := by
  have rnw : ∀ (f : Nat → Nat), Blk.rnB f (.vec (eWord.row ws) 26 1) = .vec (eWord.row ws) 26 1 := fun f => Blk.plain.rnB (b := .vec (eWord.row ws) 26 1) (Elt.row_pl _) f
  have rnv : ∀ (f : Nat → Nat), Blk.rnB f (.vec (eInt.row lv) 3 1) = .vec (eInt.row lv) 3 1 := fun f => Blk.plain.rnB (b := .vec (eInt.row lv) 3 1) (Elt.row_pl _) f
  have rnm : ∀ (f : Nat → Nat) (es : List Ent) (c : Nat), Blk.rnB f (.map [some .i64] false none es c) = .map [some .i64] false none es c := fun f es c => rfl
  have rnp : ∀ (f : Nat → Nat), Blk.rnB f (.ro (ePt.row pl)) = .ro (ePt.row pl) := fun f => Blk.plain.rnB (b := .ro (ePt.row pl)) (Elt.row_pl _) f
  have okL := tzL_ok n m cap ws lv pl D (Q0 lv)
  have hlen : lv.length ≤ n := by rw [hlv, ← hn]; exact leafIx_len 0 ws
  obtain ⟨hsort, _⟩ := leafIx_sorted ws 0
  rw [← hlv] at hsort
  have main := loop_sat (E := E) (k := ((lp Try.f10 0)).2) (c := ((lp Try.f10 0)).1) (one (tzL n m cap ws lv pl D (Q0 lv))) (fun b s hb J hJ => by
    obtain ⟨rfl, hinv⟩ := hb
    obtain ⟨i, es, c⟩ := s
    obtain ⟨k1, k2, k3⟩ := hinv
    have k1 : i ≤ lv.length := k1
    have k2 : keysI es := k2
    have k3 : ∀ z, mgetB (kI z) es = decide (z ∈ lv.take i) := k3
    have hJ' : ∀ zz, (tzL n m cap ws lv pl D (Q0 lv)).inv 1 zz → ltO ((tzL n m cap ws lv pl D (Q0 lv)).mu 1 zz) (some (lv.length - i)) → Sat E (mkLp (lp Try.f10 0) J) ((tzL n m cap ws lv pl D (Q0 lv)).st 1 zz) := fun zz h1 h2 => hJ 1 zz ⟨rfl, h1⟩ h2
    by_cases hin : i < lv.length
    · have hlt : decide ((i : Int) < (lv.length : Int)) = true := decide_eq_true (by omega)
      obtain ⟨x, hx⟩ : ∃ x, lv[i]? = some x := ⟨_, List.getElem?_eq_getElem hin⟩
      obtain ⟨j, w, hxj, hw, hol⟩ := mem_leafIx.1 (show x ∈ leafIx 0 ws by rw [← hlv]; exact List.mem_of_getElem? hx)
      rw [Nat.zero_add] at hxj
      subst hxj
      rw [Bool.and_eq_true] at hol
      obtain ⟨ho, hl⟩ := hol
      have hjn : j < n := by have := (List.getElem?_eq_some_iff.1 hw).1; omega
      have htk : lv.take (i + 1) = lv.take i ++ [(j : Int)] := by rw [List.take_add_one, hx]; rfl
      have hq : Q0 lv ⟨i + 1, mput (kI (j : Int)) (.bool true) c es, bif mhas (kI (j : Int)) es then c else c + 1⟩ := ⟨hin, keysI_put k2 _ _ _, fun z => by
        rw [mgetB_put k2, htk, k3]
        by_cases e : z = (j : Int)
        · subst e; simp
        · have : (z == (j : Int)) = false := beq_eq_false_iff_ne.2 e
          rw [this]; simp [e]⟩
      have tail1 : Value.bool (decide ((j : Int) ≥ (n : Int))) = .bool false := congrArg _ (decide_eq_false (by omega))
      have n1 : Value.int .i64 (IntKind.i64.wrap ((n : Int) - 1)) = .int .i64 ((n : Int) - 1) := i64_id rfl (by omega) (by omega)
      have jx : (0 : Int) ≤ (j : Int) ∧ (j : Int) < (n : Int) := ⟨Int.natCast_nonneg _, by omega⟩
      have ix : (0 : Int) ≤ (i : Int) ∧ (i : Int) < Int.ofNat lv.length := ⟨Int.natCast_nonneg _, Int.ofNat_lt.2 hin⟩
      by_cases hi0 : i = 0
      · exact tzA1 NI LX DX n m cap ws lv pl D (Q0 lv) i c 0 es _ (j : Int) ((n : Int) - 1) w (low32 w) 0 0 J hE okL ⟨rfl, ⟨_, hq, (by show lv.length - (i + 1) < lv.length - i; omega), rfl, by simp only [tzL, List.map_cons, List.map_nil, rnw, rnv, rnm, rnp]⟩, i64_succ (by omega), rfl, (congrArg _ (decide_eq_false (by omega))), tail1, unp_leaf ho hl, hU w (List.mem_of_getElem? hw), rd_word hw, jx, rfl, Int.natCast_nonneg _, by omega, n1, rd_intn hx, ix, hlt, trivial⟩ hJ'
      · obtain ⟨u, hu⟩ : ∃ u, lv[i - 1]? = some u := ⟨_, List.getElem?_eq_getElem (by omega)⟩
        have hux : u < (j : Int) := by
          have e1 := (List.getElem?_eq_some_iff.1 hu).2
          have e2 := (List.getElem?_eq_some_iff.1 hx).2
          have := List.pairwise_iff_getElem.1 hsort (i - 1) i (by omega) hin (by omega)
          rw [e1, e2] at this
          exact this
        have i1 : Value.int .i64 (IntKind.i64.wrap ((i : Int) - 1)) = .int .i64 ((i - 1 : Nat) : Int) := i64_id (by omega) (by omega) (by omega)
        exact tzB1 NI LX DX n m cap ws lv pl D (Q0 lv) i c 0 es _ (j : Int) ((n : Int) - 1) w (low32 w) ((i - 1 : Nat) : Int) u J hE okL ⟨rfl, ⟨_, hq, (by show lv.length - (i + 1) < lv.length - i; omega), rfl, by simp only [tzL, List.map_cons, List.map_nil, rnw, rnv, rnm, rnp]⟩, i64_succ (by omega), rfl, (congrArg _ (decide_eq_false (by omega))), rd_intn hu, ⟨Int.natCast_nonneg _, Int.ofNat_lt.2 (by omega)⟩, i1, (congrArg _ (decide_eq_true (by omega))), tail1, unp_leaf ho hl, hU w (List.mem_of_getElem? hw), rd_word hw, jx, rfl, Int.natCast_nonneg _, by omega, n1, rd_intn hx, ix, hlt, trivial⟩ hJ'
    · have hlt : decide ((i : Int) < (lv.length : Int)) = false := decide_eq_false (by omega)
      rw [List.take_of_length_le (by omega)] at k3
      have hes := k3
      exact tzZ1 NI LX DX n m cap ws lv pl D (Q0 lv) (fun i => i ≤ m) i c es J hE (tz1L_ok n m cap ws lv pl D es c (fun i => i ≤ m)) ⟨rfl, ⟨0, (Nat.zero_le _ : (0 : Nat) ≤ m), trivial, rfl, by simp only [tz1L, List.map_cons, List.map_nil, rnw, rnv, rnm, rnp]⟩, hlt, trivial⟩ (fun zz hz _ => points NI LX DX hE hn hR hU h15 hlv hD hm hes zz hz))
  exact main 1 zz ⟨rfl, hz⟩

theorem spec {cl : Int} {u0 u1 u2 u3 u4 : Value} {x0 x1 x2 x3 x4 : Option (List Value)} (c0 : CanAt eInt I64 0 u0 x0) (c1 : CanAt eInt I64 1 u1 x1) (c2 : CanAt eInt I64 2 u2 x2) (c3 : CanAt eInt I64 3 u3 x3) (c4 : CanAt ePt (fun _ => True) 4 u4 x4) :
    CallSpec Try.prog 10 [.agg ⟨[.int .i64 cl, u0, u1, u2, u3]⟩, u4] (rowsL [x0, x1, x2, x3, x4]) 5 (.bool true) (assocN [] []) := by
  refine spec_of_sat Try.func10 rfl fun E hE => ?_
  obtain ⟨r0, rfl, rfl, h0⟩ := can_fam c0
  obtain ⟨r1, rfl, rfl, h1⟩ := can_fam c1
  obtain ⟨r2, rfl, rfl, h2⟩ := can_fam c2
  obtain ⟨r3, rfl, rfl, h3⟩ := can_fam c3
  have hhalf := leaves_half r0.l r1.l r2.l r3.l
  obtain ⟨NI, hNI⟩ : ∃ NI : List Int → List Int → List Int → List Int → Int → List Nd, NI = nodesI := ⟨_, rfl⟩
  obtain ⟨LX, hLXe⟩ : ∃ LX : List Int → List Int, LX = leafI0 := ⟨_, rfl⟩
  obtain ⟨DX, hDX⟩ : ∃ DX : List Int → Nat → Int, DX = depI := ⟨_, rfl⟩
  obtain ⟨x1, hUn, x3⟩ := nodes_right r0.l r1.l r2.l r3.l (dim := 4) ⟨by decide, by decide⟩
  simp only [wordsI, ← hNI] at x1 hUn x3 hhalf
  rw [List.length_map] at x3
  have hn : ((NI r0.l r1.l r2.l r3.l 4).map packN).length = (NI r0.l r1.l r2.l r3.l 4).length := by simp
  have hn1 := (right_parts.1 x1).1.1
  have hrow : eWord.Row (eWord.row ((NI r0.l r1.l r2.l r3.l 4).map packN)) 0 (NI r0.l r1.l r2.l r3.l 4).length := rowN hn.symm
  have hli : eWord.list (eWord.row ((NI r0.l r1.l r2.l r3.l 4).map packN)) 0 (NI r0.l r1.l r2.l r3.l 4).length = (NI r0.l r1.l r2.l r3.l 4).map packN := by rw [listM (by omega), List.take_of_length_le (by omega)]
  have hUl : ∀ w ∈ eWord.list (eWord.row ((NI r0.l r1.l r2.l r3.l 4).map packN)) 0 (NI r0.l r1.l r2.l r3.l 4).length, U64 w := by rw [hli]; exact hUn
  have hRl : rightI (eWord.list (eWord.row ((NI r0.l r1.l r2.l r3.l 4).map packN)) 0 (NI r0.l r1.l r2.l r3.l 4).length) 4 = true := by rw [hli]; exact x1
  have hRv : Value.bool (rightI (eWord.list (eWord.row ((NI r0.l r1.l r2.l r3.l 4).map packN)) 0 (NI r0.l r1.l r2.l r3.l 4).length) 4) = .bool true := by rw [hRl]
  have pl1 : plainR [eWord.row ((NI r0.l r1.l r2.l r3.l 4).map packN)] := plain1 (Elt.row_pl _)
  generalize hlv : leafIx 0 ((NI r0.l r1.l r2.l r3.l 4).map packN) = lv at hhalf
  have hlv0 := hlv.symm
  have hLX : LX (eWord.list (eWord.row ((NI r0.l r1.l r2.l r3.l 4).map packN)) 0 (NI r0.l r1.l r2.l r3.l 4).length) = lv := by rw [hli, hLXe, ← hlv]; rfl
  have hdr := depI_range hn1
  generalize hD : depI ((NI r0.l r1.l r2.l r3.l 4).map packN) ((NI r0.l r1.l r2.l r3.l 4).map packN).length = D at hdr
  have hD0 := hD.symm
  have hDv : Value.int .i64 (DX (eWord.list (eWord.row ((NI r0.l r1.l r2.l r3.l 4).map packN)) 0 (NI r0.l r1.l r2.l r3.l 4).length) (NI r0.l r1.l r2.l r3.l 4).length) = .int .i64 D := by rw [hli, hDX, ← hD, hn]
  have rnw : ∀ (ws : List Int) (f : Nat → Nat), Blk.rnB f (.vec (eWord.row ws) 26 1) = .vec (eWord.row ws) 26 1 := fun ws f => Blk.plain.rnB (b := .vec (eWord.row ws) 26 1) (Elt.row_pl _) f
  have rnv : ∀ (lv : List Int) (f : Nat → Nat), Blk.rnB f (.vec (eInt.row lv) 3 1) = .vec (eInt.row lv) 3 1 := fun lv f => Blk.plain.rnB (b := .vec (eInt.row lv) 3 1) (Elt.row_pl _) f
  have rnm : ∀ (f : Nat → Nat) (es : List Ent) (c : Nat), Blk.rnB f (.map [some .i64] false none es c) = .map [some .i64] false none es c := fun f es c => rfl
  have rnp : ∀ (pl : List Pt) (f : Nat → Nat), Blk.rnB f (.ro (ePt.row pl)) = .ro (ePt.row pl) := fun pl f => Blk.plain.rnB (b := .ro (ePt.row pl)) (Elt.row_pl _) f
  rcases c4 with ⟨rfl, rfl⟩ | ⟨pl, cap, rfl, rfl, hlc, hcm, hg⟩
  · exact tzIn0 NI LX DX cl r0 r1 r2 r3 (NI r0.l r1.l r2.l r3.l 4).length 0 0 ((NI r0.l r1.l r2.l r3.l 4).map packN) lv [] D (lv.length : Int) ((NI r0.l r1.l r2.l r3.l 4).length : Int) (2 * (lv.length : Int)) (Q0 lv) hE (tzL_ok _ _ _ _ _ _ _ _)
      (all_app ⟨rfl, ⟨⟨0, [], 0⟩, Q00 _, trivial, (by simp only [hLX]; rfl), (by simp only [tzL, List.map_cons, List.map_nil, rnw, rnv, rnm, rnp, hLX])⟩, (congrArg _ (decide_eq_false (by omega))), rfl, (congrArg _ (decide_eq_false (by omega))), (congrArg _ (bne_self_eq_false _)), (i64_id (by omega) (by omega) (by omega)), rfl, (i64_id rfl (by omega) (by omega)), (by simp only [hLX]; rfl), hRv, pl1, hrow, hUl, (by omega), hDv, pl1, hDX, hrow, hUl, (by omega), hRl, pl1, hLXe, hrow, hUl, (by omega), hRl, cssZ_pl h0 h1 h2 h3, hNI, ⟨by decide, by decide⟩, trivial⟩ (all_app h0.ob2 (all_app h1.ob2 (all_app h2.ob2 h3.ob2))))
      fun zz hz _ => law0 (m := 0) (cap := 0) (pl := []) NI LX DX hE (by simp) x1 hUn (by omega) hlv0 hD0 rfl zz hz
  · exact tzIn1 NI LX DX cl r0 r1 r2 r3 (NI r0.l r1.l r2.l r3.l 4).length pl.length cap ((NI r0.l r1.l r2.l r3.l 4).map packN) lv pl D (lv.length : Int) ((NI r0.l r1.l r2.l r3.l 4).length : Int) (2 * (lv.length : Int)) (Q0 lv) hE (tzL_ok _ _ _ _ _ _ _ _)
      (all_app ⟨rfl, ⟨⟨0, [], 0⟩, Q00 _, trivial, (by simp only [hLX]; rfl), (by simp only [tzL, List.map_cons, List.map_nil, rnw, rnv, rnm, rnp, hLX])⟩, (congrArg _ (decide_eq_false (by omega))), rfl, (congrArg _ (decide_eq_false (by omega))), (congrArg _ (bne_self_eq_false _)), (i64_id (by omega) (by omega) (by omega)), rfl, (i64_id rfl (by omega) (by omega)), (by simp only [hLX]; rfl), hRv, pl1, hrow, hUl, (by omega), hDv, pl1, hDX, hrow, hUl, (by omega), hRl, pl1, hLXe, hrow, hUl, (by omega), hRl, cssZ_pl h0 h1 h2 h3, hNI, ⟨by decide, by decide⟩, trivial⟩ (all_app h0.ob2 (all_app h1.ob2 (all_app h2.ob2 h3.ob2))))
      fun zz hz _ => law1 NI LX DX hE (by simp) x1 hUn (by omega) hlv0 hD0 rfl zz hz

theorem walk (W : World) (cl : Int) (v0 v1 v2 v3 : Value) (o0 : Opened W eInt I64 v0) (o1 : Opened W eInt I64 v1) (o2 : Opened W eInt I64 v2) (o3 : Opened W eInt I64 v3) (v4 : Value) (o4 : Opened W ePt (fun _ => True) v4) :
    Calls Try.prog 10 #[.agg #[.int .i64 cl, v0, v1, v2, v3], v4] W fun e w' => e = .returned (.bool true) ∧ Below W.heap.size W w' := by
  obtain ⟨u0, x0, ad0, c0, e0, n0, g0⟩ := o0.can 0
  obtain ⟨u1, x1, ad1, c1, e1, n1, g1⟩ := o1.can 1
  obtain ⟨u2, x2, ad2, c2, e2, n2, g2⟩ := o2.can 2
  obtain ⟨u3, x3, ad3, c3, e3, n3, g3⟩ := o3.can 3
  obtain ⟨u4, x4, ad4, c4, e4, n4, g4⟩ := o4.can 4
  have hspec := spec (cl := cl) c0 c1 c2 c3 c4
  have := calls_rows hspec rfl (Nat.le_refl 5)
    (fun u hu j hj => by
      simp at hu
      rcases hu with rfl | rfl
      · simp [nms, nm1, nmL, nm0] at hj
        rcases hj with hj | hj | hj | hj
        · have := c0.nm0 j hj; omega
        · have := c1.nm0 j hj; omega
        · have := c2.nm0 j hj; omega
        · have := c3.nm0 j hj; omega
      · have := c4.nms j hj; omega)
    (W := W) (l := [ad0, ad1, ad2, ad3, ad4]) (fun j r ad hr ha => by
      match j with
      | 0 => simp at hr ha; subst hr; subst ha; exact g0
      | 1 => simp at hr ha; subst hr; subst ha; exact g1
      | 2 => simp at hr ha; subst hr; subst ha; exact g2
      | 3 => simp at hr ha; subst hr; subst ha; exact g3
      | 4 => simp at hr ha; subst hr; subst ha; exact g4
      | j + 5 => simp at hr) (Nat.le_refl 5)
  have hmap : ([.agg ⟨[.int .i64 cl, u0, u1, u2, u3]⟩, u4].map (ren (Nm.at [ad0, ad1, ad2, ad3, ad4]))).toArray = #[.agg #[.int .i64 cl, v0, v1, v2, v3], v4] := by
    have g0 := e0 [ad0, ad1, ad2, ad3, ad4] rfl
    have g1 := e1 [ad0, ad1, ad2, ad3, ad4] rfl
    have g2 := e2 [ad0, ad1, ad2, ad3, ad4] rfl
    have g3 := e3 [ad0, ad1, ad2, ad3, ad4] rfl
    have g4 := e4 [ad0, ad1, ad2, ad3, ad4] rfl
    simp only [List.map_cons, List.map_nil]
    simp only [c4.ren, ren_agg, List.map_toArray, List.map_cons, List.map_nil, g0, g1, g2, g3, g4]
    rfl
  rw [hmap] at this
  exact this
end Go.Proofs.Ytnngaedhedbenaa.WkTreeLeaves


set_option linter.unusedVariables false
set_option linter.unusedSimpArgs false
set_option maxRecDepth 100000
namespace Go.Proofs.Ytnngaedhedbenaa.Ev
open Go Go.RowKit Go.ChangeShapes Go.WideShapes
theorem elem_i64 {H : Type} {enc : TypeId × Value → H} {W : World} {base : Nat} {spare : Nat → Bool} {held : Bool} (n : Nat) (cs : List Value) (z : DataW H × List MemPlace) (h : DataW.trod enc Try.prog W base spare held n 3 cs = some z) : ∃ x : Int, cs = eInt.cells x ∧ I64 x := by
  obtain ⟨x, h1, h2⟩ := elem_int (P := Try.prog) (k := .i64) (by kernel_rfl) n cs z h
  exact ⟨x, h1, wf64 h2⟩
theorem open_ints64 {H : Type} {enc : TypeId × Value → H} {W : World} {base : Nat} {spare : Nat → Bool} {held : Bool} {r : Reach} {b0 : Nat} {v : Value} {d : DataW H} {ps : List MemPlace} (hv : Value.okWide Try.prog W r b0 43 v) (h : DataW.Trod enc Try.prog W base spare held 43 v d ps) : Opened W eInt I64 v := by
  have hu : Try.prog.underlying 43 = some (.slice 3) := by kernel_rfl
  obtain ⟨fuel, hf⟩ := h
  simp only [Value.okWide, hu] at hv
  have hcs : v.cells.toList = [v] := by
    obtain ⟨a, l, c, rfl⟩ : ∃ a l c, v = .slice a l c := by
      simp only [Cell.okWide, hu, Cell.ok] at hv
      cases v <;> simp_all
    rfl
  rw [hcs] at hf
  exact open_row hu (by kernel_rfl) elem_i64 hv hf
end Go.Proofs.Ytnngaedhedbenaa.Ev


set_option linter.unusedVariables false
set_option linter.unusedSimpArgs false
set_option maxRecDepth 100000
namespace Go.Proofs.Ytnngaedhedbenaa.Ev
open Go Go.RowKit Go.ChangeShapes Go.WideShapes
def fieldsOf (P : Program) (t : TypeId) : Array Field := match P.underlying t with
  | some (.struct fs) => fs
  | _ => #[]
section
variable {H : Type} {enc : TypeId × Value → H} {P : Program} {W : World} {base : Nat} {spare : Nat → Bool} {held : Bool}
theorem field_of {fs : Array Field} {i o c : Nat} {d : TypeDesc} (h : (fs[i]?).map (fun f => (f.offset, P.cellsOf f.type)) = some (o, c)) (hd : (fs[i]?).bind (fun f => P.underlying f.type) = some d) :
    ∃ f, fs[i]? = some f ∧ f.offset = o ∧ P.cellsOf f.type = c ∧ P.underlying f.type = some d := by
  cases hf : fs[i]? with
  | none => rw [hf] at h; simp at h
  | some f =>
    rw [hf] at h hd
    simp at h hd
    exact ⟨f, rfl, h.1, h.2, hd⟩
theorem xs_get {α : Type} {xs : List α} {i : Nat} (h : i < xs.length) : ∃ y, xs[i]? = some y := ⟨xs[i], List.getElem?_eq_getElem h⟩
end
/-- A struct of a number and four slices of numbers. -/
theorem open_tree {H : Type} {enc : TypeId × Value → H} {W : World} {base : Nat} {spare : Nat → Bool} {held : Bool} {r : Reach} {b0 : Nat} {v : Value} {d : DataW H} {ps : List MemPlace} (hv : Value.okWide Try.prog W r b0 47 v) (h : DataW.Trod enc Try.prog W base spare held 47 v d ps) :
    ∃ (cl : Int) (a1 a2 a3 a4 : Value), v = .agg #[.int .i64 cl, a1, a2, a3, a4] ∧ Opened W eInt I64 a1 ∧ Opened W eInt I64 a2 ∧ Opened W eInt I64 a3 ∧ Opened W eInt I64 a4 := by
  have hu : Try.prog.underlying 47 = some (.struct (fieldsOf Try.prog 47)) := by kernel_rfl
  obtain ⟨fuel, hf⟩ := h
  simp only [Value.okWide, hu] at hv
  obtain ⟨⟨l⟩, rfl, hs, ts, ht1, _, ht2⟩ := hv
  have hl5 : l.length = 5 := by
    have : Try.prog.cellsOf 47 = 5 := by kernel_rfl
    rw [this] at hs
    simpa using hs
  have hct : Try.prog.cellTypes Try.prog.depth 47 = some [3, 43, 43, 43, 43] := by kernel_rfl
  rw [hct] at ht1
  injection ht1 with ht1
  subst ht1
  obtain ⟨xs, k, _, _, hl, hlen, hf⟩ := DataW.trod_struct (P := Try.prog) hu hf
  have hx5 : xs.length = 5 := by rw [hlen]; kernel_rfl
  have hsl : Try.prog.underlying 43 = some (.slice 3) := by kernel_rfl
  obtain ⟨f0, e0, o0, c0, u0⟩ := field_of (P := Try.prog) (fs := fieldsOf Try.prog 47) (i := 0) (o := 0) (c := 1) (d := .int .i64) (by kernel_rfl) (by kernel_rfl)
  obtain ⟨f1, e1, o1, c1, u1⟩ := field_of (P := Try.prog) (fs := fieldsOf Try.prog 47) (i := 1) (o := 1) (c := 1) (d := .slice 3) (by kernel_rfl) (by kernel_rfl)
  obtain ⟨f2, e2, o2, c2, u2⟩ := field_of (P := Try.prog) (fs := fieldsOf Try.prog 47) (i := 2) (o := 2) (c := 1) (d := .slice 3) (by kernel_rfl) (by kernel_rfl)
  obtain ⟨f3, e3, o3, c3, u3⟩ := field_of (P := Try.prog) (fs := fieldsOf Try.prog 47) (i := 3) (o := 3) (c := 1) (d := .slice 3) (by kernel_rfl) (by kernel_rfl)
  obtain ⟨f4, e4, o4, c4, u4⟩ := field_of (P := Try.prog) (fs := fieldsOf Try.prog 47) (i := 4) (o := 4) (c := 1) (d := .slice 3) (by kernel_rfl) (by kernel_rfl)
  have g0 := hf 0 f0 e0
  have g1 := hf 1 f1 e1
  have g2 := hf 2 f2 e2
  have g3 := hf 3 f3 e3
  have g4 := hf 4 f4 e4
  obtain ⟨y0, hy0⟩ := xs_get (xs := xs) (i := 0) (by omega)
  obtain ⟨y1, hy1⟩ := xs_get (xs := xs) (i := 1) (by omega)
  obtain ⟨y2, hy2⟩ := xs_get (xs := xs) (i := 2) (by omega)
  obtain ⟨y3, hy3⟩ := xs_get (xs := xs) (i := 3) (by omega)
  obtain ⟨y4, hy4⟩ := xs_get (xs := xs) (i := 4) (by omega)
  rw [o0, c0, hy0] at g0
  rw [o1, c1, hy1] at g1
  rw [o2, c2, hy2] at g2
  rw [o3, c3, hy3] at g3
  rw [o4, c4, hy4] at g4
  match l, hl5 with
  | [p0, p1, p2, p3, p4], _ =>
    obtain ⟨cl, q0, _, _⟩ := DataW.trod_int u0 g0
    have q1 : [p0] = [Value.int .i64 cl] := q0
    injection q1 with q1 _
    subst q1
    obtain ⟨t1, hq1, w1⟩ := ht2 1 p1 rfl
    simp at hq1
    subst hq1
    obtain ⟨t2, hq2, w2⟩ := ht2 2 p2 rfl
    simp at hq2
    subst hq2
    obtain ⟨t3, hq3, w3⟩ := ht2 3 p3 rfl
    simp at hq3
    subst hq3
    obtain ⟨t4, hq4, w4⟩ := ht2 4 p4 rfl
    simp at hq4
    subst hq4
    have hcell : ∀ (x : Value) (ft : TypeId), Try.prog.underlying ft = some (.slice 3) → Cell.okWide Try.prog W r b0 43 x → Cell.okWide Try.prog W r b0 ft x := by
      intro x ft hft hx
      simp only [Cell.okWide, hsl, hft, Cell.ok] at hx ⊢
      exact hx
    exact ⟨cl, p1, p2, p3, p4, rfl, open_row u1 (by kernel_rfl) elem_i64 (hcell p1 _ u1 w1) g1, open_row u2 (by kernel_rfl) elem_i64 (hcell p2 _ u2 w2) g2, open_row u3 (by kernel_rfl) elem_i64 (hcell p3 _ u3 w3) g3, open_row u4 (by kernel_rfl) elem_i64 (hcell p4 _ u4 w4) g4⟩
end Go.Proofs.Ytnngaedhedbenaa.Ev


namespace Go.Proofs.Ytnngaedhedbenaa.treeLeavesRow
open Go.ChangeShapes Go.WideShapes Go.ChangeAt Go.RowKit
open Go.ChangeMaps (open_string shut_string)
set_option linter.unusedVariables false
theorem own : ownKnob Try.prog.godebug = none := by kernel_rfl
theorem laidOut : laidOutB Try.prog = true := by kernel_rfl
set_option maxHeartbeats 4000000 in
set_option maxRecDepth 100000 in
theorem lifted (os : Os) (started : os.Started) (H : Type) (enc : TypeId × Value → H) :
    ReturnsInHanded {} Try.checked os 10 .any (Rows.treeLeavesSpec.pre6 enc Try.prog Try.f10 Rows.treeLeavesRow.domain false) (Rows.treeLeavesSpec.post enc Try.prog Try.f10 false true false false) := by
  refine returnsInHanded_of_change_sized (C := Try.checked) own started (by kernel_rfl) Try.func10
    (ChangeSpec.witness6 (enc := enc) (C := Try.checked) false ⟨#[], #[.agg #[.int .i64 0, .slice none 0 0, .slice none 0 0, .slice none 0 0, .slice none 0 0], .slice none 0 0], []⟩ 8 (by kernel_rfl) (by kernel_rfl) (by kernel_rfl) (by kernel_rfl)) ?_
  intro W base args ds gs before hval0 hW hcnd hsz0 _
  have hsz : (DataW.weightsEach Try.prog (Try.f10.params.toList ++ Rows.treeLeavesSpec.plain.varTypes Try.prog) (ds ++ gs)).all (· ≤ reachBytes) = true := hsz0
  have hval : ∀ (j : Nat) t v, Try.f10.params[j]? = some t → args[j]? = some v → Value.okWide Try.prog W .any base t v := hval0
  have hW' := hW
  obtain ⟨p, q, hA0, hV, rfl, hfz, hnd⟩ := hW
  have hA : DataW.TrodAll enc Try.prog W 0 (fun _ => true) true Try.f10.params.toList args.toList ds p := hA0
  rw [Try.params10] at hA hval hsz
  obtain ⟨v0, vs0, d0, ds0, p0, q0, hargs, rfl, rfl, h0, r0⟩ := trodAll_cons hA
  obtain ⟨v1, vs1, d1, ds1, p1, q1, rfl, rfl, rfl, h1, r1⟩ := trodAll_cons r0
  obtain ⟨rfl, rfl, rfl⟩ := trodAll_nil r1
  obtain rfl : args = #[v0, v1] := by cases args; simp_all
  obtain ⟨rfl, rfl⟩ := trodVars_none hV
  have k0 := h0
  have lt0 : ∀ x ∈ p0, x.block < W.heap.size := by obtain ⟨m, hm⟩ := k0; exact DataW.trod_lt m _ _ _ hm
  obtain ⟨t0y0, t0y1, t0y2, t0y3, t0y4, rfl, w0y1, w0y2, w0y3, w0y4⟩ := Ev.open_tree (hval 0 47 v0 rfl rfl) h0
  have k1 := h1
  have lt1 : ∀ x ∈ p1, x.block < W.heap.size := by obtain ⟨m, hm⟩ := k1; exact DataW.trod_lt m _ _ _ hm
  have w1 := Tr.open_points (hval 1 52 v1 rfl rfl) h1
  clear hA0 hval0 hsz0 hsz
  refine (WkTreeLeaves.walk W t0y0 t0y1 t0y2 t0y3 t0y4 w0y1 w0y2 w0y3 w0y4 v1 w1).mono fun e W' ⟨he, bel⟩ => ?_
  subst he
  exact ⟨_, rfl, _, _, _, [], _, [], hW', trodAll_mk1 (shut_bool Try.underlying4 _), (trodAll_cons_mk (Below.trod laidOut (by kernel_rfl) (of_decide_eq_true (by kernel_rfl)) k0 bel lt0) (trodAll_cons_mk (Below.trod laidOut (by kernel_rfl) (of_decide_eq_true (by kernel_rfl)) k1 bel lt1) trodAll_mk0)), rfl, bel.frame _, fun h => by cases h⟩
theorem over : Rows.treeLeavesRow.holds Try.pinned (OpenSpec.ofChange Rows.treeLeavesSpec) :=
  OpenClaim.holds_of_wide 10 Try.f10 rfl rfl rfl rfl rfl rfl rfl ⟨rfl, rfl, rfl, rfl, rfl⟩ rfl rfl rfl rfl rfl (by kernel_rfl) Try.func10 (by kernel_rfl)
    (of_decide_eq_true (by kernel_rfl)) (by unfold Func.isWrapper; first | (rw [if_pos (by decide +kernel)]; kernel_rfl) | (rw [if_neg (by decide +kernel)]; exact ⟨rfl, rfl⟩))
    (fun os started H enc _ => lifted os started H enc)
end Go.Proofs.Ytnngaedhedbenaa.treeLeavesRow
namespace Go.Proofs.Ytnngaedhedbenaa
theorem treeLeaves_holds : Rows.TreeLeavesSaid := treeLeavesRow.over
#print axioms treeLeaves_holds
end Go.Proofs.Ytnngaedhedbenaa
