/-
  The row of the law copselaw7.TreeTurned: for every input the call returns true, and each argument reads afterwards as it read before. No condition beside the form's own.
-/
import Derived.Test.YtnngaedhedbenaaRows
import Derived.WalkKit
import Derived.ProofKit
import Derived.OpenShut
import Derived.ShutString
import Derived.ChangeOld
import Derived.Below
import Derived.SizedLaws
import Derived.Test.YtnngaedhedbenaaTreeTurnedP2
set_option linter.unusedVariables false
set_option linter.unusedSimpArgs false
set_option maxRecDepth 100000
namespace Go.Proofs.Ytnngaedhedbenaa.Tr
open Go Go.RowKit Go.Proofs.Ytnngaedhedbenaa.Ev Go.Proofs.Ytnngaedhedbenaa.NodeE Go.Proofs.Ytnngaedhedbenaa.Tr

theorem enIn (cs : List Value) (o n c : Nat) (p : Pt) (Q : Nat × Nat → Prop)  {E : Env} {rv : Value} {rhs : List Nat} {rhv : List Blk} (hE : EnvOK E Try.prog Try.f44 2 1 rv rhs rhv) (hL : (fEn cs o n c p Q).OK 1) (hob : all [SameK (atLp (lp Try.f44 0)) (atLp (lp Try.f44 0)), Enter (fEn cs o n c p Q) 0 none [Value.slice (some (Addr.mk 0 o none)) n c, Value.pointer (some (Addr.mk 1 0 none)), Value.pointer (some (Addr.mk 9 0 none)), Value.int IntKind.i64 ((0 : Int)), Value.int IntKind.i64 ((0 : Int))] [Blk.ro cs, Blk.cells [Value.int IntKind.i64 p.p0, Value.int IntKind.i64 p.p1, Value.int IntKind.i64 p.p2, Value.int IntKind.i64 p.p3] 41, Blk.cells [Value.bool false, Value.int IntKind.i64 ((0 : Int)), Value.int IntKind.i64 ((0 : Int)), Value.int IntKind.i64 ((0 : Int)), Value.int IntKind.i64 ((0 : Int)), Value.int IntKind.i64 ((0 : Int))] 23] [(0, 0), (10, 1), (11, 9)]]) (hK : ∀ zz, (fEn cs o n c p Q).inv 0 zz → ltO ((fEn cs o n c p Q).mu 0 zz) none → Sat E (atLp (lp Try.f44 0)) ((fEn cs o n c p Q).st 0 zz)) : Sat E [.code (bodyOf Try.f44)] (st0 Try.f44 [.slice (some ⟨0, o, none⟩) n c, .agg ⟨p.cs⟩] (roRows [cs]) 1) :=
  by_to (T := auto0 t_runpack) (h := hints []) (ws := [.stop]) (i0 := (0, 0)) hE hm (auto0_ok t_runpack_ok) hL (by kernel_rfl) hob hK
theorem enK (cs : List Value) (o n c : Nat) (p : Pt) (Q : Nat × Nat → Prop) (k a : Nat) (J : Act → World → Prop) {E : Env} (hE : EnvOK E Try.prog Try.f44 2 1 (.tuple ⟨[.int .i64 (-1), nd false 0 0 0 0 0]⟩) [] []) (hob : all [Back (Value.tuple (Array.mk [Value.int IntKind.i64 ((-1 : Int)), Value.agg (Array.mk [Value.bool false, Value.int IntKind.i64 ((0 : Int)), Value.int IntKind.i64 ((0 : Int)), Value.int IntKind.i64 ((0 : Int)), Value.int IntKind.i64 ((0 : Int)), Value.int IntKind.i64 ((0 : Int))])])) (Value.tuple (Array.mk [Value.int IntKind.i64 ((-1 : Int)), Value.agg (Array.mk [Value.bool false, Value.int IntKind.i64 ((0 : Int)), Value.int IntKind.i64 ((0 : Int)), Value.int IntKind.i64 ((0 : Int)), Value.int IntKind.i64 ((0 : Int)), Value.int IntKind.i64 ((0 : Int))])])) [] [] [], decide ((↑k : Int) < 31) = false]) : Sat E (inLp (lp Try.f44 0) J) ((fEn cs o n c p Q).st 0 (k, a)) :=
  by_ret (T := auto0 t_runpack) (h := hints []) (ws := [.b false]) (nx' := 1) hE hm (auto0_ok t_runpack_ok) (by omega) (by simp) (by simp) (by kernel_rfl) hob
theorem enO (cs : List Value) (o n c : Nat) (p : Pt) (Q : Nat × Nat → Prop) (k a : Nat) (J : Act → World → Prop) {E : Env} (hE : EnvOK E Try.prog Try.f44 2 1 (.tuple ⟨[.int .i64 (-1), nd false 0 0 0 0 0]⟩) [] []) (hob : all [Back (Value.tuple (Array.mk [Value.int IntKind.i64 ((-1 : Int)), Value.agg (Array.mk [Value.bool false, Value.int IntKind.i64 ((0 : Int)), Value.int IntKind.i64 ((0 : Int)), Value.int IntKind.i64 ((0 : Int)), Value.int IntKind.i64 ((0 : Int)), Value.int IntKind.i64 ((0 : Int))])])) (Value.tuple (Array.mk [Value.int IntKind.i64 ((-1 : Int)), Value.agg (Array.mk [Value.bool false, Value.int IntKind.i64 ((0 : Int)), Value.int IntKind.i64 ((0 : Int)), Value.int IntKind.i64 ((0 : Int)), Value.int IntKind.i64 ((0 : Int)), Value.int IntKind.i64 ((0 : Int))])])) [] [] [], decide ((↑a : Int) ≥ (↑n : Int)) = true, decide ((↑k : Int) < 31) = true]) : Sat E (inLp (lp Try.f44 0) J) ((fEn cs o n c p Q).st 0 (k, a)) :=
  by_ret (T := auto0 t_runpack) (h := hints []) (ws := [.b true, .b true]) (nx' := 1) hE hm (auto0_ok t_runpack_ok) (by omega) (by simp) (by simp) (by kernel_rfl) hob
theorem enN (cs : List Value) (o n c : Nat) (p : Pt) (Q : Nat × Nat → Prop) (k a : Nat) (w : Int) (J : Act → World → Prop) {E : Env} (hE : EnvOK E Try.prog Try.f44 2 1 (.tuple ⟨[.int .i64 (-1), nd false 0 0 0 0 0]⟩) [] []) (hob : all [Back (Value.tuple (Array.mk [Value.int IntKind.i64 ((-1 : Int)), Value.agg (Array.mk [Value.bool false, Value.int IntKind.i64 ((0 : Int)), Value.int IntKind.i64 ((0 : Int)), Value.int IntKind.i64 ((0 : Int)), Value.int IntKind.i64 ((0 : Int)), Value.int IntKind.i64 ((0 : Int))])])) (Value.tuple (Array.mk [Value.int IntKind.i64 ((-1 : Int)), Value.agg (Array.mk [Value.bool false, Value.int IntKind.i64 ((0 : Int)), Value.int IntKind.i64 ((0 : Int)), Value.int IntKind.i64 ((0 : Int)), Value.int IntKind.i64 ((0 : Int)), Value.int IntKind.i64 ((0 : Int))])])) [] [] [], Value.tuple (Array.mk [Value.agg (Array.mk [Value.bool (okB w && lfB w), Value.int IntKind.i64 (sV w), Value.int IntKind.i64 (sF w), Value.int IntKind.i64 (sA w), Value.int IntKind.i64 (sX w), Value.int IntKind.i64 (sY w)]), Value.bool (okB w)]) = Value.tuple (Array.mk [Value.agg (Array.mk [Value.bool false, Value.int IntKind.i64 ((0 : Int)), Value.int IntKind.i64 ((0 : Int)), Value.int IntKind.i64 ((0 : Int)), Value.int IntKind.i64 ((0 : Int)), Value.int IntKind.i64 ((0 : Int))]), Value.bool false]), U64 w, readPart Try.prog 26 cs (o + ((a : Int)).toNat * 1) = some (Value.int IntKind.u64 w), (0 : Int) ≤ (a : Int) ∧ (a : Int) < (n : Int), decide ((↑a : Int) ≥ (↑n : Int)) = false, decide ((↑k : Int) < 31) = true]) : Sat E (inLp (lp Try.f44 0) J) ((fEn cs o n c p Q).st 0 (k, a)) :=
  by_ret (T := auto0 t_runpack) (h := hints [(5, 2, {p := true}), (5, 3, {o := some (.int .u64 w)}), (5, 4, {v := some (.tuple ⟨[nd false 0 0 0 0 0, .bool false]⟩)})]) (ws := [.b true, .b false]) (nx' := 1) hE hm (auto0_ok t_runpack_ok) (by omega) (by simp) (by simp) (by kernel_rfl) hob
theorem enF (cs : List Value) (o n c : Nat) (p : Pt) (Q : Nat × Nat → Prop) (k a : Nat) (w v : Int) (J : Act → World → Prop) {E : Env} (hE : EnvOK E Try.prog Try.f44 2 1 (.tuple ⟨[.int .i64 (a : Int), nd true v 0 0 0 0]⟩) [] []) (hob : all [Back (Value.tuple (Array.mk [Value.int IntKind.i64 ((a : Int)), Value.agg (Array.mk [Value.bool true, Value.int IntKind.i64 v, Value.int IntKind.i64 ((0 : Int)), Value.int IntKind.i64 ((0 : Int)), Value.int IntKind.i64 ((0 : Int)), Value.int IntKind.i64 ((0 : Int))])])) (Value.tuple (Array.mk [Value.int IntKind.i64 ((a : Int)), Value.agg (Array.mk [Value.bool true, Value.int IntKind.i64 v, Value.int IntKind.i64 ((0 : Int)), Value.int IntKind.i64 ((0 : Int)), Value.int IntKind.i64 ((0 : Int)), Value.int IntKind.i64 ((0 : Int))])])) [] [] [], Value.tuple (Array.mk [Value.agg (Array.mk [Value.bool (okB w && lfB w), Value.int IntKind.i64 (sV w), Value.int IntKind.i64 (sF w), Value.int IntKind.i64 (sA w), Value.int IntKind.i64 (sX w), Value.int IntKind.i64 (sY w)]), Value.bool (okB w)]) = Value.tuple (Array.mk [Value.agg (Array.mk [Value.bool true, Value.int IntKind.i64 v, Value.int IntKind.i64 ((0 : Int)), Value.int IntKind.i64 ((0 : Int)), Value.int IntKind.i64 ((0 : Int)), Value.int IntKind.i64 ((0 : Int))]), Value.bool true]), U64 w, readPart Try.prog 26 cs (o + ((a : Int)).toNat * 1) = some (Value.int IntKind.u64 w), (0 : Int) ≤ (a : Int) ∧ (a : Int) < (n : Int), decide ((↑a : Int) ≥ (↑n : Int)) = false, decide ((↑k : Int) < 31) = true]) : Sat E (inLp (lp Try.f44 0) J) ((fEn cs o n c p Q).st 0 (k, a)) :=
  by_ret (T := auto0 t_runpack) (h := hints [(5, 2, {p := true}), (5, 3, {o := some (.int .u64 w)}), (5, 4, {v := some (.tuple ⟨[nd true v 0 0 0 0, .bool true]⟩)})]) (ws := [.b true, .b false]) (nx' := 1) hE hm (auto0_ok t_runpack_ok) (by omega) (by simp) (by simp) (by kernel_rfl) hob
theorem enL (cs : List Value) (o n c : Nat) (p : Pt) (Q : Nat × Nat → Prop) (k m b : Nat) (w f a x y g : Int) (J : Act → World → Prop) {E : Env} {rv : Value} {rhs : List Nat} {rhv : List Blk} (hE : EnvOK E Try.prog Try.f44 2 1 rv rhs rhv) (hL : (fEn cs o n c p Q).OK 1) (hob : all [SameK (mkLp (lp Try.f44 0) J) (mkLp (lp Try.f44 0) J), Enter (fEn cs o n c p Q) 0 (some (31 - k)) [Value.slice (some (Addr.mk 0 o none)) n c, Value.pointer (some (Addr.mk 10 0 none)), Value.pointer (some (Addr.mk 11 0 none)), Value.int IntKind.i64 ((b : Int)), Value.int IntKind.i64 (Int.ofNat k.succ)] [Blk.ro cs, Blk.cells [Value.int IntKind.i64 p.p0, Value.int IntKind.i64 p.p1, Value.int IntKind.i64 p.p2, Value.int IntKind.i64 p.p3] 41, Blk.cells [Value.bool false, Value.int IntKind.i64 ((0 : Int)), Value.int IntKind.i64 ((0 : Int)), Value.int IntKind.i64 ((0 : Int)), Value.int IntKind.i64 ((0 : Int)), Value.int IntKind.i64 ((0 : Int))] 23] [(0, 0), (10, 10), (11, 11)], Value.int IntKind.i64 (IntKind.i64.wrap (Int.ofNat k.succ)) = Value.int IntKind.i64 (Int.ofNat k.succ), Value.int IntKind.i64 x = Value.int IntKind.i64 ((b : Int)), decide (g ≤ a) = true, readPart Try.prog 3 p.cs (0 + f.toNat * 1) = some (Value.int IntKind.i64 g), (0 : Int) ≤ f ∧ f < (4 : Int), Value.tuple (Array.mk [Value.agg (Array.mk [Value.bool (okB w && lfB w), Value.int IntKind.i64 (sV w), Value.int IntKind.i64 (sF w), Value.int IntKind.i64 (sA w), Value.int IntKind.i64 (sX w), Value.int IntKind.i64 (sY w)]), Value.bool (okB w)]) = Value.tuple (Array.mk [Value.agg (Array.mk [Value.bool false, Value.int IntKind.i64 ((0 : Int)), Value.int IntKind.i64 f, Value.int IntKind.i64 a, Value.int IntKind.i64 x, Value.int IntKind.i64 y]), Value.bool true]), U64 w, readPart Try.prog 26 cs (o + ((m : Int)).toNat * 1) = some (Value.int IntKind.u64 w), (0 : Int) ≤ (m : Int) ∧ (m : Int) < (n : Int), decide ((↑m : Int) ≥ (↑n : Int)) = false, decide ((↑k : Int) < 31) = true]) (hK : ∀ zz, (fEn cs o n c p Q).inv 0 zz → ltO ((fEn cs o n c p Q).mu 0 zz) (some (31 - k)) → Sat E (mkLp (lp Try.f44 0) J) ((fEn cs o n c p Q).st 0 zz)) : Sat E (inLp (lp Try.f44 0) J) ((fEn cs o n c p Q).st 0 (k, m)) :=
  by_to (T := auto0 t_runpack) (h := hints [(5, 2, {p := true}), (5, 3, {o := some (.int .u64 w)}), (5, 4, {v := some (.tuple ⟨[nd false 0 f a x y, .bool true]⟩)}), (11, 2, {p := true}), (11, 3, {o := some (.int .i64 g)}), (12, 1, {v := some (.int .i64 (b : Int))}), (13, 0, {v := some (.int .i64 ((k + 1 : Nat) : Int))})]) (ws := [.b true, .b false, .go, .go, .b true]) (i0 := (k + 1, b)) hE hm (auto0_ok t_runpack_ok) hL (by kernel_rfl) hob hK
theorem enR (cs : List Value) (o n c : Nat) (p : Pt) (Q : Nat × Nat → Prop) (k m b : Nat) (w f a x y g : Int) (J : Act → World → Prop) {E : Env} {rv : Value} {rhs : List Nat} {rhv : List Blk} (hE : EnvOK E Try.prog Try.f44 2 1 rv rhs rhv) (hL : (fEn cs o n c p Q).OK 1) (hob : all [SameK (mkLp (lp Try.f44 0) J) (mkLp (lp Try.f44 0) J), Enter (fEn cs o n c p Q) 0 (some (31 - k)) [Value.slice (some (Addr.mk 0 o none)) n c, Value.pointer (some (Addr.mk 10 0 none)), Value.pointer (some (Addr.mk 11 0 none)), Value.int IntKind.i64 ((b : Int)), Value.int IntKind.i64 (Int.ofNat k.succ)] [Blk.ro cs, Blk.cells [Value.int IntKind.i64 p.p0, Value.int IntKind.i64 p.p1, Value.int IntKind.i64 p.p2, Value.int IntKind.i64 p.p3] 41, Blk.cells [Value.bool false, Value.int IntKind.i64 ((0 : Int)), Value.int IntKind.i64 ((0 : Int)), Value.int IntKind.i64 ((0 : Int)), Value.int IntKind.i64 ((0 : Int)), Value.int IntKind.i64 ((0 : Int))] 23] [(0, 0), (10, 10), (11, 11)], Value.int IntKind.i64 (IntKind.i64.wrap (Int.ofNat k.succ)) = Value.int IntKind.i64 (Int.ofNat k.succ), Value.int IntKind.i64 y = Value.int IntKind.i64 ((b : Int)), decide (g ≤ a) = false, readPart Try.prog 3 p.cs (0 + f.toNat * 1) = some (Value.int IntKind.i64 g), (0 : Int) ≤ f ∧ f < (4 : Int), Value.tuple (Array.mk [Value.agg (Array.mk [Value.bool (okB w && lfB w), Value.int IntKind.i64 (sV w), Value.int IntKind.i64 (sF w), Value.int IntKind.i64 (sA w), Value.int IntKind.i64 (sX w), Value.int IntKind.i64 (sY w)]), Value.bool (okB w)]) = Value.tuple (Array.mk [Value.agg (Array.mk [Value.bool false, Value.int IntKind.i64 ((0 : Int)), Value.int IntKind.i64 f, Value.int IntKind.i64 a, Value.int IntKind.i64 x, Value.int IntKind.i64 y]), Value.bool true]), U64 w, readPart Try.prog 26 cs (o + ((m : Int)).toNat * 1) = some (Value.int IntKind.u64 w), (0 : Int) ≤ (m : Int) ∧ (m : Int) < (n : Int), decide ((↑m : Int) ≥ (↑n : Int)) = false, decide ((↑k : Int) < 31) = true]) (hK : ∀ zz, (fEn cs o n c p Q).inv 0 zz → ltO ((fEn cs o n c p Q).mu 0 zz) (some (31 - k)) → Sat E (mkLp (lp Try.f44 0) J) ((fEn cs o n c p Q).st 0 zz)) : Sat E (inLp (lp Try.f44 0) J) ((fEn cs o n c p Q).st 0 (k, m)) :=
  by_to (T := auto0 t_runpack) (h := hints [(5, 2, {p := true}), (5, 3, {o := some (.int .u64 w)}), (5, 4, {v := some (.tuple ⟨[nd false 0 f a x y, .bool true]⟩)}), (11, 2, {p := true}), (11, 3, {o := some (.int .i64 g)}), (6, 1, {v := some (.int .i64 (b : Int))}), (13, 0, {v := some (.int .i64 ((k + 1 : Nat) : Int))})]) (ws := [.b true, .b false, .go, .go, .b false]) (i0 := (k + 1, b)) hE hm (auto0_ok t_runpack_ok) hL (by kernel_rfl) hob hK
end Go.Proofs.Ytnngaedhedbenaa.Tr


set_option linter.unusedVariables false
set_option linter.unusedSimpArgs false
set_option maxRecDepth 100000
namespace Go.Proofs.Ytnngaedhedbenaa.Tr
open Go Go.RowKit Go.Proofs.Ytnngaedhedbenaa.Ev Go.Proofs.Ytnngaedhedbenaa.NodeE

theorem pt_read {p : Pt} {f : Int} (hf : 0 ≤ f ∧ f < 4) : readPart Try.prog 3 p.cs (0 + f.toNat * 1) = some (.int .i64 (p.at f)) := by
  have hc : f = 0 ∨ f = 1 ∨ f = 2 ∨ f = 3 := by omega
  have h0 : readPart Try.prog 3 p.cs 0 = some (.int .i64 p.p0) := by kernel_rfl
  have h1 : readPart Try.prog 3 p.cs 1 = some (.int .i64 p.p1) := by kernel_rfl
  have h2 : readPart Try.prog 3 p.cs 2 = some (.int .i64 p.p2) := by kernel_rfl
  have h3 : readPart Try.prog 3 p.cs 3 = some (.int .i64 p.p3) := by kernel_rfl
  rcases hc with rfl | rfl | rfl | rfl
  · exact h0
  · exact h1
  · exact h2
  · exact h3

theorem end_spec (cs : List Value) (o n c : Nat) (p : Pt) (hr : eWord.Row cs o n) (hpl : ∀ x ∈ cs, leafG x = true) (hU : ∀ w ∈ eWord.list cs o n, U64 w) (hn : n ≤ 65536) :
    CallSpec Try.prog 44 [.slice (some ⟨0, o, none⟩) n c, .agg ⟨p.cs⟩] (roRows [cs]) 1 (.tuple ⟨[.int .i64 (walkI (eWord.list cs o n) p), nd (endL (eWord.list cs o n) p) (endV (eWord.list cs o n) p) 0 0 0 0]⟩) (assocN [] []) := by
  refine spec_of_sat Try.func44 rfl fun E hE => ?_
  have hlen : (eWord.list cs o n).length = n := Elt.list_len _ _ _
  let Q : Nat × Nat → Prop := fun s => s.1 ≤ 31 ∧ goW (eWord.list cs o n) p (31 - s.1) s.2 = goW (eWord.list cs o n) p 31 0
  have okL := fEn_ok cs o n c p Q hpl
  have rnr : ∀ f : Nat → Nat, Blk.rnB f (.ro cs) = .ro cs := fun f => Blk.plain.rnB (b := .ro cs) hpl f
  have rn0 : ∀ f : Nat → Nat, Blk.rnB f (.cells p.cs 41) = .cells [.int .i64 p.p0, .int .i64 p.p1, .int .i64 p.p2, .int .i64 p.p3] 41 := fun f => rfl
  have rn1 : ∀ f : Nat → Nat, Blk.rnB f (.cells [.int .i64 p.p0, .int .i64 p.p1, .int .i64 p.p2, .int .i64 p.p3] 41) = .cells [.int .i64 p.p0, .int .i64 p.p1, .int .i64 p.p2, .int .i64 p.p3] 41 := fun f => rfl
  have rn2 : ∀ f : Nat → Nat, Blk.rnB f (.cells [.bool false, .int .i64 0, .int .i64 0, .int .i64 0, .int .i64 0, .int .i64 0] 23) = .cells [.bool false, .int .i64 0, .int .i64 0, .int .i64 0, .int .i64 0, .int .i64 0] 23 := fun f => rfl
  refine enIn cs o n c p Q hE okL ⟨rfl, ⟨(0, 0), ⟨Nat.zero_le _, rfl⟩, trivial, rfl, by simp [fEn, rnr, rn0, rn1, rn2]⟩, trivial⟩ fun zz hz _ => by_loop (fEn cs o n c p Q) (lp Try.f44 0) ?_ 0 zz hz
  rintro b ⟨k, a⟩ hinv J hJ
  have hinv : k ≤ 31 ∧ goW (eWord.list cs o n) p (31 - k) a = goW (eWord.list cs o n) p 31 0 := hinv
  obtain ⟨k1, k2⟩ := hinv
  show Sat E (inLp (lp Try.f44 0) J) ((fEn cs o n c p Q).st 0 (k, a))
  have hJ' : ∀ zz, (fEn cs o n c p Q).inv 0 zz → ltO ((fEn cs o n c p Q).mu 0 zz) (some (31 - k)) → Sat E (mkLp (lp Try.f44 0) J) ((fEn cs o n c p Q).st 0 zz) := fun zz h1 h2 => hJ 0 zz h1 h2
  by_cases hk : k < 31
  · have hlt : decide ((k : Int) < 31) = true := decide_eq_true (by omega)
    have hs : 31 - k = (31 - (k + 1)) + 1 := by omega
    by_cases han : a < n
    · have hlt2 : decide ((a : Int) ≥ (n : Int)) = false := decide_eq_false (by omega)
      obtain ⟨w, hw⟩ : ∃ w, (eWord.list cs o n)[a]? = some w := ⟨_, List.getElem?_eq_getElem (by rw [hlen]; omega)⟩
      have hrd := hr.read1 (P := Try.prog) (ty := 26) (by kernel_rfl) rfl (i := a) hw rfl rfl
      rw [← Nat.mul_one a] at hrd
      cases ho : okB w
      · have hg : goW (eWord.list cs o n) p 31 0 = none := by rw [← k2, hs]; exact goW_bad hw ho
        obtain ⟨q1, q2, q3⟩ := end_none hg
        rw [q1, q2, q3] at hE
        exact enN cs o n c p Q k a w J hE ⟨⟨rfl, rfl⟩, unp_no ho, hU w (List.mem_of_getElem? hw), hrd, ⟨Int.natCast_nonneg _, Int.ofNat_lt.2 han⟩, hlt2, hlt, trivial⟩
      · cases hl : lfB w
        · have hib := inner_bounds ho hl
          have hf := hib.1
          have hgo : goW (eWord.list cs o n) p (31 - (k + 1)) (goes p w).toNat = goW (eWord.list cs o n) p 31 0 := by rw [← k2, hs, goW_step hw ho hl]
          cases hd : decide (p.at (uF w) ≤ low32 w)
          · have hb : goes p w = uY w := by unfold goes; rw [hd]; rfl
            rw [hb] at hgo
            exact enR cs o n c p Q k a (uY w).toNat w (uF w) (low32 w) (uX w) (uY w) (p.at (uF w)) J hE okL ⟨rfl, ⟨(k + 1, (uY w).toNat), ⟨hk, hgo⟩, (by show 31 - (k + 1) < 31 - k; omega), rfl, by simp [fEn, rnr, rn0, rn1, rn2]⟩, i64_succ (by omega), (congrArg _ (Int.toNat_of_nonneg (by omega)).symm), hd, pt_read hf, hf, unp_inner ho hl, hU w (List.mem_of_getElem? hw), hrd, ⟨Int.natCast_nonneg _, Int.ofNat_lt.2 han⟩, hlt2, hlt, trivial⟩ hJ'
          · have hb : goes p w = uX w := by unfold goes; rw [hd]; rfl
            rw [hb] at hgo
            exact enL cs o n c p Q k a (uX w).toNat w (uF w) (low32 w) (uX w) (uY w) (p.at (uF w)) J hE okL ⟨rfl, ⟨(k + 1, (uX w).toNat), ⟨hk, hgo⟩, (by show 31 - (k + 1) < 31 - k; omega), rfl, by simp [fEn, rnr, rn0, rn1, rn2]⟩, i64_succ (by omega), (congrArg _ (Int.toNat_of_nonneg (by omega)).symm), hd, pt_read hf, hf, unp_inner ho hl, hU w (List.mem_of_getElem? hw), hrd, ⟨Int.natCast_nonneg _, Int.ofNat_lt.2 han⟩, hlt2, hlt, trivial⟩ hJ'
        · have hg : goW (eWord.list cs o n) p 31 0 = some a := by rw [← k2, hs]; exact goW_leaf hw ho hl
          obtain ⟨q1, q2, q3⟩ := end_some hg
          have q4 : (eWord.list cs o n).getD a 0 = w := by rw [List.getD_eq_getElem?_getD, hw]; rfl
          rw [q4] at q2
          rw [q1, q2, q3] at hE
          exact enF cs o n c p Q k a w (low32 w) J hE ⟨⟨rfl, rfl⟩, unp_leaf ho hl, hU w (List.mem_of_getElem? hw), hrd, ⟨Int.natCast_nonneg _, Int.ofNat_lt.2 han⟩, hlt2, hlt, trivial⟩
    · have hlt2 : decide ((a : Int) ≥ (n : Int)) = true := decide_eq_true (by omega)
      have hg : goW (eWord.list cs o n) p 31 0 = none := by rw [← k2, hs]; exact goW_out (by rw [hlen]; omega)
      obtain ⟨q1, q2, q3⟩ := end_none hg
      rw [q1, q2, q3] at hE
      exact enO cs o n c p Q k a J hE ⟨⟨rfl, rfl⟩, hlt2, hlt, trivial⟩
  · have hlt : decide ((k : Int) < 31) = false := decide_eq_false (by omega)
    have hg : goW (eWord.list cs o n) p 31 0 = none := by rw [← k2, show 31 - k = 0 by omega]; rfl
    obtain ⟨q1, q2, q3⟩ := end_none hg
    rw [q1, q2, q3] at hE
    exact enK cs o n c p Q k a J hE ⟨⟨rfl, rfl⟩, hlt, trivial⟩

def end_F : RoF := fun xs css => match xs, css with
  | [.slice (some ⟨0, o, none⟩) n c, .agg ⟨[.int .i64 p0, .int .i64 p1, .int .i64 p2, .int .i64 p3]⟩], [cs] => some (.tuple ⟨[.int .i64 (walkI (eWord.list cs o n) ⟨p0, p1, p2, p3⟩), nd (endL (eWord.list cs o n) ⟨p0, p1, p2, p3⟩) (endV (eWord.list cs o n) ⟨p0, p1, p2, p3⟩) 0 0 0 0]⟩, [], [eWord.Row cs o n, ∀ w ∈ eWord.list cs o n, U64 w, n ≤ 65536])
  | _, _ => none
theorem end_sum : SumOK Try.prog 44 (roSum end_F) := by
  refine roSum_ok (en Try.func44 rfl) ?_ (fun xs css r h => ?_)
  · intro xs css v blks ob h hob hpl hl
    unfold end_F at h
    split at h
    · rename_i o n c p0 p1 p2 p3 cs
      simp only [Option.some.injEq, Prod.mk.injEq] at h
      obtain ⟨rfl, rfl, rfl⟩ := h
      refine ⟨by simp, by simp, fun j hj => by simp [nms, nm1, nmL, nm0] at hj, ?_⟩
      exact end_spec cs o n c ⟨p0, p1, p2, p3⟩ (hob _ (List.mem_cons_self ..)) (hpl cs (by simp)) (hob _ (List.mem_cons_of_mem _ (List.mem_cons_self ..))) (hob _ (by simp))
    · simp at h
  · unfold end_F at h
    split at h <;> simp at h <;> simp

noncomputable def t_end : Sums := upd t_runpack 44 (some (roSum end_F))
theorem t_end_ok : SumsOK Try.prog t_end := sums_cons t_runpack_ok end_sum
end Go.Proofs.Ytnngaedhedbenaa.Tr


set_option linter.unusedVariables false
set_option linter.unusedSimpArgs false
set_option maxRecDepth 100000
namespace Go.Proofs.Ytnngaedhedbenaa.Tr
open Go Go.RowKit Go.Proofs.Ytnngaedhedbenaa.Ev Go.Proofs.Ytnngaedhedbenaa.NodeE Go.Proofs.Ytnngaedhedbenaa.Tr

theorem wkP (cs : List Value) (o n c : Nat) (p : Pt) (a v : Int) (l : Bool)  {E : Env} (hE : EnvOK E Try.prog Try.f23 2 1 (.int .i64 a) [] []) (hob : all [Back (Value.int IntKind.i64 a) (Value.int IntKind.i64 a) [] [] [], Value.tuple (Array.mk [Value.int IntKind.i64 (walkI (eWord.list cs o n) (Pt.mk p.p0 p.p1 p.p2 p.p3)), Value.agg (Array.mk [Value.bool (endL (eWord.list cs o n) (Pt.mk p.p0 p.p1 p.p2 p.p3)), Value.int IntKind.i64 (endV (eWord.list cs o n) (Pt.mk p.p0 p.p1 p.p2 p.p3)), Value.int IntKind.i64 ((0 : Int)), Value.int IntKind.i64 ((0 : Int)), Value.int IntKind.i64 ((0 : Int)), Value.int IntKind.i64 ((0 : Int))])]) = Value.tuple (Array.mk [Value.int IntKind.i64 a, Value.agg (Array.mk [Value.bool l, Value.int IntKind.i64 v, Value.int IntKind.i64 ((0 : Int)), Value.int IntKind.i64 ((0 : Int)), Value.int IntKind.i64 ((0 : Int)), Value.int IntKind.i64 ((0 : Int))])]), plainR [cs], eWord.Row cs o n, ∀ (w : Int), w ∈ eWord.list cs o n → U64 w, n ≤ 65536]) : Sat E [.code (bodyOf Try.f23)] (st0 Try.f23 [.slice (some ⟨0, o, none⟩) n c, .agg ⟨p.cs⟩] (roRows [cs]) 1) :=
  by_ret (T := auto0 t_end) (h := hints [(1, 2, {v := some (.tuple ⟨[.int .i64 a, nd l v 0 0 0 0]⟩)})]) (ws := []) (nx' := 1) hE hm (auto0_ok t_end_ok) (by omega) (by simp) (by simp) (by kernel_rfl) hob
theorem vlP (cs : List Value) (o n c : Nat) (p : Pt) (a v : Int) (l : Bool)  {E : Env} (hE : EnvOK E Try.prog Try.f27 2 1 (.int .i64 v) [] []) (hob : all [Back (Value.int IntKind.i64 v) (Value.int IntKind.i64 v) [] [] [], Value.tuple (Array.mk [Value.int IntKind.i64 (walkI (eWord.list cs o n) (Pt.mk p.p0 p.p1 p.p2 p.p3)), Value.agg (Array.mk [Value.bool (endL (eWord.list cs o n) (Pt.mk p.p0 p.p1 p.p2 p.p3)), Value.int IntKind.i64 (endV (eWord.list cs o n) (Pt.mk p.p0 p.p1 p.p2 p.p3)), Value.int IntKind.i64 ((0 : Int)), Value.int IntKind.i64 ((0 : Int)), Value.int IntKind.i64 ((0 : Int)), Value.int IntKind.i64 ((0 : Int))])]) = Value.tuple (Array.mk [Value.int IntKind.i64 a, Value.agg (Array.mk [Value.bool l, Value.int IntKind.i64 v, Value.int IntKind.i64 ((0 : Int)), Value.int IntKind.i64 ((0 : Int)), Value.int IntKind.i64 ((0 : Int)), Value.int IntKind.i64 ((0 : Int))])]), plainR [cs], eWord.Row cs o n, ∀ (w : Int), w ∈ eWord.list cs o n → U64 w, n ≤ 65536]) : Sat E [.code (bodyOf Try.f27)] (st0 Try.f27 [.slice (some ⟨0, o, none⟩) n c, .agg ⟨p.cs⟩] (roRows [cs]) 1) :=
  by_ret (T := auto0 t_end) (h := hints [(1, 2, {v := some (.tuple ⟨[.int .i64 a, nd l v 0 0 0 0]⟩)})]) (ws := []) (nx' := 1) hE hm (auto0_ok t_end_ok) (by omega) (by simp) (by simp) (by kernel_rfl) hob
end Go.Proofs.Ytnngaedhedbenaa.Tr


set_option linter.unusedVariables false
set_option linter.unusedSimpArgs false
set_option maxRecDepth 100000
namespace Go.Proofs.Ytnngaedhedbenaa.Tr
open Go Go.RowKit Go.Proofs.Ytnngaedhedbenaa.Ev Go.Proofs.Ytnngaedhedbenaa.NodeE

theorem walk_spec (cs : List Value) (o n c : Nat) (p : Pt) (hr : eWord.Row cs o n) (hpl : ∀ x ∈ cs, leafG x = true) (hU : ∀ w ∈ eWord.list cs o n, U64 w) (hn : n ≤ 65536) :
    CallSpec Try.prog 23 [.slice (some ⟨0, o, none⟩) n c, .agg ⟨p.cs⟩] (roRows [cs]) 1 (.int .i64 (walkI (eWord.list cs o n) p)) (assocN [] []) := by
  refine spec_of_sat Try.func23 rfl fun E hE => ?_
  exact wkP cs o n c p (walkI (eWord.list cs o n) p) (endV (eWord.list cs o n) p) (endL (eWord.list cs o n) p) hE ⟨⟨rfl, rfl⟩, rfl, plain1 hpl, hr, hU, hn, trivial⟩

def walk_F : RoF := fun xs css => match xs, css with
  | [.slice (some ⟨0, o, none⟩) n c, .agg ⟨[.int .i64 p0, .int .i64 p1, .int .i64 p2, .int .i64 p3]⟩], [cs] => some (.int .i64 (walkI (eWord.list cs o n) ⟨p0, p1, p2, p3⟩), [], [eWord.Row cs o n, ∀ w ∈ eWord.list cs o n, U64 w, n ≤ 65536])
  | _, _ => none
theorem walk_sum : SumOK Try.prog 23 (roSum walk_F) := by
  refine roSum_ok (en Try.func23 rfl) ?_ (fun xs css r h => ?_)
  · intro xs css v blks ob h hob hpl hl
    unfold walk_F at h
    split at h
    · rename_i o n c p0 p1 p2 p3 cs
      simp only [Option.some.injEq, Prod.mk.injEq] at h
      obtain ⟨rfl, rfl, rfl⟩ := h
      refine ⟨by simp, by simp, fun j hj => by simp [nms, nm1, nmL, nm0] at hj, ?_⟩
      exact walk_spec cs o n c ⟨p0, p1, p2, p3⟩ (hob _ (List.mem_cons_self ..)) (hpl cs (by simp)) (hob _ (List.mem_cons_of_mem _ (List.mem_cons_self ..))) (hob _ (by simp))
    · simp at h
  · unfold walk_F at h
    split at h <;> simp at h <;> simp

theorem value_spec (cs : List Value) (o n c : Nat) (p : Pt) (hr : eWord.Row cs o n) (hpl : ∀ x ∈ cs, leafG x = true) (hU : ∀ w ∈ eWord.list cs o n, U64 w) (hn : n ≤ 65536) :
    CallSpec Try.prog 27 [.slice (some ⟨0, o, none⟩) n c, .agg ⟨p.cs⟩] (roRows [cs]) 1 (.int .i64 (endV (eWord.list cs o n) p)) (assocN [] []) := by
  refine spec_of_sat Try.func27 rfl fun E hE => ?_
  exact vlP cs o n c p (walkI (eWord.list cs o n) p) (endV (eWord.list cs o n) p) (endL (eWord.list cs o n) p) hE ⟨⟨rfl, rfl⟩, rfl, plain1 hpl, hr, hU, hn, trivial⟩

def value_F : RoF := fun xs css => match xs, css with
  | [.slice (some ⟨0, o, none⟩) n c, .agg ⟨[.int .i64 p0, .int .i64 p1, .int .i64 p2, .int .i64 p3]⟩], [cs] => some (.int .i64 (endV (eWord.list cs o n) ⟨p0, p1, p2, p3⟩), [], [eWord.Row cs o n, ∀ w ∈ eWord.list cs o n, U64 w, n ≤ 65536])
  | _, _ => none
theorem value_sum : SumOK Try.prog 27 (roSum value_F) := by
  refine roSum_ok (en Try.func27 rfl) ?_ (fun xs css r h => ?_)
  · intro xs css v blks ob h hob hpl hl
    unfold value_F at h
    split at h
    · rename_i o n c p0 p1 p2 p3 cs
      simp only [Option.some.injEq, Prod.mk.injEq] at h
      obtain ⟨rfl, rfl, rfl⟩ := h
      refine ⟨by simp, by simp, fun j hj => by simp [nms, nm1, nmL, nm0] at hj, ?_⟩
      exact value_spec cs o n c ⟨p0, p1, p2, p3⟩ (hob _ (List.mem_cons_self ..)) (hpl cs (by simp)) (hob _ (List.mem_cons_of_mem _ (List.mem_cons_self ..))) (hob _ (by simp))
    · simp at h
  · unfold value_F at h
    split at h <;> simp at h <;> simp

end Go.Proofs.Ytnngaedhedbenaa.Tr


set_option linter.unusedVariables false
set_option linter.unusedSimpArgs false
set_option maxRecDepth 100000
namespace Go.Proofs.Ytnngaedhedbenaa.Tr
open Go Go.RowKit Go.Proofs.Ytnngaedhedbenaa.Ev Go.Proofs.Ytnngaedhedbenaa.NodeE

/-- The counts so far, as the program keeps them. -/
def cntL (ws : List Int) (n : Nat) : List Int := (List.range n).map fun (k : Nat) => (Int.ofNat (named ws (k : Int)))
theorem cntL_len (ws : List Int) (n : Nat) : (cntL ws n).length = n := by simp [cntL]
theorem cntL_get {ws : List Int} {n k : Nat} (h : k < n) : (cntL ws n)[k]? = some (named ws (k : Int) : Int) := by
  simp [cntL, h]
theorem named_le (ws : List Int) (k : Int) : named ws k ≤ 2 * ws.length := by
  induction ws with
  | nil => simp [named]
  | cons w ws ih =>
    have h1 : (namesW w).length ≤ 2 := by unfold namesW; cases lfB w <;> simp
    have h2 := List.count_le_length (a := k) (l := namesW w)
    simp only [named, List.flatMap_cons, List.count_append, List.length_cons] at ih ⊢
    omega
theorem cnt_two {ws : List Int} {w : Int} {n : Nat} {X Y : Nat} (hl : lfB w = false) (hx : uX w = X) (hy : uY w = Y) (hne : X ≠ Y) (hX : X < n) (hY : Y < n) :
    ((cntL ws n).set X ((named ws (X : Int) : Int) + 1)).set Y ((named ws (Y : Int) : Int) + 1) = cntL (ws ++ [w]) n := by
  apply List.ext_getElem
  · simp [cntL]
  · intro k h1 h2
    have hk : k < n := by simpa [cntL] using h2
    simp only [List.getElem_set]
    simp only [cntL, List.getElem_map, List.getElem_range, named_snoc, namesW, hl, cond_false, hx, hy, List.count_cons, List.count_nil]
    by_cases e1 : Y = k
    · subst e1
      have : ¬ (X : Int) = (Y : Int) := by omega
      simp [this]
    · by_cases e2 : X = k
      · subst e2
        have : ¬ (Y : Int) = (X : Int) := by omega
        simp [e1, this]
      · have h3 : ¬ (X : Int) = (k : Int) := by omega
        have h4 : ¬ (Y : Int) = (k : Int) := by omega
        simp [e1, e2, h3, h4]
theorem cnt_leaf {ws : List Int} {w : Int} {n : Nat} (hl : lfB w = true) : cntL (ws ++ [w]) n = cntL ws n := by
  unfold cntL
  refine List.map_congr_left fun k _ => ?_
  rw [named_snoc]; simp [namesW, hl]
theorem cnt_zero (n : Nat) : cntL [] n = List.replicate n 0 := by
  apply List.ext_getElem
  · simp [cntL]
  · intro k h1 h2; simp [cntL, named_nil]
theorem rd_int {l : List Int} {k : Nat} {z : Int} (h : l[k]? = some z) : readPart Try.prog 3 (eInt.row l) (0 + k * 1) = some (.int .i64 z) := by
  rw [Nat.mul_one]
  exact (Elt.canon0 (e := eInt) l).1.read1 (P := Try.prog) (ty := 3) (by kernel_rfl) rfl (i := k) (x := z) (by rw [(Elt.canon0 l).2]; exact h) rfl rfl
theorem rd_off {l : List Int} {q j : Nat} {z : Int} (h : l[q + j]? = some z) : readPart Try.prog 3 (eInt.row l) (q + ((j : Nat) : Int).toNat * 1) = some (.int .i64 z) := by
  have := rd_int h
  rw [Nat.mul_one, Nat.zero_add] at this
  rw [Int.toNat_natCast, Nat.mul_one]
  exact this
theorem min_gt {x y i : Int} (h : ¬ minI x y ≤ i) : i < x ∧ i < y := by unfold minI at h; split at h <;> omega
theorem max_lt {x y i : Int} (h : ¬ maxI x y ≥ i) : x < i ∧ y < i := by unfold maxI at h; split at h <;> omega
theorem not_min {x y i : Int} (h1 : i < x) (h2 : i < y) : ¬ minI x y ≤ i := by unfold minI; split <;> omega
theorem not_max {x y i : Int} (h1 : x < i) (h2 : y < i) : ¬ maxI x y ≥ i := by unfold maxI; split <;> omega
theorem right_spec (cs : List Value) (o n c : Nat) (dim : Int) (hr : eWord.Row cs o n) (hpl : ∀ x ∈ cs, leafG x = true) (hU : ∀ w ∈ eWord.list cs o n, U64 w) (hn : n ≤ 65536) :
    CallSpec Try.prog 22 [.slice (some ⟨0, o, none⟩) n c, .int .i64 dim] (roRows [cs]) 1 (.bool (rightI (eWord.list cs o n) dim)) (assocN [] []) := by
  refine spec_of_sat Try.func22 rfl fun E hE => ?_
  have hlen : (eWord.list cs o n).length = n := Elt.list_len _ _ _
  generalize hws : eWord.list cs o n = ws at hU hlen hE
  refine (Classical.em (1 ≤ n)).symm.elim (fun h1 => ?_) (fun h1 => ?_)
  · rw [right_len (by omega)] at hE
    exact rtShort cs o n c dim hE ⟨⟨rfl, rfl⟩, (congrArg _ (decide_eq_true (by omega))), trivial⟩
  have g1 : Value.bool (decide ((n : Int) < 1)) = .bool false := congrArg _ (decide_eq_false (by omega))
  refine (Classical.em (n ≤ 31)).symm.elim (fun h31 => ?_) (fun h31 => ?_)
  · rw [right_len (by omega)] at hE
    exact rtLong cs o n c dim hE ⟨⟨rfl, rfl⟩, (congrArg _ (decide_eq_true (by omega))), g1, trivial⟩
  have g2 : Value.bool (decide ((n : Int) > 31)) = .bool false := congrArg _ (decide_eq_false (by omega))
  let Q : Nat × List Int → Prop := fun s => s.1 ≤ n ∧ (∀ (j : Nat) (w : Int), j < s.1 → ws[j]? = some w → goodW dim n j w = true) ∧ s.2 = cntL (ws.take s.1) n
  have okL := fRt_ok cs o n c dim Q hpl
  have rnr : ∀ f : Nat → Nat, Blk.rnB f (.ro cs) = .ro cs := fun f => Blk.plain.rnB (b := .ro cs) hpl f
  have rni : ∀ (f : Nat → Nat) (l : List Int), Blk.rnB f (.cells (eInt.row l) 3) = .cells (eInt.row l) 3 := fun f l => Blk.plain.rnB (b := .cells (eInt.row l) 3) (Elt.row_pl _) f
  have hz : repl [Value.int .i64 0] n = eInt.row (cntL [] n) := by rw [cnt_zero]; exact repl_row (e := eInt) (x := 0) rfl _
  refine rtIn cs o n c dim Q (cntL [] n) hE okL ⟨rfl, ⟨(0, cntL [] n), ⟨Nat.zero_le _, fun j w hj => absurd hj (Nat.not_lt_zero _), rfl⟩, trivial, rfl, by simp [fRt, rnr, rni]⟩, ⟨rfl, Int.natCast_nonneg _, by show (n : Int) ≤ _; omega, by show (8 : Int) * (n : Int) ≤ _; omega, hz.symm⟩, g2, g1, trivial⟩ fun zz hz _ => by_loop (fRt cs o n c dim Q) (lp Try.f22 0) ?_ 0 zz hz
  rintro b ⟨i, r⟩ hinv J hJ
  have hinv : i ≤ n ∧ (∀ (j : Nat) (w : Int), j < i → ws[j]? = some w → goodW dim n j w = true) ∧ r = cntL (ws.take i) n := hinv
  obtain ⟨k1, k2, k3⟩ := hinv
  show Sat E (inLp (lp Try.f22 0) J) ((fRt cs o n c dim Q).st 0 (i, r))
  have hJ' : ∀ zz, (fRt cs o n c dim Q).inv 0 zz → ltO ((fRt cs o n c dim Q).mu 0 zz) (some (n - i)) → Sat E (mkLp (lp Try.f22 0) J) ((fRt cs o n c dim Q).st 0 zz) := fun zz h1 h2 => hJ 0 zz h1 h2
  by_cases hin : i < n
  · have hlt : decide ((i : Int) < (n : Int)) = true := decide_eq_true (by omega)
    obtain ⟨w, hw⟩ : ∃ w, ws[i]? = some w := ⟨_, List.getElem?_eq_getElem (by rw [hlen]; omega)⟩
    have hrd := hr.read1 (P := Try.prog) (ty := 26) (by kernel_rfl) rfl (i := i) (x := w) (by rw [hws]; exact hw) rfl rfl
    rw [← Nat.mul_one i] at hrd
    have htk : ws.take (i + 1) = ws.take i ++ [w] := by rw [List.take_add_one, hw]; rfl
    have nxt : goodW dim n i w = true → ∀ (j : Nat) (v : Int), j < i + 1 → ws[j]? = some v → goodW dim n j v = true := fun hg j v hj hv => by
      by_cases e : j < i
      · exact k2 j v e hv
      · obtain rfl : j = i := by omega
        rw [hw] at hv; injection hv with hv; subst hv; exact hg
    cases hgd : goodW dim n i w
    · have hbad : rightI ws dim = false := right_bad hw (by rw [hlen]; exact hgd)
      rw [hbad] at hE
      cases ho : okB w
      · exact rtN cs o n c dim Q i r w J hE ⟨⟨rfl, rfl⟩, unp_no ho, hU w (List.mem_of_getElem? hw), hrd, ⟨Int.natCast_nonneg _, Int.ofNat_lt.2 hin⟩, hlt, trivial⟩
      · refine (Bool.eq_false_or_eq_true (lfB w)).elim (fun hl => ?_) (fun hl => ?_)
        · rw [good_leaf ho hl] at hgd; exact absurd hgd (by simp)
        refine (Classical.em (uF w < dim)).symm.elim (fun d1 => ?_) (fun d1 => ?_)
        · exact rtD cs o n c dim Q i r w (uF w) (low32 w) (uX w) (uY w) J hE ⟨⟨rfl, rfl⟩, (congrArg _ (decide_eq_true (by omega))), unp_inner ho hl, hU w (List.mem_of_getElem? hw), hrd, ⟨Int.natCast_nonneg _, Int.ofNat_lt.2 hin⟩, hlt, trivial⟩
        have e1 : Value.bool (decide (uF w ≥ dim)) = .bool false := congrArg _ (decide_eq_false (by omega))
        by_cases d2 : uX w = uY w
        · exact rtE cs o n c dim Q i r w (uF w) (low32 w) (uX w) (uY w) J hE ⟨⟨rfl, rfl⟩, (congrArg _ (beq_iff_eq.2 d2)), e1, unp_inner ho hl, hU w (List.mem_of_getElem? hw), hrd, ⟨Int.natCast_nonneg _, Int.ofNat_lt.2 hin⟩, hlt, trivial⟩
        have e2 : Value.bool (uX w == uY w) = .bool false := congrArg _ (beq_eq_false_iff_ne.2 d2)
        by_cases d3 : minI (uX w) (uY w) ≤ (i : Int)
        · exact rtM cs o n c dim Q i r w (uF w) (low32 w) (uX w) (uY w) J hE ⟨⟨rfl, rfl⟩, (congrArg _ (decide_eq_true d3)), e2, e1, unp_inner ho hl, hU w (List.mem_of_getElem? hw), hrd, ⟨Int.natCast_nonneg _, Int.ofNat_lt.2 hin⟩, hlt, trivial⟩
        have e3 : Value.bool (decide (minI (uX w) (uY w) ≤ (i : Int))) = .bool false := congrArg _ (decide_eq_false d3)
        by_cases d4 : maxI (uX w) (uY w) ≥ (n : Int)
        · exact rtX cs o n c dim Q i r w (uF w) (low32 w) (uX w) (uY w) J hE ⟨⟨rfl, rfl⟩, (congrArg _ (decide_eq_true d4)), e3, e2, e1, unp_inner ho hl, hU w (List.mem_of_getElem? hw), hrd, ⟨Int.natCast_nonneg _, Int.ofNat_lt.2 hin⟩, hlt, trivial⟩
        rw [good_mk hl ho d1 d2 (min_gt d3).1 (min_gt d3).2 (max_lt d4).1 (max_lt d4).2] at hgd
        exact absurd hgd (by simp)
    · cases hl : lfB w
      · obtain ⟨ho, d1, d2, d3, d4, d5, d6⟩ := good_inner hgd hl
        obtain ⟨X, hX⟩ := Int.eq_ofNat_of_zero_le (show 0 ≤ uX w by omega)
        obtain ⟨Y, hY⟩ := Int.eq_ofNat_of_zero_le (show 0 ≤ uY w by omega)
        have e1 : Value.bool (decide (uF w ≥ dim)) = .bool false := congrArg _ (decide_eq_false (by omega))
        have e2 : Value.bool (uX w == uY w) = .bool false := congrArg _ (beq_eq_false_iff_ne.2 d2)
        have e3 : Value.bool (decide (minI (uX w) (uY w) ≤ (i : Int))) = .bool false := congrArg _ (decide_eq_false (not_min d3 d4))
        have e4 : Value.bool (decide (maxI (uX w) (uY w) ≥ (n : Int))) = .bool false := congrArg _ (decide_eq_false (not_max d5 d6))
        have hXn : X < n := by omega
        have hYn : Y < n := by omega
        have hne : X ≠ Y := by omega
        have hlX := named_le (ws.take i) X
        have hlY := named_le (ws.take i) Y
        have htl : (ws.take i).length ≤ 31 := by rw [List.length_take, hlen]; omega
        have r1 := cntL_get (ws := ws.take i) hXn
        have hrd1 := rd_int (l := r) (k := X) (z := (named (ws.take i) (X : Int) : Int)) (by rw [k3]; exact r1)
        have hst1 := lsetE (e := eInt) (l := r) (k := X) (f := 0) (o := 0 + X * 1) (x := (named (ws.take i) (X : Int) : Int) + 1) (vs := [.int .i64 ((named (ws.take i) (X : Int) : Int) + 1)]) (by rw [k3]; exact r1) rfl (by simp [eInt])
        have r2 : (r.set X ((named (ws.take i) (X : Int) : Int) + 1))[Y]? = some (named (ws.take i) (Y : Int) : Int) := by
          rw [List.getElem?_set_ne hne, k3]; exact cntL_get hYn
        have hrd2 := rd_int (l := r.set X ((named (ws.take i) (X : Int) : Int) + 1)) (k := Y) (z := (named (ws.take i) (Y : Int) : Int)) r2
        have hst2 := lsetE (e := eInt) (l := r.set X ((named (ws.take i) (X : Int) : Int) + 1)) (k := Y) (f := 0) (o := 0 + Y * 1) (x := (named (ws.take i) (Y : Int) : Int) + 1) (vs := [.int .i64 ((named (ws.take i) (Y : Int) : Int) + 1)]) r2 rfl (by simp [eInt])
        have hfin : (r.set X ((named (ws.take i) (X : Int) : Int) + 1)).set Y ((named (ws.take i) (Y : Int) : Int) + 1) = cntL (ws.take (i + 1)) n := by rw [k3, htk]; exact cnt_two hl hX hY hne hXn hYn
        rw [hX, hY] at e2 e3 e4
        have hun := unp_inner ho hl
        rw [hX, hY] at hun
        exact rtG cs o n c dim Q i r _ _ w (uF w) (low32 w) X Y _ _ _ _ J hE okL ⟨rfl, ⟨(i + 1, (r.set X ((named (ws.take i) (X : Int) : Int) + 1)).set Y ((named (ws.take i) (Y : Int) : Int) + 1)), ⟨hin, nxt hgd, hfin⟩, (by show n - (i + 1) < n - i; omega), rfl, by simp [fRt, rnr, rni]⟩, i64_succ (by omega), hst2, ⟨Int.natCast_nonneg _, Int.ofNat_lt.2 hYn⟩, (i64_id rfl (by omega) (by omega)), hrd2, ⟨Int.natCast_nonneg _, Int.ofNat_lt.2 hYn⟩, hst1, ⟨Int.natCast_nonneg _, Int.ofNat_lt.2 hXn⟩, (i64_id rfl (by omega) (by omega)), hrd1, ⟨Int.natCast_nonneg _, Int.ofNat_lt.2 hXn⟩, e4, e3, e2, e1, hun, hU w (List.mem_of_getElem? hw), hrd, ⟨Int.natCast_nonneg _, Int.ofNat_lt.2 hin⟩, hlt, trivial⟩ hJ'
      · have ho : okB w = true := by simp [goodW] at hgd; exact hgd.1
        exact rtF cs o n c dim Q i r w (low32 w) J hE okL ⟨rfl, ⟨(i + 1, r), ⟨hin, nxt hgd, by rw [htk, cnt_leaf hl]; exact k3⟩, (by show n - (i + 1) < n - i; omega), rfl, by simp [fRt, rnr, rni]⟩, i64_succ (by omega), unp_leaf ho hl, hU w (List.mem_of_getElem? hw), hrd, ⟨Int.natCast_nonneg _, Int.ofNat_lt.2 hin⟩, hlt, trivial⟩ hJ'
  · have hlt : decide ((i : Int) < (n : Int)) = false := decide_eq_false (by omega)
    obtain rfl : i = n := by omega
    have hall : ∀ (j : Nat) (w : Int), ws[j]? = some w → goodW dim i j w = true := fun j w hw => k2 j w (by have := (List.getElem?_eq_some_iff.1 hw).1; omega) hw
    have hr3 : r = cntL ws i := by rw [k3, List.take_of_length_le (by omega)]
    clear k3 k2 hJ' hJ
    have hrl : r.length = i := by rw [hr3]; exact cntL_len _ _
    let Q2 : Nat → Prop := fun j => j ≤ i - 1 ∧ ∀ k : Nat, 1 ≤ k → k < j + 1 → named ws (k : Int) = 1
    have sl : ∃ q : Nat, (q = 1 ∨ i = 1) ∧ SlOK 1 10 0 i i (some 1) none (some (.cells (eInt.row r) 3)) (.slice (some ⟨10, q, none⟩) (i - 1) (i - 1)) := by
      by_cases h : i = 1
      · refine ⟨0, Or.inr h, 1, i, rfl, rfl, by omega, Nat.le_refl _, Or.inr ⟨by unfold Ev.mark; omega, Nat.le_refl _, Or.inl ⟨by omega, ?_⟩⟩⟩
        simp
      · refine ⟨1, Or.inl rfl, 1, i, rfl, rfl, by omega, Nat.le_refl _, Or.inr ⟨by unfold Ev.mark; omega, Nat.le_refl _, Or.inr ⟨by omega, ?_⟩⟩⟩
        simp
    obtain ⟨q, hq, hsl⟩ := sl
    refine rtZ cs o i c (i - 1) q dim Q Q2 i r J hE (fRn_ok (i - 1) q r Q2) ⟨rfl, ⟨0, ⟨Nat.zero_le _, fun k a b => by omega⟩, trivial, rfl, by simp [fRn, rni]⟩, hsl, hlt, trivial⟩ fun zz hz _ => by_loop (fRn (i - 1) q r Q2) (lp Try.f22 1) ?_ 0 zz hz
    rintro b j hinv J hJ
    have hinv : j ≤ i - 1 ∧ ∀ k : Nat, 1 ≤ k → k < j + 1 → named ws (k : Int) = 1 := hinv
    obtain ⟨m1, m2⟩ := hinv
    show Sat E (inLp (lp Try.f22 1) J) ((fRn (i - 1) q r Q2).st 0 j)
    have hJ' : ∀ zz, (fRn (i - 1) q r Q2).inv 0 zz → ltO ((fRn (i - 1) q r Q2).mu 0 zz) (some (i - 1 - j)) → Sat E (mkLp (lp Try.f22 1) J) ((fRn (i - 1) q r Q2).st 0 zz) := fun zz h1 h2 => hJ 0 zz h1 h2
    by_cases hji : j < i - 1
    · have hlt : decide ((j : Int) < ((i - 1 : Nat) : Int)) = true := decide_eq_true (by omega)
      obtain rfl : q = 1 := by omega
      have hrd := rd_off (l := r) (q := 1) (j := j) (z := (named ws ((1 + j : Nat) : Int) : Int)) (by rw [hr3]; exact cntL_get (by omega))
      by_cases h1' : named ws ((1 + j : Nat) : Int) = 1
      · exact rnY (i - 1) 1 r Q2 j _ J hE (fRn_ok (i - 1) 1 r Q2) ⟨rfl, ⟨j + 1, ⟨by omega, fun k a b => by
            by_cases e : k < j + 1
            · exact m2 k a e
            · obtain rfl : k = 1 + j := by omega
              exact h1'⟩, (by show i - 1 - (j + 1) < i - 1 - j; omega), rfl, by simp [fRn, rni]⟩, i64_succ (by omega), (by rw [h1']; rfl), hrd, ⟨Int.natCast_nonneg _, Int.ofNat_lt.2 hji⟩, hlt, trivial⟩ hJ'
      · rw [right_once (k := 1 + j) (by omega) (by omega) h1'] at hE
        exact rnN (i - 1) 1 r Q2 j _ J hE ⟨⟨rfl, rfl⟩, (by simp only [bne_iff_ne, ne_eq]; omega), hrd, ⟨Int.natCast_nonneg _, Int.ofNat_lt.2 hji⟩, hlt, trivial⟩
    · have hlt : decide ((j : Int) < ((i - 1 : Nat) : Int)) = false := decide_eq_false (by omega)
      have hR : rightI ws dim = true := right_parts.2 ⟨⟨by omega, by omega⟩, fun j w hw => by rw [hlen]; exact hall j w hw, fun k a b => m2 k a (by omega)⟩
      rw [hR] at hE
      exact rnE (i - 1) q r Q2 j J hE ⟨⟨rfl, rfl⟩, hlt, trivial⟩
def right_F : RoF := fun xs css => match xs, css with
  | [.slice (some ⟨0, o, none⟩) n c, .int .i64 dim], [cs] => some (.bool (rightI (eWord.list cs o n) dim), [], [eWord.Row cs o n, ∀ w ∈ eWord.list cs o n, U64 w, n ≤ 65536])
  | [.slice none 0 0, .int .i64 dim], [] => some (.bool false, [], [])
  | _, _ => none
theorem right_sum : SumOK Try.prog 22 (roSum right_F) := by
  refine roSum_ok (en Try.func22 rfl) ?_ (fun xs css r h => ?_)
  · intro xs css v blks ob h hob hpl hl
    unfold right_F at h
    split at h
    · rename_i o n c dim cs
      simp only [Option.some.injEq, Prod.mk.injEq] at h
      obtain ⟨rfl, rfl, rfl⟩ := h
      refine ⟨by simp, by simp, fun j hj => by simp [nms, nm1, nmL, nm0] at hj, ?_⟩
      exact right_spec cs o n c dim (hob _ (List.mem_cons_self ..)) (hpl cs (by simp)) (hob _ (List.mem_cons_of_mem _ (List.mem_cons_self ..))) (hob _ (by simp))
    · rename_i dim
      simp only [Option.some.injEq, Prod.mk.injEq] at h
      obtain ⟨rfl, rfl, rfl⟩ := h
      refine ⟨by simp, by simp, fun j hj => by simp [nms, nm1, nmL, nm0] at hj, ?_⟩
      exact spec_of_sat Try.func22 rfl fun E hE => rtNil dim hE ⟨⟨rfl, rfl⟩, trivial⟩
    · simp at h
  · unfold right_F at h
    split at h <;> simp at h <;> simp
noncomputable def t_right : Sums := upd t_runpack 22 (some (roSum right_F))
theorem t_right_ok : SumsOK Try.prog t_right := sums_cons t_runpack_ok right_sum
end Go.Proofs.Ytnngaedhedbenaa.Tr


set_option linter.unusedVariables false
set_option linter.unusedSimpArgs false
set_option maxRecDepth 100000
namespace Go.Proofs.Ytnngaedhedbenaa.Tr
open Go Go.RowKit Go.Proofs.Ytnngaedhedbenaa.Ev Go.Proofs.Ytnngaedhedbenaa.NodeE Go.Proofs.Ytnngaedhedbenaa.Tr

def fLv (cs : List Value) (o n c : Nat) (Q : Nat → Nat × List Int → Prop) : LoopF (Nat × List Int) where
  ts _ := [3, 11, 12, 13]
  hs z := match z with | 0 => [0] | _ => [0, 13]
  tv z := fun ⟨i, out⟩ => [match z with | 0 => .slice none 0 0 | _ => .slice (some ⟨13, 0, none⟩) out.length mk, .slice (some ⟨0, o, none⟩) n c, .int .i64 (n : Int), .int .i64 (i : Int)]
  hv z := fun ⟨i, out⟩ => match z with | 0 => [.ro cs] | _ => [.ro cs, .vec (eInt.row out) 3 1]
  inv := Q
  mu _ := fun ⟨i, out⟩ => n - i
  nx := 14
theorem fLv_ok (cs : List Value) (o n c : Nat) (Q : Nat → Nat × List Int → Prop) (hpl : ∀ x ∈ cs, leafG x = true) : (fLv cs o n c Q).OK 1 := by
  refine ⟨(by decide : 1 ≤ 14), fun z i h k hk => ?_, fun z i h v hv k hk => ?_, fun z i h x hx => ?_⟩
  · show k < 14
    match z with
    | 0 => simp [fLv] at hk; omega
    | z + 1 => simp [fLv] at hk; omega
  · show k < 14
    match z with
    | 0 =>
      simp [fLv] at hv
      repeat' (refine Or.elim hv (fun hv => ?_) (fun hv => ?_))
      all_goals (subst hv; simp [nms, nm1, nm0] at hk; try omega)
    | z + 1 =>
      simp [fLv] at hv
      repeat' (refine Or.elim hv (fun hv => ?_) (fun hv => ?_))
      all_goals (subst hv; simp [nms, nm1, nm0] at hk; try omega)
  · match z with
    | 0 =>
      simp [fLv] at hx
      subst hx
      exact Blk.plain.namesLt (b := .ro cs) hpl _
    | z + 1 =>
      simp [fLv] at hx
      rcases hx with rfl | rfl
      · exact Blk.plain.namesLt (b := .ro cs) hpl _
      · exact Blk.plain.namesLt (b := .vec _ _ _) (Elt.row_pl _) _
structure DP where
  i : Nat
  m : Int
  r : List Int
def fDp (cs : List Value) (o n c : Nat) (Q : DP → Prop) : LoopF DP where
  ts _ := [3, 4, 17, 18, 19]
  hs _ := [0, 10]
  tv _ := fun ⟨i, m, r⟩ => [.slice (some ⟨10, 0, none⟩) n n, .int .i64 m, .slice (some ⟨0, o, none⟩) n c, .int .i64 (n : Int), .int .i64 (i : Int)]
  hv _ := fun ⟨i, m, r⟩ => [.ro cs, .cells (eInt.row r) 3]
  inv _ := Q
  mu _ := fun ⟨i, m, r⟩ => n - i
  nx := 14

theorem fDp_ok (cs : List Value) (o n c : Nat) (Q : DP → Prop) (hpl : ∀ x ∈ cs, leafG x = true) : (fDp cs o n c Q).OK 1 := by
  refine ⟨(by decide : 1 ≤ 14), fun z i h k hk => ?_, fun z i h v hv k hk => ?_, fun z i h x hx => ?_⟩
  · show k < 14
    simp [fDp] at hk; omega
  · show k < 14
    simp [fDp] at hv
    repeat' (refine Or.elim hv (fun hv => ?_) (fun hv => ?_))
    all_goals (subst hv; simp [nms, nm1, nm0] at hk; try omega)
  · simp [fDp] at hx
    rcases hx with rfl | rfl
    · exact Blk.plain.namesLt (b := .ro cs) hpl _
    · exact Blk.plain.namesLt (b := .cells _ 3) (Elt.row_pl _) _

noncomputable def t_rgt : Sums := upd t_runpack 22 (some (roSum right_F))
theorem t_rgt_ok : SumsOK Try.prog t_rgt := sums_cons t_runpack_ok right_sum
end Go.Proofs.Ytnngaedhedbenaa.Tr


set_option linter.unusedVariables false
set_option linter.unusedSimpArgs false
set_option maxRecDepth 100000
namespace Go.Proofs.Ytnngaedhedbenaa.Tr
open Go Go.RowKit Go.Proofs.Ytnngaedhedbenaa.Ev Go.Proofs.Ytnngaedhedbenaa.NodeE Go.Proofs.Ytnngaedhedbenaa.Tr

theorem lvNil (u : Unit)  {E : Env} (hE : EnvOK E Try.prog Try.f25 1 0 (.slice none 0 0) [] []) (hob : all ([Back (Value.slice none 0 0) (Value.slice none 0 0) [] [] [], plainR []])) : Sat E [.code (bodyOf Try.f25)] (st0 Try.f25 [.slice none 0 0] (roRows []) 0) :=
  by_ret (T := auto0 t_rgt) (h := hints []) (ws := []) (nx' := 0) hE hm (auto0_ok t_rgt_ok) (by omega) (by simp) (by simp) (by kernel_rfl) hob
theorem lvIn (cs : List Value) (o n c : Nat) (Q : Nat → Nat × List Int → Prop)  {E : Env} {rv : Value} {rhs : List Nat} {rhv : List Blk} (hE : EnvOK E Try.prog Try.f25 1 1 rv rhs rhv) (hL : (fLv cs o n c Q).OK 1) (hob : all ([SameK (atLp (lp Try.f25 0)) (atLp (lp Try.f25 0)), Enter (fLv cs o n c Q) 0 none [Value.slice none 0 0, Value.slice (some (Addr.mk 0 o none)) n c, Value.int IntKind.i64 ((n : Int)), Value.int IntKind.i64 ((0 : Int))] [Blk.ro cs] [(0, 0)], Value.bool (rightI (eWord.list cs o n) ((4 : Int))) = Value.bool true, plainR [cs], eWord.Row cs o n, ∀ (w : Int), w ∈ eWord.list cs o n → U64 w, n ≤ 65536])) (hK : ∀ zz, (fLv cs o n c Q).inv 0 zz → ltO ((fLv cs o n c Q).mu 0 zz) none → Sat E (atLp (lp Try.f25 0)) ((fLv cs o n c Q).st 0 zz)) : Sat E [.code (bodyOf Try.f25)] (st0 Try.f25 [.slice (some ⟨0, o, none⟩) n c] (roRows [cs]) 1) :=
  by_to (T := auto0 t_rgt) (h := hints [(1, 1, {v := some (.bool true)})]) (ws := [.go, .stop]) (i0 := (0, [])) hE hm (auto0_ok t_rgt_ok) hL (by kernel_rfl) hob hK
theorem lvF0 (cs : List Value) (o n c : Nat) (Q : Nat → Nat × List Int → Prop) (i : Nat) (w v : Int) (out2 : List Int) (J : Act → World → Prop) {E : Env} {rv : Value} {rhs : List Nat} {rhv : List Blk} (hE : EnvOK E Try.prog Try.f25 1 1 rv rhs rhv) (hL : (fLv cs o n c Q).OK 1) (hob : all ([SameK (mkLp (lp Try.f25 0) J) (mkLp (lp Try.f25 0) J), Enter (fLv cs o n c Q) 1 (some (n - i)) [Value.slice (some (Addr.mk 90 0 none)) 1 1267650600228229401496703205376, Value.slice (some (Addr.mk 0 o none)) n c, Value.int IntKind.i64 ((n : Int)), Value.int IntKind.i64 (Int.ofNat i.succ)] [Blk.ro cs, Blk.vec (eInt.row out2) 3 1] [(13, 90), (0, 0)], Value.int IntKind.i64 (IntKind.i64.wrap (Int.ofNat i.succ)) = Value.int IntKind.i64 (Int.ofNat i.succ), AppOK none 0 0 1 8 1 [Value.int IntKind.i64 ((i : Int))] 0 (eInt.row out2), Value.tuple (Array.mk [Value.agg (Array.mk [Value.bool (okB w && lfB w), Value.int IntKind.i64 (sV w), Value.int IntKind.i64 (sF w), Value.int IntKind.i64 (sA w), Value.int IntKind.i64 (sX w), Value.int IntKind.i64 (sY w)]), Value.bool (okB w)]) = Value.tuple (Array.mk [Value.agg (Array.mk [Value.bool true, Value.int IntKind.i64 v, Value.int IntKind.i64 ((0 : Int)), Value.int IntKind.i64 ((0 : Int)), Value.int IntKind.i64 ((0 : Int)), Value.int IntKind.i64 ((0 : Int))]), Value.bool true]), U64 w, readPart Try.prog 26 cs (o + ((i : Int)).toNat * 1) = some (Value.int IntKind.u64 w), (0 : Int) ≤ (i : Int) ∧ (i : Int) < (n : Int), decide ((↑i : Int) < (↑n : Int)) = true])) (hK : ∀ zz, (fLv cs o n c Q).inv 1 zz → ltO ((fLv cs o n c Q).mu 1 zz) (some (n - i)) → Sat E (mkLp (lp Try.f25 0) J) ((fLv cs o n c Q).st 1 zz)) : Sat E (inLp (lp Try.f25 0) J) ((fLv cs o n c Q).st 0 (i, [])) :=
  by_to (T := auto0 t_rgt) (h := hints [(6, 1, {p := true}), (6, 2, {o := some (.int .u64 w)}), (7, 1, {v := some (.tuple ⟨[nd true v 0 0 0 0, .bool true]⟩)}), (9, 3, {c := some (eInt.row out2)}), (10, 0, {v := some (.int .i64 ((i + 1 : Nat) : Int))})]) (ws := [.b true]) (i0 := (i + 1, out2)) hE hm (auto0_ok t_rgt_ok) hL (by kernel_rfl) hob hK
theorem lvI0 (cs : List Value) (o n c : Nat) (Q : Nat → Nat × List Int → Prop) (i : Nat) (w f a x y : Int) (J : Act → World → Prop) {E : Env} {rv : Value} {rhs : List Nat} {rhv : List Blk} (hE : EnvOK E Try.prog Try.f25 1 1 rv rhs rhv) (hL : (fLv cs o n c Q).OK 1) (hob : all ([SameK (mkLp (lp Try.f25 0) J) (mkLp (lp Try.f25 0) J), Enter (fLv cs o n c Q) 0 (some (n - i)) [Value.slice none 0 0, Value.slice (some (Addr.mk 0 o none)) n c, Value.int IntKind.i64 ((n : Int)), Value.int IntKind.i64 (Int.ofNat i.succ)] [Blk.ro cs] [(0, 0)], Value.int IntKind.i64 (IntKind.i64.wrap (Int.ofNat i.succ)) = Value.int IntKind.i64 (Int.ofNat i.succ), Value.tuple (Array.mk [Value.agg (Array.mk [Value.bool (okB w && lfB w), Value.int IntKind.i64 (sV w), Value.int IntKind.i64 (sF w), Value.int IntKind.i64 (sA w), Value.int IntKind.i64 (sX w), Value.int IntKind.i64 (sY w)]), Value.bool (okB w)]) = Value.tuple (Array.mk [Value.agg (Array.mk [Value.bool false, Value.int IntKind.i64 ((0 : Int)), Value.int IntKind.i64 f, Value.int IntKind.i64 a, Value.int IntKind.i64 x, Value.int IntKind.i64 y]), Value.bool true]), U64 w, readPart Try.prog 26 cs (o + ((i : Int)).toNat * 1) = some (Value.int IntKind.u64 w), (0 : Int) ≤ (i : Int) ∧ (i : Int) < (n : Int), decide ((↑i : Int) < (↑n : Int)) = true])) (hK : ∀ zz, (fLv cs o n c Q).inv 0 zz → ltO ((fLv cs o n c Q).mu 0 zz) (some (n - i)) → Sat E (mkLp (lp Try.f25 0) J) ((fLv cs o n c Q).st 0 zz)) : Sat E (inLp (lp Try.f25 0) J) ((fLv cs o n c Q).st 0 (i, [])) :=
  by_to (T := auto0 t_rgt) (h := hints [(6, 1, {p := true}), (6, 2, {o := some (.int .u64 w)}), (7, 1, {v := some (.tuple ⟨[nd false 0 f a x y, .bool true]⟩)}), (10, 0, {v := some (.int .i64 ((i + 1 : Nat) : Int))})]) (ws := [.b true]) (i0 := (i + 1, [])) hE hm (auto0_ok t_rgt_ok) hL (by kernel_rfl) hob hK
theorem lvF1 (cs : List Value) (o n c : Nat) (Q : Nat → Nat × List Int → Prop) (i : Nat) (out : List Int) (w v : Int) (out2 : List Int) (J : Act → World → Prop) {E : Env} {rv : Value} {rhs : List Nat} {rhv : List Blk} (hE : EnvOK E Try.prog Try.f25 1 1 rv rhs rhv) (hL : (fLv cs o n c Q).OK 1) (hob : all ([SameK (mkLp (lp Try.f25 0) J) (mkLp (lp Try.f25 0) J), Enter (fLv cs o n c Q) 1 (some (n - i)) [Value.slice (some (Addr.mk 90 0 none)) (out.length + 1) 1267650600228229401496703205376, Value.slice (some (Addr.mk 0 o none)) n c, Value.int IntKind.i64 ((n : Int)), Value.int IntKind.i64 (Int.ofNat i.succ)] [Blk.ro cs, Blk.vec (eInt.row out2) 3 1] [(13, 90), (0, 0)], Value.int IntKind.i64 (IntKind.i64.wrap (Int.ofNat i.succ)) = Value.int IntKind.i64 (Int.ofNat i.succ), AppOK (some (Blk.vec (eInt.row out) 3 1)) out.length 1267650600228229401496703205376 1 8 1 [Value.int IntKind.i64 ((i : Int))] 0 (eInt.row out2), Value.tuple (Array.mk [Value.agg (Array.mk [Value.bool (okB w && lfB w), Value.int IntKind.i64 (sV w), Value.int IntKind.i64 (sF w), Value.int IntKind.i64 (sA w), Value.int IntKind.i64 (sX w), Value.int IntKind.i64 (sY w)]), Value.bool (okB w)]) = Value.tuple (Array.mk [Value.agg (Array.mk [Value.bool true, Value.int IntKind.i64 v, Value.int IntKind.i64 ((0 : Int)), Value.int IntKind.i64 ((0 : Int)), Value.int IntKind.i64 ((0 : Int)), Value.int IntKind.i64 ((0 : Int))]), Value.bool true]), U64 w, readPart Try.prog 26 cs (o + ((i : Int)).toNat * 1) = some (Value.int IntKind.u64 w), (0 : Int) ≤ (i : Int) ∧ (i : Int) < (n : Int), decide ((↑i : Int) < (↑n : Int)) = true])) (hK : ∀ zz, (fLv cs o n c Q).inv 1 zz → ltO ((fLv cs o n c Q).mu 1 zz) (some (n - i)) → Sat E (mkLp (lp Try.f25 0) J) ((fLv cs o n c Q).st 1 zz)) : Sat E (inLp (lp Try.f25 0) J) ((fLv cs o n c Q).st 1 (i, out)) :=
  by_to (T := auto0 t_rgt) (h := hints [(6, 1, {p := true}), (6, 2, {o := some (.int .u64 w)}), (7, 1, {v := some (.tuple ⟨[nd true v 0 0 0 0, .bool true]⟩)}), (9, 3, {c := some (eInt.row out2)}), (10, 0, {v := some (.int .i64 ((i + 1 : Nat) : Int))})]) (ws := [.b true]) (i0 := (i + 1, out2)) hE hm (auto0_ok t_rgt_ok) hL (by kernel_rfl) hob hK
theorem lvI1 (cs : List Value) (o n c : Nat) (Q : Nat → Nat × List Int → Prop) (i : Nat) (out : List Int) (w f a x y : Int) (J : Act → World → Prop) {E : Env} {rv : Value} {rhs : List Nat} {rhv : List Blk} (hE : EnvOK E Try.prog Try.f25 1 1 rv rhs rhv) (hL : (fLv cs o n c Q).OK 1) (hob : all ([SameK (mkLp (lp Try.f25 0) J) (mkLp (lp Try.f25 0) J), Enter (fLv cs o n c Q) 1 (some (n - i)) [Value.slice (some (Addr.mk 13 0 none)) out.length 1267650600228229401496703205376, Value.slice (some (Addr.mk 0 o none)) n c, Value.int IntKind.i64 ((n : Int)), Value.int IntKind.i64 (Int.ofNat i.succ)] [Blk.ro cs, Blk.vec (eInt.row out) 3 1] [(13, 13), (0, 0)], Value.int IntKind.i64 (IntKind.i64.wrap (Int.ofNat i.succ)) = Value.int IntKind.i64 (Int.ofNat i.succ), Value.tuple (Array.mk [Value.agg (Array.mk [Value.bool (okB w && lfB w), Value.int IntKind.i64 (sV w), Value.int IntKind.i64 (sF w), Value.int IntKind.i64 (sA w), Value.int IntKind.i64 (sX w), Value.int IntKind.i64 (sY w)]), Value.bool (okB w)]) = Value.tuple (Array.mk [Value.agg (Array.mk [Value.bool false, Value.int IntKind.i64 ((0 : Int)), Value.int IntKind.i64 f, Value.int IntKind.i64 a, Value.int IntKind.i64 x, Value.int IntKind.i64 y]), Value.bool true]), U64 w, readPart Try.prog 26 cs (o + ((i : Int)).toNat * 1) = some (Value.int IntKind.u64 w), (0 : Int) ≤ (i : Int) ∧ (i : Int) < (n : Int), decide ((↑i : Int) < (↑n : Int)) = true])) (hK : ∀ zz, (fLv cs o n c Q).inv 1 zz → ltO ((fLv cs o n c Q).mu 1 zz) (some (n - i)) → Sat E (mkLp (lp Try.f25 0) J) ((fLv cs o n c Q).st 1 zz)) : Sat E (inLp (lp Try.f25 0) J) ((fLv cs o n c Q).st 1 (i, out)) :=
  by_to (T := auto0 t_rgt) (h := hints [(6, 1, {p := true}), (6, 2, {o := some (.int .u64 w)}), (7, 1, {v := some (.tuple ⟨[nd false 0 f a x y, .bool true]⟩)}), (10, 0, {v := some (.int .i64 ((i + 1 : Nat) : Int))})]) (ws := [.b true]) (i0 := (i + 1, out)) hE hm (auto0_ok t_rgt_ok) hL (by kernel_rfl) hob hK
theorem lvE (cs : List Value) (o n c : Nat) (Q : Nat → Nat × List Int → Prop) (i : Nat) (out : List Int) (J : Act → World → Prop) {E : Env} (hE : EnvOK E Try.prog Try.f25 1 1 (.slice (some ⟨100, 0, none⟩) out.length mk) [100] [.vec (eInt.row out) 3 1]) (hob : all ([Back (Value.slice (some (Addr.mk 13 0 none)) out.length 1267650600228229401496703205376) (Value.slice (some (Addr.mk 100 0 none)) out.length 1267650600228229401496703205376) [Blk.vec (eInt.row out) 3 1] [Blk.vec (eInt.row out) 3 1] [(100, 13)], decide ((↑i : Int) < (↑n : Int)) = false])) : Sat E (inLp (lp Try.f25 0) J) ((fLv cs o n c Q).st 1 (i, out)) :=
  by_ret (T := auto0 t_rgt) (h := hints []) (ws := [.b false]) (nx' := 101) hE hm (auto0_ok t_rgt_ok) (by omega) (by simp) (by intro x hx; simp at hx; subst hx; exact Blk.plain.namesLt (b := .vec _ _ _) (Elt.row_pl _) _) (by kernel_rfl) hob
theorem dpNil (u : Unit)  {E : Env} (hE : EnvOK E Try.prog Try.f26 1 0 (.int .i64 0) [] []) (hob : all ([Back (Value.int IntKind.i64 ((0 : Int))) (Value.int IntKind.i64 ((0 : Int))) [] [] [], plainR []])) : Sat E [.code (bodyOf Try.f26)] (st0 Try.f26 [.slice none 0 0] (roRows []) 0) :=
  by_ret (T := auto0 t_rgt) (h := hints []) (ws := []) (nx' := 0) hE hm (auto0_ok t_rgt_ok) (by omega) (by simp) (by simp) (by kernel_rfl) hob
theorem dpIn (cs : List Value) (o n c : Nat) (Q : DP → Prop) (zs r : List Int)  {E : Env} {rv : Value} {rhs : List Nat} {rhv : List Blk} (hE : EnvOK E Try.prog Try.f26 1 1 rv rhs rhv) (hL : (fDp cs o n c Q).OK 1) (hob : all ([SameK (atLp (lp Try.f26 0)) (atLp (lp Try.f26 0)), Enter (fDp cs o n c Q) 0 none [Value.slice (some (Addr.mk 25 0 none)) ((n : Int)).toNat ((n : Int)).toNat, Value.int IntKind.i64 ((1 : Int)), Value.slice (some (Addr.mk 0 o none)) n c, Value.int IntKind.i64 ((n : Int)), Value.int IntKind.i64 ((0 : Int))] [Blk.ro cs, Blk.cells (eInt.row r) 3] [(10, 25), (0, 0)], lset (eInt.row zs) 0 [Value.int IntKind.i64 1] = some (eInt.row r), (0 : Int) ≤ (0 : Int) ∧ (0 : Int) < (n : Int), MkOK ((n : Int)) ((n : Int)) 8 [Value.int IntKind.i64 ((0 : Int))] (eInt.row zs), Value.bool (rightI (eWord.list cs o n) ((4 : Int))) = Value.bool true, plainR [cs], eWord.Row cs o n, ∀ (w : Int), w ∈ eWord.list cs o n → U64 w, n ≤ 65536])) (hK : ∀ zz, (fDp cs o n c Q).inv 0 zz → ltO ((fDp cs o n c Q).mu 0 zz) none → Sat E (atLp (lp Try.f26 0)) ((fDp cs o n c Q).st 0 zz)) : Sat E [.code (bodyOf Try.f26)] (st0 Try.f26 [.slice (some ⟨0, o, none⟩) n c] (roRows [cs]) 1) :=
  by_to (T := auto0 t_rgt) (h := hints [(1, 1, {v := some (.bool true)}), (3, 2, {c := some (eInt.row zs)}), (4, 1, {p := true}), (4, 2, {c := some (eInt.row r)})]) (ws := [.go, .stop]) (i0 := ⟨0, 1, r⟩) hE hm (auto0_ok t_rgt_ok) hL (by kernel_rfl) hob hK
theorem dpF (cs : List Value) (o n c : Nat) (Q : DP → Prop) (i : Nat) (m m2 : Int) (r : List Int) (w v g : Int) (J : Act → World → Prop) {E : Env} {rv : Value} {rhs : List Nat} {rhv : List Blk} (hE : EnvOK E Try.prog Try.f26 1 1 rv rhs rhv) (hL : (fDp cs o n c Q).OK 1) (hob : all ([SameK (mkLp (lp Try.f26 0) J) (mkLp (lp Try.f26 0) J), Enter (fDp cs o n c Q) 0 (some (n - i)) [Value.slice (some (Addr.mk 10 0 none)) n n, Value.int IntKind.i64 m2, Value.slice (some (Addr.mk 0 o none)) n c, Value.int IntKind.i64 ((n : Int)), Value.int IntKind.i64 (Int.ofNat i.succ)] [Blk.ro cs, Blk.cells (eInt.row r) 3] [(10, 10), (0, 0)], Value.int IntKind.i64 (IntKind.i64.wrap (Int.ofNat i.succ)) = Value.int IntKind.i64 (Int.ofNat i.succ), Value.tuple (Array.mk [Value.agg (Array.mk [Value.bool (okB w && lfB w), Value.int IntKind.i64 (sV w), Value.int IntKind.i64 (sF w), Value.int IntKind.i64 (sA w), Value.int IntKind.i64 (sX w), Value.int IntKind.i64 (sY w)]), Value.bool (okB w)]) = Value.tuple (Array.mk [Value.agg (Array.mk [Value.bool true, Value.int IntKind.i64 v, Value.int IntKind.i64 ((0 : Int)), Value.int IntKind.i64 ((0 : Int)), Value.int IntKind.i64 ((0 : Int)), Value.int IntKind.i64 ((0 : Int))]), Value.bool true]), U64 w, Value.int IntKind.i64 (maxI m g) = Value.int IntKind.i64 m2, readPart Try.prog 3 (eInt.row r) (0 + ((i : Int)).toNat * 1) = some (Value.int IntKind.i64 g), (0 : Int) ≤ (i : Int) ∧ (i : Int) < (n : Int), readPart Try.prog 26 cs (o + ((i : Int)).toNat * 1) = some (Value.int IntKind.u64 w), (0 : Int) ≤ (i : Int) ∧ (i : Int) < (n : Int), decide ((↑i : Int) < (↑n : Int)) = true])) (hK : ∀ zz, (fDp cs o n c Q).inv 0 zz → ltO ((fDp cs o n c Q).mu 0 zz) (some (n - i)) → Sat E (mkLp (lp Try.f26 0) J) ((fDp cs o n c Q).st 0 zz)) : Sat E (inLp (lp Try.f26 0) J) ((fDp cs o n c Q).st 0 ⟨i, m, r⟩) :=
  by_to (T := auto0 t_rgt) (h := hints [(8, 1, {p := true}), (8, 2, {o := some (.int .u64 w)}), (9, 3, {p := true}), (9, 4, {o := some (.int .i64 g)}), (9, 5, {v := some (.int .i64 m2)}), (10, 1, {v := some (.tuple ⟨[nd true v 0 0 0 0, .bool true]⟩)}), (13, 0, {v := some (.int .i64 ((i + 1 : Nat) : Int))})]) (ws := [.b true]) (i0 := ⟨i + 1, m2, r⟩) hE hm (auto0_ok t_rgt_ok) hL (by kernel_rfl) hob hK
theorem dpI (cs : List Value) (o n c : Nat) (Q : DP → Prop) (i : Nat) (m m2 : Int) (r r1 r2 : List Int) (w f a x y g g1 : Int) (J : Act → World → Prop) {E : Env} {rv : Value} {rhs : List Nat} {rhv : List Blk} (hE : EnvOK E Try.prog Try.f26 1 1 rv rhs rhv) (hL : (fDp cs o n c Q).OK 1) (hob : all ([SameK (mkLp (lp Try.f26 0) J) (mkLp (lp Try.f26 0) J), Enter (fDp cs o n c Q) 0 (some (n - i)) [Value.slice (some (Addr.mk 10 0 none)) n n, Value.int IntKind.i64 m2, Value.slice (some (Addr.mk 0 o none)) n c, Value.int IntKind.i64 ((n : Int)), Value.int IntKind.i64 (Int.ofNat i.succ)] [Blk.ro cs, Blk.cells (eInt.row r2) 3] [(10, 10), (0, 0)], Value.int IntKind.i64 (IntKind.i64.wrap (Int.ofNat i.succ)) = Value.int IntKind.i64 (Int.ofNat i.succ), lset (eInt.row r1) (0 + y.toNat * 1) [Value.int IntKind.i64 g1] = some (eInt.row r2), (0 : Int) ≤ y ∧ y < (n : Int), lset (eInt.row r) (0 + x.toNat * 1) [Value.int IntKind.i64 g1] = some (eInt.row r1), (0 : Int) ≤ x ∧ x < (n : Int), Value.int IntKind.i64 (IntKind.i64.wrap (g + (1 : Int))) = Value.int IntKind.i64 g1, readPart Try.prog 3 (eInt.row r) (0 + ((i : Int)).toNat * 1) = some (Value.int IntKind.i64 g), (0 : Int) ≤ (i : Int) ∧ (i : Int) < (n : Int), Value.int IntKind.i64 (IntKind.i64.wrap (g + (1 : Int))) = Value.int IntKind.i64 g1, readPart Try.prog 3 (eInt.row r) (0 + ((i : Int)).toNat * 1) = some (Value.int IntKind.i64 g), (0 : Int) ≤ (i : Int) ∧ (i : Int) < (n : Int), Value.tuple (Array.mk [Value.agg (Array.mk [Value.bool (okB w && lfB w), Value.int IntKind.i64 (sV w), Value.int IntKind.i64 (sF w), Value.int IntKind.i64 (sA w), Value.int IntKind.i64 (sX w), Value.int IntKind.i64 (sY w)]), Value.bool (okB w)]) = Value.tuple (Array.mk [Value.agg (Array.mk [Value.bool false, Value.int IntKind.i64 ((0 : Int)), Value.int IntKind.i64 f, Value.int IntKind.i64 a, Value.int IntKind.i64 x, Value.int IntKind.i64 y]), Value.bool true]), U64 w, Value.int IntKind.i64 (maxI m g) = Value.int IntKind.i64 m2, readPart Try.prog 3 (eInt.row r) (0 + ((i : Int)).toNat * 1) = some (Value.int IntKind.i64 g), (0 : Int) ≤ (i : Int) ∧ (i : Int) < (n : Int), readPart Try.prog 26 cs (o + ((i : Int)).toNat * 1) = some (Value.int IntKind.u64 w), (0 : Int) ≤ (i : Int) ∧ (i : Int) < (n : Int), decide ((↑i : Int) < (↑n : Int)) = true])) (hK : ∀ zz, (fDp cs o n c Q).inv 0 zz → ltO ((fDp cs o n c Q).mu 0 zz) (some (n - i)) → Sat E (mkLp (lp Try.f26 0) J) ((fDp cs o n c Q).st 0 zz)) : Sat E (inLp (lp Try.f26 0) J) ((fDp cs o n c Q).st 0 ⟨i, m, r⟩) :=
  by_to (T := auto0 t_rgt) (h := hints [(8, 1, {p := true}), (8, 2, {o := some (.int .u64 w)}), (9, 3, {p := true}), (9, 4, {o := some (.int .i64 g)}), (9, 5, {v := some (.int .i64 m2)}), (10, 1, {v := some (.tuple ⟨[nd false 0 f a x y, .bool true]⟩)}), (12, 8, {p := true}), (12, 9, {o := some (.int .i64 g)}), (12, 10, {v := some (.int .i64 g1)}), (12, 13, {p := true}), (12, 14, {o := some (.int .i64 g)}), (12, 15, {v := some (.int .i64 g1)}), (12, 16, {p := true}), (12, 17, {c := some (eInt.row r1)}), (12, 18, {p := true}), (12, 19, {c := some (eInt.row r2)}), (13, 0, {v := some (.int .i64 ((i + 1 : Nat) : Int))})]) (ws := [.b true]) (i0 := ⟨i + 1, m2, r2⟩) hE hm (auto0_ok t_rgt_ok) hL (by kernel_rfl) hob hK
theorem dpE (cs : List Value) (o n c : Nat) (Q : DP → Prop) (i : Nat) (m : Int) (r : List Int) (J : Act → World → Prop) {E : Env} (hE : EnvOK E Try.prog Try.f26 1 1 (.int .i64 m) [] []) (hob : all ([Back (Value.int IntKind.i64 m) (Value.int IntKind.i64 m) [] [] [], decide ((↑i : Int) < (↑n : Int)) = false])) : Sat E (inLp (lp Try.f26 0) J) ((fDp cs o n c Q).st 0 ⟨i, m, r⟩) :=
  by_ret (T := auto0 t_rgt) (h := hints []) (ws := [.b false]) (nx' := 1) hE hm (auto0_ok t_rgt_ok) (by omega) (by simp) (by simp) (by kernel_rfl) hob
end Go.Proofs.Ytnngaedhedbenaa.Tr


set_option linter.unusedVariables false
set_option linter.unusedSimpArgs false
set_option maxRecDepth 100000
namespace Go.Proofs.Ytnngaedhedbenaa.Tr
open Go Go.RowKit Go.Proofs.Ytnngaedhedbenaa.Ev Go.Proofs.Ytnngaedhedbenaa.NodeE Go.Proofs.Ytnngaedhedbenaa.Tr

theorem last_leaf {ws : List Int} {dim : Int} (h : rightI ws dim = true) {w : Int} (hw : ws[ws.length - 1]? = some w) : lfB w = true := by
  obtain ⟨⟨h1, _⟩, h2, _⟩ := right_parts.1 h
  have hg := h2 _ w hw
  cases hl : lfB w
  · obtain ⟨_, _, _, a, b, c, d⟩ := good_inner hg hl
    omega
  · rfl
theorem leafIx_one (i : Nat) (w : Int) : leafIx i [w] = bif okB w && lfB w then [(i : Int)] else [] := rfl
theorem leafIx_ne {ws : List Int} {dim : Int} (h : rightI ws dim = true) : leafIx 0 ws ≠ [] := by
  obtain ⟨⟨h1, _⟩, _, _⟩ := right_parts.1 h
  have hw : ws[ws.length - 1]? = some (ws[ws.length - 1]'(by omega)) := List.getElem?_eq_getElem (by omega)
  have hl := last_leaf h hw
  have ho := right_ok h _ (List.mem_of_getElem? hw)
  generalize hx : ws[ws.length - 1]'(by omega) = x at hw hl ho
  have e : ws = ws.take (ws.length - 1) ++ [x] := by
    have := List.take_add_one (l := ws) (i := ws.length - 1)
    rw [hw, show ws.length - 1 + 1 = ws.length by omega, List.take_length] at this
    exact this
  rw [e, leafIx_app, leafIx_one, ho, hl]
  simp
theorem leafIx_len : ∀ (i : Nat) (ws : List Int), (leafIx i ws).length ≤ ws.length
  | _, [] => Nat.le_refl _
  | i, w :: ws => by
    have := leafIx_len (i + 1) ws
    simp only [leafIx]
    cases okB w && lfB w <;> simp <;> omega
theorem leaves_spec (cs : List Value) (o n c : Nat) (hr : eWord.Row cs o n) (hpl : ∀ x ∈ cs, leafG x = true) (hU : ∀ w ∈ eWord.list cs o n, U64 w) (hn : n ≤ 65536) (hR : rightI (eWord.list cs o n) 4 = true) :
    CallSpec Try.prog 25 [.slice (some ⟨0, o, none⟩) n c] (roRows [cs]) 1 (.slice (some ⟨100, 0, none⟩) (leafIx 0 (eWord.list cs o n)).length mk) (assocN [100] [.vec (eInt.row (leafIx 0 (eWord.list cs o n))) 3 1]) := by
  refine spec_of_sat Try.func25 rfl fun E hE => ?_
  have hlen : (eWord.list cs o n).length = n := Elt.list_len _ _ _
  generalize hws : eWord.list cs o n = ws at hU hlen hE hR
  obtain ⟨⟨hn1, hn31⟩, hgood, hone⟩ := right_parts.1 hR
  have rnr : ∀ f : Nat → Nat, Blk.rnB f (.ro cs) = .ro cs := fun f => Blk.plain.rnB (b := .ro cs) hpl f
  have hUl : ∀ w ∈ eWord.list cs o n, U64 w := by rw [hws]; exact hU
  have hr1 : Value.bool (rightI (eWord.list cs o n) 4) = .bool true := by rw [hws, hR]
  let Q : Nat → Nat × List Int → Prop := fun z s => s.1 ≤ n ∧ s.2 = leafIx 0 (ws.take s.1) ∧ ((z = 0 ∧ s.2 = []) ∨ (z = 1 ∧ s.2 ≠ []))
  have okL := fLv_ok cs o n c Q hpl
  have rnv : ∀ (f : Nat → Nat) (l : List Int), Blk.rnB f (.vec (eInt.row l) 3 1) = .vec (eInt.row l) 3 1 := fun f l => Blk.plain.rnB (b := .vec (eInt.row l) 3 1) (Elt.row_pl _) f
  refine lvIn cs o n c Q hE okL ⟨rfl, ⟨(0, []), ⟨Nat.zero_le _, rfl, Or.inl ⟨rfl, rfl⟩⟩, trivial, rfl, by simp only [fLv, List.map_cons, List.map_nil, rnr]⟩, hr1, plain1 hpl, hr, hUl, hn, trivial⟩ fun zz hz _ => by_loop (fLv cs o n c Q) (lp Try.f25 0) ?_ 0 zz hz
  rintro b ⟨i, out⟩ hinv J hJ
  have hinv : i ≤ n ∧ out = leafIx 0 (ws.take i) ∧ ((b = 0 ∧ out = []) ∨ (b = 1 ∧ out ≠ [])) := hinv
  obtain ⟨k1, k2, k3⟩ := hinv
  have hJ' : ∀ b' zz, (fLv cs o n c Q).inv b' zz → ltO ((fLv cs o n c Q).mu b' zz) (some (n - i)) → Sat E (mkLp (lp Try.f25 0) J) ((fLv cs o n c Q).st b' zz) := fun b' zz h1 h2 => hJ b' zz h1 h2
  by_cases hin : i < n
  · have hlt : decide ((i : Int) < (n : Int)) = true := decide_eq_true (by omega)
    obtain ⟨w, hw⟩ : ∃ w, ws[i]? = some w := ⟨_, List.getElem?_eq_getElem (by rw [hlen]; omega)⟩
    have hrd := hr.read1 (P := Try.prog) (ty := 26) (by kernel_rfl) rfl (i := i) (x := w) (by rw [hws]; exact hw) rfl rfl
    rw [← Nat.mul_one i] at hrd
    have htk : ws.take (i + 1) = ws.take i ++ [w] := by rw [List.take_add_one, hw]; rfl
    have ho := right_ok hR w (List.mem_of_getElem? hw)
    have htl : (ws.take i).length = i := by rw [List.length_take, hlen]; omega
    have hmu : n - (i + 1) < n - i := by omega
    cases hl : lfB w
    · have hnx : leafIx 0 (ws.take (i + 1)) = out := by rw [htk, leafIx_app, leafIx_one, hl, Bool.and_false, k2]; simp
      rcases k3 with ⟨rfl, ko⟩ | ⟨rfl, ko⟩
      · rw [ko] at hnx ⊢
        exact lvI0 cs o n c Q i w (uF w) (low32 w) (uX w) (uY w) J hE okL ⟨rfl, ⟨(i + 1, []), ⟨hin, hnx.symm, Or.inl ⟨rfl, rfl⟩⟩, hmu, rfl, by simp only [fLv, List.map_cons, List.map_nil, rnr]⟩, i64_succ (by omega), unp_inner ho hl, hU w (List.mem_of_getElem? hw), hrd, ⟨Int.natCast_nonneg _, Int.ofNat_lt.2 hin⟩, hlt, trivial⟩ (hJ' 0)
      · exact lvI1 cs o n c Q i out w (uF w) (low32 w) (uX w) (uY w) J hE okL ⟨rfl, ⟨(i + 1, out), ⟨hin, hnx.symm, Or.inr ⟨rfl, ko⟩⟩, hmu, rfl, by simp only [fLv, List.map_cons, List.map_nil, rnr, rnv]⟩, i64_succ (by omega), unp_inner ho hl, hU w (List.mem_of_getElem? hw), hrd, ⟨Int.natCast_nonneg _, Int.ofNat_lt.2 hin⟩, hlt, trivial⟩ (hJ' 1)
    · have hnx : leafIx 0 (ws.take (i + 1)) = out ++ [(i : Int)] := by rw [htk, leafIx_app, leafIx_one, ho, hl, k2, htl]; simp
      have hol : out.length ≤ i := by
        rw [k2]
        exact Nat.le_trans (leafIx_len 0 _) (by omega)
      rcases k3 with ⟨rfl, ko⟩ | ⟨rfl, ko⟩
      · rw [ko] at hnx ⊢
        exact lvF0 cs o n c Q i w (low32 w) [(i : Int)] J hE okL ⟨rfl, ⟨(i + 1, [(i : Int)]), ⟨hin, hnx.symm, Or.inr ⟨rfl, by simp⟩⟩, hmu, rfl, by simp only [fLv, List.map_cons, List.map_nil, rnr, rnv]⟩, i64_succ (by omega), appOK_nil (e := eInt) (new := [(i : Int)]) rfl rfl rfl rfl (by decide) (by decide) (by decide), unp_leaf ho hl, hU w (List.mem_of_getElem? hw), hrd, ⟨Int.natCast_nonneg _, Int.ofNat_lt.2 hin⟩, hlt, trivial⟩ (hJ' 1)
      · exact lvF1 cs o n c Q i out w (low32 w) (out ++ [(i : Int)]) J hE okL ⟨rfl, ⟨(i + 1, out ++ [(i : Int)]), ⟨hin, hnx.symm, Or.inr ⟨rfl, by simp⟩⟩, hmu, (by simp [fLv]; first | rfl | exact ⟨rfl, rfl, rfl, rfl⟩ | exact ⟨rfl, rfl, rfl⟩ | exact ⟨rfl, rfl⟩), by simp only [fLv, List.map_cons, List.map_nil, rnr, rnv]⟩, i64_succ (by omega), appOK (e := eInt) (L := out) (new := [(i : Int)]) rfl rfl rfl rfl (Nat.le_refl _) (by simp) (by decide) (by omega) (by omega), unp_leaf ho hl, hU w (List.mem_of_getElem? hw), hrd, ⟨Int.natCast_nonneg _, Int.ofNat_lt.2 hin⟩, hlt, trivial⟩ (hJ' 1)
  · have hlt : decide ((i : Int) < (n : Int)) = false := decide_eq_false (by omega)
    rw [List.take_of_length_le (by omega)] at k2
    rcases k3 with ⟨rfl, ko⟩ | ⟨rfl, ko⟩
    · exact absurd (k2.symm.trans ko) (leafIx_ne hR)
    · rw [← k2] at hE
      exact lvE cs o n c Q i out J hE ⟨⟨rfl, by simp only [List.map_cons, List.map_nil, rnv]⟩, hlt, trivial⟩
def leaves_F : RoF := fun xs css => match xs, css with
  | [.slice (some ⟨0, o, none⟩) n c], [cs] => some (.slice (some ⟨100, 0, none⟩) (leafIx 0 (eWord.list cs o n)).length mk, [.vec (eInt.row (leafIx 0 (eWord.list cs o n))) 3 1], [eWord.Row cs o n, ∀ w ∈ eWord.list cs o n, U64 w, n ≤ 65536, rightI (eWord.list cs o n) 4 = true])
  | [.slice none 0 0], [] => some (.slice none 0 0, [], [])
  | _, _ => none
theorem leaves_sum : SumOK Try.prog 25 (roSum leaves_F) := by
  refine roSum_ok (en Try.func25 rfl) ?_ (fun xs css r h => ?_)
  · intro xs css v blks ob h hob hpl hl
    unfold leaves_F at h
    split at h
    · rename_i o n c cs
      simp only [Option.some.injEq, Prod.mk.injEq] at h
      obtain ⟨rfl, rfl, rfl⟩ := h
      refine ⟨by simp, fun x hx => by simp at hx; subst hx; exact ⟨Elt.row_pl _, rfl⟩, fun j hj => by simp [nms, nm1, nm0] at hj; subst hj; simp, ?_⟩
      exact leaves_spec cs o n c (hob _ (List.mem_cons_self ..)) (hpl cs (by simp)) (hob _ (List.mem_cons_of_mem _ (List.mem_cons_self ..))) (hob _ (by simp)) (hob _ (by simp))
    · simp only [Option.some.injEq, Prod.mk.injEq] at h
      obtain ⟨rfl, rfl, rfl⟩ := h
      refine ⟨by simp, by simp, fun j hj => by simp [nms, nm1, nmL, nm0] at hj, ?_⟩
      exact spec_of_sat Try.func25 rfl fun E hE => lvNil () hE ⟨⟨rfl, rfl⟩, (fun x hx => by simp at hx), trivial⟩
    · simp at h
  · unfold leaves_F at h
    split at h <;> simp at h <;> simp
/-! ### Depth -/
structure DpOK (n i : Nat) (d : Int × List Int) : Prop where
  len : d.2.length = n
  mr : 1 ≤ d.1 ∧ d.1 ≤ i + 1
  rr : ∀ v ∈ d.2, 0 ≤ v ∧ v ≤ i + 1
theorem dep0_ok (n : Nat) : DpOK n 0 (dep0 n) := by
  refine ⟨by simp [dep0], by simp [dep0], fun v hv => ?_⟩
  simp only [dep0] at hv
  rcases List.mem_or_eq_of_mem_set hv with hv | rfl
  · have := List.eq_of_mem_replicate hv; omega
  · decide
theorem getD_mem {r : List Int} {i : Nat} (h : i < r.length) : r.getD i 0 ∈ r ∧ r[i]? = some (r.getD i 0) := by
  have e : r.getD i 0 = r[i] := by rw [List.getD_eq_getElem?_getD, List.getElem?_eq_getElem h]; rfl
  rw [e]
  exact ⟨List.getElem_mem h, List.getElem?_eq_getElem h⟩
theorem depS_ok {n i : Nat} {d : Int × List Int} (w : Int) (h : DpOK n i d) (hi : i < n) : DpOK n (i + 1) (depS i w d) := by
  have hg := getD_mem (r := d.2) (i := i) (by rw [h.len]; exact hi)
  have hgr := h.rr _ hg.1
  have hm := h.mr
  refine ⟨?_, ?_, fun v hv => ?_⟩
  · simp only [depS]
    cases okB w && lfB w <;> simp [h.len]
  · simp only [depS]; omega
  · simp only [depS] at hv
    cases hb : okB w && lfB w <;> rw [hb] at hv
    · simp only [cond_false] at hv
      rcases List.mem_or_eq_of_mem_set hv with hv | rfl
      · rcases List.mem_or_eq_of_mem_set hv with hv | rfl
        · have := h.rr v hv; omega
        · omega
      · omega
    · have := h.rr v hv; omega
theorem depth_spec (cs : List Value) (o n c : Nat) (hr : eWord.Row cs o n) (hpl : ∀ x ∈ cs, leafG x = true) (hU : ∀ w ∈ eWord.list cs o n, U64 w) (hn : n ≤ 65536) (hR : rightI (eWord.list cs o n) 4 = true) :
    CallSpec Try.prog 26 [.slice (some ⟨0, o, none⟩) n c] (roRows [cs]) 1 (.int .i64 (depGo 0 (eWord.list cs o n) (dep0 n)).1) (assocN [] []) := by
  refine spec_of_sat Try.func26 rfl fun E hE => ?_
  have hlen : (eWord.list cs o n).length = n := Elt.list_len _ _ _
  generalize hws : eWord.list cs o n = ws at hU hlen hE hR
  obtain ⟨⟨hn1, hn31⟩, hgood, hone⟩ := right_parts.1 hR
  have rnr : ∀ f : Nat → Nat, Blk.rnB f (.ro cs) = .ro cs := fun f => Blk.plain.rnB (b := .ro cs) hpl f
  have hUl : ∀ w ∈ eWord.list cs o n, U64 w := by rw [hws]; exact hU
  have hr1 : Value.bool (rightI (eWord.list cs o n) 4) = .bool true := by rw [hws, hR]
  let Q : DP → Prop := fun s => s.i ≤ n ∧ DpOK n s.i (s.m, s.r) ∧ (s.m, s.r) = depGo 0 (ws.take s.i) (dep0 n)
  have okL := fDp_ok cs o n c Q hpl
  have rni : ∀ (f : Nat → Nat) (l : List Int), Blk.rnB f (.cells (eInt.row l) 3) = .cells (eInt.row l) 3 := fun f l => Blk.plain.rnB (b := .cells (eInt.row l) 3) (Elt.row_pl _) f
  have hz : repl [Value.int .i64 0] n = eInt.row (List.replicate n 0) := repl_row (e := eInt) (x := 0) rfl _
  have hst : lset (eInt.row (List.replicate n 0)) 0 [.int .i64 1] = some (eInt.row ((List.replicate n 0).set 0 1)) := lsetE (e := eInt) (l := List.replicate n 0) (k := 0) (f := 0) (x := 1) (y := 0) (by rw [List.getElem?_replicate, if_pos (by omega)]) rfl (by simp)
  refine dpIn cs o n c Q (List.replicate n 0) ((List.replicate n 0).set 0 1) hE okL ⟨rfl, ⟨⟨0, 1, (List.replicate n 0).set 0 1⟩, ⟨Nat.zero_le _, dep0_ok n, rfl⟩, trivial, rfl, by simp only [fDp, List.map_cons, List.map_nil, rnr, rni]⟩, hst, ⟨by decide, by omega⟩, ⟨rfl, Int.natCast_nonneg _, by show (n : Int) ≤ _; omega, by show (8 : Int) * (n : Int) ≤ _; omega, hz.symm⟩, hr1, plain1 hpl, hr, hUl, hn, trivial⟩ fun zz hz _ => by_loop (fDp cs o n c Q) (lp Try.f26 0) ?_ 0 zz hz
  rintro b ⟨i, m, r⟩ hinv J hJ
  have hinv : i ≤ n ∧ DpOK n i (m, r) ∧ (m, r) = depGo 0 (ws.take i) (dep0 n) := hinv
  obtain ⟨k1, k2, k3⟩ := hinv
  show Sat E (inLp (lp Try.f26 0) J) ((fDp cs o n c Q).st 0 ⟨i, m, r⟩)
  have hJ' : ∀ zz, (fDp cs o n c Q).inv 0 zz → ltO ((fDp cs o n c Q).mu 0 zz) (some (n - i)) → Sat E (mkLp (lp Try.f26 0) J) ((fDp cs o n c Q).st 0 zz) := fun zz h1 h2 => hJ 0 zz h1 h2
  have hrl : r.length = n := k2.len
  by_cases hin : i < n
  · have hlt : decide ((i : Int) < (n : Int)) = true := decide_eq_true (by omega)
    obtain ⟨w, hw⟩ : ∃ w, ws[i]? = some w := ⟨_, List.getElem?_eq_getElem (by rw [hlen]; omega)⟩
    have hrd := hr.read1 (P := Try.prog) (ty := 26) (by kernel_rfl) rfl (i := i) (x := w) (by rw [hws]; exact hw) rfl rfl
    rw [← Nat.mul_one i] at hrd
    have htk : ws.take (i + 1) = ws.take i ++ [w] := by rw [List.take_add_one, hw]; rfl
    have ho := right_ok hR w (List.mem_of_getElem? hw)
    have htl : (ws.take i).length = i := by rw [List.length_take, hlen]; omega
    have hmu : n - (i + 1) < n - i := by omega
    obtain ⟨g1, g2⟩ := getD_mem (r := r) (i := i) (by omega)
    have hgr := k2.rr _ g1
    have hrg := rd_int g2
    have hmx : Value.int .i64 (maxI m (r.getD i 0)) = .int .i64 (max m (r.getD i 0)) := congrArg _ (by unfold maxI; split <;> omega)
    have hnx : depGo 0 (ws.take (i + 1)) (dep0 n) = depS i w (m, r) := by rw [htk, depGo_app, ← k3, htl, Nat.zero_add]; rfl
    have hok := depS_ok w k2 hin
    cases hl : lfB w
    · obtain ⟨_, d1, d2, d3, d4, d5, d6⟩ := good_inner (hgood i w hw) hl
      rw [hlen] at d5 d6
      obtain ⟨X, hX⟩ := Int.eq_ofNat_of_zero_le (show 0 ≤ uX w by omega)
      obtain ⟨Y, hY⟩ := Int.eq_ofNat_of_zero_le (show 0 ≤ uY w by omega)
      have hun := unp_inner ho hl
      rw [hX, hY] at hun
      have s1 := lsetE (e := eInt) (l := r) (k := X) (f := 0) (o := 0 + X * 1) (x := r.getD i 0 + 1) (vs := [.int .i64 (r.getD i 0 + 1)]) (List.getElem?_eq_getElem (by omega)) rfl (by simp [eInt])
      have s2 := lsetE (e := eInt) (l := r.set X (r.getD i 0 + 1)) (k := Y) (f := 0) (o := 0 + Y * 1) (x := r.getD i 0 + 1) (vs := [.int .i64 (r.getD i 0 + 1)]) (List.getElem?_eq_getElem (by rw [List.length_set]; omega)) rfl (by simp [eInt])
      have hdS : depS i w (m, r) = (max m (r.getD i 0), (r.set X (r.getD i 0 + 1)).set Y (r.getD i 0 + 1)) := by
        simp only [depS, sX, sY, ho, hl, Bool.and_false, Bool.not_false, Bool.and_self, cond_false, cond_true, hX, hY, Int.toNat_natCast]
      rw [hdS] at hnx hok
      exact dpI cs o n c Q i m (max m (r.getD i 0)) r _ _ w (uF w) (low32 w) X Y (r.getD i 0) (r.getD i 0 + 1) J hE okL ⟨rfl, ⟨⟨i + 1, max m (r.getD i 0), (r.set X (r.getD i 0 + 1)).set Y (r.getD i 0 + 1)⟩, ⟨hin, hok, hnx.symm⟩, hmu, rfl, by simp only [fDp, List.map_cons, List.map_nil, rnr, rni]⟩, i64_succ (by omega), s2, ⟨Int.natCast_nonneg _, Int.ofNat_lt.2 (by omega)⟩, s1, ⟨Int.natCast_nonneg _, Int.ofNat_lt.2 (by omega)⟩, (i64_id rfl (by omega) (by omega)), hrg, ⟨Int.natCast_nonneg _, Int.ofNat_lt.2 hin⟩, (i64_id rfl (by omega) (by omega)), hrg, ⟨Int.natCast_nonneg _, Int.ofNat_lt.2 hin⟩, hun, hU w (List.mem_of_getElem? hw), hmx, hrg, ⟨Int.natCast_nonneg _, Int.ofNat_lt.2 hin⟩, hrd, ⟨Int.natCast_nonneg _, Int.ofNat_lt.2 hin⟩, hlt, trivial⟩ hJ'
    · have hdS : depS i w (m, r) = (max m (r.getD i 0), r) := by simp only [depS, ho, hl, Bool.and_self, cond_true]
      rw [hdS] at hnx hok
      exact dpF cs o n c Q i m (max m (r.getD i 0)) r w (low32 w) (r.getD i 0) J hE okL ⟨rfl, ⟨⟨i + 1, max m (r.getD i 0), r⟩, ⟨hin, hok, hnx.symm⟩, hmu, rfl, by simp only [fDp, List.map_cons, List.map_nil, rnr, rni]⟩, i64_succ (by omega), unp_leaf ho hl, hU w (List.mem_of_getElem? hw), hmx, hrg, ⟨Int.natCast_nonneg _, Int.ofNat_lt.2 hin⟩, hrd, ⟨Int.natCast_nonneg _, Int.ofNat_lt.2 hin⟩, hlt, trivial⟩ hJ'
  · have hlt : decide ((i : Int) < (n : Int)) = false := decide_eq_false (by omega)
    rw [List.take_of_length_le (by omega)] at k3
    rw [← k3] at hE
    exact dpE cs o n c Q i m r J hE ⟨⟨rfl, rfl⟩, hlt, trivial⟩
def depth_F : RoF := fun xs css => match xs, css with
  | [.slice (some ⟨0, o, none⟩) n c], [cs] => some (.int .i64 (depGo 0 (eWord.list cs o n) (dep0 n)).1, [], [eWord.Row cs o n, ∀ w ∈ eWord.list cs o n, U64 w, n ≤ 65536, rightI (eWord.list cs o n) 4 = true])
  | [.slice none 0 0], [] => some (.int .i64 0, [], [])
  | _, _ => none
theorem depth_sum : SumOK Try.prog 26 (roSum depth_F) := by
  refine roSum_ok (en Try.func26 rfl) ?_ (fun xs css r h => ?_)
  · intro xs css v blks ob h hob hpl hl
    unfold depth_F at h
    split at h
    · rename_i o n c cs
      simp only [Option.some.injEq, Prod.mk.injEq] at h
      obtain ⟨rfl, rfl, rfl⟩ := h
      refine ⟨by simp, by simp, fun j hj => by simp [nms, nm1, nmL, nm0] at hj, ?_⟩
      exact depth_spec cs o n c (hob _ (List.mem_cons_self ..)) (hpl cs (by simp)) (hob _ (List.mem_cons_of_mem _ (List.mem_cons_self ..))) (hob _ (by simp)) (hob _ (by simp))
    · simp only [Option.some.injEq, Prod.mk.injEq] at h
      obtain ⟨rfl, rfl, rfl⟩ := h
      refine ⟨by simp, by simp, fun j hj => by simp [nms, nm1, nmL, nm0] at hj, ?_⟩
      exact spec_of_sat Try.func26 rfl fun E hE => dpNil () hE ⟨⟨rfl, rfl⟩, (fun x hx => by simp at hx), trivial⟩
    · simp at h
  · unfold depth_F at h
    split at h <;> simp at h <;> simp
end Go.Proofs.Ytnngaedhedbenaa.Tr


set_option linter.unusedVariables false
set_option linter.unusedSimpArgs false
set_option maxRecDepth 100000
namespace Go.Proofs.Ytnngaedhedbenaa.WkTreeRuns
open Go Go.RowKit Go.Proofs.Ytnngaedhedbenaa.Ev
theorem walk (w : World) : Calls Try.prog 8 #[] w fun e w' => e = .returned (.bool true) ∧ Below w.heap.size w w' :=
  (calls_runO hm (auto1_ok t_none_ok) noHint [] [] (by kernel_rfl) trivial).2.2 w
end Go.Proofs.Ytnngaedhedbenaa.WkTreeRuns


set_option linter.unusedVariables false
set_option linter.unusedSimpArgs false
set_option maxRecDepth 100000
namespace Go.Proofs.Ytnngaedhedbenaa.Tr
open Go Go.RowKit Go.Proofs.Ytnngaedhedbenaa.Ev Go.Proofs.Ytnngaedhedbenaa.NodeE Go.Proofs.Ytnngaedhedbenaa.Within Go.Proofs.Ytnngaedhedbenaa.PickE Go.Proofs.Ytnngaedhedbenaa.Tn Go.Proofs.Ytnngaedhedbenaa.Tr

def truns_F : List Value → Option (Value × List Prop)
  | [] => some (.bool true, [])
  | _ => none
theorem truns_sum : SumOK Try.prog 8 (sumOf truns_F) := by
  refine sumOf_ok (en Try.func8 rfl) fun args v ob h hob => ?_
  unfold truns_F at h
  split at h
  · obtain ⟨rfl, rfl⟩ := Prod.mk.inj (Option.some.inj h)
    exact ⟨rfl, rfl, WkTreeRuns.walk⟩
  · exact absurd h (by simp)
noncomputable def t_truns : Sums := upd t_runpack 8 (some (sumOf truns_F))
theorem t_truns_ok : SumsOK Try.prog t_truns := sums_cons t_runpack_ok truns_sum
noncomputable def ty_rightt (NI : List Int → List Int → List Int → List Int → Int → List Nd) : Sums := upd (t_nodes NI) 22 (some (roSum right_F))
theorem ty_rightt_ok (NI : List Int → List Int → List Int → List Int → Int → List Nd) : SumsOK Try.prog (ty_rightt NI) := sums_cons (t_nodes_ok NI) right_sum
noncomputable def ty_leavest (NI : List Int → List Int → List Int → List Int → Int → List Nd) : Sums := upd (ty_rightt NI) 25 (some (roSum leaves_F))
theorem ty_leavest_ok (NI : List Int → List Int → List Int → List Int → Int → List Nd) : SumsOK Try.prog (ty_leavest NI) := sums_cons (ty_rightt_ok NI) leaves_sum
noncomputable def ty_deptht (NI : List Int → List Int → List Int → List Int → Int → List Nd) : Sums := upd (ty_leavest NI) 26 (some (roSum depth_F))
theorem ty_deptht_ok (NI : List Int → List Int → List Int → List Int → Int → List Nd) : SumsOK Try.prog (ty_deptht NI) := sums_cons (ty_leavest_ok NI) depth_sum
noncomputable def ty_trunst (NI : List Int → List Int → List Int → List Int → Int → List Nd) : Sums := upd (ty_deptht NI) 8 (some (sumOf truns_F))
theorem ty_trunst_ok (NI : List Int → List Int → List Int → List Int → Int → List Nd) : SumsOK Try.prog (ty_trunst NI) := sums_cons (ty_deptht_ok NI) truns_sum
noncomputable abbrev t_ty (NI : List Int → List Int → List Int → List Int → Int → List Nd) : Sums := ty_trunst NI
theorem t_ty_ok (NI : List Int → List Int → List Int → List Int → Int → List Nd) : SumsOK Try.prog (t_ty NI) := ty_trunst_ok NI
def tyL (n : Nat) (ws : List Int) (what at_ : Int) (Q : Nat → Nat × List Int → Prop) : LoopF (Nat × List Int) where
  ts _ := [1, 2, 7, 8, 20, 21, 22]
  hs z := match z with | 0 => [10] | _ => [10, 13]
  tv z := fun ⟨i, out⟩ => [.int .i64 what, .int .i64 at_, .slice (some ⟨10, 0, none⟩) n mk, match z with | 0 => .slice none 0 0 | _ => .slice (some ⟨13, 0, none⟩) out.length mk, .slice (some ⟨10, 0, none⟩) n mk, .int .i64 (n : Int), .int .i64 (i : Int)]
  hv z := fun ⟨i, out⟩ => match z with | 0 => [.vec (eWord.row ws) 26 1] | _ => [.vec (eWord.row ws) 26 1, .vec (eInt.row out) 3 1]
  inv := Q
  mu _ := fun ⟨i, out⟩ => n - i
  nx := 14
theorem tyL_ok (n : Nat) (ws : List Int) (what at_ : Int) (Q : Nat → Nat × List Int → Prop) : (tyL n ws what at_ Q).OK 4 := by
  refine ⟨(by decide : 4 ≤ 14), fun z i h k hk => ?_, fun z i h v hv k hk => ?_, fun z i h x hx => ?_⟩
  · show k < 14
    match z with
    | 0 => simp [tyL] at hk; omega
    | z + 1 => simp [tyL] at hk; omega
  · show k < 14
    match z with
    | 0 =>
      simp [tyL] at hv
      repeat' (refine Or.elim hv (fun hv => ?_) (fun hv => ?_))
      all_goals (subst hv; simp [nms, nm1, nm0] at hk; try omega)
    | z + 1 =>
      simp [tyL] at hv
      repeat' (refine Or.elim hv (fun hv => ?_) (fun hv => ?_))
      all_goals (subst hv; simp [nms, nm1, nm0] at hk; try omega)
  · match z with
    | 0 =>
      simp [tyL] at hx
      subst hx
      exact Blk.plain.namesLt (b := .vec _ _ _) (Elt.row_pl _) _
    | z + 1 =>
      simp [tyL] at hx
      rcases hx with rfl | rfl
      · exact Blk.plain.namesLt (b := .vec _ _ _) (Elt.row_pl _) _
      · exact Blk.plain.namesLt (b := .vec _ _ _) (Elt.row_pl _) _
/-- Ahead of the switch: the inner node that is turned, the copy. -/
def tyW (n : Nat) (ws : List Int) (k f a x y s : Int) : LoopF Unit where
  ts _ := [7, 13, 14, 16, 17, 81]
  hs _ := [10, 20, 21]
  tv _ _ := [.slice (some ⟨10, 0, none⟩) n mk, .int .i64 k, .pointer (some ⟨20, 0, none⟩), .slice (some ⟨21, 0, none⟩) n mk, .int .i64 4, .int .i64 s]
  hv _ _ := [.vec (eWord.row ws) 26 1, .cells [.bool false, .int .i64 0, .int .i64 f, .int .i64 a, .int .i64 x, .int .i64 y] 23, .vec (eWord.row ws) 26 1]
  inv _ _ := True
  mu _ _ := 0
  nx := 22
theorem tyW_ok (n : Nat) (ws : List Int) (k f a x y s : Int) : (tyW n ws k f a x y s).OK 4 := by
  refine ⟨(by decide : 4 ≤ 22), fun z i h k hk => ?_, fun z i h v hv k hk => ?_, fun z i h x hx => ?_⟩
  · show k < 22
    simp [tyW] at hk; omega
  · show k < 22
    simp [tyW] at hv
    repeat' (refine Or.elim hv (fun hv => ?_) (fun hv => ?_))
    all_goals (subst hv; simp [nms, nm1, nm0] at hk; try omega)
  · simp [tyW] at hx
    rcases hx with rfl | rfl | rfl
    · exact Blk.plain.namesLt (b := .vec _ _ _) (Elt.row_pl _) _
    · exact Blk.plain.namesLt (b := .cells _ _) (nd_pl _ _ _ _ _ _) _
    · exact Blk.plain.namesLt (b := .vec _ _ _) (Elt.row_pl _) _
end Go.Proofs.Ytnngaedhedbenaa.Tr


set_option linter.unusedVariables false
set_option linter.unusedSimpArgs false
set_option maxRecDepth 100000
namespace Go.Proofs.Ytnngaedhedbenaa.Tr
open Go Go.RowKit Go.Proofs.Ytnngaedhedbenaa.Ev Go.Proofs.Ytnngaedhedbenaa.NodeE Go.Proofs.Ytnngaedhedbenaa.Within Go.Proofs.Ytnngaedhedbenaa.PickE Go.Proofs.Ytnngaedhedbenaa.Tn Go.Proofs.Ytnngaedhedbenaa.Tr

theorem tyIn (NI : List Int → List Int → List Int → List Int → Int → List Nd) (cl what at_ : Int) (r0 r1 r2 r3 : Rw) (n : Nat) (W : List Int) (Q : Nat → Nat × List Int → Prop)  {E : Env} {rv : Value} {rhs : List Nat} {rhv : List Blk} (hE : EnvOK E Try.prog Try.f11 3 4 rv rhs rhv) (hL : (tyL n W what at_ Q).OK 4) (hob : all ([SameK (atLp (lp Try.f11 0)) (atLp (lp Try.f11 0)), Enter (tyL n W what at_ Q) 0 none [Value.int IntKind.i64 what, Value.int IntKind.i64 at_, Value.slice (some (Addr.mk 16 0 none)) (NI (Rw.l r0) (Rw.l r1) (Rw.l r2) (Rw.l r3) 4).length 1267650600228229401496703205376, Value.slice none 0 0, Value.slice (some (Addr.mk 16 0 none)) (NI (Rw.l r0) (Rw.l r1) (Rw.l r2) (Rw.l r3) 4).length 1267650600228229401496703205376, Value.int IntKind.i64 (Int.ofNat (NI (Rw.l r0) (Rw.l r1) (Rw.l r2) (Rw.l r3) 4).length), Value.int IntKind.i64 ((0 : Int))] [Blk.vec (eWord.row (List.map packN (NI (Rw.l r0) (Rw.l r1) (Rw.l r2) (Rw.l r3) 4))) 26 1] [(10, 16), (10, 16)], plainR (cssZ r0 r1 r2 r3), NI = nodesI, (1 : Int) ≤ (4 : Int) ∧ (4 : Int) ≤ (1000 : Int)] ++ (Rw.ob2 r0 ++ (Rw.ob2 r1 ++ (Rw.ob2 r2 ++ (Rw.ob2 r3)))))) (hK : ∀ zz, (tyL n W what at_ Q).inv 0 zz → ltO ((tyL n W what at_ Q).mu 0 zz) none → Sat E (atLp (lp Try.f11 0)) ((tyL n W what at_ Q).st 0 zz)) : Sat E [.code (bodyOf Try.f11)] (st0 Try.f11 [.agg ⟨vsP 0 cl r0 r1 r2 r3⟩, .int .i64 what, .int .i64 at_] (rowsL [r0.o, r1.o, r2.o, r3.o]) 4) :=
  by
  obtain ⟨z0, cs0, n0, c0⟩ := r0
  obtain ⟨z1, cs1, n1, c1⟩ := r1
  obtain ⟨z2, cs2, n2, c2⟩ := r2
  obtain ⟨z3, cs3, n3, c3⟩ := r3
  cases z0 <;> cases z1 <;> cases z2 <;> cases z3 <;> exact by_to (T := auto0 (t_ty NI)) (h := hints []) (ws := [.stop]) (i0 := (0, [])) hE hm (auto0_ok (t_ty_ok NI)) hL (by kernel_rfl) hob hK
theorem tyF0 (NI : List Int → List Int → List Int → List Int → Int → List Nd) (n : Nat) (ws : List Int) (what at_ : Int) (Q : Nat → Nat × List Int → Prop) (i : Nat) (w v : Int) (J : Act → World → Prop) {E : Env} {rv : Value} {rhs : List Nat} {rhv : List Blk} (hE : EnvOK E Try.prog Try.f11 3 4 rv rhs rhv) (hL : (tyL n ws what at_ Q).OK 4) (hob : all ([SameK (mkLp (lp Try.f11 0) J) (mkLp (lp Try.f11 0) J), Enter (tyL n ws what at_ Q) 0 (some (n - i)) [Value.int IntKind.i64 what, Value.int IntKind.i64 at_, Value.slice (some (Addr.mk 10 0 none)) n 1267650600228229401496703205376, Value.slice none 0 0, Value.slice (some (Addr.mk 10 0 none)) n 1267650600228229401496703205376, Value.int IntKind.i64 ((n : Int)), Value.int IntKind.i64 (Int.ofNat i.succ)] [Blk.vec (eWord.row ws) 26 1] [(10, 10), (10, 10)], Value.int IntKind.i64 (IntKind.i64.wrap (Int.ofNat i.succ)) = Value.int IntKind.i64 (Int.ofNat i.succ), Value.tuple (Array.mk [Value.agg (Array.mk [Value.bool (okB w && lfB w), Value.int IntKind.i64 (sV w), Value.int IntKind.i64 (sF w), Value.int IntKind.i64 (sA w), Value.int IntKind.i64 (sX w), Value.int IntKind.i64 (sY w)]), Value.bool (okB w)]) = Value.tuple (Array.mk [Value.agg (Array.mk [Value.bool true, Value.int IntKind.i64 v, Value.int IntKind.i64 ((0 : Int)), Value.int IntKind.i64 ((0 : Int)), Value.int IntKind.i64 ((0 : Int)), Value.int IntKind.i64 ((0 : Int))]), Value.bool true]), U64 w, readPart Try.prog 26 (eWord.row ws) (0 + ((i : Int)).toNat * 1) = some (Value.int IntKind.u64 w), (0 : Int) ≤ (i : Int) ∧ (i : Int) < (n : Int), decide ((↑i : Int) < (↑n : Int)) = true])) (hK : ∀ zz, (tyL n ws what at_ Q).inv 0 zz → ltO ((tyL n ws what at_ Q).mu 0 zz) (some (n - i)) → Sat E (mkLp (lp Try.f11 0) J) ((tyL n ws what at_ Q).st 0 zz)) : Sat E (inLp (lp Try.f11 0) J) ((tyL n ws what at_ Q).st 0 (i, [])) :=
  by_to (T := auto0 (t_ty NI)) (h := hints [(5, 1, {p := true}), (5, 2, {o := some (.int .u64 w)}), (6, 1, {v := some (.tuple ⟨[nd true v 0 0 0 0, .bool true]⟩)}), (9, 0, {v := some (.int .i64 ((i + 1 : Nat) : Int))})]) (ws := [.b true]) (i0 := (i + 1, [])) hE hm (auto0_ok (t_ty_ok NI)) hL (by kernel_rfl) hob hK
theorem tyI0 (NI : List Int → List Int → List Int → List Int → Int → List Nd) (n : Nat) (ws : List Int) (what at_ : Int) (Q : Nat → Nat × List Int → Prop) (i : Nat) (w f a x y : Int) (out2 : List Int) (J : Act → World → Prop) {E : Env} {rv : Value} {rhs : List Nat} {rhv : List Blk} (hE : EnvOK E Try.prog Try.f11 3 4 rv rhs rhv) (hL : (tyL n ws what at_ Q).OK 4) (hob : all ([SameK (mkLp (lp Try.f11 0) J) (mkLp (lp Try.f11 0) J), Enter (tyL n ws what at_ Q) 1 (some (n - i)) [Value.int IntKind.i64 what, Value.int IntKind.i64 at_, Value.slice (some (Addr.mk 10 0 none)) n 1267650600228229401496703205376, Value.slice (some (Addr.mk 106 0 none)) 1 1267650600228229401496703205376, Value.slice (some (Addr.mk 10 0 none)) n 1267650600228229401496703205376, Value.int IntKind.i64 ((n : Int)), Value.int IntKind.i64 (Int.ofNat i.succ)] [Blk.vec (eWord.row ws) 26 1, Blk.vec (eInt.row out2) 3 1] [(10, 10), (13, 106), (10, 10)], Value.int IntKind.i64 (IntKind.i64.wrap (Int.ofNat i.succ)) = Value.int IntKind.i64 (Int.ofNat i.succ), AppOK none 0 0 1 8 1 [Value.int IntKind.i64 ((i : Int))] 0 (eInt.row out2), Value.tuple (Array.mk [Value.agg (Array.mk [Value.bool (okB w && lfB w), Value.int IntKind.i64 (sV w), Value.int IntKind.i64 (sF w), Value.int IntKind.i64 (sA w), Value.int IntKind.i64 (sX w), Value.int IntKind.i64 (sY w)]), Value.bool (okB w)]) = Value.tuple (Array.mk [Value.agg (Array.mk [Value.bool false, Value.int IntKind.i64 ((0 : Int)), Value.int IntKind.i64 f, Value.int IntKind.i64 a, Value.int IntKind.i64 x, Value.int IntKind.i64 y]), Value.bool true]), U64 w, readPart Try.prog 26 (eWord.row ws) (0 + ((i : Int)).toNat * 1) = some (Value.int IntKind.u64 w), (0 : Int) ≤ (i : Int) ∧ (i : Int) < (n : Int), decide ((↑i : Int) < (↑n : Int)) = true])) (hK : ∀ zz, (tyL n ws what at_ Q).inv 1 zz → ltO ((tyL n ws what at_ Q).mu 1 zz) (some (n - i)) → Sat E (mkLp (lp Try.f11 0) J) ((tyL n ws what at_ Q).st 1 zz)) : Sat E (inLp (lp Try.f11 0) J) ((tyL n ws what at_ Q).st 0 (i, [])) :=
  by_to (T := auto0 (t_ty NI)) (h := hints [(5, 1, {p := true}), (5, 2, {o := some (.int .u64 w)}), (6, 1, {v := some (.tuple ⟨[nd false 0 f a x y, .bool true]⟩)}), (8, 3, {c := some (eInt.row out2)}), (9, 0, {v := some (.int .i64 ((i + 1 : Nat) : Int))})]) (ws := [.b true]) (i0 := (i + 1, out2)) hE hm (auto0_ok (t_ty_ok NI)) hL (by kernel_rfl) hob hK
theorem tyF1 (NI : List Int → List Int → List Int → List Int → Int → List Nd) (n : Nat) (ws : List Int) (what at_ : Int) (Q : Nat → Nat × List Int → Prop) (i : Nat) (out : List Int) (w v : Int) (J : Act → World → Prop) {E : Env} {rv : Value} {rhs : List Nat} {rhv : List Blk} (hE : EnvOK E Try.prog Try.f11 3 4 rv rhs rhv) (hL : (tyL n ws what at_ Q).OK 4) (hob : all ([SameK (mkLp (lp Try.f11 0) J) (mkLp (lp Try.f11 0) J), Enter (tyL n ws what at_ Q) 1 (some (n - i)) [Value.int IntKind.i64 what, Value.int IntKind.i64 at_, Value.slice (some (Addr.mk 10 0 none)) n 1267650600228229401496703205376, Value.slice (some (Addr.mk 13 0 none)) out.length 1267650600228229401496703205376, Value.slice (some (Addr.mk 10 0 none)) n 1267650600228229401496703205376, Value.int IntKind.i64 ((n : Int)), Value.int IntKind.i64 (Int.ofNat i.succ)] [Blk.vec (eWord.row ws) 26 1, Blk.vec (eInt.row out) 3 1] [(10, 10), (13, 13), (10, 10)], Value.int IntKind.i64 (IntKind.i64.wrap (Int.ofNat i.succ)) = Value.int IntKind.i64 (Int.ofNat i.succ), Value.tuple (Array.mk [Value.agg (Array.mk [Value.bool (okB w && lfB w), Value.int IntKind.i64 (sV w), Value.int IntKind.i64 (sF w), Value.int IntKind.i64 (sA w), Value.int IntKind.i64 (sX w), Value.int IntKind.i64 (sY w)]), Value.bool (okB w)]) = Value.tuple (Array.mk [Value.agg (Array.mk [Value.bool true, Value.int IntKind.i64 v, Value.int IntKind.i64 ((0 : Int)), Value.int IntKind.i64 ((0 : Int)), Value.int IntKind.i64 ((0 : Int)), Value.int IntKind.i64 ((0 : Int))]), Value.bool true]), U64 w, readPart Try.prog 26 (eWord.row ws) (0 + ((i : Int)).toNat * 1) = some (Value.int IntKind.u64 w), (0 : Int) ≤ (i : Int) ∧ (i : Int) < (n : Int), decide ((↑i : Int) < (↑n : Int)) = true])) (hK : ∀ zz, (tyL n ws what at_ Q).inv 1 zz → ltO ((tyL n ws what at_ Q).mu 1 zz) (some (n - i)) → Sat E (mkLp (lp Try.f11 0) J) ((tyL n ws what at_ Q).st 1 zz)) : Sat E (inLp (lp Try.f11 0) J) ((tyL n ws what at_ Q).st 1 (i, out)) :=
  by_to (T := auto0 (t_ty NI)) (h := hints [(5, 1, {p := true}), (5, 2, {o := some (.int .u64 w)}), (6, 1, {v := some (.tuple ⟨[nd true v 0 0 0 0, .bool true]⟩)}), (9, 0, {v := some (.int .i64 ((i + 1 : Nat) : Int))})]) (ws := [.b true]) (i0 := (i + 1, out)) hE hm (auto0_ok (t_ty_ok NI)) hL (by kernel_rfl) hob hK
theorem tyI1 (NI : List Int → List Int → List Int → List Int → Int → List Nd) (n : Nat) (ws : List Int) (what at_ : Int) (Q : Nat → Nat × List Int → Prop) (i : Nat) (out : List Int) (w f a x y : Int) (out2 : List Int) (J : Act → World → Prop) {E : Env} {rv : Value} {rhs : List Nat} {rhv : List Blk} (hE : EnvOK E Try.prog Try.f11 3 4 rv rhs rhv) (hL : (tyL n ws what at_ Q).OK 4) (hob : all ([SameK (mkLp (lp Try.f11 0) J) (mkLp (lp Try.f11 0) J), Enter (tyL n ws what at_ Q) 1 (some (n - i)) [Value.int IntKind.i64 what, Value.int IntKind.i64 at_, Value.slice (some (Addr.mk 10 0 none)) n 1267650600228229401496703205376, Value.slice (some (Addr.mk 106 0 none)) (out.length + 1) 1267650600228229401496703205376, Value.slice (some (Addr.mk 10 0 none)) n 1267650600228229401496703205376, Value.int IntKind.i64 ((n : Int)), Value.int IntKind.i64 (Int.ofNat i.succ)] [Blk.vec (eWord.row ws) 26 1, Blk.vec (eInt.row out2) 3 1] [(10, 10), (13, 106), (10, 10)], Value.int IntKind.i64 (IntKind.i64.wrap (Int.ofNat i.succ)) = Value.int IntKind.i64 (Int.ofNat i.succ), AppOK (some (Blk.vec (eInt.row out) 3 1)) out.length 1267650600228229401496703205376 1 8 1 [Value.int IntKind.i64 ((i : Int))] 0 (eInt.row out2), Value.tuple (Array.mk [Value.agg (Array.mk [Value.bool (okB w && lfB w), Value.int IntKind.i64 (sV w), Value.int IntKind.i64 (sF w), Value.int IntKind.i64 (sA w), Value.int IntKind.i64 (sX w), Value.int IntKind.i64 (sY w)]), Value.bool (okB w)]) = Value.tuple (Array.mk [Value.agg (Array.mk [Value.bool false, Value.int IntKind.i64 ((0 : Int)), Value.int IntKind.i64 f, Value.int IntKind.i64 a, Value.int IntKind.i64 x, Value.int IntKind.i64 y]), Value.bool true]), U64 w, readPart Try.prog 26 (eWord.row ws) (0 + ((i : Int)).toNat * 1) = some (Value.int IntKind.u64 w), (0 : Int) ≤ (i : Int) ∧ (i : Int) < (n : Int), decide ((↑i : Int) < (↑n : Int)) = true])) (hK : ∀ zz, (tyL n ws what at_ Q).inv 1 zz → ltO ((tyL n ws what at_ Q).mu 1 zz) (some (n - i)) → Sat E (mkLp (lp Try.f11 0) J) ((tyL n ws what at_ Q).st 1 zz)) : Sat E (inLp (lp Try.f11 0) J) ((tyL n ws what at_ Q).st 1 (i, out)) :=
  by_to (T := auto0 (t_ty NI)) (h := hints [(5, 1, {p := true}), (5, 2, {o := some (.int .u64 w)}), (6, 1, {v := some (.tuple ⟨[nd false 0 f a x y, .bool true]⟩)}), (8, 3, {c := some (eInt.row out2)}), (9, 0, {v := some (.int .i64 ((i + 1 : Nat) : Int))})]) (ws := [.b true]) (i0 := (i + 1, out2)) hE hm (auto0_ok (t_ty_ok NI)) hL (by kernel_rfl) hob hK
theorem tyE0 (NI : List Int → List Int → List Int → List Int → Int → List Nd) (n : Nat) (ws : List Int) (what at_ : Int) (Q : Nat → Nat × List Int → Prop) (i : Nat) (J : Act → World → Prop) {E : Env} (hE : EnvOK E Try.prog Try.f11 3 4 (.bool true) [] []) (hob : all ([Back (Value.bool true) (Value.bool true) [] [] [], Value.bool ((n : Int) == (1 : Int)) = Value.bool true, Value.bool (rightI (eWord.list (eWord.row ws) 0 n) ((4 : Int))) = Value.bool true, plainR [eWord.row ws], eWord.Row (eWord.row ws) 0 n, ∀ (w : Int), w ∈ eWord.list (eWord.row ws) 0 n → U64 w, n ≤ 65536, Value.bool (rightI (eWord.list (eWord.row ws) 0 n) ((4 : Int))) = Value.bool true, plainR [eWord.row ws], eWord.Row (eWord.row ws) 0 n, ∀ (w : Int), w ∈ eWord.list (eWord.row ws) 0 n → U64 w, n ≤ 65536, decide ((↑i : Int) < (↑n : Int)) = false])) : Sat E (inLp (lp Try.f11 0) J) ((tyL n ws what at_ Q).st 0 (i, [])) :=
  by_ret (T := auto0 (t_ty NI)) (h := hints [(10, 1, ht true), (11, 1, ht true), (11, 5, ht true)]) (ws := [.b false, .go]) (nx' := 4) hE hm (auto0_ok (t_ty_ok NI)) (by omega) (by simp) (by simp) (by kernel_rfl) hob
theorem tyE1 (NI : List Int → List Int → List Int → List Int → Int → List Nd) (n : Nat) (ws : List Int) (what at_ : Int) (Q : Nat → Nat × List Int → Prop) (i j : Nat) (out : List Int) (k : Nat) (lm1 w f a x y s : Int) (J : Act → World → Prop) {E : Env} {rv : Value} {rhs : List Nat} {rhv : List Blk} (hE : EnvOK E Try.prog Try.f11 3 4 rv rhs rhv) (hL : (tyW n ws k f a x y s).OK 4) (hob : all ([SameK (fromR Try.f11 18) (fromR Try.f11 18), Enter (tyW n ws (↑k : Int) f a x y s) 0 none [Value.slice (some (Addr.mk 10 0 none)) n 1267650600228229401496703205376, Value.int IntKind.i64 ((k : Int)), Value.pointer (some (Addr.mk 118 0 none)), Value.slice (some (Addr.mk 138 0 none)) (0 + n) 1267650600228229401496703205376, Value.int IntKind.i64 ((4 : Int)), Value.int IntKind.i64 s] [Blk.vec (eWord.row ws) 26 1, Blk.cells [Value.bool false, Value.int IntKind.i64 ((0 : Int)), Value.int IntKind.i64 f, Value.int IntKind.i64 a, Value.int IntKind.i64 x, Value.int IntKind.i64 y] 23, Blk.vec (eWord.row ws) 26 1] [(10, 10), (20, 118), (21, 138)], Value.int IntKind.i64 (withinS what ((0 : Int)) ((6 : Int))) = Value.int IntKind.i64 s, I64 what, (-2305843009213693952 : Int) ≤ (0 : Int), (0 : Int) ≤ (6 : Int), (6 : Int) ≤ (2305843009213693952 : Int), AppOK (some (Blk.cells [] 26)) 0 0 1 8 n (eWord.row ws) 0 (eWord.row ws), Value.tuple (Array.mk [Value.agg (Array.mk [Value.bool (okB w && lfB w), Value.int IntKind.i64 (sV w), Value.int IntKind.i64 (sF w), Value.int IntKind.i64 (sA w), Value.int IntKind.i64 (sX w), Value.int IntKind.i64 (sY w)]), Value.bool (okB w)]) = Value.tuple (Array.mk [Value.agg (Array.mk [Value.bool false, Value.int IntKind.i64 ((0 : Int)), Value.int IntKind.i64 f, Value.int IntKind.i64 a, Value.int IntKind.i64 x, Value.int IntKind.i64 y]), Value.bool true]), U64 w, readPart Try.prog 26 (eWord.row ws) (0 + ((k : Int)).toNat * 1) = some (Value.int IntKind.u64 w), (0 : Int) ≤ (k : Int) ∧ (k : Int) < (n : Int), readPart Try.prog 3 (eInt.row out) (0 + ((j : Int)).toNat * 1) = some (Value.int IntKind.i64 ((k : Int))), (0 : Int) ≤ (j : Int) ∧ (j : Int) < Int.ofNat out.length, Value.int IntKind.i64 (withinS at_ ((0 : Int)) lm1) = Value.int IntKind.i64 ((j : Int)), I64 at_, (-2305843009213693952 : Int) ≤ (0 : Int), (0 : Int) ≤ lm1, lm1 ≤ (2305843009213693952 : Int), Value.int IntKind.i64 (IntKind.i64.wrap (Int.ofNat out.length - (1 : Int))) = Value.int IntKind.i64 lm1, Value.bool (Int.ofNat out.length == (0 : Int)) = Value.bool false, Value.bool (rightI (eWord.list (eWord.row ws) 0 n) ((4 : Int))) = Value.bool true, plainR [eWord.row ws], eWord.Row (eWord.row ws) 0 n, ∀ (w : Int), w ∈ eWord.list (eWord.row ws) 0 n → U64 w, n ≤ 65536, decide ((↑i : Int) < (↑n : Int)) = false])) (hK : ∀ zz, (tyW n ws k f a x y s).inv 0 zz → ltO ((tyW n ws k f a x y s).mu 0 zz) none → Sat E (fromR Try.f11 18) ((tyW n ws k f a x y s).st 0 zz)) : Sat E (inLp (lp Try.f11 0) J) ((tyL n ws what at_ Q).st 1 (i, out)) :=
  by_to (T := auto0 (t_ty NI)) (h := hints [(10, 1, ht true), (10, 6, ht false), (12, 4, {v := some (.int .i64 lm1)}), (12, 5, {v := some (.int .i64 (j : Int))}), (12, 6, {p := true}), (12, 7, {o := some (.int .i64 (k : Int))}), (13, 2, {p := true}), (13, 3, {o := some (.int .u64 w)}), (13, 4, {v := some (.tuple ⟨[nd false 0 f a x y, .bool true]⟩)}), (14, 2, {c := some (eWord.row ws)}), (16, 1, {v := some (.int .i64 s)})]) (ws := [.b false, .go, .at 18]) (i0 := ()) hE hm (auto0_ok (t_ty_ok NI)) hL (by kernel_rfl) hob hK
theorem tyZ0 (NI : List Int → List Int → List Int → List Int → Int → List Nd) (n k : Nat) (ws : List Int) (f a x y : Int) (l1 w2 : Int) (ws2 : List Int)  {E : Env} (hE : EnvOK E Try.prog Try.f11 3 4 (.bool true) [] []) (hob : all ([Back (Value.bool true) (Value.bool true) [] [] [], plainR [], plainR [], Value.bool (rightI (eWord.list (eWord.row ws2) 0 n) ((4 : Int))) = Value.bool false, plainR [eWord.row ws2], eWord.Row (eWord.row ws2) 0 n, ∀ (w : Int), w ∈ eWord.list (eWord.row ws2) 0 n → U64 w, n ≤ 65536, decide (y ≥ 31) = false, lset (eWord.row ws) (0 + ((k : Int)).toNat * 1) [Value.int IntKind.u64 w2] = some (eWord.row ws2), (0 : Int) ≤ (k : Int) ∧ (k : Int) < (n : Int), Value.int IntKind.u64 (packS false ((0 : Int)) f a y y) = Value.int IntKind.u64 w2, I64 ((0 : Int)), I64 a, Value.int IntKind.i64 (minI ((k : Int)) l1) = Value.int IntKind.i64 ((k : Int)), Value.int IntKind.i64 (IntKind.i64.wrap ((n : Int) - (1 : Int))) = Value.int IntKind.i64 l1, decide (y < 31) = true])) : Sat E (fromR Try.f11 18) ((tyW n ws k f a x y 0).st 0 ()) :=
  by_ret (T := auto0 (t_ty NI)) (h := hints [(32, 4, {v := some (.int .i64 l1)}), (32, 5, {v := some (.int .i64 (k : Int))}), (32, 7, {v := some (.int .u64 w2)}), (32, 8, {p := true}), (32, 9, {c := some (eWord.row ws2)}), (35, 2, ht false)]) (ws := [.go, .b true, .b false]) (nx' := 4) hE hm (auto0_ok (t_ty_ok NI)) (by omega) (by simp) (by simp) (by kernel_rfl) hob
theorem tyZ1 (NI : List Int → List Int → List Int → List Int → Int → List Nd) (n k : Nat) (ws : List Int) (f a x y : Int) (l1 w2 : Int) (ws2 : List Int)  {E : Env} (hE : EnvOK E Try.prog Try.f11 3 4 (.bool true) [] []) (hob : all ([Back (Value.bool true) (Value.bool true) [] [] [], plainR [], plainR [], Value.bool (rightI (eWord.list (eWord.row ws2) 0 n) ((4 : Int))) = Value.bool false, plainR [eWord.row ws2], eWord.Row (eWord.row ws2) 0 n, ∀ (w : Int), w ∈ eWord.list (eWord.row ws2) 0 n → U64 w, n ≤ 65536, decide ((↑n : Int) ≥ 31) = false, lset (eWord.row ws) (0 + ((k : Int)).toNat * 1) [Value.int IntKind.u64 w2] = some (eWord.row ws2), (0 : Int) ≤ (k : Int) ∧ (k : Int) < (n : Int), Value.int IntKind.u64 (packS false ((0 : Int)) f a x ((n : Int))) = Value.int IntKind.u64 w2, I64 ((0 : Int)), I64 a, Value.int IntKind.i64 (minI ((k : Int)) l1) = Value.int IntKind.i64 ((k : Int)), Value.int IntKind.i64 (IntKind.i64.wrap ((n : Int) - (1 : Int))) = Value.int IntKind.i64 l1, decide ((↑n : Int) < 31) = true])) : Sat E (fromR Try.f11 18) ((tyW n ws k f a x y 1).st 0 ()) :=
  by_ret (T := auto0 (t_ty NI)) (h := hints [(32, 4, {v := some (.int .i64 l1)}), (32, 5, {v := some (.int .i64 (k : Int))}), (32, 7, {v := some (.int .u64 w2)}), (32, 8, {p := true}), (32, 9, {c := some (eWord.row ws2)}), (35, 2, ht false)]) (ws := [.go, .go, .b true, .b false]) (nx' := 4) hE hm (auto0_ok (t_ty_ok NI)) (by omega) (by simp) (by simp) (by kernel_rfl) hob
theorem tyZ2 (NI : List Int → List Int → List Int → List Int → Int → List Nd) (n k : Nat) (ws : List Int) (f a x y : Int) (m : Int) (l1 w2 : Int) (ws2 : List Int)  {E : Env} (hE : EnvOK E Try.prog Try.f11 3 4 (.bool true) [] []) (hob : all ([Back (Value.bool true) (Value.bool true) [] [] [], plainR [], plainR [], Value.bool (rightI (eWord.list (eWord.row ws2) 0 n) ((4 : Int))) = Value.bool false, plainR [eWord.row ws2], eWord.Row (eWord.row ws2) 0 n, ∀ (w : Int), w ∈ eWord.list (eWord.row ws2) 0 n → U64 w, n ≤ 65536, decide (m ≥ 31) = false, lset (eWord.row ws) (0 + ((k : Int)).toNat * 1) [Value.int IntKind.u64 w2] = some (eWord.row ws2), (0 : Int) ≤ (k : Int) ∧ (k : Int) < (n : Int), Value.int IntKind.u64 (packS false ((0 : Int)) f a m m) = Value.int IntKind.u64 w2, I64 ((0 : Int)), I64 a, Value.int IntKind.i64 (minI ((k : Int)) l1) = Value.int IntKind.i64 ((k : Int)), Value.int IntKind.i64 (IntKind.i64.wrap ((n : Int) - (1 : Int))) = Value.int IntKind.i64 l1, decide (m < 31) = true, Value.int IntKind.i64 (maxI ((k : Int)) ((1 : Int))) = Value.int IntKind.i64 m, Value.int IntKind.i64 (maxI ((k : Int)) ((1 : Int))) = Value.int IntKind.i64 m])) : Sat E (fromR Try.f11 18) ((tyW n ws k f a x y 2).st 0 ()) :=
  by_ret (T := auto0 (t_ty NI)) (h := hints [(23, 1, {v := some (.int .i64 m)}), (24, 1, {v := some (.int .i64 m)}), (32, 4, {v := some (.int .i64 l1)}), (32, 5, {v := some (.int .i64 (k : Int))}), (32, 7, {v := some (.int .u64 w2)}), (32, 8, {p := true}), (32, 9, {c := some (eWord.row ws2)}), (35, 2, ht false)]) (ws := [.go, .go, .go, .b true, .b false]) (nx' := 4) hE hm (auto0_ok (t_ty_ok NI)) (by omega) (by simp) (by simp) (by kernel_rfl) hob
theorem tyZ3 (NI : List Int → List Int → List Int → List Int → Int → List Nd) (n k : Nat) (ws : List Int) (f a x y : Int) (p0 : Int) (ws1 : List Int) (l1 w2 : Int) (ws2 : List Int)  {E : Env} (hE : EnvOK E Try.prog Try.f11 3 4 (.bool true) [] []) (hob : all ([Back (Value.bool true) (Value.bool true) [] [] [], plainR [], plainR [], Value.bool (rightI (eWord.list (eWord.row ws2) 0 (n + 1)) ((4 : Int))) = Value.bool false, plainR [eWord.row ws2], eWord.Row (eWord.row ws2) 0 (n + 1), ∀ (w : Int), w ∈ eWord.list (eWord.row ws2) 0 (n + 1) → U64 w, n + 1 ≤ 65536, decide (y ≥ 31) = false, lset (eWord.row ws1) (0 + ((k : Int)).toNat * 1) [Value.int IntKind.u64 w2] = some (eWord.row ws2), (0 : Int) ≤ (k : Int) ∧ (k : Int) < Int.ofNat n.succ, Value.int IntKind.u64 (packS false ((0 : Int)) f a x y) = Value.int IntKind.u64 w2, I64 ((0 : Int)), I64 a, Value.int IntKind.i64 (minI ((k : Int)) l1) = Value.int IntKind.i64 ((k : Int)), Value.int IntKind.i64 (IntKind.i64.wrap (Int.ofNat n.succ - (1 : Int))) = Value.int IntKind.i64 l1, decide (y < 31) = true, AppOK (some (Blk.vec (eWord.row ws) 26 1)) n 1267650600228229401496703205376 1 8 1 [Value.int IntKind.u64 p0] 0 (eWord.row ws1), Value.int IntKind.u64 ((9223372036854775808 : Int)) = Value.int IntKind.u64 p0, I64 ((0 : Int)), I64 ((0 : Int))])) : Sat E (fromR Try.f11 18) ((tyW n ws k f a x y 3).st 0 ()) :=
  by_ret (T := auto0 (t_ty NI)) (h := hints [(26, 2, {v := some (.int .u64 p0)}), (26, 4, {c := some (eWord.row ws1)}), (32, 4, {v := some (.int .i64 l1)}), (32, 5, {v := some (.int .i64 (k : Int))}), (32, 7, {v := some (.int .u64 w2)}), (32, 8, {p := true}), (32, 9, {c := some (eWord.row ws2)}), (35, 2, ht false)]) (ws := [.go, .go, .go, .go, .b true, .b false]) (nx' := 4) hE hm (auto0_ok (t_ty_ok NI)) (by omega) (by simp) (by simp) (by kernel_rfl) hob
theorem tyZ4 (NI : List Int → List Int → List Int → List Int → Int → List Nd) (n k : Nat) (ws : List Int) (f a x y : Int) (l1 w2 : Int) (ws2 : List Int)  {E : Env} (hE : EnvOK E Try.prog Try.f11 3 4 (.bool true) [] []) (hob : all ([Back (Value.bool true) (Value.bool true) [] [] [], plainR [], plainR [], Value.bool (rightI (eWord.list (eWord.row ws2) 0 n) f) = Value.bool false, plainR [eWord.row ws2], eWord.Row (eWord.row ws2) 0 n, ∀ (w : Int), w ∈ eWord.list (eWord.row ws2) 0 n → U64 w, n ≤ 65536, decide (y ≥ 31) = false, lset (eWord.row ws) (0 + ((k : Int)).toNat * 1) [Value.int IntKind.u64 w2] = some (eWord.row ws2), (0 : Int) ≤ (k : Int) ∧ (k : Int) < (n : Int), Value.int IntKind.u64 (packS false ((0 : Int)) f a x y) = Value.int IntKind.u64 w2, I64 ((0 : Int)), I64 a, Value.int IntKind.i64 (minI ((k : Int)) l1) = Value.int IntKind.i64 ((k : Int)), Value.int IntKind.i64 (IntKind.i64.wrap ((n : Int) - (1 : Int))) = Value.int IntKind.i64 l1, decide (y < 31) = true])) : Sat E (fromR Try.f11 18) ((tyW n ws k f a x y 4).st 0 ()) :=
  by_ret (T := auto0 (t_ty NI)) (h := hints [(32, 4, {v := some (.int .i64 l1)}), (32, 5, {v := some (.int .i64 (k : Int))}), (32, 7, {v := some (.int .u64 w2)}), (32, 8, {p := true}), (32, 9, {c := some (eWord.row ws2)}), (35, 2, ht false)]) (ws := [.go, .go, .go, .go, .go, .b true, .b false]) (nx' := 4) hE hm (auto0_ok (t_ty_ok NI)) (by omega) (by simp) (by simp) (by kernel_rfl) hob
theorem tyZ5 (NI : List Int → List Int → List Int → List Int → Int → List Nd) (n k : Nat) (ws : List Int) (f a x y : Int) (n1 : Nat) (l1 w2 : Int) (ws2 : List Int)  {E : Env} (hE : EnvOK E Try.prog Try.f11 3 4 (.bool true) [] []) (hob : all ([Back (Value.bool true) (Value.bool true) [] [] [], plainR [], plainR [], Value.bool (rightI (eWord.list (eWord.row ws2) 0 n1) ((4 : Int))) = Value.bool false, plainR [eWord.row ws2], eWord.Row (eWord.row ws2) 0 n1, ∀ (w : Int), w ∈ eWord.list (eWord.row ws2) 0 n1 → U64 w, n1 ≤ 65536, decide (y ≥ 31) = false, lset (eWord.row ws) (0 + ((k : Int)).toNat * 1) [Value.int IntKind.u64 w2] = some (eWord.row ws2), (0 : Int) ≤ (k : Int) ∧ (k : Int) < (n1 : Int), Value.int IntKind.u64 (packS false ((0 : Int)) f a x y) = Value.int IntKind.u64 w2, I64 ((0 : Int)), I64 a, Value.int IntKind.i64 (minI ((k : Int)) l1) = Value.int IntKind.i64 ((k : Int)), Value.int IntKind.i64 (IntKind.i64.wrap ((n1 : Int) - (1 : Int))) = Value.int IntKind.i64 l1, decide (y < 31) = true, SlOK 1 21 0 n 1267650600228229401496703205376 none (some ((n1 : Int))) (some (Blk.vec (eWord.row ws) 26 1)) (Value.slice (some (Addr.mk 21 0 none)) n1 1267650600228229401496703205376), Value.int IntKind.i64 (IntKind.i64.wrap ((n : Int) - (1 : Int))) = Value.int IntKind.i64 ((n1 : Int))])) : Sat E (fromR Try.f11 18) ((tyW n ws k f a x y 5).st 0 ()) :=
  by_ret (T := auto0 (t_ty NI)) (h := hints [(30, 3, {v := some (.int .i64 (n1 : Int))}), (30, 4, {o := some (.slice (some ⟨21, 0, none⟩) n1 mk)}), (32, 4, {v := some (.int .i64 l1)}), (32, 5, {v := some (.int .i64 (k : Int))}), (32, 7, {v := some (.int .u64 w2)}), (32, 8, {p := true}), (32, 9, {c := some (eWord.row ws2)}), (35, 2, ht false)]) (ws := [.go, .go, .go, .go, .go, .go, .b true, .b false]) (nx' := 4) hE hm (auto0_ok (t_ty_ok NI)) (by omega) (by simp) (by simp) (by kernel_rfl) hob
theorem tyZ6 (NI : List Int → List Int → List Int → List Int → Int → List Nd) (n k : Nat) (ws : List Int) (f a x y : Int) (n1 : Nat) (ws1 : List Int) (l1 w2 : Int) (ws2 : List Int)  {E : Env} (hE : EnvOK E Try.prog Try.f11 3 4 (.bool true) [] []) (hob : all ([Back (Value.bool true) (Value.bool true) [] [] [], plainR [], plainR [], Value.bool (rightI (eWord.list (eWord.row ws2) 0 n) ((4 : Int))) = Value.bool false, plainR [eWord.row ws2], eWord.Row (eWord.row ws2) 0 n, ∀ (w : Int), w ∈ eWord.list (eWord.row ws2) 0 n → U64 w, n ≤ 65536, decide (y ≥ 31) = false, lset (eWord.row ws1) (0 + ((k : Int)).toNat * 1) [Value.int IntKind.u64 w2] = some (eWord.row ws2), (0 : Int) ≤ (k : Int) ∧ (k : Int) < (n : Int), Value.int IntKind.u64 (packS false ((0 : Int)) f a x y) = Value.int IntKind.u64 w2, I64 ((0 : Int)), I64 a, Value.int IntKind.i64 (minI ((k : Int)) l1) = Value.int IntKind.i64 ((k : Int)), Value.int IntKind.i64 (IntKind.i64.wrap ((n : Int) - (1 : Int))) = Value.int IntKind.i64 l1, decide (y < 31) = true, lset (eWord.row ws) (0 + ((n1 : Int)).toNat * 1) [Value.int IntKind.u64 0] = some (eWord.row ws1), (0 : Int) ≤ (n1 : Int) ∧ (n1 : Int) < (n : Int), Value.int IntKind.i64 (IntKind.i64.wrap ((n : Int) - (1 : Int))) = Value.int IntKind.i64 ((n1 : Int))])) : Sat E (fromR Try.f11 18) ((tyW n ws k f a x y 6).st 0 ()) :=
  by_ret (T := auto0 (t_ty NI)) (h := hints [(17, 3, {v := some (.int .i64 (n1 : Int))}), (17, 4, {p := true}), (17, 5, {c := some (eWord.row ws1)}), (32, 4, {v := some (.int .i64 l1)}), (32, 5, {v := some (.int .i64 (k : Int))}), (32, 7, {v := some (.int .u64 w2)}), (32, 8, {p := true}), (32, 9, {c := some (eWord.row ws2)}), (35, 2, ht false)]) (ws := [.go, .go, .go, .go, .go, .go, .b true, .b false]) (nx' := 4) hE hm (auto0_ok (t_ty_ok NI)) (by omega) (by simp) (by simp) (by kernel_rfl) hob
end Go.Proofs.Ytnngaedhedbenaa.Tr


set_option linter.unusedVariables false
set_option linter.unusedSimpArgs false
set_option maxRecDepth 100000
namespace Go.Proofs.Ytnngaedhedbenaa.WkTreeTurned
open Go Go.RowKit Go.Proofs.Ytnngaedhedbenaa.Ev Go.Proofs.Ytnngaedhedbenaa.NodeE Go.Proofs.Ytnngaedhedbenaa.Within Go.Proofs.Ytnngaedhedbenaa.PickE Go.Proofs.Ytnngaedhedbenaa.Tn Go.Proofs.Ytnngaedhedbenaa.Tr Go.Proofs.Ytnngaedhedbenaa.BitLib

theorem pack_in {f a x y : Int} (hf : 0 ≤ f ∧ f < 4) (ha : -2147483648 ≤ a ∧ a ≤ 2147483647) (hx : 1 ≤ x ∧ x < 31) (hy : 1 ≤ y ∧ y < 31) :
    U64 (packS false 0 f a x y) ∧ okB (packS false 0 f a x y) = true ∧ lfB (packS false 0 f a x y) = false ∧ uF (packS false 0 f a x y) = f ∧ uX (packS false 0 f a x y) = x ∧ uY (packS false 0 f a x y) = y := by
  have hr : rightN ⟨false, 0, f, a, x, y⟩ = true := by
    show rightB false 0 f a x y = true
    simp [rightB, fitB, chB]; omega
  obtain ⟨h1, h2, h3, _, h5⟩ := pack_tells hr
  obtain ⟨e1, _, e3, e4⟩ := h5 rfl
  exact ⟨h1, h2, h3, e1, e3, e4⟩
theorem pack_own {w : Int} (ho : okB w = true) (hl : lfB w = false) : packS false 0 (uF w) (low32 w) (uX w) (uY w) = w := by
  have := (ok_parts ho).2
  simpa only [pkB, hl, cond_false] using this
/-- A tree of which a word is none that fits. -/
theorem set_bad {ws : List Int} {k : Nat} {v dim : Int} (hk : k < ws.length) (h : goodW dim ws.length k v = false) : rightI (ws.set k v) dim = false :=
  right_bad (List.getElem?_set_self hk) (by rw [List.length_set]; exact h)
theorem same_xy {dim : Int} {n i : Nat} {v : Int} (hl : lfB v = false) (h : uX v = uY v) : goodW dim n i v = false := by
  cases hg : goodW dim n i v
  · rfl
  · exact absurd h (good_inner hg hl).2.2.1
theorem out_y {dim : Int} {n i : Nat} {v : Int} (hl : lfB v = false) (h : (n : Int) ≤ uY v) : goodW dim n i v = false := by
  cases hg : goodW dim n i v
  · rfl
  · have := (good_inner hg hl).2.2.2.2.2.2; omega
theorem out_x {dim : Int} {n i : Nat} {v : Int} (hl : lfB v = false) (h : (n : Int) ≤ uX v) : goodW dim n i v = false := by
  cases hg : goodW dim n i v
  · rfl
  · have := (good_inner hg hl).2.2.2.2.2.1; omega
theorem out_f {dim : Int} {n i : Nat} {v : Int} (hl : lfB v = false) (h : dim ≤ uF v) : goodW dim n i v = false := by
  cases hg : goodW dim n i v
  · rfl
  · have := (good_inner hg hl).2.1; omega
theorem bad_zero {dim : Int} {n i : Nat} : goodW dim n i 0 = false := by simp [goodW, ok_zero]
/-- Names beyond a right tree: none. -/
theorem named_out {ws : List Int} {dim : Int} (h : rightI ws dim = true) : named ws (ws.length : Int) = 0 := by
  unfold named
  rw [List.count_eq_zero]
  intro hm
  obtain ⟨w, hw, hm⟩ := List.mem_flatMap.1 hm
  obtain ⟨j, hj⟩ := List.mem_iff_getElem?.1 hw
  cases hl : lfB w
  · obtain ⟨_, _, _, _, _, a, b⟩ := good_inner ((right_parts.1 h).2.1 j w hj) hl
    simp [namesW, hl] at hm
    omega
  · simp [namesW, hl] at hm
/-- With a leaf more. -/
theorem more_bad {ws : List Int} {v : Int} (h : rightI ws 4 = true) (hl : lfB v = true) : rightI (ws ++ [v]) 4 = false := by
  refine right_once (k := ws.length) (right_parts.1 h).1.1 (by simp) ?_
  rw [named_snoc, named_out h]
  simp [namesW, hl]
/-- Without its last one. -/
theorem less_bad {ws : List Int} (h : rightI ws 4 = true) (h2 : 2 ≤ ws.length) : rightI (ws.take (ws.length - 1)) 4 = false := by
  have h1 := (right_parts.1 h).2.2 (ws.length - 1) (by omega) (by omega)
  have hm : ((ws.length - 1 : Nat) : Int) ∈ ws.flatMap namesW := by
    refine List.count_pos_iff.1 ?_
    unfold named at h1
    omega
  obtain ⟨w, hw, hm⟩ := List.mem_flatMap.1 hm
  obtain ⟨j, hj⟩ := List.mem_iff_getElem?.1 hw
  cases hl : lfB w
  · obtain ⟨_, _, _, a, b, c, d⟩ := good_inner ((right_parts.1 h).2.1 j w hj) hl
    simp only [namesW, hl, cond_false, List.mem_cons, List.not_mem_nil, or_false] at hm
    have hjl : j < ws.length - 1 := by omega
    have htl : (ws.take (ws.length - 1)).length = ws.length - 1 := by rw [List.length_take]; omega
    have hjt : (ws.take (ws.length - 1))[j]? = some w := by rw [List.getElem?_take, if_pos hjl]; exact hj
    rcases hm with hm | hm
    · exact right_bad hjt (out_x hl (by rw [htl]; omega))
    · exact right_bad hjt (out_y hl (by rw [htl]; omega))
  · simp [namesW, hl] at hm
theorem no_inner {ws : List Int} (h : rightI ws 4 = true) (hl : ∀ (j : Nat) (w : Int), j < ws.length → ws[j]? = some w → lfB w = true) : ws.length = 1 := by
  obtain ⟨⟨h1, _⟩, _, h3⟩ := right_parts.1 h
  by_cases h2 : 1 < ws.length
  · have := h3 1 (Nat.le_refl _) h2
    have h0 : named ws ((1 : Nat) : Int) = 0 := by
      unfold named
      rw [List.count_eq_zero]
      intro hm
      obtain ⟨w, hw, hm⟩ := List.mem_flatMap.1 hm
      obtain ⟨j, hj⟩ := List.mem_iff_getElem?.1 hw
      simp [namesW, hl j w (List.getElem?_eq_some_iff.1 hj).1 hj] at hm
    omega
  · omega
theorem set_same {ws : List Int} {k : Nat} {w : Int} (h : ws[k]? = some w) : ws.set k w = ws := by
  obtain ⟨h1, rfl⟩ := List.getElem?_eq_some_iff.1 h
  exact List.set_getElem_self h1
theorem lset_w {l : List Int} {k : Nat} {v y : Int} (hk : l[k]? = some y) : lset (eWord.row l) (0 + ((k : Nat) : Int).toNat * 1) [.int .u64 v] = some (eWord.row (l.set k v)) := by
  rw [Int.toNat_natCast]
  exact lsetE (e := eWord) (l := l) (k := k) (f := 0) (o := 0 + k * 1) (x := v) (vs := [.int .u64 v]) hk rfl (by simp [eWord])

theorem fin {E : Env} (NI : List Int → List Int → List Int → List Int → Int → List Nd) {n : Nat} {ws : List Int} {k : Nat} {w s : Int} (hE : EnvOK E Try.prog Try.f11 3 4 (.bool true) [] []) (hn : ws.length = n) (hR : rightI ws 4 = true) (hU : ∀ w ∈ ws, U64 w) (h15 : n ≤ 15) (hk : ws[k]? = some w) (hl : lfB w = false) (hs : 0 ≤ s ∧ s ≤ 6) (zz : Unit) :
    Sat E (fromR Try.f11 18) ((tyW n ws k (uF w) (low32 w) (uX w) (uY w) s).st 0 zz) := by
  have hg := (right_parts.1 hR).2.1 k w hk
  obtain ⟨ho, d1, d2, d3, d4, d5, d6⟩ := good_inner hg hl
  rw [hn] at d5 d6
  obtain ⟨hf, hx, hy⟩ := inner_bounds ho hl
  have ha := low32_r w
  have hkn : k < n := by omega
  have hown := pack_own ho hl
  have hlow : I64 (low32 w) := low32_i w
  have i0' : I64 0 := ⟨by decide, by decide⟩
  have pl0 : plainR [] := fun x hx => by simp at hx
  have nw : ∀ (l : List Int) (m : Nat), m ≤ l.length → eWord.list (eWord.row l) 0 m = l.take m := fun l m h => listM h
  have U0 : U64 0 := ⟨by decide, by decide⟩
  have hset : ∀ (v : Int), U64 v → ∀ x ∈ ws.set k v, U64 x := fun v hv x hx => by
    rcases List.mem_or_eq_of_mem_set hx with h | rfl
    · exact hU x h
    · exact hv
  have hc : s = 0 ∨ s = 1 ∨ s = 2 ∨ s = 3 ∨ s = 4 ∨ s = 5 ∨ s = 6 := by omega
  have l1 : Value.int .i64 (IntKind.i64.wrap ((n : Int) - 1)) = .int .i64 ((n : Int) - 1) := i64_id rfl (by omega) (by omega)
  have mk1 : Value.int .i64 (minI (k : Int) ((n : Int) - 1)) = .int .i64 (k : Int) := congrArg _ (by unfold minI; split <;> omega)
  have kin : (0 : Int) ≤ (k : Int) ∧ (k : Int) < (n : Int) := ⟨Int.natCast_nonneg _, by omega⟩
  have y31 : decide (uY w < 31) = true := decide_eq_true (by omega)
  have y31' : decide (uY w ≥ 31) = false := decide_eq_false (by omega)
  have ow : Value.int .u64 (packS false 0 (uF w) (low32 w) (uX w) (uY w)) = .int .u64 w := congrArg _ hown
  have full : ∀ l : List Int, l.length = n → eWord.list (eWord.row l) 0 n = l := fun l h => by rw [nw l n (by omega), List.take_of_length_le (by omega)]
  have r4 : ∀ (l : List Int), l.length = n → rightI l 4 = false → Value.bool (rightI (eWord.list (eWord.row l) 0 n) 4) = .bool false := fun l h1 h2 => by rw [full l h1, h2]
  rcases hc with rfl | rfl | rfl | rfl | rfl | rfl | rfl
  · obtain ⟨p1, p2, p3, p4, p5, p6⟩ := pack_in hf ha hy hy
    exact tyZ0 NI n k ws (uF w) (low32 w) (uX w) (uY w) ((n : Int) - 1) _ (ws.set k (packS false 0 (uF w) (low32 w) (uY w) (uY w))) hE ⟨⟨rfl, rfl⟩, pl0, pl0, r4 _ (by simp [hn]) (set_bad (by omega) (same_xy p3 (p5.trans p6.symm))), plain1 (Elt.row_pl _), rowN (by simp [hn]), (by rw [full _ (by simp [hn])]; exact hset _ p1), by omega, y31', lset_w hk, kin, rfl, i0', hlow, mk1, l1, y31, trivial⟩
  · obtain ⟨p1, p2, p3, p4, p5, p6⟩ := pack_in hf ha hx (show (1 : Int) ≤ (n : Int) ∧ (n : Int) < 31 by omega)
    exact tyZ1 NI n k ws (uF w) (low32 w) (uX w) (uY w) ((n : Int) - 1) _ (ws.set k (packS false 0 (uF w) (low32 w) (uX w) (n : Int))) hE ⟨⟨rfl, rfl⟩, pl0, pl0, r4 _ (by simp [hn]) (set_bad (by omega) (out_y p3 (by rw [p6, hn]; exact Int.le_refl _))), plain1 (Elt.row_pl _), rowN (by simp [hn]), (by rw [full _ (by simp [hn])]; exact hset _ p1), by omega, decide_eq_false (by omega), lset_w hk, kin, rfl, i0', hlow, mk1, l1, decide_eq_true (by omega), trivial⟩
  · have hm : maxI (k : Int) 1 = if (1 : Int) > (k : Int) then 1 else (k : Int) := rfl
    generalize hmm : maxI (k : Int) 1 = m at hm
    have hmr : 1 ≤ m ∧ m < 31 := by rw [hm]; split <;> omega
    obtain ⟨p1, p2, p3, p4, p5, p6⟩ := pack_in hf ha hmr hmr
    exact tyZ2 NI n k ws (uF w) (low32 w) (uX w) (uY w) m ((n : Int) - 1) _ (ws.set k (packS false 0 (uF w) (low32 w) m m)) hE ⟨⟨rfl, rfl⟩, pl0, pl0, r4 _ (by simp [hn]) (set_bad (by omega) (same_xy p3 (p5.trans p6.symm))), plain1 (Elt.row_pl _), rowN (by simp [hn]), (by rw [full _ (by simp [hn])]; exact hset _ p1), by omega, decide_eq_false (by omega), lset_w hk, kin, rfl, i0', hlow, mk1, l1, decide_eq_true (by omega), (congrArg _ hmm), (congrArg _ hmm), trivial⟩
  · have hk' : (ws ++ [9223372036854775808])[k]? = some w := by rw [List.getElem?_append_left (by omega)]; exact hk
    have hb : rightI (ws ++ [9223372036854775808]) 4 = false := more_bad hR (by decide)
    have ll : (ws ++ [(9223372036854775808 : Int)]).length = n + 1 := by simp [hn]
    have hfull : eWord.list (eWord.row (ws ++ [(9223372036854775808 : Int)])) 0 (n + 1) = ws ++ [(9223372036854775808 : Int)] := by rw [nw _ _ (by omega), List.take_of_length_le (by omega)]
    have hst : lset (eWord.row (ws ++ [9223372036854775808])) (0 + ((k : Nat) : Int).toNat * 1) [.int .u64 w] = some (eWord.row (ws ++ [9223372036854775808])) := by
      have := lset_w (v := w) hk'
      rwa [set_same hk'] at this
    exact tyZ3 NI n k ws (uF w) (low32 w) (uX w) (uY w) 9223372036854775808 (ws ++ [9223372036854775808]) (n : Int) w (ws ++ [9223372036854775808]) hE ⟨⟨rfl, rfl⟩, pl0, pl0, (by rw [hfull, hb]), plain1 (Elt.row_pl _), rowN (by omega), (by
      rw [hfull]
      intro x hx
      rcases List.mem_append.1 hx with h | h
      · exact hU x h
      · simp at h; subst h; exact ⟨by decide, by decide⟩), by omega, y31', hst, ⟨Int.natCast_nonneg _, by show (k : Int) < ((n + 1 : Nat) : Int); omega⟩, ow, i0', hlow, (congrArg _ (by unfold minI; split <;> omega)), (i64_id (by show ((n + 1 : Nat) : Int) - 1 = (n : Int); omega) (by omega) (by omega)), y31,
      appOK (e := eWord) (L := ws) (new := [9223372036854775808]) rfl rfl rfl rfl (by omega) (congrArg eWord.row (by rw [List.take_of_length_le (by omega)])) (by decide) (by omega) (by omega), rfl, i0', i0', trivial⟩
  · have hb : rightI ws (uF w) = false := right_bad hk (out_f hl (Int.le_refl _))
    have hst : lset (eWord.row ws) (0 + ((k : Nat) : Int).toNat * 1) [.int .u64 w] = some (eWord.row ws) := by
      have := lset_w (v := w) hk
      rwa [set_same hk] at this
    exact tyZ4 NI n k ws (uF w) (low32 w) (uX w) (uY w) ((n : Int) - 1) w ws hE ⟨⟨rfl, rfl⟩, pl0, pl0, (by rw [full _ hn, hb]), plain1 (Elt.row_pl _), rowN hn.symm, (by rw [full _ hn]; exact hU), by omega, y31', hst, kin, ow, i0', hlow, mk1, l1, y31, trivial⟩
  · have hb := less_bad hR (by omega)
    rw [hn] at hb
    have hst : lset (eWord.row ws) (0 + ((k : Nat) : Int).toNat * 1) [.int .u64 w] = some (eWord.row ws) := by
      have := lset_w (v := w) hk
      rwa [set_same hk] at this
    have l1' : Value.int .i64 (IntKind.i64.wrap ((n : Int) - 1)) = .int .i64 ((n - 1 : Nat) : Int) := i64_id (by omega) (by omega) (by omega)
    exact tyZ5 NI n k ws (uF w) (low32 w) (uX w) (uY w) (n - 1) ((n : Int) - 2) w ws hE ⟨⟨rfl, rfl⟩, pl0, pl0, (by rw [nw _ _ (by omega), hb]), plain1 (Elt.row_pl _), rowM (by omega), (by rw [nw _ _ (by omega)]; exact fun x hx => hU x (List.mem_of_mem_take hx)), by omega, y31', hst, ⟨Int.natCast_nonneg _, by omega⟩, ow, i0', hlow, (congrArg _ (by unfold minI; split <;> omega)), (i64_id (by omega) (by omega) (by omega)), y31, slOK_pre rfl (by omega) (by decide) (by rw [Elt.row_len]; simp [eWord]; omega), l1', trivial⟩
  · have hlast : ws[n - 1]? = some (ws[n - 1]'(by omega)) := List.getElem?_eq_getElem (by omega)
    have hk' : (ws.set (n - 1) 0)[k]? = some w := by rw [List.getElem?_set_ne (by omega)]; exact hk
    have hb : rightI (ws.set (n - 1) 0) 4 = false := set_bad (by omega) bad_zero
    have hst : lset (eWord.row (ws.set (n - 1) 0)) (0 + ((k : Nat) : Int).toNat * 1) [.int .u64 w] = some (eWord.row (ws.set (n - 1) 0)) := by
      have := lset_w (v := w) hk'
      rwa [set_same hk'] at this
    have l1' : Value.int .i64 (IntKind.i64.wrap ((n : Int) - 1)) = .int .i64 ((n - 1 : Nat) : Int) := i64_id (by omega) (by omega) (by omega)
    exact tyZ6 NI n k ws (uF w) (low32 w) (uX w) (uY w) (n - 1) (ws.set (n - 1) 0) ((n : Int) - 1) w (ws.set (n - 1) 0) hE ⟨⟨rfl, rfl⟩, pl0, pl0, r4 _ (by simp [hn]) hb, plain1 (Elt.row_pl _), rowN (by simp [hn]), (by
      rw [full _ (by simp [hn])]
      intro x hx
      rcases List.mem_or_eq_of_mem_set hx with h | rfl
      · exact hU x h
      · exact U0), by omega, y31', hst, kin, ow, i0', hlow, mk1, l1, y31, lset_w hlast, ⟨Int.natCast_nonneg _, by omega⟩, l1', trivial⟩
def TYQ (n : Nat) (ws : List Int) : Nat → Nat × List Int → Prop := fun z s => s.1 ≤ n ∧ (∀ v ∈ s.2, ∃ (k : Nat) (w : Int), v = (k : Int) ∧ ws[k]? = some w ∧ lfB w = false) ∧ (s.2 = [] → ∀ (j : Nat) (w : Int), j < s.1 → ws[j]? = some w → lfB w = true) ∧ s.2.length ≤ s.1 ∧ ((z = 0 ∧ s.2 = []) ∨ (z = 1 ∧ s.2 ≠ []))
theorem TYQ0 (n : Nat) (ws : List Int) : TYQ n ws 0 (0, []) := ⟨Nat.zero_le _, fun v hv => by simp at hv, fun _ j w hj => absurd hj (Nat.not_lt_zero _), Nat.le_refl _, Or.inl ⟨rfl, rfl⟩⟩
theorem law {E : Env} (NI : List Int → List Int → List Int → List Int → Int → List Nd) {n : Nat} {ws : List Int} {what at_ : Int} (hwt : I64 what) (hat : I64 at_) (hE : EnvOK E Try.prog Try.f11 3 4 (.bool true) [] []) (hn : ws.length = n) (hR : rightI ws 4 = true) (hU : ∀ w ∈ ws, U64 w) (h15 : n ≤ 15) (zz : Nat × List Int) (hz : TYQ n ws 0 zz) :
    Sat E (atLp (lp Try.f11 0)) ((tyL n ws what at_ (TYQ n ws)).st 0 zz) := by
  have okL := tyL_ok n ws what at_ (TYQ n ws)
  have rnw : ∀ (f : Nat → Nat), Blk.rnB f (.vec (eWord.row ws) 26 1) = .vec (eWord.row ws) 26 1 := fun f => Blk.plain.rnB (b := .vec (eWord.row ws) 26 1) (Elt.row_pl _) f
  have rnv : ∀ (f : Nat → Nat) (l : List Int), Blk.rnB f (.vec (eInt.row l) 3 1) = .vec (eInt.row l) 3 1 := fun f l => Blk.plain.rnB (b := .vec (eInt.row l) 3 1) (Elt.row_pl _) f
  have rnc : ∀ (f : Nat → Nat) (a b c d : Int), Blk.rnB f (.cells [.bool false, .int .i64 0, .int .i64 a, .int .i64 b, .int .i64 c, .int .i64 d] 23) = .cells [.bool false, .int .i64 0, .int .i64 a, .int .i64 b, .int .i64 c, .int .i64 d] 23 := fun _ _ _ _ _ => rfl
  refine by_loop (tyL n ws what at_ (TYQ n ws)) (lp Try.f11 0) ?_ 0 zz hz
  rintro b ⟨i, out⟩ hinv J hJ
  obtain ⟨k1, k2, k3, k4, k5⟩ := hinv
  have k1 : i ≤ n := k1
  have k2 : ∀ v ∈ out, ∃ (k : Nat) (w : Int), v = (k : Int) ∧ ws[k]? = some w ∧ lfB w = false := k2
  have k3 : out = [] → ∀ (j : Nat) (w : Int), j < i → ws[j]? = some w → lfB w = true := k3
  have k4 : out.length ≤ i := k4
  have k5 : (b = 0 ∧ out = []) ∨ (b = 1 ∧ out ≠ []) := k5
  have hJ' : ∀ b' zz, (tyL n ws what at_ (TYQ n ws)).inv b' zz → ltO ((tyL n ws what at_ (TYQ n ws)).mu b' zz) (some (n - i)) → Sat E (mkLp (lp Try.f11 0) J) ((tyL n ws what at_ (TYQ n ws)).st b' zz) := fun b' zz h1 h2 => hJ b' zz h1 h2
  have hrow : eWord.Row (eWord.row ws) 0 n := rowN hn.symm
  have hli : eWord.list (eWord.row ws) 0 n = ws := by rw [listM (by omega), List.take_of_length_le (by omega)]
  have hUl : ∀ w ∈ eWord.list (eWord.row ws) 0 n, U64 w := by rw [hli]; exact hU
  have hR' : Value.bool (rightI (eWord.list (eWord.row ws) 0 n) 4) = .bool true := by rw [hli, hR]
  by_cases hin : i < n
  · have hlt : decide ((i : Int) < (n : Int)) = true := decide_eq_true (by omega)
    obtain ⟨w, hw⟩ : ∃ w, ws[i]? = some w := ⟨_, List.getElem?_eq_getElem (by rw [hn]; omega)⟩
    have hrd : readPart Try.prog 26 (eWord.row ws) (0 + ((i : Nat) : Int).toNat * 1) = some (.int .u64 w) := by
      rw [Int.toNat_natCast, Nat.mul_one]
      exact (Elt.canon0 (e := eWord) ws).1.read1 (P := Try.prog) (ty := 26) (by kernel_rfl) rfl (i := i) (x := w) (by rw [(Elt.canon0 ws).2]; exact hw) rfl rfl
    have ho := right_ok hR w (List.mem_of_getElem? hw)
    have hmu : n - (i + 1) < n - i := by omega
    have tl := hU w (List.mem_of_getElem? hw)
    have ix : (0 : Int) ≤ (i : Int) ∧ (i : Int) < (n : Int) := ⟨Int.natCast_nonneg _, Int.ofNat_lt.2 hin⟩
    cases hl : lfB w
    · have q : TYQ n ws 1 (i + 1, out ++ [(i : Int)]) := ⟨hin, fun v hv => by
          rcases List.mem_append.1 hv with h | h
          · exact k2 v h
          · simp at h; exact ⟨i, w, h, hw, hl⟩, fun h => by simp at h, by simp; omega, Or.inr ⟨rfl, by simp⟩⟩
      rcases k5 with ⟨rfl, ko⟩ | ⟨rfl, ko⟩
      · rw [ko] at q ⊢
        exact tyI0 NI n ws what at_ (TYQ n ws) i w (uF w) (low32 w) (uX w) (uY w) ([] ++ [(i : Int)]) J hE okL ⟨rfl, ⟨(i + 1, [] ++ [(i : Int)]), q, hmu, rfl, by simp only [tyL, List.map_cons, List.map_nil, rnw, rnv]⟩, i64_succ (by omega), appOK_nil (e := eInt) (new := [(i : Int)]) rfl rfl rfl rfl (by decide) (by decide) (by decide), unp_inner ho hl, tl, hrd, ix, hlt, trivial⟩ (hJ' 1)
      · exact tyI1 NI n ws what at_ (TYQ n ws) i out w (uF w) (low32 w) (uX w) (uY w) (out ++ [(i : Int)]) J hE okL ⟨rfl, ⟨(i + 1, out ++ [(i : Int)]), q, hmu, (by
          have e : (out ++ [(i : Int)]).length = out.length + 1 := by simp
          simp only [tyL, List.map_cons, List.map_nil, e]; rfl), by simp only [tyL, List.map_cons, List.map_nil, rnw, rnv]⟩, i64_succ (by omega), appOK (e := eInt) (L := out) (new := [(i : Int)]) rfl rfl rfl rfl (Nat.le_refl _) (by simp) (by decide) (by omega) (by omega), unp_inner ho hl, tl, hrd, ix, hlt, trivial⟩ (hJ' 1)
    · have q : ∀ b, ((b = 0 ∧ out = []) ∨ (b = 1 ∧ out ≠ [])) → TYQ n ws b (i + 1, out) := fun b hb => ⟨hin, k2, fun h j v hj hv => by
          by_cases e : j < i
          · exact k3 h j v e hv
          · obtain rfl : j = i := by
              have : j < i + 1 := hj
              omega
            rw [hw] at hv; injection hv with hv; subst hv; exact hl, Nat.le_succ_of_le k4, hb⟩
      rcases k5 with ⟨rfl, ko⟩ | ⟨rfl, ko⟩
      · have q0 := q 0 (Or.inl ⟨rfl, ko⟩)
        rw [ko] at q0 ⊢
        exact tyF0 NI n ws what at_ (TYQ n ws) i w (low32 w) J hE okL ⟨rfl, ⟨(i + 1, []), q0, hmu, rfl, by simp only [tyL, List.map_cons, List.map_nil, rnw]⟩, i64_succ (by omega), unp_leaf ho hl, tl, hrd, ix, hlt, trivial⟩ (hJ' 0)
      · exact tyF1 NI n ws what at_ (TYQ n ws) i out w (low32 w) J hE okL ⟨rfl, ⟨(i + 1, out), q 1 (Or.inr ⟨rfl, ko⟩), hmu, rfl, by simp only [tyL, List.map_cons, List.map_nil, rnw, rnv]⟩, i64_succ (by omega), unp_leaf ho hl, tl, hrd, ix, hlt, trivial⟩ (hJ' 1)
  · have hlt : decide ((i : Int) < (n : Int)) = false := decide_eq_false (by omega)
    obtain rfl : i = n := by omega
    rcases k5 with ⟨rfl, ko⟩ | ⟨rfl, ko⟩
    · have h1 := no_inner hR (fun j w hj hw => k3 ko j w (by omega) hw)
      rw [ko]
      exact tyE0 NI i ws what at_ (TYQ i ws) i J hE ⟨⟨rfl, rfl⟩, (congrArg _ (beq_iff_eq.2 (by omega))), hR', plain1 (Elt.row_pl _), hrow, hUl, by omega, hR', plain1 (Elt.row_pl _), hrow, hUl, by omega, hlt, trivial⟩
    · have hol : 0 < out.length := List.length_pos_iff.2 ko
      have hwi := within_range at_ (show (0 : Int) ≤ (out.length : Int) - 1 by omega)
      obtain ⟨j, hj⟩ := Int.eq_ofNat_of_zero_le hwi.1
      obtain ⟨v, hv⟩ : ∃ v, out[j]? = some v := ⟨_, List.getElem?_eq_getElem (by omega)⟩
      obtain ⟨k, w, rfl, hkw, hl⟩ := k2 v (List.mem_of_getElem? hv)
      have hkn : k < i := by have := (List.getElem?_eq_some_iff.1 hkw).1; omega
      have ho := right_ok hR w (List.mem_of_getElem? hkw)
      have hs := within_range what (show (0 : Int) ≤ 6 by decide)
      have hrk : readPart Try.prog 26 (eWord.row ws) (0 + ((k : Nat) : Int).toNat * 1) = some (.int .u64 w) := by
        rw [Int.toNat_natCast, Nat.mul_one]
        exact (Elt.canon0 (e := eWord) ws).1.read1 (P := Try.prog) (ty := 26) (by kernel_rfl) rfl (i := k) (x := w) (by rw [(Elt.canon0 ws).2]; exact hkw) rfl rfl
      have hro : readPart Try.prog 3 (eInt.row out) (0 + ((j : Nat) : Int).toNat * 1) = some (.int .i64 (k : Int)) := by
        have := rd_int hv
        rwa [Int.toNat_natCast]
      exact tyE1 NI i ws what at_ (TYQ i ws) i j out k ((out.length : Int) - 1) w (uF w) (low32 w) (uX w) (uY w) (withinS what 0 6) J hE (tyW_ok _ _ _ _ _ _ _ _) ⟨rfl, ⟨(), trivial, trivial, (by rw [Nat.zero_add]; rfl), by simp only [tyW, List.map_cons, List.map_nil, rnw, rnc]⟩, rfl, hwt, by decide, by decide, by decide,
        appG (e := eWord) (L := []) (M := ws) (Or.inr ⟨rfl, rfl, rfl⟩) rfl (k := 0) rfl (by omega) (by simp) (congrArg eWord.row (by rw [List.drop_zero, show ws.take i = ws from List.take_of_length_le (by omega)]; rfl)) (by omega) (by omega) (by omega),
        unp_inner ho hl, hU w (List.mem_of_getElem? hkw), hrk, ⟨Int.natCast_nonneg _, by omega⟩, hro, ⟨Int.natCast_nonneg _, Int.ofNat_lt.2 (by omega)⟩, (congrArg _ hj), hat, by decide, by omega, by omega, (i64_id rfl (by show _ ≤ (out.length : Int) - 1; omega) (by show (out.length : Int) - 1 ≤ _; omega)), (congrArg _ (beq_eq_false_iff_ne.2 (by show (out.length : Int) ≠ 0; omega))), hR', plain1 (Elt.row_pl _), hrow, hUl, by omega, hlt, trivial⟩ fun zz _ _ => fin NI hE hn hR hU h15 hkw hl hs zz
theorem spec {cl what at_ : Int} {u0 u1 u2 u3 : Value} {x0 x1 x2 x3 : Option (List Value)} (hwt : I64 what) (hat : I64 at_) (c0 : CanAt eInt I64 0 u0 x0) (c1 : CanAt eInt I64 1 u1 x1) (c2 : CanAt eInt I64 2 u2 x2) (c3 : CanAt eInt I64 3 u3 x3) :
    CallSpec Try.prog 11 [.agg ⟨[.int .i64 cl, u0, u1, u2, u3]⟩, .int .i64 what, .int .i64 at_] (rowsL [x0, x1, x2, x3]) 4 (.bool true) (assocN [] []) := by
  refine spec_of_sat Try.func11 rfl fun E hE => ?_
  obtain ⟨r0, rfl, rfl, h0⟩ := can_fam c0
  obtain ⟨r1, rfl, rfl, h1⟩ := can_fam c1
  obtain ⟨r2, rfl, rfl, h2⟩ := can_fam c2
  obtain ⟨r3, rfl, rfl, h3⟩ := can_fam c3
  obtain ⟨NI, hNI⟩ : ∃ NI : List Int → List Int → List Int → List Int → Int → List Nd, NI = nodesI := ⟨_, rfl⟩
  obtain ⟨x1, hUn, x3⟩ := nodes_right r0.l r1.l r2.l r3.l (dim := 4) ⟨by decide, by decide⟩
  simp only [wordsI, ← hNI] at x1 hUn x3
  have rnw : ∀ (ws : List Int) (f : Nat → Nat), Blk.rnB f (.vec (eWord.row ws) 26 1) = .vec (eWord.row ws) 26 1 := fun ws f => Blk.plain.rnB (b := .vec (eWord.row ws) 26 1) (Elt.row_pl _) f
  exact tyIn NI cl what at_ r0 r1 r2 r3 (NI r0.l r1.l r2.l r3.l 4).length ((NI r0.l r1.l r2.l r3.l 4).map packN) (TYQ (NI r0.l r1.l r2.l r3.l 4).length ((NI r0.l r1.l r2.l r3.l 4).map packN)) hE (tyL_ok _ _ _ _ _)
    (all_app ⟨rfl, ⟨(0, []), TYQ0 _ _, trivial, rfl, by simp only [tyL, List.map_cons, List.map_nil, rnw]⟩, cssZ_pl h0 h1 h2 h3, hNI, ⟨by decide, by decide⟩, trivial⟩ (all_app h0.ob2 (all_app h1.ob2 (all_app h2.ob2 h3.ob2))))
    fun zz hz _ => law NI hwt hat hE (by simp) x1 hUn (by rw [List.length_map] at x3; exact x3) zz hz

theorem walk (W : World) (cl : Int) (v0 v1 v2 v3 : Value) (o0 : Opened W eInt I64 v0) (o1 : Opened W eInt I64 v1) (o2 : Opened W eInt I64 v2) (o3 : Opened W eInt I64 v3) (what : Int) (w1 : (Lit.int .i64 what).wf = true) (at_ : Int) (w2 : (Lit.int .i64 at_).wf = true) :
    Calls Try.prog 11 #[.agg #[.int .i64 cl, v0, v1, v2, v3], .int .i64 what, .int .i64 at_] W fun e w' => e = .returned (.bool true) ∧ Below W.heap.size W w' := by
  obtain ⟨u0, x0, ad0, c0, e0, n0, g0⟩ := o0.can 0
  obtain ⟨u1, x1, ad1, c1, e1, n1, g1⟩ := o1.can 1
  obtain ⟨u2, x2, ad2, c2, e2, n2, g2⟩ := o2.can 2
  obtain ⟨u3, x3, ad3, c3, e3, n3, g3⟩ := o3.can 3
  have hspec := spec (cl := cl) (wf_i64 w1) (wf_i64 w2) c0 c1 c2 c3
  have := calls_rows hspec rfl (Nat.le_refl 4)
    (fun u hu j hj => by
      simp at hu
      rcases hu with rfl | rfl | rfl
      · simp [nms, nm1, nmL, nm0] at hj
        rcases hj with hj | hj | hj | hj
        · have := c0.nm0 j hj; omega
        · have := c1.nm0 j hj; omega
        · have := c2.nm0 j hj; omega
        · have := c3.nm0 j hj; omega
      · simp [nms, nm1, nm0] at hj
      · simp [nms, nm1, nm0] at hj)
    (W := W) (l := [ad0, ad1, ad2, ad3]) (fun j r ad hr ha => by
      match j with
      | 0 => simp at hr ha; subst hr; subst ha; exact g0
      | 1 => simp at hr ha; subst hr; subst ha; exact g1
      | 2 => simp at hr ha; subst hr; subst ha; exact g2
      | 3 => simp at hr ha; subst hr; subst ha; exact g3
      | j + 4 => simp at hr) (Nat.le_refl 4)
  have hmap : ([.agg ⟨[.int .i64 cl, u0, u1, u2, u3]⟩, .int .i64 what, .int .i64 at_].map (ren (Nm.at [ad0, ad1, ad2, ad3]))).toArray = #[.agg #[.int .i64 cl, v0, v1, v2, v3], .int .i64 what, .int .i64 at_] := by
    have g0 := e0 [ad0, ad1, ad2, ad3] rfl
    have g1 := e1 [ad0, ad1, ad2, ad3] rfl
    have g2 := e2 [ad0, ad1, ad2, ad3] rfl
    have g3 := e3 [ad0, ad1, ad2, ad3] rfl
    simp only [List.map_cons, List.map_nil]
    simp only [ren_agg, List.map_toArray, List.map_cons, List.map_nil, g0, g1, g2, g3]
    rfl
  rw [hmap] at this
  exact this
end Go.Proofs.Ytnngaedhedbenaa.WkTreeTurned


set_option linter.unusedVariables false
set_option linter.unusedSimpArgs false
set_option maxRecDepth 100000
namespace Go.Proofs.Ytnngaedhedbenaa.Ev
open Go Go.RowKit Go.ChangeShapes Go.WideShapes
theorem elem_i64 {H : Type} {enc : TypeId × Value → H} {W : World} {base : Nat} {spare : Nat → Bool} {held : Bool} (n : Nat) (cs : List Value) (z : DataW H × List MemPlace) (h : DataW.trod enc Try.prog W base spare held n 3 cs = some z) : ∃ x : Int, cs = eInt.cells x ∧ I64 x := by
  obtain ⟨x, h1, h2⟩ := elem_int (P := Try.prog) (k := .i64) (by kernel_rfl) n cs z h
  exact ⟨x, h1, wf64 h2⟩
theorem open_ints64 {H : Type} {enc : TypeId × Value → H} {W : World} {base : Nat} {spare : Nat → Bool} {held : Bool} {r : Reach} {b0 : Nat} {v : Value} {d : DataW H} {ps : List MemPlace} (hv : Value.okWide Try.prog W r b0 43 v) (h : DataW.Trod enc Try.prog W base spare held 43 v d ps) : Opened W eInt I64 v := by
  have hu : Try.prog.underlying 43 = some (.slice 3) := by kernel_rfl
  obtain ⟨fuel, hf⟩ := h
  simp only [Value.okWide, hu] at hv
  have hcs : v.cells.toList = [v] := by
    obtain ⟨a, l, c, rfl⟩ : ∃ a l c, v = .slice a l c := by
      simp only [Cell.okWide, hu, Cell.ok] at hv
      cases v <;> simp_all
    rfl
  rw [hcs] at hf
  exact open_row hu (by kernel_rfl) elem_i64 hv hf
end Go.Proofs.Ytnngaedhedbenaa.Ev


set_option linter.unusedVariables false
set_option linter.unusedSimpArgs false
set_option maxRecDepth 100000
namespace Go.Proofs.Ytnngaedhedbenaa.Ev
open Go Go.RowKit Go.ChangeShapes Go.WideShapes
def fieldsOf (P : Program) (t : TypeId) : Array Field := match P.underlying t with
  | some (.struct fs) => fs
  | _ => #[]
section
variable {H : Type} {enc : TypeId × Value → H} {P : Program} {W : World} {base : Nat} {spare : Nat → Bool} {held : Bool}
theorem field_of {fs : Array Field} {i o c : Nat} {d : TypeDesc} (h : (fs[i]?).map (fun f => (f.offset, P.cellsOf f.type)) = some (o, c)) (hd : (fs[i]?).bind (fun f => P.underlying f.type) = some d) :
    ∃ f, fs[i]? = some f ∧ f.offset = o ∧ P.cellsOf f.type = c ∧ P.underlying f.type = some d := by
  cases hf : fs[i]? with
  | none => rw [hf] at h; simp at h
  | some f =>
    rw [hf] at h hd
    simp at h hd
    exact ⟨f, rfl, h.1, h.2, hd⟩
theorem xs_get {α : Type} {xs : List α} {i : Nat} (h : i < xs.length) : ∃ y, xs[i]? = some y := ⟨xs[i], List.getElem?_eq_getElem h⟩
end
/-- A struct of a number and four slices of numbers. -/
theorem open_tree {H : Type} {enc : TypeId × Value → H} {W : World} {base : Nat} {spare : Nat → Bool} {held : Bool} {r : Reach} {b0 : Nat} {v : Value} {d : DataW H} {ps : List MemPlace} (hv : Value.okWide Try.prog W r b0 47 v) (h : DataW.Trod enc Try.prog W base spare held 47 v d ps) :
    ∃ (cl : Int) (a1 a2 a3 a4 : Value), v = .agg #[.int .i64 cl, a1, a2, a3, a4] ∧ Opened W eInt I64 a1 ∧ Opened W eInt I64 a2 ∧ Opened W eInt I64 a3 ∧ Opened W eInt I64 a4 := by
  have hu : Try.prog.underlying 47 = some (.struct (fieldsOf Try.prog 47)) := by kernel_rfl
  obtain ⟨fuel, hf⟩ := h
  simp only [Value.okWide, hu] at hv
  obtain ⟨⟨l⟩, rfl, hs, ts, ht1, _, ht2⟩ := hv
  have hl5 : l.length = 5 := by
    have : Try.prog.cellsOf 47 = 5 := by kernel_rfl
    rw [this] at hs
    simpa using hs
  have hct : Try.prog.cellTypes Try.prog.depth 47 = some [3, 43, 43, 43, 43] := by kernel_rfl
  rw [hct] at ht1
  injection ht1 with ht1
  subst ht1
  obtain ⟨xs, k, _, _, hl, hlen, hf⟩ := DataW.trod_struct (P := Try.prog) hu hf
  have hx5 : xs.length = 5 := by rw [hlen]; kernel_rfl
  have hsl : Try.prog.underlying 43 = some (.slice 3) := by kernel_rfl
  obtain ⟨f0, e0, o0, c0, u0⟩ := field_of (P := Try.prog) (fs := fieldsOf Try.prog 47) (i := 0) (o := 0) (c := 1) (d := .int .i64) (by kernel_rfl) (by kernel_rfl)
  obtain ⟨f1, e1, o1, c1, u1⟩ := field_of (P := Try.prog) (fs := fieldsOf Try.prog 47) (i := 1) (o := 1) (c := 1) (d := .slice 3) (by kernel_rfl) (by kernel_rfl)
  obtain ⟨f2, e2, o2, c2, u2⟩ := field_of (P := Try.prog) (fs := fieldsOf Try.prog 47) (i := 2) (o := 2) (c := 1) (d := .slice 3) (by kernel_rfl) (by kernel_rfl)
  obtain ⟨f3, e3, o3, c3, u3⟩ := field_of (P := Try.prog) (fs := fieldsOf Try.prog 47) (i := 3) (o := 3) (c := 1) (d := .slice 3) (by kernel_rfl) (by kernel_rfl)
  obtain ⟨f4, e4, o4, c4, u4⟩ := field_of (P := Try.prog) (fs := fieldsOf Try.prog 47) (i := 4) (o := 4) (c := 1) (d := .slice 3) (by kernel_rfl) (by kernel_rfl)
  have g0 := hf 0 f0 e0
  have g1 := hf 1 f1 e1
  have g2 := hf 2 f2 e2
  have g3 := hf 3 f3 e3
  have g4 := hf 4 f4 e4
  obtain ⟨y0, hy0⟩ := xs_get (xs := xs) (i := 0) (by omega)
  obtain ⟨y1, hy1⟩ := xs_get (xs := xs) (i := 1) (by omega)
  obtain ⟨y2, hy2⟩ := xs_get (xs := xs) (i := 2) (by omega)
  obtain ⟨y3, hy3⟩ := xs_get (xs := xs) (i := 3) (by omega)
  obtain ⟨y4, hy4⟩ := xs_get (xs := xs) (i := 4) (by omega)
  rw [o0, c0, hy0] at g0
  rw [o1, c1, hy1] at g1
  rw [o2, c2, hy2] at g2
  rw [o3, c3, hy3] at g3
  rw [o4, c4, hy4] at g4
  match l, hl5 with
  | [p0, p1, p2, p3, p4], _ =>
    obtain ⟨cl, q0, _, _⟩ := DataW.trod_int u0 g0
    have q1 : [p0] = [Value.int .i64 cl] := q0
    injection q1 with q1 _
    subst q1
    obtain ⟨t1, hq1, w1⟩ := ht2 1 p1 rfl
    simp at hq1
    subst hq1
    obtain ⟨t2, hq2, w2⟩ := ht2 2 p2 rfl
    simp at hq2
    subst hq2
    obtain ⟨t3, hq3, w3⟩ := ht2 3 p3 rfl
    simp at hq3
    subst hq3
    obtain ⟨t4, hq4, w4⟩ := ht2 4 p4 rfl
    simp at hq4
    subst hq4
    have hcell : ∀ (x : Value) (ft : TypeId), Try.prog.underlying ft = some (.slice 3) → Cell.okWide Try.prog W r b0 43 x → Cell.okWide Try.prog W r b0 ft x := by
      intro x ft hft hx
      simp only [Cell.okWide, hsl, hft, Cell.ok] at hx ⊢
      exact hx
    exact ⟨cl, p1, p2, p3, p4, rfl, open_row u1 (by kernel_rfl) elem_i64 (hcell p1 _ u1 w1) g1, open_row u2 (by kernel_rfl) elem_i64 (hcell p2 _ u2 w2) g2, open_row u3 (by kernel_rfl) elem_i64 (hcell p3 _ u3 w3) g3, open_row u4 (by kernel_rfl) elem_i64 (hcell p4 _ u4 w4) g4⟩
end Go.Proofs.Ytnngaedhedbenaa.Ev


namespace Go.Proofs.Ytnngaedhedbenaa.treeTurnedRow
open Go.ChangeShapes Go.WideShapes Go.ChangeAt Go.RowKit
open Go.ChangeMaps (open_string shut_string)
set_option linter.unusedVariables false
theorem own : ownKnob Try.prog.godebug = none := by kernel_rfl
theorem laidOut : laidOutB Try.prog = true := by kernel_rfl
set_option maxHeartbeats 4000000 in
set_option maxRecDepth 100000 in
theorem lifted (os : Os) (started : os.Started) (H : Type) (enc : TypeId × Value → H) :
    ReturnsInHanded {} Try.checked os 11 .any (Rows.treeTurnedSpec.pre6 enc Try.prog Try.f11 Rows.treeTurnedRow.domain false) (Rows.treeTurnedSpec.post enc Try.prog Try.f11 false true false false) := by
  refine returnsInHanded_of_change_sized (C := Try.checked) own started (by kernel_rfl) Try.func11
    (ChangeSpec.witness6 (enc := enc) (C := Try.checked) false ⟨#[], #[.agg #[.int .i64 0, .slice none 0 0, .slice none 0 0, .slice none 0 0, .slice none 0 0], .int .i64 0, .int .i64 0], []⟩ 8 (by kernel_rfl) (by kernel_rfl) (by kernel_rfl) (by kernel_rfl)) ?_
  intro W base args ds gs before hval0 hW hcnd hsz0 _
  have hsz : (DataW.weightsEach Try.prog (Try.f11.params.toList ++ Rows.treeTurnedSpec.plain.varTypes Try.prog) (ds ++ gs)).all (· ≤ reachBytes) = true := hsz0
  have hval : ∀ (j : Nat) t v, Try.f11.params[j]? = some t → args[j]? = some v → Value.okWide Try.prog W .any base t v := hval0
  have hW' := hW
  obtain ⟨p, q, hA0, hV, rfl, hfz, hnd⟩ := hW
  have hA : DataW.TrodAll enc Try.prog W 0 (fun _ => true) true Try.f11.params.toList args.toList ds p := hA0
  rw [Try.params11] at hA hval hsz
  obtain ⟨v0, vs0, d0, ds0, p0, q0, hargs, rfl, rfl, h0, r0⟩ := trodAll_cons hA
  obtain ⟨v1, vs1, d1, ds1, p1, q1, rfl, rfl, rfl, h1, r1⟩ := trodAll_cons r0
  obtain ⟨v2, vs2, d2, ds2, p2, q2, rfl, rfl, rfl, h2, r2⟩ := trodAll_cons r1
  obtain ⟨rfl, rfl, rfl⟩ := trodAll_nil r2
  obtain rfl : args = #[v0, v1, v2] := by cases args; simp_all
  obtain ⟨rfl, rfl⟩ := trodVars_none hV
  have k0 := h0
  have lt0 : ∀ x ∈ p0, x.block < W.heap.size := by obtain ⟨m, hm⟩ := k0; exact DataW.trod_lt m _ _ _ hm
  obtain ⟨t0y0, t0y1, t0y2, t0y3, t0y4, rfl, w0y1, w0y2, w0y3, w0y4⟩ := Ev.open_tree (hval 0 47 v0 rfl rfl) h0
  obtain ⟨a1, rfl, rfl, rfl, w1⟩ := open_int Try.underlying3 (hval 1 3 v1 rfl rfl) h1
  obtain ⟨a2, rfl, rfl, rfl, w2⟩ := open_int Try.underlying3 (hval 2 3 v2 rfl rfl) h2
  clear hA0 hval0 hsz0 hsz
  refine (WkTreeTurned.walk W t0y0 t0y1 t0y2 t0y3 t0y4 w0y1 w0y2 w0y3 w0y4 a1 w1 a2 w2).mono fun e W' ⟨he, bel⟩ => ?_
  subst he
  exact ⟨_, rfl, _, _, _, [], _, [], hW', trodAll_mk1 (shut_bool Try.underlying4 _), (trodAll_cons_mk (Below.trod laidOut (by kernel_rfl) (of_decide_eq_true (by kernel_rfl)) k0 bel lt0) (trodAll_cons_mk (shut_int Try.underlying3 w1) (trodAll_cons_mk (shut_int Try.underlying3 w2) trodAll_mk0))), rfl, bel.frame _, fun h => by cases h⟩
theorem over : Rows.treeTurnedRow.holds Try.pinned (OpenSpec.ofChange Rows.treeTurnedSpec) :=
  OpenClaim.holds_of_wide 11 Try.f11 rfl rfl rfl rfl rfl rfl rfl ⟨rfl, rfl, rfl, rfl, rfl⟩ rfl rfl rfl rfl rfl (by kernel_rfl) Try.func11 (by kernel_rfl)
    (of_decide_eq_true (by kernel_rfl)) (by unfold Func.isWrapper; first | (rw [if_pos (by decide +kernel)]; kernel_rfl) | (rw [if_neg (by decide +kernel)]; exact ⟨rfl, rfl⟩))
    (fun os started H enc _ => lifted os started H enc)
end Go.Proofs.Ytnngaedhedbenaa.treeTurnedRow
namespace Go.Proofs.Ytnngaedhedbenaa
theorem treeTurned_holds : Rows.TreeTurnedSaid := treeTurnedRow.over
#print axioms treeTurned_holds
end Go.Proofs.Ytnngaedhedbenaa
