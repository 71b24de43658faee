/-
  LeavesTell: the table, the frame. No condition.
-/
import Derived.Test.YthbaccmhdffjdaaLeavesAllP2
set_option linter.unusedVariables false
set_option linter.unusedSimpArgs false
set_option maxRecDepth 100000
namespace Go.Proofs.Ythbaccmhdffjdaa.Tr
open Go Go.RowKit Go.Proofs.Ythbaccmhdffjdaa.Ev Go.Proofs.Ythbaccmhdffjdaa.NodeE Go.Proofs.Ythbaccmhdffjdaa.Tr

theorem enIn (cs : List Value) (o n c : Nat) (p : Pt) (Q : Nat × Nat → Prop)  {E : Env} {rv : Value} {rhs : List Nat} {rhv : List Blk} (hE : EnvOK E Try.prog Try.f53 2 1 rv rhs rhv) (hL : (fEn cs o n c p Q).OK 1) (hob : all ([SameK (atLp (lp Try.f53 0)) (atLp (lp Try.f53 0)), Enter (fEn cs o n c p Q) 0 none [Value.slice (some (Addr.mk 0 o none)) n c, Value.pointer (some (Addr.mk 1 0 none)), Value.pointer (some (Addr.mk 9 0 none)), Value.int IntKind.i64 ((0 : Int)), Value.int IntKind.i64 ((0 : Int))] [Blk.ro cs, Blk.cells [Value.int IntKind.i64 p.p0, Value.int IntKind.i64 p.p1, Value.int IntKind.i64 p.p2, Value.int IntKind.i64 p.p3] 72, Blk.cells [Value.bool false, Value.int IntKind.i64 ((0 : Int)), Value.int IntKind.i64 ((0 : Int)), Value.int IntKind.i64 ((0 : Int)), Value.int IntKind.i64 ((0 : Int)), Value.int IntKind.i64 ((0 : Int))] 86] [(0, 0), (10, 1), (11, 9)]])) (hK : ∀ zz, (fEn cs o n c p Q).inv 0 zz → ltO ((fEn cs o n c p Q).mu 0 zz) none → Sat E (atLp (lp Try.f53 0)) ((fEn cs o n c p Q).st 0 zz)) : Sat E [.code (bodyOf Try.f53)] (st0 Try.f53 [.slice (some ⟨0, o, none⟩) n c, .agg ⟨p.cs⟩] (roRows [cs]) 1) :=
  by_to (T := auto0 t_runpack) (h := hints []) (ws := [.stop]) (i0 := (0, 0)) hE hm (auto0_ok t_runpack_ok) hL (by kernel_rfl) hob hK
theorem enK (cs : List Value) (o n c : Nat) (p : Pt) (Q : Nat × Nat → Prop) (k a : Nat) (J : Act → World → Prop) {E : Env} (hE : EnvOK E Try.prog Try.f53 2 1 (.tuple ⟨[.int .i64 (-1), nd false 0 0 0 0 0]⟩) [] []) (hob : all ([Back (Value.tuple (Array.mk [Value.int IntKind.i64 ((-1 : Int)), Value.agg (Array.mk [Value.bool false, Value.int IntKind.i64 ((0 : Int)), Value.int IntKind.i64 ((0 : Int)), Value.int IntKind.i64 ((0 : Int)), Value.int IntKind.i64 ((0 : Int)), Value.int IntKind.i64 ((0 : Int))])])) (Value.tuple (Array.mk [Value.int IntKind.i64 ((-1 : Int)), Value.agg (Array.mk [Value.bool false, Value.int IntKind.i64 ((0 : Int)), Value.int IntKind.i64 ((0 : Int)), Value.int IntKind.i64 ((0 : Int)), Value.int IntKind.i64 ((0 : Int)), Value.int IntKind.i64 ((0 : Int))])])) [] [] [], decide ((↑k : Int) < 31) = false])) : Sat E (inLp (lp Try.f53 0) J) ((fEn cs o n c p Q).st 0 (k, a)) :=
  by_ret (T := auto0 t_runpack) (h := hints []) (ws := [.b false]) (nx' := 1) hE hm (auto0_ok t_runpack_ok) (by omega) (by simp) (by simp) (by kernel_rfl) hob
theorem enO (cs : List Value) (o n c : Nat) (p : Pt) (Q : Nat × Nat → Prop) (k a : Nat) (J : Act → World → Prop) {E : Env} (hE : EnvOK E Try.prog Try.f53 2 1 (.tuple ⟨[.int .i64 (-1), nd false 0 0 0 0 0]⟩) [] []) (hob : all ([Back (Value.tuple (Array.mk [Value.int IntKind.i64 ((-1 : Int)), Value.agg (Array.mk [Value.bool false, Value.int IntKind.i64 ((0 : Int)), Value.int IntKind.i64 ((0 : Int)), Value.int IntKind.i64 ((0 : Int)), Value.int IntKind.i64 ((0 : Int)), Value.int IntKind.i64 ((0 : Int))])])) (Value.tuple (Array.mk [Value.int IntKind.i64 ((-1 : Int)), Value.agg (Array.mk [Value.bool false, Value.int IntKind.i64 ((0 : Int)), Value.int IntKind.i64 ((0 : Int)), Value.int IntKind.i64 ((0 : Int)), Value.int IntKind.i64 ((0 : Int)), Value.int IntKind.i64 ((0 : Int))])])) [] [] [], decide ((↑a : Int) ≥ (↑n : Int)) = true, decide ((↑k : Int) < 31) = true])) : Sat E (inLp (lp Try.f53 0) J) ((fEn cs o n c p Q).st 0 (k, a)) :=
  by_ret (T := auto0 t_runpack) (h := hints []) (ws := [.b true, .b true]) (nx' := 1) hE hm (auto0_ok t_runpack_ok) (by omega) (by simp) (by simp) (by kernel_rfl) hob
theorem enN (cs : List Value) (o n c : Nat) (p : Pt) (Q : Nat × Nat → Prop) (k a : Nat) (w : Int) (J : Act → World → Prop) {E : Env} (hE : EnvOK E Try.prog Try.f53 2 1 (.tuple ⟨[.int .i64 (-1), nd false 0 0 0 0 0]⟩) [] []) (hob : all ([Back (Value.tuple (Array.mk [Value.int IntKind.i64 ((-1 : Int)), Value.agg (Array.mk [Value.bool false, Value.int IntKind.i64 ((0 : Int)), Value.int IntKind.i64 ((0 : Int)), Value.int IntKind.i64 ((0 : Int)), Value.int IntKind.i64 ((0 : Int)), Value.int IntKind.i64 ((0 : Int))])])) (Value.tuple (Array.mk [Value.int IntKind.i64 ((-1 : Int)), Value.agg (Array.mk [Value.bool false, Value.int IntKind.i64 ((0 : Int)), Value.int IntKind.i64 ((0 : Int)), Value.int IntKind.i64 ((0 : Int)), Value.int IntKind.i64 ((0 : Int)), Value.int IntKind.i64 ((0 : Int))])])) [] [] [], Value.tuple (Array.mk [Value.agg (Array.mk [Value.bool (okB w && lfB w), Value.int IntKind.i64 (sV w), Value.int IntKind.i64 (sF w), Value.int IntKind.i64 (sA w), Value.int IntKind.i64 (sX w), Value.int IntKind.i64 (sY w)]), Value.bool (okB w)]) = Value.tuple (Array.mk [Value.agg (Array.mk [Value.bool false, Value.int IntKind.i64 ((0 : Int)), Value.int IntKind.i64 ((0 : Int)), Value.int IntKind.i64 ((0 : Int)), Value.int IntKind.i64 ((0 : Int)), Value.int IntKind.i64 ((0 : Int))]), Value.bool false]), U64 w, readPart Try.prog 83 cs (o + ((a : Int)).toNat * 1) = some (Value.int IntKind.u64 w), (0 : Int) ≤ (a : Int) ∧ (a : Int) < (n : Int), decide ((↑a : Int) ≥ (↑n : Int)) = false, decide ((↑k : Int) < 31) = true])) : Sat E (inLp (lp Try.f53 0) J) ((fEn cs o n c p Q).st 0 (k, a)) :=
  by_ret (T := auto0 t_runpack) (h := hints [(5, 2, {p := true}), (5, 3, {o := some (.int .u64 w)}), (5, 4, {v := some (.tuple ⟨[nd false 0 0 0 0 0, .bool false]⟩)})]) (ws := [.b true, .b false]) (nx' := 1) hE hm (auto0_ok t_runpack_ok) (by omega) (by simp) (by simp) (by kernel_rfl) hob
theorem enF (cs : List Value) (o n c : Nat) (p : Pt) (Q : Nat × Nat → Prop) (k a : Nat) (w v : Int) (J : Act → World → Prop) {E : Env} (hE : EnvOK E Try.prog Try.f53 2 1 (.tuple ⟨[.int .i64 (a : Int), nd true v 0 0 0 0]⟩) [] []) (hob : all ([Back (Value.tuple (Array.mk [Value.int IntKind.i64 ((a : Int)), Value.agg (Array.mk [Value.bool true, Value.int IntKind.i64 v, Value.int IntKind.i64 ((0 : Int)), Value.int IntKind.i64 ((0 : Int)), Value.int IntKind.i64 ((0 : Int)), Value.int IntKind.i64 ((0 : Int))])])) (Value.tuple (Array.mk [Value.int IntKind.i64 ((a : Int)), Value.agg (Array.mk [Value.bool true, Value.int IntKind.i64 v, Value.int IntKind.i64 ((0 : Int)), Value.int IntKind.i64 ((0 : Int)), Value.int IntKind.i64 ((0 : Int)), Value.int IntKind.i64 ((0 : Int))])])) [] [] [], Value.tuple (Array.mk [Value.agg (Array.mk [Value.bool (okB w && lfB w), Value.int IntKind.i64 (sV w), Value.int IntKind.i64 (sF w), Value.int IntKind.i64 (sA w), Value.int IntKind.i64 (sX w), Value.int IntKind.i64 (sY w)]), Value.bool (okB w)]) = Value.tuple (Array.mk [Value.agg (Array.mk [Value.bool true, Value.int IntKind.i64 v, Value.int IntKind.i64 ((0 : Int)), Value.int IntKind.i64 ((0 : Int)), Value.int IntKind.i64 ((0 : Int)), Value.int IntKind.i64 ((0 : Int))]), Value.bool true]), U64 w, readPart Try.prog 83 cs (o + ((a : Int)).toNat * 1) = some (Value.int IntKind.u64 w), (0 : Int) ≤ (a : Int) ∧ (a : Int) < (n : Int), decide ((↑a : Int) ≥ (↑n : Int)) = false, decide ((↑k : Int) < 31) = true])) : Sat E (inLp (lp Try.f53 0) J) ((fEn cs o n c p Q).st 0 (k, a)) :=
  by_ret (T := auto0 t_runpack) (h := hints [(5, 2, {p := true}), (5, 3, {o := some (.int .u64 w)}), (5, 4, {v := some (.tuple ⟨[nd true v 0 0 0 0, .bool true]⟩)})]) (ws := [.b true, .b false]) (nx' := 1) hE hm (auto0_ok t_runpack_ok) (by omega) (by simp) (by simp) (by kernel_rfl) hob
theorem enL (cs : List Value) (o n c : Nat) (p : Pt) (Q : Nat × Nat → Prop) (k m b : Nat) (w f a x y g : Int) (J : Act → World → Prop) {E : Env} {rv : Value} {rhs : List Nat} {rhv : List Blk} (hE : EnvOK E Try.prog Try.f53 2 1 rv rhs rhv) (hL : (fEn cs o n c p Q).OK 1) (hob : all ([SameK (mkLp (lp Try.f53 0) J) (mkLp (lp Try.f53 0) J), Enter (fEn cs o n c p Q) 0 (some (31 - k)) [Value.slice (some (Addr.mk 0 o none)) n c, Value.pointer (some (Addr.mk 10 0 none)), Value.pointer (some (Addr.mk 11 0 none)), Value.int IntKind.i64 ((b : Int)), Value.int IntKind.i64 (Int.ofNat k.succ)] [Blk.ro cs, Blk.cells [Value.int IntKind.i64 p.p0, Value.int IntKind.i64 p.p1, Value.int IntKind.i64 p.p2, Value.int IntKind.i64 p.p3] 72, Blk.cells [Value.bool false, Value.int IntKind.i64 ((0 : Int)), Value.int IntKind.i64 ((0 : Int)), Value.int IntKind.i64 ((0 : Int)), Value.int IntKind.i64 ((0 : Int)), Value.int IntKind.i64 ((0 : Int))] 86] [(0, 0), (10, 10), (11, 11)], Value.int IntKind.i64 (IntKind.i64.wrap (Int.ofNat k.succ)) = Value.int IntKind.i64 (Int.ofNat k.succ), Value.int IntKind.i64 x = Value.int IntKind.i64 ((b : Int)), decide (g ≤ a) = true, readPart Try.prog 3 p.cs (0 + f.toNat * 1) = some (Value.int IntKind.i64 g), (0 : Int) ≤ f ∧ f < (4 : Int), Value.tuple (Array.mk [Value.agg (Array.mk [Value.bool (okB w && lfB w), Value.int IntKind.i64 (sV w), Value.int IntKind.i64 (sF w), Value.int IntKind.i64 (sA w), Value.int IntKind.i64 (sX w), Value.int IntKind.i64 (sY w)]), Value.bool (okB w)]) = Value.tuple (Array.mk [Value.agg (Array.mk [Value.bool false, Value.int IntKind.i64 ((0 : Int)), Value.int IntKind.i64 f, Value.int IntKind.i64 a, Value.int IntKind.i64 x, Value.int IntKind.i64 y]), Value.bool true]), U64 w, readPart Try.prog 83 cs (o + ((m : Int)).toNat * 1) = some (Value.int IntKind.u64 w), (0 : Int) ≤ (m : Int) ∧ (m : Int) < (n : Int), decide ((↑m : Int) ≥ (↑n : Int)) = false, decide ((↑k : Int) < 31) = true])) (hK : ∀ zz, (fEn cs o n c p Q).inv 0 zz → ltO ((fEn cs o n c p Q).mu 0 zz) (some (31 - k)) → Sat E (mkLp (lp Try.f53 0) J) ((fEn cs o n c p Q).st 0 zz)) : Sat E (inLp (lp Try.f53 0) J) ((fEn cs o n c p Q).st 0 (k, m)) :=
  by_to (T := auto0 t_runpack) (h := hints [(5, 2, {p := true}), (5, 3, {o := some (.int .u64 w)}), (5, 4, {v := some (.tuple ⟨[nd false 0 f a x y, .bool true]⟩)}), (11, 2, {p := true}), (11, 3, {o := some (.int .i64 g)}), (12, 1, {v := some (.int .i64 (b : Int))}), (13, 0, {v := some (.int .i64 ((k + 1 : Nat) : Int))})]) (ws := [.b true, .b false, .go, .go, .b true]) (i0 := (k + 1, b)) hE hm (auto0_ok t_runpack_ok) hL (by kernel_rfl) hob hK
theorem enR (cs : List Value) (o n c : Nat) (p : Pt) (Q : Nat × Nat → Prop) (k m b : Nat) (w f a x y g : Int) (J : Act → World → Prop) {E : Env} {rv : Value} {rhs : List Nat} {rhv : List Blk} (hE : EnvOK E Try.prog Try.f53 2 1 rv rhs rhv) (hL : (fEn cs o n c p Q).OK 1) (hob : all ([SameK (mkLp (lp Try.f53 0) J) (mkLp (lp Try.f53 0) J), Enter (fEn cs o n c p Q) 0 (some (31 - k)) [Value.slice (some (Addr.mk 0 o none)) n c, Value.pointer (some (Addr.mk 10 0 none)), Value.pointer (some (Addr.mk 11 0 none)), Value.int IntKind.i64 ((b : Int)), Value.int IntKind.i64 (Int.ofNat k.succ)] [Blk.ro cs, Blk.cells [Value.int IntKind.i64 p.p0, Value.int IntKind.i64 p.p1, Value.int IntKind.i64 p.p2, Value.int IntKind.i64 p.p3] 72, Blk.cells [Value.bool false, Value.int IntKind.i64 ((0 : Int)), Value.int IntKind.i64 ((0 : Int)), Value.int IntKind.i64 ((0 : Int)), Value.int IntKind.i64 ((0 : Int)), Value.int IntKind.i64 ((0 : Int))] 86] [(0, 0), (10, 10), (11, 11)], Value.int IntKind.i64 (IntKind.i64.wrap (Int.ofNat k.succ)) = Value.int IntKind.i64 (Int.ofNat k.succ), Value.int IntKind.i64 y = Value.int IntKind.i64 ((b : Int)), decide (g ≤ a) = false, readPart Try.prog 3 p.cs (0 + f.toNat * 1) = some (Value.int IntKind.i64 g), (0 : Int) ≤ f ∧ f < (4 : Int), Value.tuple (Array.mk [Value.agg (Array.mk [Value.bool (okB w && lfB w), Value.int IntKind.i64 (sV w), Value.int IntKind.i64 (sF w), Value.int IntKind.i64 (sA w), Value.int IntKind.i64 (sX w), Value.int IntKind.i64 (sY w)]), Value.bool (okB w)]) = Value.tuple (Array.mk [Value.agg (Array.mk [Value.bool false, Value.int IntKind.i64 ((0 : Int)), Value.int IntKind.i64 f, Value.int IntKind.i64 a, Value.int IntKind.i64 x, Value.int IntKind.i64 y]), Value.bool true]), U64 w, readPart Try.prog 83 cs (o + ((m : Int)).toNat * 1) = some (Value.int IntKind.u64 w), (0 : Int) ≤ (m : Int) ∧ (m : Int) < (n : Int), decide ((↑m : Int) ≥ (↑n : Int)) = false, decide ((↑k : Int) < 31) = true])) (hK : ∀ zz, (fEn cs o n c p Q).inv 0 zz → ltO ((fEn cs o n c p Q).mu 0 zz) (some (31 - k)) → Sat E (mkLp (lp Try.f53 0) J) ((fEn cs o n c p Q).st 0 zz)) : Sat E (inLp (lp Try.f53 0) J) ((fEn cs o n c p Q).st 0 (k, m)) :=
  by_to (T := auto0 t_runpack) (h := hints [(5, 2, {p := true}), (5, 3, {o := some (.int .u64 w)}), (5, 4, {v := some (.tuple ⟨[nd false 0 f a x y, .bool true]⟩)}), (11, 2, {p := true}), (11, 3, {o := some (.int .i64 g)}), (6, 1, {v := some (.int .i64 (b : Int))}), (13, 0, {v := some (.int .i64 ((k + 1 : Nat) : Int))})]) (ws := [.b true, .b false, .go, .go, .b false]) (i0 := (k + 1, b)) hE hm (auto0_ok t_runpack_ok) hL (by kernel_rfl) hob hK
end Go.Proofs.Ythbaccmhdffjdaa.Tr


set_option linter.unusedVariables false
set_option linter.unusedSimpArgs false
set_option maxRecDepth 100000
namespace Go.Proofs.Ythbaccmhdffjdaa.Tr
open Go Go.RowKit Go.Proofs.Ythbaccmhdffjdaa.Ev Go.Proofs.Ythbaccmhdffjdaa.NodeE

theorem pt_read {p : Pt} {f : Int} (hf : 0 ≤ f ∧ f < 4) : readPart Try.prog 3 p.cs (0 + f.toNat * 1) = some (.int .i64 (p.at f)) := by
  have hc : f = 0 ∨ f = 1 ∨ f = 2 ∨ f = 3 := by omega
  have h0 : readPart Try.prog 3 p.cs 0 = some (.int .i64 p.p0) := by kernel_rfl
  have h1 : readPart Try.prog 3 p.cs 1 = some (.int .i64 p.p1) := by kernel_rfl
  have h2 : readPart Try.prog 3 p.cs 2 = some (.int .i64 p.p2) := by kernel_rfl
  have h3 : readPart Try.prog 3 p.cs 3 = some (.int .i64 p.p3) := by kernel_rfl
  rcases hc with rfl | rfl | rfl | rfl
  · exact h0
  · exact h1
  · exact h2
  · exact h3

theorem end_spec (cs : List Value) (o n c : Nat) (p : Pt) (hr : eWord.Row cs o n) (hpl : ∀ x ∈ cs, leafG x = true) (hU : ∀ w ∈ eWord.list cs o n, U64 w) (hn : n ≤ 65536) :
    CallSpec Try.prog 53 [.slice (some ⟨0, o, none⟩) n c, .agg ⟨p.cs⟩] (roRows [cs]) 1 (.tuple ⟨[.int .i64 (walkI (eWord.list cs o n) p), nd (endL (eWord.list cs o n) p) (endV (eWord.list cs o n) p) 0 0 0 0]⟩) (assocN [] []) := by
  refine spec_of_sat Try.func53 rfl fun E hE => ?_
  have hlen : (eWord.list cs o n).length = n := Elt.list_len _ _ _
  let Q : Nat × Nat → Prop := fun s => s.1 ≤ 31 ∧ goW (eWord.list cs o n) p (31 - s.1) s.2 = goW (eWord.list cs o n) p 31 0
  have okL := fEn_ok cs o n c p Q hpl
  have rnr : ∀ f : Nat → Nat, Blk.rnB f (.ro cs) = .ro cs := fun f => Blk.plain.rnB (b := .ro cs) hpl f
  have rn0 : ∀ f : Nat → Nat, Blk.rnB f (.cells p.cs 72) = .cells [.int .i64 p.p0, .int .i64 p.p1, .int .i64 p.p2, .int .i64 p.p3] 72 := fun f => rfl
  have rn1 : ∀ f : Nat → Nat, Blk.rnB f (.cells [.int .i64 p.p0, .int .i64 p.p1, .int .i64 p.p2, .int .i64 p.p3] 72) = .cells [.int .i64 p.p0, .int .i64 p.p1, .int .i64 p.p2, .int .i64 p.p3] 72 := fun f => rfl
  have rn2 : ∀ f : Nat → Nat, Blk.rnB f (.cells [.bool false, .int .i64 0, .int .i64 0, .int .i64 0, .int .i64 0, .int .i64 0] 86) = .cells [.bool false, .int .i64 0, .int .i64 0, .int .i64 0, .int .i64 0, .int .i64 0] 86 := fun f => rfl
  refine enIn cs o n c p Q hE okL ⟨rfl, ⟨(0, 0), ⟨Nat.zero_le _, rfl⟩, trivial, rfl, by simp [fEn, rnr, rn0, rn1, rn2]⟩, trivial⟩ fun zz hz _ => by_loop (fEn cs o n c p Q) (lp Try.f53 0) ?_ 0 zz hz
  rintro b ⟨k, a⟩ hinv J hJ
  have hinv : k ≤ 31 ∧ goW (eWord.list cs o n) p (31 - k) a = goW (eWord.list cs o n) p 31 0 := hinv
  obtain ⟨k1, k2⟩ := hinv
  show Sat E (inLp (lp Try.f53 0) J) ((fEn cs o n c p Q).st 0 (k, a))
  have hJ' : ∀ zz, (fEn cs o n c p Q).inv 0 zz → ltO ((fEn cs o n c p Q).mu 0 zz) (some (31 - k)) → Sat E (mkLp (lp Try.f53 0) J) ((fEn cs o n c p Q).st 0 zz) := fun zz h1 h2 => hJ 0 zz h1 h2
  by_cases hk : k < 31
  · have hlt : decide ((k : Int) < 31) = true := decide_eq_true (by omega)
    have hs : 31 - k = (31 - (k + 1)) + 1 := by omega
    by_cases han : a < n
    · have hlt2 : decide ((a : Int) ≥ (n : Int)) = false := decide_eq_false (by omega)
      obtain ⟨w, hw⟩ : ∃ w, (eWord.list cs o n)[a]? = some w := ⟨_, List.getElem?_eq_getElem (by rw [hlen]; omega)⟩
      have hrd := hr.read1 (P := Try.prog) (ty := 83) (by kernel_rfl) rfl (i := a) hw rfl rfl
      rw [← Nat.mul_one a] at hrd
      cases ho : okB w
      · have hg : goW (eWord.list cs o n) p 31 0 = none := by rw [← k2, hs]; exact goW_bad hw ho
        obtain ⟨q1, q2, q3⟩ := end_none hg
        rw [q1, q2, q3] at hE
        exact enN cs o n c p Q k a w J hE ⟨⟨rfl, rfl⟩, unp_no ho, hU w (List.mem_of_getElem? hw), hrd, ⟨Int.natCast_nonneg _, Int.ofNat_lt.2 han⟩, hlt2, hlt, trivial⟩
      · cases hl : lfB w
        · have hib := inner_bounds ho hl
          have hf := hib.1
          have hgo : goW (eWord.list cs o n) p (31 - (k + 1)) (goes p w).toNat = goW (eWord.list cs o n) p 31 0 := by rw [← k2, hs, goW_step hw ho hl]
          cases hd : decide (p.at (uF w) ≤ low32 w)
          · have hb : goes p w = uY w := by unfold goes; rw [hd]; rfl
            rw [hb] at hgo
            exact enR cs o n c p Q k a (uY w).toNat w (uF w) (low32 w) (uX w) (uY w) (p.at (uF w)) J hE okL ⟨rfl, ⟨(k + 1, (uY w).toNat), ⟨hk, hgo⟩, (by show 31 - (k + 1) < 31 - k; omega), rfl, by simp [fEn, rnr, rn0, rn1, rn2]⟩, i64_succ (by omega), (congrArg _ (Int.toNat_of_nonneg (by omega)).symm), hd, pt_read hf, hf, unp_inner ho hl, hU w (List.mem_of_getElem? hw), hrd, ⟨Int.natCast_nonneg _, Int.ofNat_lt.2 han⟩, hlt2, hlt, trivial⟩ hJ'
          · have hb : goes p w = uX w := by unfold goes; rw [hd]; rfl
            rw [hb] at hgo
            exact enL cs o n c p Q k a (uX w).toNat w (uF w) (low32 w) (uX w) (uY w) (p.at (uF w)) J hE okL ⟨rfl, ⟨(k + 1, (uX w).toNat), ⟨hk, hgo⟩, (by show 31 - (k + 1) < 31 - k; omega), rfl, by simp [fEn, rnr, rn0, rn1, rn2]⟩, i64_succ (by omega), (congrArg _ (Int.toNat_of_nonneg (by omega)).symm), hd, pt_read hf, hf, unp_inner ho hl, hU w (List.mem_of_getElem? hw), hrd, ⟨Int.natCast_nonneg _, Int.ofNat_lt.2 han⟩, hlt2, hlt, trivial⟩ hJ'
        · have hg : goW (eWord.list cs o n) p 31 0 = some a := by rw [← k2, hs]; exact goW_leaf hw ho hl
          obtain ⟨q1, q2, q3⟩ := end_some hg
          have q4 : (eWord.list cs o n).getD a 0 = w := by rw [List.getD_eq_getElem?_getD, hw]; rfl
          rw [q4] at q2
          rw [q1, q2, q3] at hE
          exact enF cs o n c p Q k a w (low32 w) J hE ⟨⟨rfl, rfl⟩, unp_leaf ho hl, hU w (List.mem_of_getElem? hw), hrd, ⟨Int.natCast_nonneg _, Int.ofNat_lt.2 han⟩, hlt2, hlt, trivial⟩
    · have hlt2 : decide ((a : Int) ≥ (n : Int)) = true := decide_eq_true (by omega)
      have hg : goW (eWord.list cs o n) p 31 0 = none := by rw [← k2, hs]; exact goW_out (by rw [hlen]; omega)
      obtain ⟨q1, q2, q3⟩ := end_none hg
      rw [q1, q2, q3] at hE
      exact enO cs o n c p Q k a J hE ⟨⟨rfl, rfl⟩, hlt2, hlt, trivial⟩
  · have hlt : decide ((k : Int) < 31) = false := decide_eq_false (by omega)
    have hg : goW (eWord.list cs o n) p 31 0 = none := by rw [← k2, show 31 - k = 0 by omega]; rfl
    obtain ⟨q1, q2, q3⟩ := end_none hg
    rw [q1, q2, q3] at hE
    exact enK cs o n c p Q k a J hE ⟨⟨rfl, rfl⟩, hlt, trivial⟩

def end_F : RoF := fun xs css => match xs, css with
  | [.slice (some ⟨0, o, none⟩) n c, .agg ⟨[.int .i64 p0, .int .i64 p1, .int .i64 p2, .int .i64 p3]⟩], [cs] => some (.tuple ⟨[.int .i64 (walkI (eWord.list cs o n) ⟨p0, p1, p2, p3⟩), nd (endL (eWord.list cs o n) ⟨p0, p1, p2, p3⟩) (endV (eWord.list cs o n) ⟨p0, p1, p2, p3⟩) 0 0 0 0]⟩, [], [eWord.Row cs o n, ∀ w ∈ eWord.list cs o n, U64 w, n ≤ 65536])
  | _, _ => none
theorem end_sum : SumOK Try.prog 53 (roSum end_F) := by
  refine roSum_ok (en Try.func53 rfl) ?_ (fun xs css r h => ?_)
  · intro xs css v blks ob h hob hpl hl
    unfold end_F at h
    split at h
    · rename_i o n c p0 p1 p2 p3 cs
      simp only [Option.some.injEq, Prod.mk.injEq] at h
      obtain ⟨rfl, rfl, rfl⟩ := h
      refine ⟨by simp, by simp, fun j hj => by simp [nms, nm1, nmL, nm0] at hj, ?_⟩
      exact end_spec cs o n c ⟨p0, p1, p2, p3⟩ (hob _ (List.mem_cons_self ..)) (hpl cs (by simp)) (hob _ (List.mem_cons_of_mem _ (List.mem_cons_self ..))) (hob _ (by simp))
    · simp at h
  · unfold end_F at h
    split at h <;> simp at h <;> simp

noncomputable def t_end : Sums := upd t_runpack 53 (some (roSum end_F))
theorem t_end_ok : SumsOK Try.prog t_end := sums_cons t_runpack_ok end_sum
end Go.Proofs.Ythbaccmhdffjdaa.Tr


set_option linter.unusedVariables false
set_option linter.unusedSimpArgs false
set_option maxRecDepth 100000
namespace Go.Proofs.Ythbaccmhdffjdaa.Tr
open Go Go.RowKit Go.Proofs.Ythbaccmhdffjdaa.Ev Go.Proofs.Ythbaccmhdffjdaa.NodeE Go.Proofs.Ythbaccmhdffjdaa.Tr

theorem vlP (cs : List Value) (o n c : Nat) (p : Pt) (a v : Int) (l : Bool)  {E : Env} (hE : EnvOK E Try.prog Try.f35 2 1 (.int .i64 v) [] []) (hob : all ([Back (Value.int IntKind.i64 v) (Value.int IntKind.i64 v) [] [] [], Value.tuple (Array.mk [Value.int IntKind.i64 (walkI (eWord.list cs o n) (Pt.mk p.p0 p.p1 p.p2 p.p3)), Value.agg (Array.mk [Value.bool (endL (eWord.list cs o n) (Pt.mk p.p0 p.p1 p.p2 p.p3)), Value.int IntKind.i64 (endV (eWord.list cs o n) (Pt.mk p.p0 p.p1 p.p2 p.p3)), Value.int IntKind.i64 ((0 : Int)), Value.int IntKind.i64 ((0 : Int)), Value.int IntKind.i64 ((0 : Int)), Value.int IntKind.i64 ((0 : Int))])]) = Value.tuple (Array.mk [Value.int IntKind.i64 a, Value.agg (Array.mk [Value.bool l, Value.int IntKind.i64 v, Value.int IntKind.i64 ((0 : Int)), Value.int IntKind.i64 ((0 : Int)), Value.int IntKind.i64 ((0 : Int)), Value.int IntKind.i64 ((0 : Int))])]), plainR [cs], eWord.Row cs o n, ∀ (w : Int), w ∈ eWord.list cs o n → U64 w, n ≤ 65536])) : Sat E [.code (bodyOf Try.f35)] (st0 Try.f35 [.slice (some ⟨0, o, none⟩) n c, .agg ⟨p.cs⟩] (roRows [cs]) 1) :=
  by_ret (T := auto0 t_end) (h := hints [(1, 2, {v := some (.tuple ⟨[.int .i64 a, nd l v 0 0 0 0]⟩)})]) (ws := []) (nx' := 1) hE hm (auto0_ok t_end_ok) (by omega) (by simp) (by simp) (by kernel_rfl) hob
end Go.Proofs.Ythbaccmhdffjdaa.Tr


set_option linter.unusedVariables false
set_option linter.unusedSimpArgs false
set_option maxRecDepth 100000
namespace Go.Proofs.Ythbaccmhdffjdaa.Tr
open Go Go.RowKit Go.Proofs.Ythbaccmhdffjdaa.Ev Go.Proofs.Ythbaccmhdffjdaa.NodeE

theorem value_spec (cs : List Value) (o n c : Nat) (p : Pt) (hr : eWord.Row cs o n) (hpl : ∀ x ∈ cs, leafG x = true) (hU : ∀ w ∈ eWord.list cs o n, U64 w) (hn : n ≤ 65536) :
    CallSpec Try.prog 35 [.slice (some ⟨0, o, none⟩) n c, .agg ⟨p.cs⟩] (roRows [cs]) 1 (.int .i64 (endV (eWord.list cs o n) p)) (assocN [] []) := by
  refine spec_of_sat Try.func35 rfl fun E hE => ?_
  exact vlP cs o n c p (walkI (eWord.list cs o n) p) (endV (eWord.list cs o n) p) (endL (eWord.list cs o n) p) hE ⟨⟨rfl, rfl⟩, rfl, plain1 hpl, hr, hU, hn, trivial⟩

def value_F : RoF := fun xs css => match xs, css with
  | [.slice (some ⟨0, o, none⟩) n c, .agg ⟨[.int .i64 p0, .int .i64 p1, .int .i64 p2, .int .i64 p3]⟩], [cs] => some (.int .i64 (endV (eWord.list cs o n) ⟨p0, p1, p2, p3⟩), [], [eWord.Row cs o n, ∀ w ∈ eWord.list cs o n, U64 w, n ≤ 65536])
  | _, _ => none
theorem value_sum : SumOK Try.prog 35 (roSum value_F) := by
  refine roSum_ok (en Try.func35 rfl) ?_ (fun xs css r h => ?_)
  · intro xs css v blks ob h hob hpl hl
    unfold value_F at h
    split at h
    · rename_i o n c p0 p1 p2 p3 cs
      simp only [Option.some.injEq, Prod.mk.injEq] at h
      obtain ⟨rfl, rfl, rfl⟩ := h
      refine ⟨by simp, by simp, fun j hj => by simp [nms, nm1, nmL, nm0] at hj, ?_⟩
      exact value_spec cs o n c ⟨p0, p1, p2, p3⟩ (hob _ (List.mem_cons_self ..)) (hpl cs (by simp)) (hob _ (List.mem_cons_of_mem _ (List.mem_cons_self ..))) (hob _ (by simp))
    · simp at h
  · unfold value_F at h
    split at h <;> simp at h <;> simp

end Go.Proofs.Ythbaccmhdffjdaa.Tr


set_option linter.unusedVariables false
set_option linter.unusedSimpArgs false
set_option maxRecDepth 100000
namespace Go.Proofs.Ythbaccmhdffjdaa.Tr
open Go Go.RowKit Go.Proofs.Ythbaccmhdffjdaa.Ev Go.Proofs.Ythbaccmhdffjdaa.NodeE

/-- The counts so far, as the program keeps them. -/
def cntL (ws : List Int) (n : Nat) : List Int := (List.range n).map fun (k : Nat) => (Int.ofNat (named ws (k : Int)))
theorem cntL_len (ws : List Int) (n : Nat) : (cntL ws n).length = n := by simp [cntL]
theorem cntL_get {ws : List Int} {n k : Nat} (h : k < n) : (cntL ws n)[k]? = some (named ws (k : Int) : Int) := by
  simp [cntL, h]
theorem named_le (ws : List Int) (k : Int) : named ws k ≤ 2 * ws.length := by
  induction ws with
  | nil => simp [named]
  | cons w ws ih =>
    have h1 : (namesW w).length ≤ 2 := by unfold namesW; cases lfB w <;> simp
    have h2 := List.count_le_length (a := k) (l := namesW w)
    simp only [named, List.flatMap_cons, List.count_append, List.length_cons] at ih ⊢
    omega
theorem cnt_two {ws : List Int} {w : Int} {n : Nat} {X Y : Nat} (hl : lfB w = false) (hx : uX w = X) (hy : uY w = Y) (hne : X ≠ Y) (hX : X < n) (hY : Y < n) :
    ((cntL ws n).set X ((named ws (X : Int) : Int) + 1)).set Y ((named ws (Y : Int) : Int) + 1) = cntL (ws ++ [w]) n := by
  apply List.ext_getElem
  · simp [cntL]
  · intro k h1 h2
    have hk : k < n := by simpa [cntL] using h2
    simp only [List.getElem_set]
    simp only [cntL, List.getElem_map, List.getElem_range, named_snoc, namesW, hl, cond_false, hx, hy, List.count_cons, List.count_nil]
    by_cases e1 : Y = k
    · subst e1
      have : ¬ (X : Int) = (Y : Int) := by omega
      simp [this]
    · by_cases e2 : X = k
      · subst e2
        have : ¬ (Y : Int) = (X : Int) := by omega
        simp [e1, this]
      · have h3 : ¬ (X : Int) = (k : Int) := by omega
        have h4 : ¬ (Y : Int) = (k : Int) := by omega
        simp [e1, e2, h3, h4]
theorem cnt_leaf {ws : List Int} {w : Int} {n : Nat} (hl : lfB w = true) : cntL (ws ++ [w]) n = cntL ws n := by
  unfold cntL
  refine List.map_congr_left fun k _ => ?_
  rw [named_snoc]; simp [namesW, hl]
theorem cnt_zero (n : Nat) : cntL [] n = List.replicate n 0 := by
  apply List.ext_getElem
  · simp [cntL]
  · intro k h1 h2; simp [cntL, named_nil]
theorem rd_int {l : List Int} {k : Nat} {z : Int} (h : l[k]? = some z) : readPart Try.prog 3 (eInt.row l) (0 + k * 1) = some (.int .i64 z) := by
  rw [Nat.mul_one]
  exact (Elt.canon0 (e := eInt) l).1.read1 (P := Try.prog) (ty := 3) (by kernel_rfl) rfl (i := k) (x := z) (by rw [(Elt.canon0 l).2]; exact h) rfl rfl
theorem rd_off {l : List Int} {q j : Nat} {z : Int} (h : l[q + j]? = some z) : readPart Try.prog 3 (eInt.row l) (q + ((j : Nat) : Int).toNat * 1) = some (.int .i64 z) := by
  have := rd_int h
  rw [Nat.mul_one, Nat.zero_add] at this
  rw [Int.toNat_natCast, Nat.mul_one]
  exact this
theorem min_gt {x y i : Int} (h : ¬ minI x y ≤ i) : i < x ∧ i < y := by unfold minI at h; split at h <;> omega
theorem max_lt {x y i : Int} (h : ¬ maxI x y ≥ i) : x < i ∧ y < i := by unfold maxI at h; split at h <;> omega
theorem not_min {x y i : Int} (h1 : i < x) (h2 : i < y) : ¬ minI x y ≤ i := by unfold minI; split <;> omega
theorem not_max {x y i : Int} (h1 : x < i) (h2 : y < i) : ¬ maxI x y ≥ i := by unfold maxI; split <;> omega
theorem right_spec (cs : List Value) (o n c : Nat) (dim : Int) (hr : eWord.Row cs o n) (hpl : ∀ x ∈ cs, leafG x = true) (hU : ∀ w ∈ eWord.list cs o n, U64 w) (hn : n ≤ 65536) :
    CallSpec Try.prog 42 [.slice (some ⟨0, o, none⟩) n c, .int .i64 dim] (roRows [cs]) 1 (.bool (rightI (eWord.list cs o n) dim)) (assocN [] []) := by
  refine spec_of_sat Try.func42 rfl fun E hE => ?_
  have hlen : (eWord.list cs o n).length = n := Elt.list_len _ _ _
  generalize hws : eWord.list cs o n = ws at hU hlen hE
  refine (Classical.em (1 ≤ n)).symm.elim (fun h1 => ?_) (fun h1 => ?_)
  · rw [right_len (by omega)] at hE
    exact rtShort cs o n c dim hE ⟨⟨rfl, rfl⟩, (congrArg _ (decide_eq_true (by omega))), trivial⟩
  have g1 : Value.bool (decide ((n : Int) < 1)) = .bool false := congrArg _ (decide_eq_false (by omega))
  refine (Classical.em (n ≤ 31)).symm.elim (fun h31 => ?_) (fun h31 => ?_)
  · rw [right_len (by omega)] at hE
    exact rtLong cs o n c dim hE ⟨⟨rfl, rfl⟩, (congrArg _ (decide_eq_true (by omega))), g1, trivial⟩
  have g2 : Value.bool (decide ((n : Int) > 31)) = .bool false := congrArg _ (decide_eq_false (by omega))
  let Q : Nat × List Int → Prop := fun s => s.1 ≤ n ∧ (∀ (j : Nat) (w : Int), j < s.1 → ws[j]? = some w → goodW dim n j w = true) ∧ s.2 = cntL (ws.take s.1) n
  have okL := fRt_ok cs o n c dim Q hpl
  have rnr : ∀ f : Nat → Nat, Blk.rnB f (.ro cs) = .ro cs := fun f => Blk.plain.rnB (b := .ro cs) hpl f
  have rni : ∀ (f : Nat → Nat) (l : List Int), Blk.rnB f (.cells (eInt.row l) 3) = .cells (eInt.row l) 3 := fun f l => Blk.plain.rnB (b := .cells (eInt.row l) 3) (Elt.row_pl _) f
  have hz : repl [Value.int .i64 0] n = eInt.row (cntL [] n) := by rw [cnt_zero]; exact repl_row (e := eInt) (x := 0) rfl _
  refine rtIn cs o n c dim Q (cntL [] n) hE okL ⟨rfl, ⟨(0, cntL [] n), ⟨Nat.zero_le _, fun j w hj => absurd hj (Nat.not_lt_zero _), rfl⟩, trivial, rfl, by simp [fRt, rnr, rni]⟩, ⟨rfl, Int.natCast_nonneg _, by show (n : Int) ≤ _; omega, by show (8 : Int) * (n : Int) ≤ _; omega, hz.symm⟩, g2, g1, trivial⟩ fun zz hz _ => by_loop (fRt cs o n c dim Q) (lp Try.f42 0) ?_ 0 zz hz
  rintro b ⟨i, r⟩ hinv J hJ
  have hinv : i ≤ n ∧ (∀ (j : Nat) (w : Int), j < i → ws[j]? = some w → goodW dim n j w = true) ∧ r = cntL (ws.take i) n := hinv
  obtain ⟨k1, k2, k3⟩ := hinv
  show Sat E (inLp (lp Try.f42 0) J) ((fRt cs o n c dim Q).st 0 (i, r))
  have hJ' : ∀ zz, (fRt cs o n c dim Q).inv 0 zz → ltO ((fRt cs o n c dim Q).mu 0 zz) (some (n - i)) → Sat E (mkLp (lp Try.f42 0) J) ((fRt cs o n c dim Q).st 0 zz) := fun zz h1 h2 => hJ 0 zz h1 h2
  by_cases hin : i < n
  · have hlt : decide ((i : Int) < (n : Int)) = true := decide_eq_true (by omega)
    obtain ⟨w, hw⟩ : ∃ w, ws[i]? = some w := ⟨_, List.getElem?_eq_getElem (by rw [hlen]; omega)⟩
    have hrd := hr.read1 (P := Try.prog) (ty := 83) (by kernel_rfl) rfl (i := i) (x := w) (by rw [hws]; exact hw) rfl rfl
    rw [← Nat.mul_one i] at hrd
    have htk : ws.take (i + 1) = ws.take i ++ [w] := by rw [List.take_add_one, hw]; rfl
    have nxt : goodW dim n i w = true → ∀ (j : Nat) (v : Int), j < i + 1 → ws[j]? = some v → goodW dim n j v = true := fun hg j v hj hv => by
      by_cases e : j < i
      · exact k2 j v e hv
      · obtain rfl : j = i := by omega
        rw [hw] at hv; injection hv with hv; subst hv; exact hg
    cases hgd : goodW dim n i w
    · have hbad : rightI ws dim = false := right_bad hw (by rw [hlen]; exact hgd)
      rw [hbad] at hE
      cases ho : okB w
      · exact rtN cs o n c dim Q i r w J hE ⟨⟨rfl, rfl⟩, unp_no ho, hU w (List.mem_of_getElem? hw), hrd, ⟨Int.natCast_nonneg _, Int.ofNat_lt.2 hin⟩, hlt, trivial⟩
      · refine (Bool.eq_false_or_eq_true (lfB w)).elim (fun hl => ?_) (fun hl => ?_)
        · rw [good_leaf ho hl] at hgd; exact absurd hgd (by simp)
        refine (Classical.em (uF w < dim)).symm.elim (fun d1 => ?_) (fun d1 => ?_)
        · exact rtD cs o n c dim Q i r w (uF w) (low32 w) (uX w) (uY w) J hE ⟨⟨rfl, rfl⟩, (congrArg _ (decide_eq_true (by omega))), unp_inner ho hl, hU w (List.mem_of_getElem? hw), hrd, ⟨Int.natCast_nonneg _, Int.ofNat_lt.2 hin⟩, hlt, trivial⟩
        have e1 : Value.bool (decide (uF w ≥ dim)) = .bool false := congrArg _ (decide_eq_false (by omega))
        by_cases d2 : uX w = uY w
        · exact rtE cs o n c dim Q i r w (uF w) (low32 w) (uX w) (uY w) J hE ⟨⟨rfl, rfl⟩, (congrArg _ (beq_iff_eq.2 d2)), e1, unp_inner ho hl, hU w (List.mem_of_getElem? hw), hrd, ⟨Int.natCast_nonneg _, Int.ofNat_lt.2 hin⟩, hlt, trivial⟩
        have e2 : Value.bool (uX w == uY w) = .bool false := congrArg _ (beq_eq_false_iff_ne.2 d2)
        by_cases d3 : minI (uX w) (uY w) ≤ (i : Int)
        · exact rtM cs o n c dim Q i r w (uF w) (low32 w) (uX w) (uY w) J hE ⟨⟨rfl, rfl⟩, (congrArg _ (decide_eq_true d3)), e2, e1, unp_inner ho hl, hU w (List.mem_of_getElem? hw), hrd, ⟨Int.natCast_nonneg _, Int.ofNat_lt.2 hin⟩, hlt, trivial⟩
        have e3 : Value.bool (decide (minI (uX w) (uY w) ≤ (i : Int))) = .bool false := congrArg _ (decide_eq_false d3)
        by_cases d4 : maxI (uX w) (uY w) ≥ (n : Int)
        · exact rtX cs o n c dim Q i r w (uF w) (low32 w) (uX w) (uY w) J hE ⟨⟨rfl, rfl⟩, (congrArg _ (decide_eq_true d4)), e3, e2, e1, unp_inner ho hl, hU w (List.mem_of_getElem? hw), hrd, ⟨Int.natCast_nonneg _, Int.ofNat_lt.2 hin⟩, hlt, trivial⟩
        rw [good_mk hl ho d1 d2 (min_gt d3).1 (min_gt d3).2 (max_lt d4).1 (max_lt d4).2] at hgd
        exact absurd hgd (by simp)
    · cases hl : lfB w
      · obtain ⟨ho, d1, d2, d3, d4, d5, d6⟩ := good_inner hgd hl
        obtain ⟨X, hX⟩ := Int.eq_ofNat_of_zero_le (show 0 ≤ uX w by omega)
        obtain ⟨Y, hY⟩ := Int.eq_ofNat_of_zero_le (show 0 ≤ uY w by omega)
        have e1 : Value.bool (decide (uF w ≥ dim)) = .bool false := congrArg _ (decide_eq_false (by omega))
        have e2 : Value.bool (uX w == uY w) = .bool false := congrArg _ (beq_eq_false_iff_ne.2 d2)
        have e3 : Value.bool (decide (minI (uX w) (uY w) ≤ (i : Int))) = .bool false := congrArg _ (decide_eq_false (not_min d3 d4))
        have e4 : Value.bool (decide (maxI (uX w) (uY w) ≥ (n : Int))) = .bool false := congrArg _ (decide_eq_false (not_max d5 d6))
        have hXn : X < n := by omega
        have hYn : Y < n := by omega
        have hne : X ≠ Y := by omega
        have hlX := named_le (ws.take i) X
        have hlY := named_le (ws.take i) Y
        have htl : (ws.take i).length ≤ 31 := by rw [List.length_take, hlen]; omega
        have r1 := cntL_get (ws := ws.take i) hXn
        have hrd1 := rd_int (l := r) (k := X) (z := (named (ws.take i) (X : Int) : Int)) (by rw [k3]; exact r1)
        have hst1 := lsetE (e := eInt) (l := r) (k := X) (f := 0) (o := 0 + X * 1) (x := (named (ws.take i) (X : Int) : Int) + 1) (vs := [.int .i64 ((named (ws.take i) (X : Int) : Int) + 1)]) (by rw [k3]; exact r1) rfl (by simp [eInt])
        have r2 : (r.set X ((named (ws.take i) (X : Int) : Int) + 1))[Y]? = some (named (ws.take i) (Y : Int) : Int) := by
          rw [List.getElem?_set_ne hne, k3]; exact cntL_get hYn
        have hrd2 := rd_int (l := r.set X ((named (ws.take i) (X : Int) : Int) + 1)) (k := Y) (z := (named (ws.take i) (Y : Int) : Int)) r2
        have hst2 := lsetE (e := eInt) (l := r.set X ((named (ws.take i) (X : Int) : Int) + 1)) (k := Y) (f := 0) (o := 0 + Y * 1) (x := (named (ws.take i) (Y : Int) : Int) + 1) (vs := [.int .i64 ((named (ws.take i) (Y : Int) : Int) + 1)]) r2 rfl (by simp [eInt])
        have hfin : (r.set X ((named (ws.take i) (X : Int) : Int) + 1)).set Y ((named (ws.take i) (Y : Int) : Int) + 1) = cntL (ws.take (i + 1)) n := by rw [k3, htk]; exact cnt_two hl hX hY hne hXn hYn
        rw [hX, hY] at e2 e3 e4
        have hun := unp_inner ho hl
        rw [hX, hY] at hun
        exact rtG cs o n c dim Q i r _ _ w (uF w) (low32 w) X Y _ _ _ _ J hE okL ⟨rfl, ⟨(i + 1, (r.set X ((named (ws.take i) (X : Int) : Int) + 1)).set Y ((named (ws.take i) (Y : Int) : Int) + 1)), ⟨hin, nxt hgd, hfin⟩, (by show n - (i + 1) < n - i; omega), rfl, by simp [fRt, rnr, rni]⟩, i64_succ (by omega), hst2, ⟨Int.natCast_nonneg _, Int.ofNat_lt.2 hYn⟩, (i64_id rfl (by omega) (by omega)), hrd2, ⟨Int.natCast_nonneg _, Int.ofNat_lt.2 hYn⟩, hst1, ⟨Int.natCast_nonneg _, Int.ofNat_lt.2 hXn⟩, (i64_id rfl (by omega) (by omega)), hrd1, ⟨Int.natCast_nonneg _, Int.ofNat_lt.2 hXn⟩, e4, e3, e2, e1, hun, hU w (List.mem_of_getElem? hw), hrd, ⟨Int.natCast_nonneg _, Int.ofNat_lt.2 hin⟩, hlt, trivial⟩ hJ'
      · have ho : okB w = true := by simp [goodW] at hgd; exact hgd.1
        exact rtF cs o n c dim Q i r w (low32 w) J hE okL ⟨rfl, ⟨(i + 1, r), ⟨hin, nxt hgd, by rw [htk, cnt_leaf hl]; exact k3⟩, (by show n - (i + 1) < n - i; omega), rfl, by simp [fRt, rnr, rni]⟩, i64_succ (by omega), unp_leaf ho hl, hU w (List.mem_of_getElem? hw), hrd, ⟨Int.natCast_nonneg _, Int.ofNat_lt.2 hin⟩, hlt, trivial⟩ hJ'
  · have hlt : decide ((i : Int) < (n : Int)) = false := decide_eq_false (by omega)
    obtain rfl : i = n := by omega
    have hall : ∀ (j : Nat) (w : Int), ws[j]? = some w → goodW dim i j w = true := fun j w hw => k2 j w (by have := (List.getElem?_eq_some_iff.1 hw).1; omega) hw
    have hr3 : r = cntL ws i := by rw [k3, List.take_of_length_le (by omega)]
    clear k3 k2 hJ' hJ
    have hrl : r.length = i := by rw [hr3]; exact cntL_len _ _
    let Q2 : Nat → Prop := fun j => j ≤ i - 1 ∧ ∀ k : Nat, 1 ≤ k → k < j + 1 → named ws (k : Int) = 1
    have sl : ∃ q : Nat, (q = 1 ∨ i = 1) ∧ SlOK 1 10 0 i i (some 1) none (some (.cells (eInt.row r) 3)) (.slice (some ⟨10, q, none⟩) (i - 1) (i - 1)) := by
      by_cases h : i = 1
      · refine ⟨0, Or.inr h, 1, i, rfl, rfl, by omega, Nat.le_refl _, Or.inr ⟨by unfold Ev.mark; omega, Nat.le_refl _, Or.inl ⟨by omega, ?_⟩⟩⟩
        simp
      · refine ⟨1, Or.inl rfl, 1, i, rfl, rfl, by omega, Nat.le_refl _, Or.inr ⟨by unfold Ev.mark; omega, Nat.le_refl _, Or.inr ⟨by omega, ?_⟩⟩⟩
        simp
    obtain ⟨q, hq, hsl⟩ := sl
    refine rtZ cs o i c (i - 1) q dim Q Q2 i r J hE (fRn_ok (i - 1) q r Q2) ⟨rfl, ⟨0, ⟨Nat.zero_le _, fun k a b => by omega⟩, trivial, rfl, by simp [fRn, rni]⟩, hsl, hlt, trivial⟩ fun zz hz _ => by_loop (fRn (i - 1) q r Q2) (lp Try.f42 1) ?_ 0 zz hz
    rintro b j hinv J hJ
    have hinv : j ≤ i - 1 ∧ ∀ k : Nat, 1 ≤ k → k < j + 1 → named ws (k : Int) = 1 := hinv
    obtain ⟨m1, m2⟩ := hinv
    show Sat E (inLp (lp Try.f42 1) J) ((fRn (i - 1) q r Q2).st 0 j)
    have hJ' : ∀ zz, (fRn (i - 1) q r Q2).inv 0 zz → ltO ((fRn (i - 1) q r Q2).mu 0 zz) (some (i - 1 - j)) → Sat E (mkLp (lp Try.f42 1) J) ((fRn (i - 1) q r Q2).st 0 zz) := fun zz h1 h2 => hJ 0 zz h1 h2
    by_cases hji : j < i - 1
    · have hlt : decide ((j : Int) < ((i - 1 : Nat) : Int)) = true := decide_eq_true (by omega)
      obtain rfl : q = 1 := by omega
      have hrd := rd_off (l := r) (q := 1) (j := j) (z := (named ws ((1 + j : Nat) : Int) : Int)) (by rw [hr3]; exact cntL_get (by omega))
      by_cases h1' : named ws ((1 + j : Nat) : Int) = 1
      · exact rnY (i - 1) 1 r Q2 j _ J hE (fRn_ok (i - 1) 1 r Q2) ⟨rfl, ⟨j + 1, ⟨by omega, fun k a b => by
            by_cases e : k < j + 1
            · exact m2 k a e
            · obtain rfl : k = 1 + j := by omega
              exact h1'⟩, (by show i - 1 - (j + 1) < i - 1 - j; omega), rfl, by simp [fRn, rni]⟩, i64_succ (by omega), (by rw [h1']; rfl), hrd, ⟨Int.natCast_nonneg _, Int.ofNat_lt.2 hji⟩, hlt, trivial⟩ hJ'
      · rw [right_once (k := 1 + j) (by omega) (by omega) h1'] at hE
        exact rnN (i - 1) 1 r Q2 j _ J hE ⟨⟨rfl, rfl⟩, (by simp only [bne_iff_ne, ne_eq]; omega), hrd, ⟨Int.natCast_nonneg _, Int.ofNat_lt.2 hji⟩, hlt, trivial⟩
    · have hlt : decide ((j : Int) < ((i - 1 : Nat) : Int)) = false := decide_eq_false (by omega)
      have hR : rightI ws dim = true := right_parts.2 ⟨⟨by omega, by omega⟩, fun j w hw => by rw [hlen]; exact hall j w hw, fun k a b => m2 k a (by omega)⟩
      rw [hR] at hE
      exact rnE (i - 1) q r Q2 j J hE ⟨⟨rfl, rfl⟩, hlt, trivial⟩
def right_F : RoF := fun xs css => match xs, css with
  | [.slice (some ⟨0, o, none⟩) n c, .int .i64 dim], [cs] => some (.bool (rightI (eWord.list cs o n) dim), [], [eWord.Row cs o n, ∀ w ∈ eWord.list cs o n, U64 w, n ≤ 65536])
  | [.slice none 0 0, .int .i64 dim], [] => some (.bool false, [], [])
  | _, _ => none
theorem right_sum : SumOK Try.prog 42 (roSum right_F) := by
  refine roSum_ok (en Try.func42 rfl) ?_ (fun xs css r h => ?_)
  · intro xs css v blks ob h hob hpl hl
    unfold right_F at h
    split at h
    · rename_i o n c dim cs
      simp only [Option.some.injEq, Prod.mk.injEq] at h
      obtain ⟨rfl, rfl, rfl⟩ := h
      refine ⟨by simp, by simp, fun j hj => by simp [nms, nm1, nmL, nm0] at hj, ?_⟩
      exact right_spec cs o n c dim (hob _ (List.mem_cons_self ..)) (hpl cs (by simp)) (hob _ (List.mem_cons_of_mem _ (List.mem_cons_self ..))) (hob _ (by simp))
    · rename_i dim
      simp only [Option.some.injEq, Prod.mk.injEq] at h
      obtain ⟨rfl, rfl, rfl⟩ := h
      refine ⟨by simp, by simp, fun j hj => by simp [nms, nm1, nmL, nm0] at hj, ?_⟩
      exact spec_of_sat Try.func42 rfl fun E hE => rtNil dim hE ⟨⟨rfl, rfl⟩, trivial⟩
    · simp at h
  · unfold right_F at h
    split at h <;> simp at h <;> simp
noncomputable def t_right : Sums := upd t_runpack 42 (some (roSum right_F))
theorem t_right_ok : SumsOK Try.prog t_right := sums_cons t_runpack_ok right_sum
end Go.Proofs.Ythbaccmhdffjdaa.Tr


set_option linter.unusedVariables false
set_option linter.unusedSimpArgs false
namespace Go.Proofs.Ythbaccmhdffjdaa.Ev
open Go Go.RowKit
abbrev kI (z : Int) : Value := .int .i64 z
def keysI (es : List Ent) : Prop := ∀ e ∈ es, ∃ z, e.1 = kI z
theorem keysI_nil : keysI [] := fun e h => by simp at h
theorem keyEq_kI (a b : Int) : keyEq (kI a) (kI b) = (a == b) := rfl
theorem keysI_put {es : List Ent} (h : keysI es) (b : Int) (v : Value) (c : Nat) : keysI (mput (kI b) v c es) := by
  induction es with
  | nil => intro e he; simp [mput] at he; subst he; exact ⟨b, rfl⟩
  | cons e es ih =>
    have hes : keysI es := fun x hx => h x (by simp [hx])
    intro x hx
    simp only [mput] at hx
    cases hk : keyEq (kI b) e.1 <;> rw [hk] at hx
    · simp only [cond_false, List.mem_cons] at hx
      rcases hx with rfl | hx
      · exact h x (by simp)
      · exact ih hes x hx
    · simp only [cond_true, List.mem_cons] at hx
      rcases hx with rfl | hx
      · exact h e (by simp)
      · exact hes x hx
theorem mgetB_put {es : List Ent} (h : keysI es) (a b : Int) (t : Bool) (c : Nat) : mgetB (kI a) (mput (kI b) (.bool t) c es) = bif a == b then t else mgetB (kI a) es := by
  induction es with
  | nil => simp only [mput, mgetB, keyEq_kI, boolV]
  | cons e es ih =>
    have hes : keysI es := fun x hx => h x (by simp [hx])
    obtain ⟨z, hz⟩ := h e (by simp)
    simp only [mput, hz, keyEq_kI]
    cases hb : b == z
    · simp only [cond_false, mgetB, hz, keyEq_kI, ih hes]
      cases ha : a == z
      · rfl
      · have : (a == b) = false := by
          rw [beq_iff_eq] at ha; subst ha
          rw [beq_eq_false_iff_ne] at hb ⊢
          exact fun e => hb e.symm
        rw [this]; rfl
    · rw [beq_iff_eq] at hb; subst hb
      simp only [cond_true, mgetB, hz, keyEq_kI, boolV]
      cases a == b <;> rfl
theorem mgetI_putI {es : List Ent} (h : keysI es) (a b : Int) (n : Int) (c : Nat) : mgetI (kI a) (mput (kI b) (.int .i64 n) c es) = bif a == b then n else mgetI (kI a) es := by
  induction es with
  | nil => simp only [mput, mgetI, keyEq_kI, intV]
  | cons e es ih =>
    have hes : keysI es := fun x hx => h x (by simp [hx])
    obtain ⟨z, hz⟩ := h e (by simp)
    simp only [mput, hz, keyEq_kI]
    cases hb : b == z
    · simp only [cond_false, mgetI, hz, keyEq_kI, ih hes]
      cases ha : a == z
      · rfl
      · have : (a == b) = false := by
          rw [beq_iff_eq] at ha; subst ha
          rw [beq_eq_false_iff_ne] at hb ⊢
          exact fun e => hb e.symm
        rw [this]; rfl
    · rw [beq_iff_eq] at hb; subst hb
      simp only [cond_true, mgetI, hz, keyEq_kI, intV]
      cases a == b <;> rfl
end Go.Proofs.Ythbaccmhdffjdaa.Ev


set_option linter.unusedVariables false
set_option linter.unusedSimpArgs false
set_option maxRecDepth 100000
namespace Go.Proofs.Ythbaccmhdffjdaa.Tr
open Go Go.RowKit Go.Proofs.Ythbaccmhdffjdaa.Ev Go.Proofs.Ythbaccmhdffjdaa.NodeE Go.Proofs.Ythbaccmhdffjdaa.Tr

structure GT where
  i : Nat
  es : List Ent
  c : Nat
def fGt (cs : List Value) (o n c : Nat) (dim : Int) (Q : GT → Prop) : LoopF GT where
  ts _ := [0, 1, 5, 20, 21, 22]
  hs _ := [0, 10]
  tv _ := fun ⟨i, es, k⟩ => [.slice (some ⟨0, o, none⟩) n c, .int .i64 dim, .map (some 10), .slice (some ⟨0, o, none⟩) n c, .int .i64 (n : Int), .int .i64 (i : Int)]
  hv _ := fun ⟨i, es, k⟩ => [.ro cs, .map [some .i64] false (some .i64) es k]
  inv _ := Q
  mu _ := fun ⟨i, es, k⟩ => n - i
  nx := 12
def fGn (cs : List Value) (o n c : Nat) (es : List Ent) (k : Nat) (Q : Nat → Prop) : LoopF Nat where
  ts _ := [0, 5, 10]
  hs _ := [0, 10]
  tv _ := fun i => [.slice (some ⟨0, o, none⟩) n c, .map (some 10), .int .i64 (i : Int)]
  hv _ := fun i => [.ro cs, .map [some .i64] false (some .i64) es k]
  inv _ := Q
  mu _ := fun i => n - i
  nx := 12

theorem fGt_ok (cs : List Value) (o n c : Nat) (dim : Int) (Q : GT → Prop) (hpl : ∀ x ∈ cs, leafG x = true) : (fGt cs o n c dim Q).OK 1 := by
  refine ⟨(by decide : 1 ≤ 12), fun z i h k hk => ?_, fun z i h v hv k hk => ?_, fun z i h x hx => ?_⟩
  · show k < 12
    simp [fGt] at hk; omega
  · show k < 12
    simp [fGt] at hv
    repeat' (refine Or.elim hv (fun hv => ?_) (fun hv => ?_))
    all_goals (subst hv; simp [nms, nm1, nm0] at hk; try omega)
  · simp [fGt] at hx
    rcases hx with rfl | rfl
    · exact Blk.plain.namesLt (b := .ro cs) hpl _
    · exact trivial

theorem fGn_ok (cs : List Value) (o n c : Nat) (es : List Ent) (k : Nat) (Q : Nat → Prop) (hpl : ∀ x ∈ cs, leafG x = true) : (fGn cs o n c es k Q).OK 1 := by
  refine ⟨(by decide : 1 ≤ 12), fun z i h k hk => ?_, fun z i h v hv k hk => ?_, fun z i h x hx => ?_⟩
  · show k < 12
    simp [fGn] at hk; omega
  · show k < 12
    simp [fGn] at hv
    repeat' (refine Or.elim hv (fun hv => ?_) (fun hv => ?_))
    all_goals (subst hv; simp [nms, nm1, nm0] at hk; try omega)
  · simp [fGn] at hx
    rcases hx with rfl | rfl
    · exact Blk.plain.namesLt (b := .ro cs) hpl _
    · exact trivial

end Go.Proofs.Ythbaccmhdffjdaa.Tr


set_option linter.unusedVariables false
set_option linter.unusedSimpArgs false
set_option maxRecDepth 100000
namespace Go.Proofs.Ythbaccmhdffjdaa.Tr
open Go Go.RowKit Go.Proofs.Ythbaccmhdffjdaa.Ev Go.Proofs.Ythbaccmhdffjdaa.NodeE Go.Proofs.Ythbaccmhdffjdaa.Tr

theorem gtNil (dim : Int)  {E : Env} (hE : EnvOK E Try.prog Try.f45 2 0 (.bool false) [] []) (hob : all ([Back (Value.bool false) (Value.bool false) [] [] []])) : Sat E [.code (bodyOf Try.f45)] (st0 Try.f45 [.slice none 0 0, .int .i64 dim] (roRows []) 0) :=
  by_ret (T := auto0 t_runpack) (h := hints []) (ws := []) (nx' := 0) hE hm (auto0_ok t_runpack_ok) (by omega) (by simp) (by simp) (by kernel_rfl) hob
theorem gtShort (cs : List Value) (o n c : Nat) (dim : Int)  {E : Env} (hE : EnvOK E Try.prog Try.f45 2 1 (.bool false) [] []) (hob : all ([Back (Value.bool false) (Value.bool false) [] [] [], Value.bool (decide ((↑n : Int) < 1)) = Value.bool true])) : Sat E [.code (bodyOf Try.f45)] (st0 Try.f45 [.slice (some ⟨0, o, none⟩) n c, .int .i64 dim] (roRows [cs]) 1) :=
  by_ret (T := auto0 t_runpack) (h := hints [(1, 2, ht true)]) (ws := []) (nx' := 1) hE hm (auto0_ok t_runpack_ok) (by omega) (by simp) (by simp) (by kernel_rfl) hob
theorem gtLong (cs : List Value) (o n c : Nat) (dim : Int)  {E : Env} (hE : EnvOK E Try.prog Try.f45 2 1 (.bool false) [] []) (hob : all ([Back (Value.bool false) (Value.bool false) [] [] [], Value.bool (decide ((↑n : Int) > 31)) = Value.bool true, Value.bool (decide ((↑n : Int) < 1)) = Value.bool false])) : Sat E [.code (bodyOf Try.f45)] (st0 Try.f45 [.slice (some ⟨0, o, none⟩) n c, .int .i64 dim] (roRows [cs]) 1) :=
  by_ret (T := auto0 t_runpack) (h := hints [(1, 2, ht false), (1, 6, ht true)]) (ws := []) (nx' := 1) hE hm (auto0_ok t_runpack_ok) (by omega) (by simp) (by simp) (by kernel_rfl) hob
theorem gtIn (cs : List Value) (o n c : Nat) (dim : Int) (Q : GT → Prop)  {E : Env} {rv : Value} {rhs : List Nat} {rhv : List Blk} (hE : EnvOK E Try.prog Try.f45 2 1 rv rhs rhv) (hL : (fGt cs o n c dim Q).OK 1) (hob : all ([SameK (atLp (lp Try.f45 0)) (atLp (lp Try.f45 0)), Enter (fGt cs o n c dim Q) 0 none [Value.slice (some (Addr.mk 0 o none)) n c, Value.int IntKind.i64 dim, Value.map (some 37), Value.slice (some (Addr.mk 0 o none)) n c, Value.int IntKind.i64 ((n : Int)), Value.int IntKind.i64 ((0 : Int))] [Blk.ro cs, Blk.map [some IntKind.i64] false (some IntKind.i64) [] 0] [(0, 0), (10, 37), (0, 0)], Value.bool (decide ((↑n : Int) > 31)) = Value.bool false, Value.bool (decide ((↑n : Int) < 1)) = Value.bool false])) (hK : ∀ zz, (fGt cs o n c dim Q).inv 0 zz → ltO ((fGt cs o n c dim Q).mu 0 zz) none → Sat E (atLp (lp Try.f45 0)) ((fGt cs o n c dim Q).st 0 zz)) : Sat E [.code (bodyOf Try.f45)] (st0 Try.f45 [.slice (some ⟨0, o, none⟩) n c, .int .i64 dim] (roRows [cs]) 1) :=
  by_to (T := auto0 t_runpack) (h := hints [(1, 2, ht false), (1, 6, ht false)]) (ws := [.go, .stop]) (i0 := ⟨0, [], 0⟩) hE hm (auto0_ok t_runpack_ok) hL (by kernel_rfl) hob hK
theorem gtN (cs : List Value) (o n c : Nat) (dim : Int) (Q : GT → Prop) (i k : Nat) (es : List Ent) (w : Int) (J : Act → World → Prop) {E : Env} (hE : EnvOK E Try.prog Try.f45 2 1 (.bool false) [] []) (hob : all ([Back (Value.bool false) (Value.bool false) [] [] [], Value.tuple (Array.mk [Value.agg (Array.mk [Value.bool (okB w && lfB w), Value.int IntKind.i64 (sV w), Value.int IntKind.i64 (sF w), Value.int IntKind.i64 (sA w), Value.int IntKind.i64 (sX w), Value.int IntKind.i64 (sY w)]), Value.bool (okB w)]) = Value.tuple (Array.mk [Value.agg (Array.mk [Value.bool false, Value.int IntKind.i64 ((0 : Int)), Value.int IntKind.i64 ((0 : Int)), Value.int IntKind.i64 ((0 : Int)), Value.int IntKind.i64 ((0 : Int)), Value.int IntKind.i64 ((0 : Int))]), Value.bool false]), U64 w, readPart Try.prog 83 cs (o + ((i : Int)).toNat * 1) = some (Value.int IntKind.u64 w), (0 : Int) ≤ (i : Int) ∧ (i : Int) < (n : Int), decide ((↑i : Int) < (↑n : Int)) = true])) : Sat E (inLp (lp Try.f45 0) J) ((fGt cs o n c dim Q).st 0 ⟨i, es, k⟩) :=
  by_ret (T := auto0 t_runpack) (h := hints [(6, 1, {p := true}), (6, 2, {o := some (.int .u64 w)}), (7, 1, {v := some (.tuple ⟨[nd false 0 0 0 0 0, .bool false]⟩)})]) (ws := [.b true]) (nx' := 1) hE hm (auto0_ok t_runpack_ok) (by omega) (by simp) (by simp) (by kernel_rfl) hob
theorem gtF (cs : List Value) (o n c : Nat) (dim : Int) (Q : GT → Prop) (i k : Nat) (es : List Ent) (w v : Int) (J : Act → World → Prop) {E : Env} {rv : Value} {rhs : List Nat} {rhv : List Blk} (hE : EnvOK E Try.prog Try.f45 2 1 rv rhs rhv) (hL : (fGt cs o n c dim Q).OK 1) (hob : all ([SameK (mkLp (lp Try.f45 0) J) (mkLp (lp Try.f45 0) J), Enter (fGt cs o n c dim Q) 0 (some (n - i)) [Value.slice (some (Addr.mk 0 o none)) n c, Value.int IntKind.i64 dim, Value.map (some 10), Value.slice (some (Addr.mk 0 o none)) n c, Value.int IntKind.i64 ((n : Int)), Value.int IntKind.i64 (Int.ofNat i.succ)] [Blk.ro cs, Blk.map [some IntKind.i64] false (some IntKind.i64) es k] [(0, 0), (10, 10), (0, 0)], Value.int IntKind.i64 (IntKind.i64.wrap (Int.ofNat i.succ)) = Value.int IntKind.i64 (Int.ofNat i.succ), Value.tuple (Array.mk [Value.agg (Array.mk [Value.bool (okB w && lfB w), Value.int IntKind.i64 (sV w), Value.int IntKind.i64 (sF w), Value.int IntKind.i64 (sA w), Value.int IntKind.i64 (sX w), Value.int IntKind.i64 (sY w)]), Value.bool (okB w)]) = Value.tuple (Array.mk [Value.agg (Array.mk [Value.bool true, Value.int IntKind.i64 v, Value.int IntKind.i64 ((0 : Int)), Value.int IntKind.i64 ((0 : Int)), Value.int IntKind.i64 ((0 : Int)), Value.int IntKind.i64 ((0 : Int))]), Value.bool true]), U64 w, readPart Try.prog 83 cs (o + ((i : Int)).toNat * 1) = some (Value.int IntKind.u64 w), (0 : Int) ≤ (i : Int) ∧ (i : Int) < (n : Int), decide ((↑i : Int) < (↑n : Int)) = true])) (hK : ∀ zz, (fGt cs o n c dim Q).inv 0 zz → ltO ((fGt cs o n c dim Q).mu 0 zz) (some (n - i)) → Sat E (mkLp (lp Try.f45 0) J) ((fGt cs o n c dim Q).st 0 zz)) : Sat E (inLp (lp Try.f45 0) J) ((fGt cs o n c dim Q).st 0 ⟨i, es, k⟩) :=
  by_to (T := auto0 t_runpack) (h := hints [(6, 1, {p := true}), (6, 2, {o := some (.int .u64 w)}), (7, 1, {v := some (.tuple ⟨[nd true v 0 0 0 0, .bool true]⟩)}), (15, 0, {v := some (.int .i64 ((i + 1 : Nat) : Int))})]) (ws := [.b true]) (i0 := ⟨i + 1, es, k⟩) hE hm (auto0_ok t_runpack_ok) hL (by kernel_rfl) hob hK
theorem gtB0 (cs : List Value) (o n c : Nat) (dim : Int) (Q : GT → Prop) (i k : Nat) (es : List Ent) (w f a x y : Int) (J : Act → World → Prop) {E : Env} (hE : EnvOK E Try.prog Try.f45 2 1 (.bool false) [] []) (hob : all ([Back (Value.bool false) (Value.bool false) [] [] [], Value.bool (decide (f ≥ dim)) = Value.bool true, Value.tuple (Array.mk [Value.agg (Array.mk [Value.bool (okB w && lfB w), Value.int IntKind.i64 (sV w), Value.int IntKind.i64 (sF w), Value.int IntKind.i64 (sA w), Value.int IntKind.i64 (sX w), Value.int IntKind.i64 (sY w)]), Value.bool (okB w)]) = Value.tuple (Array.mk [Value.agg (Array.mk [Value.bool false, Value.int IntKind.i64 ((0 : Int)), Value.int IntKind.i64 f, Value.int IntKind.i64 a, Value.int IntKind.i64 x, Value.int IntKind.i64 y]), Value.bool true]), U64 w, readPart Try.prog 83 cs (o + ((i : Int)).toNat * 1) = some (Value.int IntKind.u64 w), (0 : Int) ≤ (i : Int) ∧ (i : Int) < (n : Int), decide ((↑i : Int) < (↑n : Int)) = true])) : Sat E (inLp (lp Try.f45 0) J) ((fGt cs o n c dim Q).st 0 ⟨i, es, k⟩) :=
  by_ret (T := auto0 t_runpack) (h := hints [(6, 1, {p := true}), (6, 2, {o := some (.int .u64 w)}), (7, 1, {v := some (.tuple ⟨[nd false 0 f a x y, .bool true]⟩)}), (11, 3, ht true)]) (ws := [.b true]) (nx' := 1) hE hm (auto0_ok t_runpack_ok) (by omega) (by simp) (by simp) (by kernel_rfl) hob
theorem gtB1 (cs : List Value) (o n c : Nat) (dim : Int) (Q : GT → Prop) (i k : Nat) (es : List Ent) (w f a x y : Int) (J : Act → World → Prop) {E : Env} (hE : EnvOK E Try.prog Try.f45 2 1 (.bool false) [] []) (hob : all ([Back (Value.bool false) (Value.bool false) [] [] [], Value.bool (decide (x ≤ (↑i : Int))) = Value.bool true, Value.bool (decide (f ≥ dim)) = Value.bool false, Value.tuple (Array.mk [Value.agg (Array.mk [Value.bool (okB w && lfB w), Value.int IntKind.i64 (sV w), Value.int IntKind.i64 (sF w), Value.int IntKind.i64 (sA w), Value.int IntKind.i64 (sX w), Value.int IntKind.i64 (sY w)]), Value.bool (okB w)]) = Value.tuple (Array.mk [Value.agg (Array.mk [Value.bool false, Value.int IntKind.i64 ((0 : Int)), Value.int IntKind.i64 f, Value.int IntKind.i64 a, Value.int IntKind.i64 x, Value.int IntKind.i64 y]), Value.bool true]), U64 w, readPart Try.prog 83 cs (o + ((i : Int)).toNat * 1) = some (Value.int IntKind.u64 w), (0 : Int) ≤ (i : Int) ∧ (i : Int) < (n : Int), decide ((↑i : Int) < (↑n : Int)) = true])) : Sat E (inLp (lp Try.f45 0) J) ((fGt cs o n c dim Q).st 0 ⟨i, es, k⟩) :=
  by_ret (T := auto0 t_runpack) (h := hints [(6, 1, {p := true}), (6, 2, {o := some (.int .u64 w)}), (7, 1, {v := some (.tuple ⟨[nd false 0 f a x y, .bool true]⟩)}), (11, 3, ht false), (11, 8, ht true)]) (ws := [.b true]) (nx' := 1) hE hm (auto0_ok t_runpack_ok) (by omega) (by simp) (by simp) (by kernel_rfl) hob
theorem gtB2 (cs : List Value) (o n c : Nat) (dim : Int) (Q : GT → Prop) (i k : Nat) (es : List Ent) (w f a x y : Int) (J : Act → World → Prop) {E : Env} (hE : EnvOK E Try.prog Try.f45 2 1 (.bool false) [] []) (hob : all ([Back (Value.bool false) (Value.bool false) [] [] [], Value.bool (decide (y ≤ (↑i : Int))) = Value.bool true, Value.bool (decide (x ≤ (↑i : Int))) = Value.bool false, Value.bool (decide (f ≥ dim)) = Value.bool false, Value.tuple (Array.mk [Value.agg (Array.mk [Value.bool (okB w && lfB w), Value.int IntKind.i64 (sV w), Value.int IntKind.i64 (sF w), Value.int IntKind.i64 (sA w), Value.int IntKind.i64 (sX w), Value.int IntKind.i64 (sY w)]), Value.bool (okB w)]) = Value.tuple (Array.mk [Value.agg (Array.mk [Value.bool false, Value.int IntKind.i64 ((0 : Int)), Value.int IntKind.i64 f, Value.int IntKind.i64 a, Value.int IntKind.i64 x, Value.int IntKind.i64 y]), Value.bool true]), U64 w, readPart Try.prog 83 cs (o + ((i : Int)).toNat * 1) = some (Value.int IntKind.u64 w), (0 : Int) ≤ (i : Int) ∧ (i : Int) < (n : Int), decide ((↑i : Int) < (↑n : Int)) = true])) : Sat E (inLp (lp Try.f45 0) J) ((fGt cs o n c dim Q).st 0 ⟨i, es, k⟩) :=
  by_ret (T := auto0 t_runpack) (h := hints [(6, 1, {p := true}), (6, 2, {o := some (.int .u64 w)}), (7, 1, {v := some (.tuple ⟨[nd false 0 f a x y, .bool true]⟩)}), (11, 3, ht false), (11, 8, ht false), (11, 14, ht true)]) (ws := [.b true]) (nx' := 1) hE hm (auto0_ok t_runpack_ok) (by omega) (by simp) (by simp) (by kernel_rfl) hob
theorem gtB3 (cs : List Value) (o n c : Nat) (dim : Int) (Q : GT → Prop) (i k : Nat) (es : List Ent) (w f a x y : Int) (J : Act → World → Prop) {E : Env} (hE : EnvOK E Try.prog Try.f45 2 1 (.bool false) [] []) (hob : all ([Back (Value.bool false) (Value.bool false) [] [] [], Value.bool (decide (x ≥ (↑n : Int))) = Value.bool true, Value.bool (decide (y ≤ (↑i : Int))) = Value.bool false, Value.bool (decide (x ≤ (↑i : Int))) = Value.bool false, Value.bool (decide (f ≥ dim)) = Value.bool false, Value.tuple (Array.mk [Value.agg (Array.mk [Value.bool (okB w && lfB w), Value.int IntKind.i64 (sV w), Value.int IntKind.i64 (sF w), Value.int IntKind.i64 (sA w), Value.int IntKind.i64 (sX w), Value.int IntKind.i64 (sY w)]), Value.bool (okB w)]) = Value.tuple (Array.mk [Value.agg (Array.mk [Value.bool false, Value.int IntKind.i64 ((0 : Int)), Value.int IntKind.i64 f, Value.int IntKind.i64 a, Value.int IntKind.i64 x, Value.int IntKind.i64 y]), Value.bool true]), U64 w, readPart Try.prog 83 cs (o + ((i : Int)).toNat * 1) = some (Value.int IntKind.u64 w), (0 : Int) ≤ (i : Int) ∧ (i : Int) < (n : Int), decide ((↑i : Int) < (↑n : Int)) = true])) : Sat E (inLp (lp Try.f45 0) J) ((fGt cs o n c dim Q).st 0 ⟨i, es, k⟩) :=
  by_ret (T := auto0 t_runpack) (h := hints [(6, 1, {p := true}), (6, 2, {o := some (.int .u64 w)}), (7, 1, {v := some (.tuple ⟨[nd false 0 f a x y, .bool true]⟩)}), (11, 3, ht false), (11, 8, ht false), (11, 14, ht false), (11, 21, ht true)]) (ws := [.b true]) (nx' := 1) hE hm (auto0_ok t_runpack_ok) (by omega) (by simp) (by simp) (by kernel_rfl) hob
theorem gtB4 (cs : List Value) (o n c : Nat) (dim : Int) (Q : GT → Prop) (i k : Nat) (es : List Ent) (w f a x y : Int) (J : Act → World → Prop) {E : Env} (hE : EnvOK E Try.prog Try.f45 2 1 (.bool false) [] []) (hob : all ([Back (Value.bool false) (Value.bool false) [] [] [], Value.bool (decide (y ≥ (↑n : Int))) = Value.bool true, Value.bool (decide (x ≥ (↑n : Int))) = Value.bool false, Value.bool (decide (y ≤ (↑i : Int))) = Value.bool false, Value.bool (decide (x ≤ (↑i : Int))) = Value.bool false, Value.bool (decide (f ≥ dim)) = Value.bool false, Value.tuple (Array.mk [Value.agg (Array.mk [Value.bool (okB w && lfB w), Value.int IntKind.i64 (sV w), Value.int IntKind.i64 (sF w), Value.int IntKind.i64 (sA w), Value.int IntKind.i64 (sX w), Value.int IntKind.i64 (sY w)]), Value.bool (okB w)]) = Value.tuple (Array.mk [Value.agg (Array.mk [Value.bool false, Value.int IntKind.i64 ((0 : Int)), Value.int IntKind.i64 f, Value.int IntKind.i64 a, Value.int IntKind.i64 x, Value.int IntKind.i64 y]), Value.bool true]), U64 w, readPart Try.prog 83 cs (o + ((i : Int)).toNat * 1) = some (Value.int IntKind.u64 w), (0 : Int) ≤ (i : Int) ∧ (i : Int) < (n : Int), decide ((↑i : Int) < (↑n : Int)) = true])) : Sat E (inLp (lp Try.f45 0) J) ((fGt cs o n c dim Q).st 0 ⟨i, es, k⟩) :=
  by_ret (T := auto0 t_runpack) (h := hints [(6, 1, {p := true}), (6, 2, {o := some (.int .u64 w)}), (7, 1, {v := some (.tuple ⟨[nd false 0 f a x y, .bool true]⟩)}), (11, 3, ht false), (11, 8, ht false), (11, 14, ht false), (11, 21, ht false), (11, 28, ht true)]) (ws := [.b true]) (nx' := 1) hE hm (auto0_ok t_runpack_ok) (by omega) (by simp) (by simp) (by kernel_rfl) hob
theorem gtB5 (cs : List Value) (o n c : Nat) (dim : Int) (Q : GT → Prop) (i k : Nat) (es : List Ent) (w f a x y : Int) (J : Act → World → Prop) {E : Env} (hE : EnvOK E Try.prog Try.f45 2 1 (.bool false) [] []) (hob : all ([Back (Value.bool false) (Value.bool false) [] [] [], Value.bool (x == y) = Value.bool true, Value.bool (decide (y ≥ (↑n : Int))) = Value.bool false, Value.bool (decide (x ≥ (↑n : Int))) = Value.bool false, Value.bool (decide (y ≤ (↑i : Int))) = Value.bool false, Value.bool (decide (x ≤ (↑i : Int))) = Value.bool false, Value.bool (decide (f ≥ dim)) = Value.bool false, Value.tuple (Array.mk [Value.agg (Array.mk [Value.bool (okB w && lfB w), Value.int IntKind.i64 (sV w), Value.int IntKind.i64 (sF w), Value.int IntKind.i64 (sA w), Value.int IntKind.i64 (sX w), Value.int IntKind.i64 (sY w)]), Value.bool (okB w)]) = Value.tuple (Array.mk [Value.agg (Array.mk [Value.bool false, Value.int IntKind.i64 ((0 : Int)), Value.int IntKind.i64 f, Value.int IntKind.i64 a, Value.int IntKind.i64 x, Value.int IntKind.i64 y]), Value.bool true]), U64 w, readPart Try.prog 83 cs (o + ((i : Int)).toNat * 1) = some (Value.int IntKind.u64 w), (0 : Int) ≤ (i : Int) ∧ (i : Int) < (n : Int), decide ((↑i : Int) < (↑n : Int)) = true])) : Sat E (inLp (lp Try.f45 0) J) ((fGt cs o n c dim Q).st 0 ⟨i, es, k⟩) :=
  by_ret (T := auto0 t_runpack) (h := hints [(6, 1, {p := true}), (6, 2, {o := some (.int .u64 w)}), (7, 1, {v := some (.tuple ⟨[nd false 0 f a x y, .bool true]⟩)}), (11, 3, ht false), (11, 8, ht false), (11, 14, ht false), (11, 21, ht false), (11, 28, ht false), (11, 35, ht true)]) (ws := [.b true]) (nx' := 1) hE hm (auto0_ok t_runpack_ok) (by omega) (by simp) (by simp) (by kernel_rfl) hob
theorem gtG (cs : List Value) (o n c : Nat) (dim : Int) (Q : GT → Prop) (i k : Nat) (es : List Ent) (k2 : Nat) (es1 es2 : List Ent) (w f a x y g1 g2 h1 h2 : Int) (J : Act → World → Prop) {E : Env} {rv : Value} {rhs : List Nat} {rhv : List Blk} (hE : EnvOK E Try.prog Try.f45 2 1 rv rhs rhv) (hL : (fGt cs o n c dim Q).OK 1) (hob : all ([SameK (mkLp (lp Try.f45 0) J) (mkLp (lp Try.f45 0) J), Enter (fGt cs o n c dim Q) 0 (some (n - i)) [Value.slice (some (Addr.mk 0 o none)) n c, Value.int IntKind.i64 dim, Value.map (some 10), Value.slice (some (Addr.mk 0 o none)) n c, Value.int IntKind.i64 ((n : Int)), Value.int IntKind.i64 (Int.ofNat i.succ)] [Blk.ro cs, Blk.map [some IntKind.i64] false (some IntKind.i64) es2 (bif mhas (Value.int IntKind.i64 y) es1 then bif mhas (Value.int IntKind.i64 x) es then k else k + 1 else (bif mhas (Value.int IntKind.i64 x) es then k else k + 1) + 1)] [(0, 0), (10, 10), (0, 0)], Value.int IntKind.i64 (IntKind.i64.wrap (Int.ofNat i.succ)) = Value.int IntKind.i64 (Int.ofNat i.succ), mput (Value.int IntKind.i64 y) (Value.int IntKind.i64 h2) (bif mhas (Value.int IntKind.i64 x) es then k else k + 1) es1 = es2, Value.int IntKind.i64 (IntKind.i64.wrap (g2 + (1 : Int))) = Value.int IntKind.i64 h2, Value.int IntKind.i64 (mgetI (Value.int IntKind.i64 y) es1) = Value.int IntKind.i64 g2, mput (Value.int IntKind.i64 x) (Value.int IntKind.i64 h1) k es = es1, Value.int IntKind.i64 (IntKind.i64.wrap (g1 + (1 : Int))) = Value.int IntKind.i64 h1, Value.int IntKind.i64 (mgetI (Value.int IntKind.i64 x) es) = Value.int IntKind.i64 g1, Value.bool (x == y) = Value.bool false, Value.bool (decide (y ≥ (↑n : Int))) = Value.bool false, Value.bool (decide (x ≥ (↑n : Int))) = Value.bool false, Value.bool (decide (y ≤ (↑i : Int))) = Value.bool false, Value.bool (decide (x ≤ (↑i : Int))) = Value.bool false, Value.bool (decide (f ≥ dim)) = Value.bool false, Value.tuple (Array.mk [Value.agg (Array.mk [Value.bool (okB w && lfB w), Value.int IntKind.i64 (sV w), Value.int IntKind.i64 (sF w), Value.int IntKind.i64 (sA w), Value.int IntKind.i64 (sX w), Value.int IntKind.i64 (sY w)]), Value.bool (okB w)]) = Value.tuple (Array.mk [Value.agg (Array.mk [Value.bool false, Value.int IntKind.i64 ((0 : Int)), Value.int IntKind.i64 f, Value.int IntKind.i64 a, Value.int IntKind.i64 x, Value.int IntKind.i64 y]), Value.bool true]), U64 w, readPart Try.prog 83 cs (o + ((i : Int)).toNat * 1) = some (Value.int IntKind.u64 w), (0 : Int) ≤ (i : Int) ∧ (i : Int) < (n : Int), decide ((↑i : Int) < (↑n : Int)) = true])) (hK : ∀ zz, (fGt cs o n c dim Q).inv 0 zz → ltO ((fGt cs o n c dim Q).mu 0 zz) (some (n - i)) → Sat E (mkLp (lp Try.f45 0) J) ((fGt cs o n c dim Q).st 0 zz)) : Sat E (inLp (lp Try.f45 0) J) ((fGt cs o n c dim Q).st 0 ⟨i, es, k⟩) :=
  by_to (T := auto0 t_runpack) (h := hints [(6, 1, {p := true}), (6, 2, {o := some (.int .u64 w)}), (7, 1, {v := some (.tuple ⟨[nd false 0 f a x y, .bool true]⟩)}), (11, 3, ht false), (11, 8, ht false), (11, 14, ht false), (11, 21, ht false), (11, 28, ht false), (11, 35, ht false), (13, 3, {v := some (.int .i64 g1)}), (13, 4, {v := some (.int .i64 h1)}), (13, 5, {e := some es1}), (14, 3, {v := some (.int .i64 g2)}), (14, 4, {v := some (.int .i64 h2)}), (14, 5, {e := some es2}), (15, 0, {v := some (.int .i64 ((i + 1 : Nat) : Int))})]) (ws := [.b true]) (i0 := ⟨i + 1, es2, k2⟩) hE hm (auto0_ok t_runpack_ok) hL (by kernel_rfl) hob hK
theorem gtZ (cs : List Value) (o n c : Nat) (dim : Int) (Q : GT → Prop) (i k : Nat) (es : List Ent) (Q2 : Nat → Prop) (J : Act → World → Prop) {E : Env} {rv : Value} {rhs : List Nat} {rhv : List Blk} (hE : EnvOK E Try.prog Try.f45 2 1 rv rhs rhv) (hL : (fGn cs o n c es k Q2).OK 1) (hob : all ([SameK (atLp (lp Try.f45 1)) (atLp (lp Try.f45 1)), Enter (fGn cs o n c es k Q2) 0 none [Value.slice (some (Addr.mk 0 o none)) n c, Value.map (some 10), Value.int IntKind.i64 ((1 : Int))] [Blk.ro cs, Blk.map [some IntKind.i64] false (some IntKind.i64) es k] [(0, 0), (10, 10)], decide ((↑i : Int) < (↑n : Int)) = false])) (hK : ∀ zz, (fGn cs o n c es k Q2).inv 0 zz → ltO ((fGn cs o n c es k Q2).mu 0 zz) none → Sat E (atLp (lp Try.f45 1)) ((fGn cs o n c es k Q2).st 0 zz)) : Sat E (inLp (lp Try.f45 0) J) ((fGt cs o n c dim Q).st 0 ⟨i, es, k⟩) :=
  by_to (T := auto0 t_runpack) (h := hints []) (ws := [.b false, .stop]) (i0 := 1) hE hm (auto0_ok t_runpack_ok) hL (by kernel_rfl) hob hK
theorem gnY (cs : List Value) (o n c : Nat) (Q : Nat → Prop) (i k : Nat) (es : List Ent) (g : Int) (J : Act → World → Prop) {E : Env} {rv : Value} {rhs : List Nat} {rhv : List Blk} (hE : EnvOK E Try.prog Try.f45 2 1 rv rhs rhv) (hL : (fGn cs o n c es k Q).OK 1) (hob : all ([SameK (mkLp (lp Try.f45 1) J) (mkLp (lp Try.f45 1) J), Enter (fGn cs o n c es k Q) 0 (some (n - i)) [Value.slice (some (Addr.mk 0 o none)) n c, Value.map (some 10), Value.int IntKind.i64 (Int.ofNat i.succ)] [Blk.ro cs, Blk.map [some IntKind.i64] false (some IntKind.i64) es k] [(0, 0), (10, 10)], Value.int IntKind.i64 (IntKind.i64.wrap (Int.ofNat i.succ)) = Value.int IntKind.i64 (Int.ofNat i.succ), (g != (1 : Int)) = false, Value.int IntKind.i64 (mgetI (Value.int IntKind.i64 (↑i : Int)) es) = Value.int IntKind.i64 g, decide ((↑i : Int) < (↑n : Int)) = true])) (hK : ∀ zz, (fGn cs o n c es k Q).inv 0 zz → ltO ((fGn cs o n c es k Q).mu 0 zz) (some (n - i)) → Sat E (mkLp (lp Try.f45 1) J) ((fGn cs o n c es k Q).st 0 zz)) : Sat E (inLp (lp Try.f45 1) J) ((fGn cs o n c es k Q).st 0 i) :=
  by_to (T := auto0 t_runpack) (h := hints [(19, 2, {v := some (.int .i64 g)}), (18, 1, {v := some (.int .i64 ((i + 1 : Nat) : Int))})]) (ws := [.b true, .b false]) (i0 := (i + 1)) hE hm (auto0_ok t_runpack_ok) hL (by kernel_rfl) hob hK
theorem gnN (cs : List Value) (o n c : Nat) (Q : Nat → Prop) (i k : Nat) (es : List Ent) (g : Int) (J : Act → World → Prop) {E : Env} (hE : EnvOK E Try.prog Try.f45 2 1 (.bool false) [] []) (hob : all ([Back (Value.bool false) (Value.bool false) [] [] [], (g != (1 : Int)) = true, Value.int IntKind.i64 (mgetI (Value.int IntKind.i64 (↑i : Int)) es) = Value.int IntKind.i64 g, decide ((↑i : Int) < (↑n : Int)) = true])) : Sat E (inLp (lp Try.f45 1) J) ((fGn cs o n c es k Q).st 0 i) :=
  by_ret (T := auto0 t_runpack) (h := hints [(19, 2, {v := some (.int .i64 g)})]) (ws := [.b true, .b true]) (nx' := 1) hE hm (auto0_ok t_runpack_ok) (by omega) (by simp) (by simp) (by kernel_rfl) hob
theorem gnE (cs : List Value) (o n c : Nat) (Q : Nat → Prop) (i k : Nat) (es : List Ent) (J : Act → World → Prop) {E : Env} (hE : EnvOK E Try.prog Try.f45 2 1 (.bool true) [] []) (hob : all ([Back (Value.bool true) (Value.bool true) [] [] [], decide ((↑i : Int) < (↑n : Int)) = false])) : Sat E (inLp (lp Try.f45 1) J) ((fGn cs o n c es k Q).st 0 i) :=
  by_ret (T := auto0 t_runpack) (h := hints []) (ws := [.b false]) (nx' := 1) hE hm (auto0_ok t_runpack_ok) (by omega) (by simp) (by simp) (by kernel_rfl) hob
end Go.Proofs.Ythbaccmhdffjdaa.Tr


set_option linter.unusedVariables false
set_option linter.unusedSimpArgs false
set_option maxRecDepth 100000
namespace Go.Proofs.Ythbaccmhdffjdaa.Tr
open Go Go.RowKit Go.Proofs.Ythbaccmhdffjdaa.Ev Go.Proofs.Ythbaccmhdffjdaa.NodeE Go.Proofs.Ythbaccmhdffjdaa.Tr

theorem rtree_spec (cs : List Value) (o n c : Nat) (dim : Int) (hr : eWord.Row cs o n) (hpl : ∀ x ∈ cs, leafG x = true) (hU : ∀ w ∈ eWord.list cs o n, U64 w) (hn : n ≤ 65536) :
    CallSpec Try.prog 45 [.slice (some ⟨0, o, none⟩) n c, .int .i64 dim] (roRows [cs]) 1 (.bool (rightI (eWord.list cs o n) dim)) (assocN [] []) := by
  refine spec_of_sat Try.func45 rfl fun E hE => ?_
  have hlen : (eWord.list cs o n).length = n := Elt.list_len _ _ _
  generalize hws : eWord.list cs o n = ws at hU hlen hE
  refine (Classical.em (1 ≤ n)).symm.elim (fun h1 => ?_) (fun h1 => ?_)
  · rw [right_len (by omega)] at hE
    exact gtShort cs o n c dim hE ⟨⟨rfl, rfl⟩, (congrArg _ (decide_eq_true (by omega))), trivial⟩
  have g1 : Value.bool (decide ((n : Int) < 1)) = .bool false := congrArg _ (decide_eq_false (by omega))
  refine (Classical.em (n ≤ 31)).symm.elim (fun h31 => ?_) (fun h31 => ?_)
  · rw [right_len (by omega)] at hE
    exact gtLong cs o n c dim hE ⟨⟨rfl, rfl⟩, (congrArg _ (decide_eq_true (by omega))), g1, trivial⟩
  have g2 : Value.bool (decide ((n : Int) > 31)) = .bool false := congrArg _ (decide_eq_false (by omega))
  let Q : GT → Prop := fun s => s.i ≤ n ∧ (∀ (j : Nat) (w : Int), j < s.i → ws[j]? = some w → goodW dim n j w = true) ∧ keysI s.es ∧ ∀ z, mgetI (kI z) s.es = (named (ws.take s.i) z : Int)
  have okL := fGt_ok cs o n c dim Q hpl
  have rnr : ∀ f : Nat → Nat, Blk.rnB f (.ro cs) = .ro cs := fun f => Blk.plain.rnB (b := .ro cs) hpl f
  have rnm : ∀ (f : Nat → Nat) (es : List Ent) (c : Nat), Blk.rnB f (.map [some .i64] false (some .i64) es c) = .map [some .i64] false (some .i64) es c := fun f es c => rfl
  refine gtIn cs o n c dim Q hE okL ⟨rfl, ⟨⟨0, [], 0⟩, ⟨Nat.zero_le _, fun j w hj => absurd hj (Nat.not_lt_zero _), keysI_nil, fun z => rfl⟩, trivial, rfl, by simp only [fGt, List.map_cons, List.map_nil, rnr, rnm]⟩, g2, g1, trivial⟩ fun zz hz _ => by_loop (fGt cs o n c dim Q) (lp Try.f45 0) ?_ 0 zz hz
  rintro b ⟨i, es, k⟩ hinv J hJ
  have hinv : i ≤ n ∧ (∀ (j : Nat) (w : Int), j < i → ws[j]? = some w → goodW dim n j w = true) ∧ keysI es ∧ ∀ z, mgetI (kI z) es = (named (ws.take i) z : Int) := hinv
  obtain ⟨k1, k2, k3, k4⟩ := hinv
  show Sat E (inLp (lp Try.f45 0) J) ((fGt cs o n c dim Q).st 0 ⟨i, es, k⟩)
  have hJ' : ∀ zz, (fGt cs o n c dim Q).inv 0 zz → ltO ((fGt cs o n c dim Q).mu 0 zz) (some (n - i)) → Sat E (mkLp (lp Try.f45 0) J) ((fGt cs o n c dim Q).st 0 zz) := fun zz h1 h2 => hJ 0 zz h1 h2
  by_cases hin : i < n
  · have hlt : decide ((i : Int) < (n : Int)) = true := decide_eq_true (by omega)
    obtain ⟨w, hw⟩ : ∃ w, ws[i]? = some w := ⟨_, List.getElem?_eq_getElem (by rw [hlen]; omega)⟩
    have hrd := hr.read1 (P := Try.prog) (ty := 83) (by kernel_rfl) rfl (i := i) (x := w) (by rw [hws]; exact hw) rfl rfl
    rw [← Nat.mul_one i] at hrd
    have htk : ws.take (i + 1) = ws.take i ++ [w] := by rw [List.take_add_one, hw]; rfl
    have nxt : goodW dim n i w = true → ∀ (j : Nat) (v : Int), j < i + 1 → ws[j]? = some v → goodW dim n j v = true := fun hg j v hj hv => by
      by_cases e : j < i
      · exact k2 j v e hv
      · obtain rfl : j = i := by omega
        rw [hw] at hv; injection hv with hv; subst hv; exact hg
    cases hgd : goodW dim n i w
    · have hbad : rightI ws dim = false := right_bad hw (by rw [hlen]; exact hgd)
      rw [hbad] at hE
      cases ho : okB w
      · exact gtN cs o n c dim Q i k es w J hE ⟨⟨rfl, rfl⟩, unp_no ho, hU w (List.mem_of_getElem? hw), hrd, ⟨Int.natCast_nonneg _, Int.ofNat_lt.2 hin⟩, hlt, trivial⟩
      · refine (Bool.eq_false_or_eq_true (lfB w)).elim (fun hl => ?_) (fun hl => ?_)
        · rw [good_leaf ho hl] at hgd; exact absurd hgd (by simp)
        refine (Classical.em (uF w < dim)).symm.elim (fun d0 => ?_) (fun d0 => ?_)
        · exact gtB0 cs o n c dim Q i k es w (uF w) (low32 w) (uX w) (uY w) J hE ⟨⟨rfl, rfl⟩, (congrArg _ (decide_eq_true (by omega))), unp_inner ho hl, hU w (List.mem_of_getElem? hw), hrd, ⟨Int.natCast_nonneg _, Int.ofNat_lt.2 hin⟩, hlt, trivial⟩
        have e0 : Value.bool (decide (uF w ≥ dim)) = .bool false := congrArg _ (decide_eq_false (by omega))
        refine (Classical.em (¬ uX w ≤ (i : Int))).symm.elim (fun d1 => ?_) (fun d1 => ?_)
        · exact gtB1 cs o n c dim Q i k es w (uF w) (low32 w) (uX w) (uY w) J hE ⟨⟨rfl, rfl⟩, (congrArg _ (decide_eq_true (by omega))), e0, unp_inner ho hl, hU w (List.mem_of_getElem? hw), hrd, ⟨Int.natCast_nonneg _, Int.ofNat_lt.2 hin⟩, hlt, trivial⟩
        have e1 : Value.bool (decide (uX w ≤ (i : Int))) = .bool false := congrArg _ (decide_eq_false (by omega))
        refine (Classical.em (¬ uY w ≤ (i : Int))).symm.elim (fun d2 => ?_) (fun d2 => ?_)
        · exact gtB2 cs o n c dim Q i k es w (uF w) (low32 w) (uX w) (uY w) J hE ⟨⟨rfl, rfl⟩, (congrArg _ (decide_eq_true (by omega))), e1, e0, unp_inner ho hl, hU w (List.mem_of_getElem? hw), hrd, ⟨Int.natCast_nonneg _, Int.ofNat_lt.2 hin⟩, hlt, trivial⟩
        have e2 : Value.bool (decide (uY w ≤ (i : Int))) = .bool false := congrArg _ (decide_eq_false (by omega))
        refine (Classical.em (¬ uX w ≥ (n : Int))).symm.elim (fun d3 => ?_) (fun d3 => ?_)
        · exact gtB3 cs o n c dim Q i k es w (uF w) (low32 w) (uX w) (uY w) J hE ⟨⟨rfl, rfl⟩, (congrArg _ (decide_eq_true (by omega))), e2, e1, e0, unp_inner ho hl, hU w (List.mem_of_getElem? hw), hrd, ⟨Int.natCast_nonneg _, Int.ofNat_lt.2 hin⟩, hlt, trivial⟩
        have e3 : Value.bool (decide (uX w ≥ (n : Int))) = .bool false := congrArg _ (decide_eq_false (by omega))
        refine (Classical.em (¬ uY w ≥ (n : Int))).symm.elim (fun d4 => ?_) (fun d4 => ?_)
        · exact gtB4 cs o n c dim Q i k es w (uF w) (low32 w) (uX w) (uY w) J hE ⟨⟨rfl, rfl⟩, (congrArg _ (decide_eq_true (by omega))), e3, e2, e1, e0, unp_inner ho hl, hU w (List.mem_of_getElem? hw), hrd, ⟨Int.natCast_nonneg _, Int.ofNat_lt.2 hin⟩, hlt, trivial⟩
        have e4 : Value.bool (decide (uY w ≥ (n : Int))) = .bool false := congrArg _ (decide_eq_false (by omega))
        refine (Classical.em (uX w ≠ uY w)).symm.elim (fun d5 => ?_) (fun d5 => ?_)
        · exact gtB5 cs o n c dim Q i k es w (uF w) (low32 w) (uX w) (uY w) J hE ⟨⟨rfl, rfl⟩, (congrArg _ (beq_iff_eq.2 (Classical.not_not.1 d5))), e4, e3, e2, e1, e0, unp_inner ho hl, hU w (List.mem_of_getElem? hw), hrd, ⟨Int.natCast_nonneg _, Int.ofNat_lt.2 hin⟩, hlt, trivial⟩
        have e5 : Value.bool ((uX w == uY w)) = .bool false := congrArg _ (beq_eq_false_iff_ne.2 d5)
        rw [good_mk hl ho d0 d5 (by omega) (by omega) (by omega) (by omega)] at hgd
        exact absurd hgd (by simp)
    · cases hl : lfB w
      · obtain ⟨ho, d1, d2, d3, d4, d5, d6⟩ := good_inner hgd hl
        have e0 : Value.bool (decide (uF w ≥ dim)) = .bool false := congrArg _ (decide_eq_false (by omega))
        have e1 : Value.bool (decide (uX w ≤ (i : Int))) = .bool false := congrArg _ (decide_eq_false (by omega))
        have e2 : Value.bool (decide (uY w ≤ (i : Int))) = .bool false := congrArg _ (decide_eq_false (by omega))
        have e3 : Value.bool (decide (uX w ≥ (n : Int))) = .bool false := congrArg _ (decide_eq_false (by omega))
        have e4 : Value.bool (decide (uY w ≥ (n : Int))) = .bool false := congrArg _ (decide_eq_false (by omega))
        have e5 : Value.bool ((uX w == uY w)) = .bool false := congrArg _ (beq_eq_false_iff_ne.2 d2)
        have hlX := named_le (ws.take i) (uX w)
        have hlY := named_le (ws.take i) (uY w)
        have htl : (ws.take i).length ≤ 31 := by rw [List.length_take, hlen]; omega
        have m1 : mgetI (kI (uY w)) (mput (kI (uX w)) (kI ((named (ws.take i) (uX w) : Int) + 1)) k es) = (named (ws.take i) (uY w) : Int) := by
          rw [mgetI_putI k3, k4]
          have : (uY w == uX w) = false := beq_eq_false_iff_ne.2 (fun h => d2 h.symm)
          rw [this]; rfl
        have k3a := keysI_put k3 (uX w) (kI ((named (ws.take i) (uX w) : Int) + 1)) k
        have m2 : ∀ (c' : Nat) (z : Int), mgetI (kI z) (mput (kI (uY w)) (kI ((named (ws.take i) (uY w) : Int) + 1)) c' (mput (kI (uX w)) (kI ((named (ws.take i) (uX w) : Int) + 1)) k es)) = (named (ws.take (i + 1)) z : Int) := fun c' z => by
          rw [mgetI_putI k3a, mgetI_putI k3, k4, htk, named_snoc]
          simp only [namesW, hl, cond_false, List.count_cons, List.count_nil]
          by_cases e1 : z = uY w
          · subst e1
            have : (uX w == uY w) = false := beq_eq_false_iff_ne.2 d2
            simp [this]
          · have a1 : (z == uY w) = false := beq_eq_false_iff_ne.2 e1
            have a2 : (uY w == z) = false := beq_eq_false_iff_ne.2 fun h => e1 h.symm
            by_cases e2 : z = uX w
            · subst e2; simp [a1, a2]
            · have b1 : (z == uX w) = false := beq_eq_false_iff_ne.2 e2
              have b2 : (uX w == z) = false := beq_eq_false_iff_ne.2 fun h => e2 h.symm
              simp [a1, a2, b1, b2]
        exact gtG cs o n c dim Q i k es 0 _ _ w (uF w) (low32 w) (uX w) (uY w) (named (ws.take i) (uX w) : Int) (named (ws.take i) (uY w) : Int) ((named (ws.take i) (uX w) : Int) + 1) ((named (ws.take i) (uY w) : Int) + 1) J hE okL ⟨rfl, ⟨⟨i + 1, _, _⟩, ⟨hin, nxt hgd, keysI_put k3a _ _ _, m2 _⟩, (by show n - (i + 1) < n - i; omega), rfl, by simp only [fGt, List.map_cons, List.map_nil, rnr, rnm]; rfl⟩, i64_succ (by omega), rfl, (i64_id rfl (by omega) (by omega)), (congrArg _ m1), rfl, (i64_id rfl (by omega) (by omega)), (congrArg _ (k4 _)), e5, e4, e3, e2, e1, e0, unp_inner ho hl, hU w (List.mem_of_getElem? hw), hrd, ⟨Int.natCast_nonneg _, Int.ofNat_lt.2 hin⟩, hlt, trivial⟩ hJ'
      · have ho : okB w = true := by simp [goodW] at hgd; exact hgd.1
        exact gtF cs o n c dim Q i k es w (low32 w) J hE okL ⟨rfl, ⟨⟨i + 1, es, k⟩, ⟨hin, nxt hgd, k3, fun z => by rw [k4 z, htk, named_snoc]; simp [namesW, hl]⟩, (by show n - (i + 1) < n - i; omega), rfl, by simp only [fGt, List.map_cons, List.map_nil, rnr, rnm]⟩, i64_succ (by omega), unp_leaf ho hl, hU w (List.mem_of_getElem? hw), hrd, ⟨Int.natCast_nonneg _, Int.ofNat_lt.2 hin⟩, hlt, trivial⟩ hJ'
  · have hlt : decide ((i : Int) < (n : Int)) = false := decide_eq_false (by omega)
    obtain rfl : i = n := by omega
    have hall : ∀ (j : Nat) (w : Int), ws[j]? = some w → goodW dim i j w = true := fun j w hw => k2 j w (by have := (List.getElem?_eq_some_iff.1 hw).1; omega) hw
    rw [List.take_of_length_le (by omega)] at k4
    let Q2 : Nat → Prop := fun j => 1 ≤ j ∧ j ≤ i ∧ ∀ m : Nat, 1 ≤ m → m < j → named ws (m : Int) = 1
    refine gtZ cs o i c dim Q i k es Q2 J hE (fGn_ok cs o i c es k Q2 hpl) ⟨rfl, ⟨1, ⟨Nat.le_refl _, h1, fun m a b => by omega⟩, trivial, rfl, by simp only [fGn, List.map_cons, List.map_nil, rnr, rnm]⟩, hlt, trivial⟩ fun zz hz _ => by_loop (fGn cs o i c es k Q2) (lp Try.f45 1) ?_ 0 zz hz
    rintro b j hinv J hJ
    have hinv : 1 ≤ j ∧ j ≤ i ∧ ∀ m : Nat, 1 ≤ m → m < j → named ws (m : Int) = 1 := hinv
    obtain ⟨m0, m1, m2⟩ := hinv
    show Sat E (inLp (lp Try.f45 1) J) ((fGn cs o i c es k Q2).st 0 j)
    have hJ' : ∀ zz, (fGn cs o i c es k Q2).inv 0 zz → ltO ((fGn cs o i c es k Q2).mu 0 zz) (some (i - j)) → Sat E (mkLp (lp Try.f45 1) J) ((fGn cs o i c es k Q2).st 0 zz) := fun zz h1 h2 => hJ 0 zz h1 h2
    by_cases hji : j < i
    · have hlt : decide ((j : Int) < (i : Int)) = true := decide_eq_true (by omega)
      by_cases h1' : named ws (j : Int) = 1
      · exact gnY cs o i c Q2 j k es _ J hE (fGn_ok cs o i c es k Q2 hpl) ⟨rfl, ⟨j + 1, ⟨by omega, by omega, fun m a b => by
            by_cases e : m < j
            · exact m2 m a e
            · obtain rfl : m = j := by omega
              exact h1'⟩, (by show i - (j + 1) < i - j; omega), rfl, by simp only [fGn, List.map_cons, List.map_nil, rnr, rnm]⟩, i64_succ (by omega), (by rw [h1']; rfl), (congrArg _ (k4 _)), hlt, trivial⟩ hJ'
      · rw [right_once (k := j) (by omega) (by omega) h1'] at hE
        exact gnN cs o i c Q2 j k es _ J hE ⟨⟨rfl, rfl⟩, (by simp only [bne_iff_ne, ne_eq]; omega), (congrArg _ (k4 _)), hlt, trivial⟩
    · have hlt : decide ((j : Int) < (i : Int)) = false := decide_eq_false (by omega)
      have hR : rightI ws dim = true := right_parts.2 ⟨⟨by omega, by omega⟩, fun j w hw => by rw [hlen]; exact hall j w hw, fun m a b => m2 m a (by omega)⟩
      rw [hR] at hE
      exact gnE cs o i c Q2 j k es J hE ⟨⟨rfl, rfl⟩, hlt, trivial⟩
theorem rtree_sum : SumOK Try.prog 45 (roSum right_F) := by
  refine roSum_ok (en Try.func45 rfl) ?_ (fun xs css r h => ?_)
  · intro xs css v blks ob h hob hpl hl
    unfold right_F at h
    split at h
    · rename_i o n c dim cs
      simp only [Option.some.injEq, Prod.mk.injEq] at h
      obtain ⟨rfl, rfl, rfl⟩ := h
      refine ⟨by simp, by simp, fun j hj => by simp [nms, nm1, nmL, nm0] at hj, ?_⟩
      exact rtree_spec cs o n c dim (hob _ (List.mem_cons_self ..)) (hpl cs (by simp)) (hob _ (List.mem_cons_of_mem _ (List.mem_cons_self ..))) (hob _ (by simp))
    · rename_i dim
      simp only [Option.some.injEq, Prod.mk.injEq] at h
      obtain ⟨rfl, rfl, rfl⟩ := h
      refine ⟨by simp, by simp, fun j hj => by simp [nms, nm1, nmL, nm0] at hj, ?_⟩
      exact spec_of_sat Try.func45 rfl fun E hE => gtNil dim hE ⟨⟨rfl, rfl⟩, trivial⟩
    · simp at h
  · unfold right_F at h
    split at h <;> simp at h <;> simp
end Go.Proofs.Ythbaccmhdffjdaa.Tr


set_option linter.unusedVariables false
set_option linter.unusedSimpArgs false
set_option maxRecDepth 100000
namespace Go.Proofs.Ythbaccmhdffjdaa.Tr
open Go Go.RowKit Go.Proofs.Ythbaccmhdffjdaa.Ev Go.Proofs.Ythbaccmhdffjdaa.NodeE Go.Proofs.Ythbaccmhdffjdaa.Tr

def fLv (cs : List Value) (o n c : Nat) (Q : Nat → Nat × List Int → Prop) : LoopF (Nat × List Int) where
  ts _ := [3, 11, 12, 13]
  hs z := match z with | 0 => [0] | _ => [0, 13]
  tv z := fun ⟨i, out⟩ => [match z with | 0 => .slice none 0 0 | _ => .slice (some ⟨13, 0, none⟩) out.length mk, .slice (some ⟨0, o, none⟩) n c, .int .i64 (n : Int), .int .i64 (i : Int)]
  hv z := fun ⟨i, out⟩ => match z with | 0 => [.ro cs] | _ => [.ro cs, .vec (eInt.row out) 3 1]
  inv := Q
  mu _ := fun ⟨i, out⟩ => n - i
  nx := 14
theorem fLv_ok (cs : List Value) (o n c : Nat) (Q : Nat → Nat × List Int → Prop) (hpl : ∀ x ∈ cs, leafG x = true) : (fLv cs o n c Q).OK 1 := by
  refine ⟨(by decide : 1 ≤ 14), fun z i h k hk => ?_, fun z i h v hv k hk => ?_, fun z i h x hx => ?_⟩
  · show k < 14
    match z with
    | 0 => simp [fLv] at hk; omega
    | z + 1 => simp [fLv] at hk; omega
  · show k < 14
    match z with
    | 0 =>
      simp [fLv] at hv
      repeat' (refine Or.elim hv (fun hv => ?_) (fun hv => ?_))
      all_goals (subst hv; simp [nms, nm1, nm0] at hk; try omega)
    | z + 1 =>
      simp [fLv] at hv
      repeat' (refine Or.elim hv (fun hv => ?_) (fun hv => ?_))
      all_goals (subst hv; simp [nms, nm1, nm0] at hk; try omega)
  · match z with
    | 0 =>
      simp [fLv] at hx
      subst hx
      exact Blk.plain.namesLt (b := .ro cs) hpl _
    | z + 1 =>
      simp [fLv] at hx
      rcases hx with rfl | rfl
      · exact Blk.plain.namesLt (b := .ro cs) hpl _
      · exact Blk.plain.namesLt (b := .vec _ _ _) (Elt.row_pl _) _
structure DP where
  i : Nat
  m : Int
  r : List Int
def fDp (cs : List Value) (o n c : Nat) (Q : DP → Prop) : LoopF DP where
  ts _ := [3, 4, 17, 18, 19]
  hs _ := [0, 10]
  tv _ := fun ⟨i, m, r⟩ => [.slice (some ⟨10, 0, none⟩) n n, .int .i64 m, .slice (some ⟨0, o, none⟩) n c, .int .i64 (n : Int), .int .i64 (i : Int)]
  hv _ := fun ⟨i, m, r⟩ => [.ro cs, .cells (eInt.row r) 3]
  inv _ := Q
  mu _ := fun ⟨i, m, r⟩ => n - i
  nx := 14

theorem fDp_ok (cs : List Value) (o n c : Nat) (Q : DP → Prop) (hpl : ∀ x ∈ cs, leafG x = true) : (fDp cs o n c Q).OK 1 := by
  refine ⟨(by decide : 1 ≤ 14), fun z i h k hk => ?_, fun z i h v hv k hk => ?_, fun z i h x hx => ?_⟩
  · show k < 14
    simp [fDp] at hk; omega
  · show k < 14
    simp [fDp] at hv
    repeat' (refine Or.elim hv (fun hv => ?_) (fun hv => ?_))
    all_goals (subst hv; simp [nms, nm1, nm0] at hk; try omega)
  · simp [fDp] at hx
    rcases hx with rfl | rfl
    · exact Blk.plain.namesLt (b := .ro cs) hpl _
    · exact Blk.plain.namesLt (b := .cells _ 3) (Elt.row_pl _) _

noncomputable def t_rgt : Sums := upd t_runpack 42 (some (roSum right_F))
theorem t_rgt_ok : SumsOK Try.prog t_rgt := sums_cons t_runpack_ok right_sum
end Go.Proofs.Ythbaccmhdffjdaa.Tr


set_option linter.unusedVariables false
set_option linter.unusedSimpArgs false
set_option maxRecDepth 100000
namespace Go.Proofs.Ythbaccmhdffjdaa.Tr
open Go Go.RowKit Go.Proofs.Ythbaccmhdffjdaa.Ev Go.Proofs.Ythbaccmhdffjdaa.NodeE Go.Proofs.Ythbaccmhdffjdaa.Tr

theorem lvNil (u : Unit)  {E : Env} (hE : EnvOK E Try.prog Try.f38 1 0 (.slice none 0 0) [] []) (hob : all ([Back (Value.slice none 0 0) (Value.slice none 0 0) [] [] [], plainR []])) : Sat E [.code (bodyOf Try.f38)] (st0 Try.f38 [.slice none 0 0] (roRows []) 0) :=
  by_ret (T := auto0 t_rgt) (h := hints []) (ws := []) (nx' := 0) hE hm (auto0_ok t_rgt_ok) (by omega) (by simp) (by simp) (by kernel_rfl) hob
theorem lvIn (cs : List Value) (o n c : Nat) (Q : Nat → Nat × List Int → Prop)  {E : Env} {rv : Value} {rhs : List Nat} {rhv : List Blk} (hE : EnvOK E Try.prog Try.f38 1 1 rv rhs rhv) (hL : (fLv cs o n c Q).OK 1) (hob : all ([SameK (atLp (lp Try.f38 0)) (atLp (lp Try.f38 0)), Enter (fLv cs o n c Q) 0 none [Value.slice none 0 0, Value.slice (some (Addr.mk 0 o none)) n c, Value.int IntKind.i64 ((n : Int)), Value.int IntKind.i64 ((0 : Int))] [Blk.ro cs] [(0, 0)], Value.bool (rightI (eWord.list cs o n) ((4 : Int))) = Value.bool true, plainR [cs], eWord.Row cs o n, ∀ (w : Int), w ∈ eWord.list cs o n → U64 w, n ≤ 65536])) (hK : ∀ zz, (fLv cs o n c Q).inv 0 zz → ltO ((fLv cs o n c Q).mu 0 zz) none → Sat E (atLp (lp Try.f38 0)) ((fLv cs o n c Q).st 0 zz)) : Sat E [.code (bodyOf Try.f38)] (st0 Try.f38 [.slice (some ⟨0, o, none⟩) n c] (roRows [cs]) 1) :=
  by_to (T := auto0 t_rgt) (h := hints [(1, 1, {v := some (.bool true)})]) (ws := [.go, .stop]) (i0 := (0, [])) hE hm (auto0_ok t_rgt_ok) hL (by kernel_rfl) hob hK
theorem lvF0 (cs : List Value) (o n c : Nat) (Q : Nat → Nat × List Int → Prop) (i : Nat) (w v : Int) (out2 : List Int) (J : Act → World → Prop) {E : Env} {rv : Value} {rhs : List Nat} {rhv : List Blk} (hE : EnvOK E Try.prog Try.f38 1 1 rv rhs rhv) (hL : (fLv cs o n c Q).OK 1) (hob : all ([SameK (mkLp (lp Try.f38 0) J) (mkLp (lp Try.f38 0) J), Enter (fLv cs o n c Q) 1 (some (n - i)) [Value.slice (some (Addr.mk 90 0 none)) 1 1267650600228229401496703205376, Value.slice (some (Addr.mk 0 o none)) n c, Value.int IntKind.i64 ((n : Int)), Value.int IntKind.i64 (Int.ofNat i.succ)] [Blk.ro cs, Blk.vec (eInt.row out2) 3 1] [(13, 90), (0, 0)], Value.int IntKind.i64 (IntKind.i64.wrap (Int.ofNat i.succ)) = Value.int IntKind.i64 (Int.ofNat i.succ), AppOK none 0 0 1 8 1 [Value.int IntKind.i64 ((i : Int))] 0 (eInt.row out2), Value.tuple (Array.mk [Value.agg (Array.mk [Value.bool (okB w && lfB w), Value.int IntKind.i64 (sV w), Value.int IntKind.i64 (sF w), Value.int IntKind.i64 (sA w), Value.int IntKind.i64 (sX w), Value.int IntKind.i64 (sY w)]), Value.bool (okB w)]) = Value.tuple (Array.mk [Value.agg (Array.mk [Value.bool true, Value.int IntKind.i64 v, Value.int IntKind.i64 ((0 : Int)), Value.int IntKind.i64 ((0 : Int)), Value.int IntKind.i64 ((0 : Int)), Value.int IntKind.i64 ((0 : Int))]), Value.bool true]), U64 w, readPart Try.prog 83 cs (o + ((i : Int)).toNat * 1) = some (Value.int IntKind.u64 w), (0 : Int) ≤ (i : Int) ∧ (i : Int) < (n : Int), decide ((↑i : Int) < (↑n : Int)) = true])) (hK : ∀ zz, (fLv cs o n c Q).inv 1 zz → ltO ((fLv cs o n c Q).mu 1 zz) (some (n - i)) → Sat E (mkLp (lp Try.f38 0) J) ((fLv cs o n c Q).st 1 zz)) : Sat E (inLp (lp Try.f38 0) J) ((fLv cs o n c Q).st 0 (i, [])) :=
  by_to (T := auto0 t_rgt) (h := hints [(6, 1, {p := true}), (6, 2, {o := some (.int .u64 w)}), (7, 1, {v := some (.tuple ⟨[nd true v 0 0 0 0, .bool true]⟩)}), (9, 3, {c := some (eInt.row out2)}), (10, 0, {v := some (.int .i64 ((i + 1 : Nat) : Int))})]) (ws := [.b true]) (i0 := (i + 1, out2)) hE hm (auto0_ok t_rgt_ok) hL (by kernel_rfl) hob hK
theorem lvI0 (cs : List Value) (o n c : Nat) (Q : Nat → Nat × List Int → Prop) (i : Nat) (w f a x y : Int) (J : Act → World → Prop) {E : Env} {rv : Value} {rhs : List Nat} {rhv : List Blk} (hE : EnvOK E Try.prog Try.f38 1 1 rv rhs rhv) (hL : (fLv cs o n c Q).OK 1) (hob : all ([SameK (mkLp (lp Try.f38 0) J) (mkLp (lp Try.f38 0) J), Enter (fLv cs o n c Q) 0 (some (n - i)) [Value.slice none 0 0, Value.slice (some (Addr.mk 0 o none)) n c, Value.int IntKind.i64 ((n : Int)), Value.int IntKind.i64 (Int.ofNat i.succ)] [Blk.ro cs] [(0, 0)], Value.int IntKind.i64 (IntKind.i64.wrap (Int.ofNat i.succ)) = Value.int IntKind.i64 (Int.ofNat i.succ), Value.tuple (Array.mk [Value.agg (Array.mk [Value.bool (okB w && lfB w), Value.int IntKind.i64 (sV w), Value.int IntKind.i64 (sF w), Value.int IntKind.i64 (sA w), Value.int IntKind.i64 (sX w), Value.int IntKind.i64 (sY w)]), Value.bool (okB w)]) = Value.tuple (Array.mk [Value.agg (Array.mk [Value.bool false, Value.int IntKind.i64 ((0 : Int)), Value.int IntKind.i64 f, Value.int IntKind.i64 a, Value.int IntKind.i64 x, Value.int IntKind.i64 y]), Value.bool true]), U64 w, readPart Try.prog 83 cs (o + ((i : Int)).toNat * 1) = some (Value.int IntKind.u64 w), (0 : Int) ≤ (i : Int) ∧ (i : Int) < (n : Int), decide ((↑i : Int) < (↑n : Int)) = true])) (hK : ∀ zz, (fLv cs o n c Q).inv 0 zz → ltO ((fLv cs o n c Q).mu 0 zz) (some (n - i)) → Sat E (mkLp (lp Try.f38 0) J) ((fLv cs o n c Q).st 0 zz)) : Sat E (inLp (lp Try.f38 0) J) ((fLv cs o n c Q).st 0 (i, [])) :=
  by_to (T := auto0 t_rgt) (h := hints [(6, 1, {p := true}), (6, 2, {o := some (.int .u64 w)}), (7, 1, {v := some (.tuple ⟨[nd false 0 f a x y, .bool true]⟩)}), (10, 0, {v := some (.int .i64 ((i + 1 : Nat) : Int))})]) (ws := [.b true]) (i0 := (i + 1, [])) hE hm (auto0_ok t_rgt_ok) hL (by kernel_rfl) hob hK
theorem lvF1 (cs : List Value) (o n c : Nat) (Q : Nat → Nat × List Int → Prop) (i : Nat) (out : List Int) (w v : Int) (out2 : List Int) (J : Act → World → Prop) {E : Env} {rv : Value} {rhs : List Nat} {rhv : List Blk} (hE : EnvOK E Try.prog Try.f38 1 1 rv rhs rhv) (hL : (fLv cs o n c Q).OK 1) (hob : all ([SameK (mkLp (lp Try.f38 0) J) (mkLp (lp Try.f38 0) J), Enter (fLv cs o n c Q) 1 (some (n - i)) [Value.slice (some (Addr.mk 90 0 none)) (out.length + 1) 1267650600228229401496703205376, Value.slice (some (Addr.mk 0 o none)) n c, Value.int IntKind.i64 ((n : Int)), Value.int IntKind.i64 (Int.ofNat i.succ)] [Blk.ro cs, Blk.vec (eInt.row out2) 3 1] [(13, 90), (0, 0)], Value.int IntKind.i64 (IntKind.i64.wrap (Int.ofNat i.succ)) = Value.int IntKind.i64 (Int.ofNat i.succ), AppOK (some (Blk.vec (eInt.row out) 3 1)) out.length 1267650600228229401496703205376 1 8 1 [Value.int IntKind.i64 ((i : Int))] 0 (eInt.row out2), Value.tuple (Array.mk [Value.agg (Array.mk [Value.bool (okB w && lfB w), Value.int IntKind.i64 (sV w), Value.int IntKind.i64 (sF w), Value.int IntKind.i64 (sA w), Value.int IntKind.i64 (sX w), Value.int IntKind.i64 (sY w)]), Value.bool (okB w)]) = Value.tuple (Array.mk [Value.agg (Array.mk [Value.bool true, Value.int IntKind.i64 v, Value.int IntKind.i64 ((0 : Int)), Value.int IntKind.i64 ((0 : Int)), Value.int IntKind.i64 ((0 : Int)), Value.int IntKind.i64 ((0 : Int))]), Value.bool true]), U64 w, readPart Try.prog 83 cs (o + ((i : Int)).toNat * 1) = some (Value.int IntKind.u64 w), (0 : Int) ≤ (i : Int) ∧ (i : Int) < (n : Int), decide ((↑i : Int) < (↑n : Int)) = true])) (hK : ∀ zz, (fLv cs o n c Q).inv 1 zz → ltO ((fLv cs o n c Q).mu 1 zz) (some (n - i)) → Sat E (mkLp (lp Try.f38 0) J) ((fLv cs o n c Q).st 1 zz)) : Sat E (inLp (lp Try.f38 0) J) ((fLv cs o n c Q).st 1 (i, out)) :=
  by_to (T := auto0 t_rgt) (h := hints [(6, 1, {p := true}), (6, 2, {o := some (.int .u64 w)}), (7, 1, {v := some (.tuple ⟨[nd true v 0 0 0 0, .bool true]⟩)}), (9, 3, {c := some (eInt.row out2)}), (10, 0, {v := some (.int .i64 ((i + 1 : Nat) : Int))})]) (ws := [.b true]) (i0 := (i + 1, out2)) hE hm (auto0_ok t_rgt_ok) hL (by kernel_rfl) hob hK
theorem lvI1 (cs : List Value) (o n c : Nat) (Q : Nat → Nat × List Int → Prop) (i : Nat) (out : List Int) (w f a x y : Int) (J : Act → World → Prop) {E : Env} {rv : Value} {rhs : List Nat} {rhv : List Blk} (hE : EnvOK E Try.prog Try.f38 1 1 rv rhs rhv) (hL : (fLv cs o n c Q).OK 1) (hob : all ([SameK (mkLp (lp Try.f38 0) J) (mkLp (lp Try.f38 0) J), Enter (fLv cs o n c Q) 1 (some (n - i)) [Value.slice (some (Addr.mk 13 0 none)) out.length 1267650600228229401496703205376, Value.slice (some (Addr.mk 0 o none)) n c, Value.int IntKind.i64 ((n : Int)), Value.int IntKind.i64 (Int.ofNat i.succ)] [Blk.ro cs, Blk.vec (eInt.row out) 3 1] [(13, 13), (0, 0)], Value.int IntKind.i64 (IntKind.i64.wrap (Int.ofNat i.succ)) = Value.int IntKind.i64 (Int.ofNat i.succ), Value.tuple (Array.mk [Value.agg (Array.mk [Value.bool (okB w && lfB w), Value.int IntKind.i64 (sV w), Value.int IntKind.i64 (sF w), Value.int IntKind.i64 (sA w), Value.int IntKind.i64 (sX w), Value.int IntKind.i64 (sY w)]), Value.bool (okB w)]) = Value.tuple (Array.mk [Value.agg (Array.mk [Value.bool false, Value.int IntKind.i64 ((0 : Int)), Value.int IntKind.i64 f, Value.int IntKind.i64 a, Value.int IntKind.i64 x, Value.int IntKind.i64 y]), Value.bool true]), U64 w, readPart Try.prog 83 cs (o + ((i : Int)).toNat * 1) = some (Value.int IntKind.u64 w), (0 : Int) ≤ (i : Int) ∧ (i : Int) < (n : Int), decide ((↑i : Int) < (↑n : Int)) = true])) (hK : ∀ zz, (fLv cs o n c Q).inv 1 zz → ltO ((fLv cs o n c Q).mu 1 zz) (some (n - i)) → Sat E (mkLp (lp Try.f38 0) J) ((fLv cs o n c Q).st 1 zz)) : Sat E (inLp (lp Try.f38 0) J) ((fLv cs o n c Q).st 1 (i, out)) :=
  by_to (T := auto0 t_rgt) (h := hints [(6, 1, {p := true}), (6, 2, {o := some (.int .u64 w)}), (7, 1, {v := some (.tuple ⟨[nd false 0 f a x y, .bool true]⟩)}), (10, 0, {v := some (.int .i64 ((i + 1 : Nat) : Int))})]) (ws := [.b true]) (i0 := (i + 1, out)) hE hm (auto0_ok t_rgt_ok) hL (by kernel_rfl) hob hK
theorem lvE (cs : List Value) (o n c : Nat) (Q : Nat → Nat × List Int → Prop) (i : Nat) (out : List Int) (J : Act → World → Prop) {E : Env} (hE : EnvOK E Try.prog Try.f38 1 1 (.slice (some ⟨100, 0, none⟩) out.length mk) [100] [.vec (eInt.row out) 3 1]) (hob : all ([Back (Value.slice (some (Addr.mk 13 0 none)) out.length 1267650600228229401496703205376) (Value.slice (some (Addr.mk 100 0 none)) out.length 1267650600228229401496703205376) [Blk.vec (eInt.row out) 3 1] [Blk.vec (eInt.row out) 3 1] [(100, 13)], decide ((↑i : Int) < (↑n : Int)) = false])) : Sat E (inLp (lp Try.f38 0) J) ((fLv cs o n c Q).st 1 (i, out)) :=
  by_ret (T := auto0 t_rgt) (h := hints []) (ws := [.b false]) (nx' := 101) hE hm (auto0_ok t_rgt_ok) (by omega) (by simp) (by intro x hx; simp at hx; subst hx; exact Blk.plain.namesLt (b := .vec _ _ _) (Elt.row_pl _) _) (by kernel_rfl) hob
end Go.Proofs.Ythbaccmhdffjdaa.Tr


set_option linter.unusedVariables false
set_option linter.unusedSimpArgs false
set_option maxRecDepth 100000
namespace Go.Proofs.Ythbaccmhdffjdaa.Tr
open Go Go.RowKit Go.Proofs.Ythbaccmhdffjdaa.Ev Go.Proofs.Ythbaccmhdffjdaa.NodeE Go.Proofs.Ythbaccmhdffjdaa.Tr

theorem last_leaf {ws : List Int} {dim : Int} (h : rightI ws dim = true) {w : Int} (hw : ws[ws.length - 1]? = some w) : lfB w = true := by
  obtain ⟨⟨h1, _⟩, h2, _⟩ := right_parts.1 h
  have hg := h2 _ w hw
  cases hl : lfB w
  · obtain ⟨_, _, _, a, b, c, d⟩ := good_inner hg hl
    omega
  · rfl
theorem leafIx_one (i : Nat) (w : Int) : leafIx i [w] = bif okB w && lfB w then [(i : Int)] else [] := rfl
theorem leafIx_ne {ws : List Int} {dim : Int} (h : rightI ws dim = true) : leafIx 0 ws ≠ [] := by
  obtain ⟨⟨h1, _⟩, _, _⟩ := right_parts.1 h
  have hw : ws[ws.length - 1]? = some (ws[ws.length - 1]'(by omega)) := List.getElem?_eq_getElem (by omega)
  have hl := last_leaf h hw
  have ho := right_ok h _ (List.mem_of_getElem? hw)
  generalize hx : ws[ws.length - 1]'(by omega) = x at hw hl ho
  have e : ws = ws.take (ws.length - 1) ++ [x] := by
    have := List.take_add_one (l := ws) (i := ws.length - 1)
    rw [hw, show ws.length - 1 + 1 = ws.length by omega, List.take_length] at this
    exact this
  rw [e, leafIx_app, leafIx_one, ho, hl]
  simp
theorem leafIx_len : ∀ (i : Nat) (ws : List Int), (leafIx i ws).length ≤ ws.length
  | _, [] => Nat.le_refl _
  | i, w :: ws => by
    have := leafIx_len (i + 1) ws
    simp only [leafIx]
    cases okB w && lfB w <;> simp <;> omega
theorem leaves_spec (cs : List Value) (o n c : Nat) (hr : eWord.Row cs o n) (hpl : ∀ x ∈ cs, leafG x = true) (hU : ∀ w ∈ eWord.list cs o n, U64 w) (hn : n ≤ 65536) (hR : rightI (eWord.list cs o n) 4 = true) :
    CallSpec Try.prog 38 [.slice (some ⟨0, o, none⟩) n c] (roRows [cs]) 1 (.slice (some ⟨100, 0, none⟩) (leafIx 0 (eWord.list cs o n)).length mk) (assocN [100] [.vec (eInt.row (leafIx 0 (eWord.list cs o n))) 3 1]) := by
  refine spec_of_sat Try.func38 rfl fun E hE => ?_
  have hlen : (eWord.list cs o n).length = n := Elt.list_len _ _ _
  generalize hws : eWord.list cs o n = ws at hU hlen hE hR
  obtain ⟨⟨hn1, hn31⟩, hgood, hone⟩ := right_parts.1 hR
  have rnr : ∀ f : Nat → Nat, Blk.rnB f (.ro cs) = .ro cs := fun f => Blk.plain.rnB (b := .ro cs) hpl f
  have hUl : ∀ w ∈ eWord.list cs o n, U64 w := by rw [hws]; exact hU
  have hr1 : Value.bool (rightI (eWord.list cs o n) 4) = .bool true := by rw [hws, hR]
  let Q : Nat → Nat × List Int → Prop := fun z s => s.1 ≤ n ∧ s.2 = leafIx 0 (ws.take s.1) ∧ ((z = 0 ∧ s.2 = []) ∨ (z = 1 ∧ s.2 ≠ []))
  have okL := fLv_ok cs o n c Q hpl
  have rnv : ∀ (f : Nat → Nat) (l : List Int), Blk.rnB f (.vec (eInt.row l) 3 1) = .vec (eInt.row l) 3 1 := fun f l => Blk.plain.rnB (b := .vec (eInt.row l) 3 1) (Elt.row_pl _) f
  refine lvIn cs o n c Q hE okL ⟨rfl, ⟨(0, []), ⟨Nat.zero_le _, rfl, Or.inl ⟨rfl, rfl⟩⟩, trivial, rfl, by simp only [fLv, List.map_cons, List.map_nil, rnr]⟩, hr1, plain1 hpl, hr, hUl, hn, trivial⟩ fun zz hz _ => by_loop (fLv cs o n c Q) (lp Try.f38 0) ?_ 0 zz hz
  rintro b ⟨i, out⟩ hinv J hJ
  have hinv : i ≤ n ∧ out = leafIx 0 (ws.take i) ∧ ((b = 0 ∧ out = []) ∨ (b = 1 ∧ out ≠ [])) := hinv
  obtain ⟨k1, k2, k3⟩ := hinv
  have hJ' : ∀ b' zz, (fLv cs o n c Q).inv b' zz → ltO ((fLv cs o n c Q).mu b' zz) (some (n - i)) → Sat E (mkLp (lp Try.f38 0) J) ((fLv cs o n c Q).st b' zz) := fun b' zz h1 h2 => hJ b' zz h1 h2
  by_cases hin : i < n
  · have hlt : decide ((i : Int) < (n : Int)) = true := decide_eq_true (by omega)
    obtain ⟨w, hw⟩ : ∃ w, ws[i]? = some w := ⟨_, List.getElem?_eq_getElem (by rw [hlen]; omega)⟩
    have hrd := hr.read1 (P := Try.prog) (ty := 83) (by kernel_rfl) rfl (i := i) (x := w) (by rw [hws]; exact hw) rfl rfl
    rw [← Nat.mul_one i] at hrd
    have htk : ws.take (i + 1) = ws.take i ++ [w] := by rw [List.take_add_one, hw]; rfl
    have ho := right_ok hR w (List.mem_of_getElem? hw)
    have htl : (ws.take i).length = i := by rw [List.length_take, hlen]; omega
    have hmu : n - (i + 1) < n - i := by omega
    cases hl : lfB w
    · have hnx : leafIx 0 (ws.take (i + 1)) = out := by rw [htk, leafIx_app, leafIx_one, hl, Bool.and_false, k2]; simp
      rcases k3 with ⟨rfl, ko⟩ | ⟨rfl, ko⟩
      · rw [ko] at hnx ⊢
        exact lvI0 cs o n c Q i w (uF w) (low32 w) (uX w) (uY w) J hE okL ⟨rfl, ⟨(i + 1, []), ⟨hin, hnx.symm, Or.inl ⟨rfl, rfl⟩⟩, hmu, rfl, by simp only [fLv, List.map_cons, List.map_nil, rnr]⟩, i64_succ (by omega), unp_inner ho hl, hU w (List.mem_of_getElem? hw), hrd, ⟨Int.natCast_nonneg _, Int.ofNat_lt.2 hin⟩, hlt, trivial⟩ (hJ' 0)
      · exact lvI1 cs o n c Q i out w (uF w) (low32 w) (uX w) (uY w) J hE okL ⟨rfl, ⟨(i + 1, out), ⟨hin, hnx.symm, Or.inr ⟨rfl, ko⟩⟩, hmu, rfl, by simp only [fLv, List.map_cons, List.map_nil, rnr, rnv]⟩, i64_succ (by omega), unp_inner ho hl, hU w (List.mem_of_getElem? hw), hrd, ⟨Int.natCast_nonneg _, Int.ofNat_lt.2 hin⟩, hlt, trivial⟩ (hJ' 1)
    · have hnx : leafIx 0 (ws.take (i + 1)) = out ++ [(i : Int)] := by rw [htk, leafIx_app, leafIx_one, ho, hl, k2, htl]; simp
      have hol : out.length ≤ i := by
        rw [k2]
        exact Nat.le_trans (leafIx_len 0 _) (by omega)
      rcases k3 with ⟨rfl, ko⟩ | ⟨rfl, ko⟩
      · rw [ko] at hnx ⊢
        exact lvF0 cs o n c Q i w (low32 w) [(i : Int)] J hE okL ⟨rfl, ⟨(i + 1, [(i : Int)]), ⟨hin, hnx.symm, Or.inr ⟨rfl, by simp⟩⟩, hmu, rfl, by simp only [fLv, List.map_cons, List.map_nil, rnr, rnv]⟩, i64_succ (by omega), appOK_nil (e := eInt) (new := [(i : Int)]) rfl rfl rfl rfl (by decide) (by decide) (by decide), unp_leaf ho hl, hU w (List.mem_of_getElem? hw), hrd, ⟨Int.natCast_nonneg _, Int.ofNat_lt.2 hin⟩, hlt, trivial⟩ (hJ' 1)
      · exact lvF1 cs o n c Q i out w (low32 w) (out ++ [(i : Int)]) J hE okL ⟨rfl, ⟨(i + 1, out ++ [(i : Int)]), ⟨hin, hnx.symm, Or.inr ⟨rfl, by simp⟩⟩, hmu, (by simp [fLv]; first | rfl | exact ⟨rfl, rfl, rfl, rfl⟩ | exact ⟨rfl, rfl, rfl⟩ | exact ⟨rfl, rfl⟩), by simp only [fLv, List.map_cons, List.map_nil, rnr, rnv]⟩, i64_succ (by omega), appOK (e := eInt) (L := out) (new := [(i : Int)]) rfl rfl rfl rfl (Nat.le_refl _) (by simp) (by decide) (by omega) (by omega), unp_leaf ho hl, hU w (List.mem_of_getElem? hw), hrd, ⟨Int.natCast_nonneg _, Int.ofNat_lt.2 hin⟩, hlt, trivial⟩ (hJ' 1)
  · have hlt : decide ((i : Int) < (n : Int)) = false := decide_eq_false (by omega)
    rw [List.take_of_length_le (by omega)] at k2
    rcases k3 with ⟨rfl, ko⟩ | ⟨rfl, ko⟩
    · exact absurd (k2.symm.trans ko) (leafIx_ne hR)
    · rw [← k2] at hE
      exact lvE cs o n c Q i out J hE ⟨⟨rfl, by simp only [List.map_cons, List.map_nil, rnv]⟩, hlt, trivial⟩
def leafI0 (ws : List Int) : List Int := leafIx 0 ws
def depI (ws : List Int) (n : Nat) : Int := (depGo 0 ws (dep0 n)).1
def leaves_F (LX : List Int → List Int) : RoF := fun xs css => match xs, css with
  | [.slice (some ⟨0, o, none⟩) n c], [cs] => some (.slice (some ⟨100, 0, none⟩) (LX (eWord.list cs o n)).length mk, [.vec (eInt.row (LX (eWord.list cs o n))) 3 1], [LX = leafI0, eWord.Row cs o n, ∀ w ∈ eWord.list cs o n, U64 w, n ≤ 65536, rightI (eWord.list cs o n) 4 = true])
  | [.slice none 0 0], [] => some (.slice none 0 0, [], [])
  | _, _ => none
theorem leaves_sum (LX : List Int → List Int) : SumOK Try.prog 38 (roSum (leaves_F LX)) := by
  refine roSum_ok (en Try.func38 rfl) ?_ (fun xs css r h => ?_)
  · intro xs css v blks ob h hob hpl hl
    unfold leaves_F at h
    split at h
    · rename_i o n c cs
      simp only [Option.some.injEq, Prod.mk.injEq] at h
      obtain ⟨rfl, rfl, rfl⟩ := h
      obtain rfl : LX = leafI0 := hob _ (List.mem_cons_self ..)
      refine ⟨by simp, fun x hx => by simp at hx; subst hx; exact ⟨Elt.row_pl _, rfl⟩, fun j hj => by simp [nms, nm1, nm0] at hj; subst hj; simp, ?_⟩
      exact leaves_spec cs o n c (hob _ (List.mem_cons_of_mem _ (List.mem_cons_self ..))) (hpl cs (by simp)) (hob _ (List.mem_cons_of_mem _ (List.mem_cons_of_mem _ (List.mem_cons_self ..)))) (hob _ (by simp)) (hob _ (by simp))
    · simp only [Option.some.injEq, Prod.mk.injEq] at h
      obtain ⟨rfl, rfl, rfl⟩ := h
      refine ⟨by simp, by simp, fun j hj => by simp [nms, nm1, nmL, nm0] at hj, ?_⟩
      exact spec_of_sat Try.func38 rfl fun E hE => lvNil () hE ⟨⟨rfl, rfl⟩, (fun x hx => by simp at hx), trivial⟩
    · simp at h
  · unfold leaves_F at h
    split at h <;> simp at h <;> simp
/-! ### Depth -/
structure DpOK (n i : Nat) (d : Int × List Int) : Prop where
  len : d.2.length = n
  mr : 1 ≤ d.1 ∧ d.1 ≤ i + 1
  rr : ∀ v ∈ d.2, 0 ≤ v ∧ v ≤ i + 1
theorem dep0_ok (n : Nat) : DpOK n 0 (dep0 n) := by
  refine ⟨by simp [dep0], by simp [dep0], fun v hv => ?_⟩
  simp only [dep0] at hv
  rcases List.mem_or_eq_of_mem_set hv with hv | rfl
  · have := List.eq_of_mem_replicate hv; omega
  · decide
theorem getD_mem {r : List Int} {i : Nat} (h : i < r.length) : r.getD i 0 ∈ r ∧ r[i]? = some (r.getD i 0) := by
  have e : r.getD i 0 = r[i] := by rw [List.getD_eq_getElem?_getD, List.getElem?_eq_getElem h]; rfl
  rw [e]
  exact ⟨List.getElem_mem h, List.getElem?_eq_getElem h⟩
theorem depS_ok {n i : Nat} {d : Int × List Int} (w : Int) (h : DpOK n i d) (hi : i < n) : DpOK n (i + 1) (depS i w d) := by
  have hg := getD_mem (r := d.2) (i := i) (by rw [h.len]; exact hi)
  have hgr := h.rr _ hg.1
  have hm := h.mr
  refine ⟨?_, ?_, fun v hv => ?_⟩
  · simp only [depS]
    cases okB w && lfB w <;> simp [h.len]
  · simp only [depS]; omega
  · simp only [depS] at hv
    cases hb : okB w && lfB w <;> rw [hb] at hv
    · simp only [cond_false] at hv
      rcases List.mem_or_eq_of_mem_set hv with hv | rfl
      · rcases List.mem_or_eq_of_mem_set hv with hv | rfl
        · have := h.rr v hv; omega
        · omega
      · omega
    · have := h.rr v hv; omega
end Go.Proofs.Ythbaccmhdffjdaa.Tr


set_option linter.unusedVariables false
set_option linter.unusedSimpArgs false
set_option maxRecDepth 100000
namespace Go.Proofs.Ythbaccmhdffjdaa.BoxF
open Go Go.RowKit Go.Proofs.Ythbaccmhdffjdaa.Ev Go.Proofs.Ythbaccmhdffjdaa.Within Go.Proofs.Ythbaccmhdffjdaa.PickE
def ofLo (lo hi : Int) : Int := bif decide (lo > hi) then 1 else lo
def ofHi (lo hi : Int) : Int := bif decide (lo > hi) then 0 else hi
def of_F : List Value → Option (Value × List Prop)
  | [.int .i64 lo, .int .i64 hi] => some (sp (ofLo lo hi) (ofHi lo hi), [])
  | _ => none
theorem of_sum : SumOK Try.prog 61 (sumOf of_F) := by
  refine sumOf_ok (en Try.func61 rfl) fun args v ob h hob => ?_
  unfold of_F at h
  split at h
  · obtain ⟨rfl, rfl⟩ := Prod.mk.inj (Option.some.inj h)
    exact calls_run0 hm (auto0_ok t_pick_ok) noHint [.fork] (by kernel_rfl)
  · exact absurd h (by simp)
noncomputable def t_of : Sums := upd t_pick 61 (some (sumOf of_F))
theorem t_of_ok : SumsOK Try.prog t_of := sums_cons t_pick_ok of_sum
def has_F : List Value → Option (Value × List Prop)
  | [.agg ⟨[.int .i64 a, .int .i64 b]⟩, .int .i64 n] => some (.bool (decide (a ≤ n) && decide (n ≤ b)), [])
  | _ => none
theorem has_sum : SumOK Try.prog 52 (sumOf has_F) := by
  refine sumOf_ok (en Try.func52 rfl) fun args v ob h hob => ?_
  unfold has_F at h
  split at h
  · rename_i a b n
    obtain ⟨rfl, rfl⟩ := Prod.mk.inj (Option.some.inj h)
    clear h
    cases h : decide (a ≤ n)
    · exact calls_runO hm (auto0_ok t_of_ok) (hints [(1, 3, ht false)]) [] [bb (decide (a ≤ n)) false] (by kernel_rfl) ⟨bb_of h, trivial⟩
    · exact calls_runO hm (auto0_ok t_of_ok) (hints [(1, 3, ht true)]) [] [bb (decide (a ≤ n)) true] (by kernel_rfl) ⟨bb_of h, trivial⟩
  · exact absurd h (by simp)
noncomputable def t_has : Sums := upd t_of 52 (some (sumOf has_F))
theorem t_has_ok : SumsOK Try.prog t_has := sums_cons t_of_ok has_sum
def empty_F : List Value → Option (Value × List Prop)
  | [.agg ⟨[.int .i64 a, .int .i64 b]⟩] => some (.bool (decide (a > b)), [])
  | _ => none
theorem empty_sum : SumOK Try.prog 51 (sumOf empty_F) := by
  refine sumOf_ok (en Try.func51 rfl) fun args v ob h hob => ?_
  unfold empty_F at h
  split at h
  · rename_i a b
    obtain ⟨rfl, rfl⟩ := Prod.mk.inj (Option.some.inj h)
    clear h
    exact calls_run0 hm (auto0_ok t_has_ok) noHint [] (by kernel_rfl)
  · exact absurd h (by simp)
noncomputable def t_empty : Sums := upd t_has 51 (some (sumOf empty_F))
theorem t_empty_ok : SumsOK Try.prog t_empty := sums_cons t_has_ok empty_sum
def within_F : List Value → Option (Value × List Prop)
  | [.agg ⟨[.int .i64 a, .int .i64 b]⟩, .agg ⟨[.int .i64 c, .int .i64 d]⟩] => some (.bool (decide (a > b) || (decide (c ≤ a) && decide (b ≤ d))), [])
  | _ => none
theorem within_sum : SumOK Try.prog 49 (sumOf within_F) := by
  refine sumOf_ok (en Try.func49 rfl) fun args v ob h hob => ?_
  unfold within_F at h
  split at h
  · rename_i a b c d
    obtain ⟨rfl, rfl⟩ := Prod.mk.inj (Option.some.inj h)
    clear h
    cases h : decide (a > b)
    · cases h2 : decide (c ≤ a)
      · exact calls_runO hm (auto0_ok t_empty_ok) (hints [(1, 1, ht false), (1, 7, ht false)]) [] [bb (decide (c ≤ a)) false, bb (decide (a > b)) false] (by kernel_rfl) ⟨bb_of h2, bb_of h, trivial⟩
      · exact calls_runO hm (auto0_ok t_empty_ok) (hints [(1, 1, ht false), (1, 7, ht true)]) [] [bb (decide (c ≤ a)) true, bb (decide (a > b)) false] (by kernel_rfl) ⟨bb_of h2, bb_of h, trivial⟩
    · exact calls_runO hm (auto0_ok t_empty_ok) (hints [(1, 1, ht true)]) [] [bb (decide (a > b)) true] (by kernel_rfl) ⟨bb_of h, trivial⟩
  · exact absurd h (by simp)
noncomputable def t_within : Sums := upd t_empty 49 (some (sumOf within_F))
theorem t_within_ok : SumsOK Try.prog t_within := sums_cons t_empty_ok within_sum
def cutLo (a b n : Int) : Int := ofLo a (minI b n)
def cutHi (a b n : Int) : Int := ofHi a (minI b n)
def cutLo' (a b n : Int) : Int := bif decide (n ≥ b) then 1 else ofLo (maxI a (n + 1)) b
def cutHi' (a b n : Int) : Int := bif decide (n ≥ b) then 0 else ofHi (maxI a (n + 1)) b
def cut_F : List Value → Option (Value × List Prop)
  | [.agg ⟨[.int .i64 a, .int .i64 b]⟩, .int .i64 n] => some (.tuple ⟨[sp (cutLo a b n) (cutHi a b n), sp (cutLo' a b n) (cutHi' a b n)]⟩, [I64 n, b ≤ 9223372036854775807])
  | _ => none
theorem cut_sum : SumOK Try.prog 48 (sumOf cut_F) := by
  refine sumOf_ok (en Try.func48 rfl) fun args v ob h hob => ?_
  unfold cut_F at h
  split at h
  · rename_i a b n
    obtain ⟨rfl, rfl⟩ := Prod.mk.inj (Option.some.inj h)
    clear h
    cases h : decide (n ≥ b)
    · have hn := hob (I64 n) (by simp)
      have hb := hob (b ≤ 9223372036854775807) (by simp)
      have e1 : cutLo' a b n = ofLo (maxI a (n + 1)) b := by unfold cutLo'; rw [h]; rfl
      have e2 : cutHi' a b n = ofHi (maxI a (n + 1)) b := by unfold cutHi'; rw [h]; rfl
      rw [e1, e2]
      exact calls_runO hm (auto0_ok t_within_ok) (hints [(2, 3, ht false), (4, 4, { v := some (.int .i64 (n + 1)) })]) [] [Value.int .i64 (IntKind.i64.wrap (n + 1)) = .int .i64 (n + 1), bb (decide (n ≥ b)) false] (by kernel_rfl)
        ⟨int_eq (wrap_id ⟨by omega, by have := of_decide_eq_false h; omega⟩), bb_of h, trivial⟩
    · have e1 : cutLo' a b n = 1 := by unfold cutLo'; rw [h]; rfl
      have e2 : cutHi' a b n = 0 := by unfold cutHi'; rw [h]; rfl
      rw [e1, e2]
      exact calls_runO hm (auto0_ok t_within_ok) (hints [(2, 3, ht true)]) [] [bb (decide (n ≥ b)) true] (by kernel_rfl) ⟨bb_of h, trivial⟩
  · exact absurd h (by simp)
noncomputable def t_cut : Sums := upd t_within 48 (some (sumOf cut_F))
theorem t_cut_ok : SumsOK Try.prog t_cut := sums_cons t_within_ok cut_sum
theorem minI_eq (x y : Int) : minI x y = min x y := by unfold minI; split <;> omega
theorem maxI_eq (x y : Int) : maxI x y = max x y := by unfold maxI; split <;> omega
theorem cut_cases (a b n : Int) : (cutLo a b n = 1 ∧ cutHi a b n = 0 ∧ cutLo' a b n = 1 ∧ cutHi' a b n = 0 ∧ b < a) ∨ (cutLo a b n = 1 ∧ cutHi a b n = 0 ∧ cutLo' a b n = a ∧ cutHi' a b n = b ∧ a ≤ b ∧ n < a) ∨
    (cutLo a b n = a ∧ cutHi a b n = n ∧ cutLo' a b n = n + 1 ∧ cutHi' a b n = b ∧ a ≤ b ∧ a ≤ n ∧ n < b) ∨ (cutLo a b n = a ∧ cutHi a b n = b ∧ cutLo' a b n = 1 ∧ cutHi' a b n = 0 ∧ a ≤ b ∧ b ≤ n) := by
  by_cases h1 : b < a
  · refine Or.inl ⟨?_, ?_, ?_, ?_, h1⟩ <;> first | omega | (simp only [cutLo, cutHi, cutLo', cutHi', ofLo, ofHi, minI_eq, maxI_eq, cond_eq_ite, decide_eq_true_eq] <;> (repeat' split) <;> omega)
  by_cases h2 : n < a
  · refine Or.inr (Or.inl ⟨?_, ?_, ?_, ?_, ?_, h2⟩) <;> first | omega | (simp only [cutLo, cutHi, cutLo', cutHi', ofLo, ofHi, minI_eq, maxI_eq, cond_eq_ite, decide_eq_true_eq] <;> (repeat' split) <;> omega)
  by_cases h3 : n < b
  · refine Or.inr (Or.inr (Or.inl ⟨?_, ?_, ?_, ?_, ?_, ?_, h3⟩)) <;> first | omega | (simp only [cutLo, cutHi, cutLo', cutHi', ofLo, ofHi, minI_eq, maxI_eq, cond_eq_ite, decide_eq_true_eq] <;> (repeat' split) <;> omega)
  · refine Or.inr (Or.inr (Or.inr ⟨?_, ?_, ?_, ?_, ?_, ?_⟩)) <;> first | omega | (simp only [cutLo, cutHi, cutLo', cutHi', ofLo, ofHi, minI_eq, maxI_eq, cond_eq_ite, decide_eq_true_eq] <;> (repeat' split) <;> omega)
def bring_F : List Value → Option (Value × List Prop)
  | [.int .i64 n, .int .i64 lo, .int .i64 hi] => some (.int .i64 (withinS n lo hi), [I64 n, -2305843009213693952 ≤ lo, lo ≤ hi, hi ≤ 2305843009213693952])
  | _ => none
theorem bring_sum : SumOK Try.prog 19 (sumOf bring_F) := by
  refine sumOf_ok (en Try.func19 rfl) fun args v ob h hob => ?_
  unfold bring_F at h
  split at h
  · rename_i n lo hi
    obtain ⟨rfl, rfl⟩ := Prod.mk.inj (Option.some.inj h)
    clear h
    have h1 := hob (I64 n) (by simp)
    have h2 := hob (-2305843009213693952 ≤ lo) (by simp)
    have h3 := hob (lo ≤ hi) (by simp)
    have h4 := hob (hi ≤ 2305843009213693952) (by simp)
    exact ⟨rfl, rfl, fun w => (within_calls n lo hi h1.1 h1.2 h2 h3 h4 w).mono fun e w' ⟨he, hw⟩ => ⟨he, hw ▸ Below.refl _ _⟩⟩
  · exact absurd h (by simp)
noncomputable def t_bring : Sums := upd t_cut 19 (some (sumOf bring_F))
theorem t_bring_ok : SumsOK Try.prog t_bring := sums_cons t_cut_ok bring_sum
abbrev bx (a0 a1 a2 a3 a4 a5 a6 a7 a8 a9 : Int) : Value := .agg ⟨[i64 a0, i64 a1, i64 a2, i64 a3, i64 a4, i64 a5, i64 a6, i64 a7, i64 a8, i64 a9]⟩
abbrev pt (p0 p1 p2 p3 : Int) : Value := .agg ⟨[i64 p0, i64 p1, i64 p2, i64 p3]⟩
def e2 (a b : Int) : Bool := decide (a > b)
def h3 (a b n : Int) : Bool := decide (a ≤ n) && decide (n ≤ b)
def w4 (a b c d : Int) : Bool := decide (a > b) || (decide (c ≤ a) && decide (b ≤ d))
def emptyB (a0 a1 a2 a3 a4 a5 a6 a7 a8 a9 : Int) : Bool := bif e2 a0 a1 then true else bif e2 a2 a3 then true else bif e2 a4 a5 then true else bif e2 a6 a7 then true else bif e2 a8 a9 then true else false
def hasB (a0 a1 a2 a3 a4 a5 a6 a7 a8 a9 p0 p1 p2 p3 n : Int) : Bool := bif !h3 a0 a1 p0 then false else bif !h3 a2 a3 p1 then false else bif !h3 a4 a5 p2 then false else bif !h3 a6 a7 p3 then false else h3 a8 a9 n
def withinB (a0 a1 a2 a3 a4 a5 a6 a7 a8 a9 b0 b1 b2 b3 b4 b5 b6 b7 b8 b9 : Int) : Bool := bif emptyB a0 a1 a2 a3 a4 a5 a6 a7 a8 a9 then true else bif !w4 a0 a1 b0 b1 then false else bif !w4 a2 a3 b2 b3 then false else bif !w4 a4 a5 b4 b5 then false else bif !w4 a6 a7 b6 b7 then false else bif !w4 a8 a9 b8 b9 then false else true
def cL (i p a b n : Int) : Int := bif p == i then cutLo a b n else a
def cH (i p a b n : Int) : Int := bif p == i then cutHi a b n else b
def dL (i p a b n : Int) : Int := bif p == i then cutLo' a b n else a
def dH (i p a b n : Int) : Int := bif p == i then cutHi' a b n else b
def bempty_F : List Value → Option (Value × List Prop)
  | [.agg ⟨[.int .i64 a0, .int .i64 a1, .int .i64 a2, .int .i64 a3, .int .i64 a4, .int .i64 a5, .int .i64 a6, .int .i64 a7, .int .i64 a8, .int .i64 a9]⟩] => some (.bool (emptyB a0 a1 a2 a3 a4 a5 a6 a7 a8 a9), [])
  | _ => none
theorem bempty_sum : SumOK Try.prog 33 (sumOf bempty_F) := by
  refine sumOf_ok (en Try.func33 rfl) fun args v ob h hob => ?_
  unfold bempty_F at h
  split at h
  · obtain ⟨rfl, rfl⟩ := Prod.mk.inj (Option.some.inj h)
    exact calls_run0 hm (auto0_ok t_bring_ok) noHint [.go,.go,.fork,.go,.fork,.go,.fork,.go,.fork,.go,.fork] (by kernel_rfl)
  · exact absurd h (by simp)
noncomputable def t_bempty : Sums := upd t_bring 33 (some (sumOf bempty_F))
theorem t_bempty_ok : SumsOK Try.prog t_bempty := sums_cons t_bring_ok bempty_sum
def bhas_F : List Value → Option (Value × List Prop)
  | [.agg ⟨[.int .i64 a0, .int .i64 a1, .int .i64 a2, .int .i64 a3, .int .i64 a4, .int .i64 a5, .int .i64 a6, .int .i64 a7, .int .i64 a8, .int .i64 a9]⟩, .agg ⟨[.int .i64 p0, .int .i64 p1, .int .i64 p2, .int .i64 p3]⟩, .int .i64 n] => some (.bool (hasB a0 a1 a2 a3 a4 a5 a6 a7 a8 a9 p0 p1 p2 p3 n), [])
  | _ => none
theorem bhas_sum : SumOK Try.prog 34 (sumOf bhas_F) := by
  refine sumOf_ok (en Try.func34 rfl) fun args v ob h hob => ?_
  unfold bhas_F at h
  split at h
  · obtain ⟨rfl, rfl⟩ := Prod.mk.inj (Option.some.inj h)
    exact calls_run0 hm (auto0_ok t_bempty_ok) noHint [.go,.go,.fork,.go,.fork,.go,.fork,.go,.fork] (by kernel_rfl)
  · exact absurd h (by simp)
noncomputable def t_bhas : Sums := upd t_bempty 34 (some (sumOf bhas_F))
theorem t_bhas_ok : SumsOK Try.prog t_bhas := sums_cons t_bempty_ok bhas_sum
def bwithin_F : List Value → Option (Value × List Prop)
  | [.agg ⟨[.int .i64 a0, .int .i64 a1, .int .i64 a2, .int .i64 a3, .int .i64 a4, .int .i64 a5, .int .i64 a6, .int .i64 a7, .int .i64 a8, .int .i64 a9]⟩, .agg ⟨[.int .i64 b0, .int .i64 b1, .int .i64 b2, .int .i64 b3, .int .i64 b4, .int .i64 b5, .int .i64 b6, .int .i64 b7, .int .i64 b8, .int .i64 b9]⟩] => some (.bool (withinB a0 a1 a2 a3 a4 a5 a6 a7 a8 a9 b0 b1 b2 b3 b4 b5 b6 b7 b8 b9), [])
  | _ => none
theorem bwithin_sum : SumOK Try.prog 30 (sumOf bwithin_F) := by
  refine sumOf_ok (en Try.func30 rfl) fun args v ob h hob => ?_
  unfold bwithin_F at h
  split at h
  · obtain ⟨rfl, rfl⟩ := Prod.mk.inj (Option.some.inj h)
    exact calls_run0 hm (auto0_ok t_bhas_ok) noHint [.fork,.go,.go,.fork,.go,.fork,.go,.fork,.go,.fork,.go,.fork] (by kernel_rfl)
  · exact absurd h (by simp)
noncomputable def t_bwithin : Sums := upd t_bhas 30 (some (sumOf bwithin_F))
theorem t_bwithin_ok : SumsOK Try.prog t_bwithin := sums_cons t_bhas_ok bwithin_sum
theorem cut_no {i p : Int} (h : p ≠ i) (a b n : Int) : cL i p a b n = a ∧ cH i p a b n = b ∧ dL i p a b n = a ∧ dH i p a b n = b := by
  have : (p == i) = false := by simpa using h
  simp [cL, cH, dL, dH, this]
abbrev cutPair (a0 a1 a2 a3 a4 a5 a6 a7 a8 a9 p n : Int) : Value := .tuple ⟨[bx (cL 0 p a0 a1 n) (cH 0 p a0 a1 n) (cL 1 p a2 a3 n) (cH 1 p a2 a3 n) (cL 2 p a4 a5 n) (cH 2 p a4 a5 n) (cL 3 p a6 a7 n) (cH 3 p a6 a7 n) (cL 4 p a8 a9 n) (cH 4 p a8 a9 n),
  bx (dL 0 p a0 a1 n) (dH 0 p a0 a1 n) (dL 1 p a2 a3 n) (dH 1 p a2 a3 n) (dL 2 p a4 a5 n) (dH 2 p a4 a5 n) (dL 3 p a6 a7 n) (dH 3 p a6 a7 n) (dL 4 p a8 a9 n) (dH 4 p a8 a9 n)]⟩
abbrev mx : Int := 9223372036854775807
def bcut_F : List Value → Option (Value × List Prop)
  | [.agg ⟨[.int .i64 a0, .int .i64 a1, .int .i64 a2, .int .i64 a3, .int .i64 a4, .int .i64 a5, .int .i64 a6, .int .i64 a7, .int .i64 a8, .int .i64 a9]⟩, .int .i64 p, .int .i64 n] => some (cutPair a0 a1 a2 a3 a4 a5 a6 a7 a8 a9 p n, [I64 n, a1 ≤ mx, a3 ≤ mx, a5 ≤ mx, a7 ≤ mx, a9 ≤ mx])
  | _ => none
theorem bcut_sum : SumOK Try.prog 29 (sumOf bcut_F) := by
  refine sumOf_ok (en Try.func29 rfl) fun args v ob h hob => ?_
  unfold bcut_F at h
  split at h
  · rename_i a0 a1 a2 a3 a4 a5 a6 a7 a8 a9 p n
    obtain ⟨rfl, rfl⟩ := Prod.mk.inj (Option.some.inj h)
    clear h
    have hn := hob (I64 n) (by simp)
    have k1 := hob (a1 ≤ mx) (by simp)
    have k3 := hob (a3 ≤ mx) (by simp)
    have k5 := hob (a5 ≤ mx) (by simp)
    have k7 := hob (a7 ≤ mx) (by simp)
    have k9 := hob (a9 ≤ mx) (by simp)
    by_cases c0 : p = 0
    · subst c0; exact calls_runO hm (auto0_ok t_bwithin_ok) noHint [] [I64 n, a1 ≤ mx] (by kernel_rfl) ⟨hn, k1, trivial⟩
    by_cases c1 : p = 1
    · subst c1; exact calls_runO hm (auto0_ok t_bwithin_ok) noHint [] [I64 n, a3 ≤ mx] (by kernel_rfl) ⟨hn, k3, trivial⟩
    by_cases c2 : p = 2
    · subst c2; exact calls_runO hm (auto0_ok t_bwithin_ok) noHint [] [I64 n, a5 ≤ mx] (by kernel_rfl) ⟨hn, k5, trivial⟩
    by_cases c3 : p = 3
    · subst c3; exact calls_runO hm (auto0_ok t_bwithin_ok) noHint [] [I64 n, a7 ≤ mx] (by kernel_rfl) ⟨hn, k7, trivial⟩
    by_cases c4 : p = 4
    · subst c4; exact calls_runO hm (auto0_ok t_bwithin_ok) noHint [] [I64 n, a9 ≤ mx] (by kernel_rfl) ⟨hn, k9, trivial⟩
    obtain ⟨q1, q2, q3, q4⟩ := cut_no c0 a0 a1 n
    obtain ⟨q5, q6, q7, q8⟩ := cut_no c1 a2 a3 n
    obtain ⟨r1, r2, r3, r4⟩ := cut_no c2 a4 a5 n
    obtain ⟨r5, r6, r7, r8⟩ := cut_no c3 a6 a7 n
    obtain ⟨s1, s2, s3, s4⟩ := cut_no c4 a8 a9 n
    simp only [cutPair, q1, q2, q3, q4, q5, q6, q7, q8, r1, r2, r3, r4, r5, r6, r7, r8, s1, s2, s3, s4]
    cases h : decide (p ≥ 0)
    · exact calls_runO hm (auto0_ok t_bwithin_ok) (hints [(2, 1, ht false)]) [] [bb (decide (p ≥ 0)) false] (by kernel_rfl) ⟨bb_of h, trivial⟩
    · have h' := of_decide_eq_true h
      exact calls_runO hm (auto0_ok t_bwithin_ok) (hints [(2, 1, ht true), (2, 4, ht false)]) [] [bb (decide (p < 5)) false, bb (decide (p ≥ 0)) true] (by kernel_rfl) ⟨bb_of (decide_eq_false (by omega)), bb_of h, trivial⟩
  · exact absurd h (by simp)
noncomputable def t_bcut : Sums := upd t_bwithin 29 (some (sumOf bcut_F))
theorem t_bcut_ok : SumsOK Try.prog t_bcut := sums_cons t_bwithin_ok bcut_sum
def _root_.Go.Proofs.Ythbaccmhdffjdaa.Ev.Bx.lo (x : Bx) (k : Int) : Int := if k = 0 then x.a0 else if k = 1 then x.a1 else if k = 2 then x.a2 else if k = 3 then x.a3 else x.a4
def _root_.Go.Proofs.Ythbaccmhdffjdaa.Ev.Bx.hi (x : Bx) (k : Int) : Int := if k = 0 then x.b0 else if k = 1 then x.b1 else if k = 2 then x.b2 else if k = 3 then x.b3 else x.b4
/-- The lower part of a cut. -/
def _root_.Go.Proofs.Ythbaccmhdffjdaa.Ev.Bx.low (x : Bx) (p n : Int) : Bx := ⟨cL 0 p x.a0 x.b0 n, cH 0 p x.a0 x.b0 n, cL 1 p x.a1 x.b1 n, cH 1 p x.a1 x.b1 n, cL 2 p x.a2 x.b2 n, cH 2 p x.a2 x.b2 n, cL 3 p x.a3 x.b3 n, cH 3 p x.a3 x.b3 n, cL 4 p x.a4 x.b4 n, cH 4 p x.a4 x.b4 n⟩
def _root_.Go.Proofs.Ythbaccmhdffjdaa.Ev.Bx.high (x : Bx) (p n : Int) : Bx := ⟨dL 0 p x.a0 x.b0 n, dH 0 p x.a0 x.b0 n, dL 1 p x.a1 x.b1 n, dH 1 p x.a1 x.b1 n, dL 2 p x.a2 x.b2 n, dH 2 p x.a2 x.b2 n, dL 3 p x.a3 x.b3 n, dH 3 p x.a3 x.b3 n, dL 4 p x.a4 x.b4 n, dH 4 p x.a4 x.b4 n⟩
def _root_.Go.Proofs.Ythbaccmhdffjdaa.Ev.Bx.I64s (x : Bx) : Prop := I64 x.a0 ∧ I64 x.b0 ∧ I64 x.a1 ∧ I64 x.b1 ∧ I64 x.a2 ∧ I64 x.b2 ∧ I64 x.a3 ∧ I64 x.b3 ∧ I64 x.a4 ∧ I64 x.b4
theorem lo_read0 (x : Bx) : readPart Try.prog 3 x.cs (0 + (0 : Int).toNat * 2 + 0) = some (.int .i64 x.a0) := by kernel_rfl
theorem hi_read0 (x : Bx) : readPart Try.prog 3 x.cs (0 + (0 : Int).toNat * 2 + 1) = some (.int .i64 x.b0) := by kernel_rfl
theorem lo_read1 (x : Bx) : readPart Try.prog 3 x.cs (0 + (1 : Int).toNat * 2 + 0) = some (.int .i64 x.a1) := by kernel_rfl
theorem hi_read1 (x : Bx) : readPart Try.prog 3 x.cs (0 + (1 : Int).toNat * 2 + 1) = some (.int .i64 x.b1) := by kernel_rfl
theorem lo_read2 (x : Bx) : readPart Try.prog 3 x.cs (0 + (2 : Int).toNat * 2 + 0) = some (.int .i64 x.a2) := by kernel_rfl
theorem hi_read2 (x : Bx) : readPart Try.prog 3 x.cs (0 + (2 : Int).toNat * 2 + 1) = some (.int .i64 x.b2) := by kernel_rfl
theorem lo_read3 (x : Bx) : readPart Try.prog 3 x.cs (0 + (3 : Int).toNat * 2 + 0) = some (.int .i64 x.a3) := by kernel_rfl
theorem hi_read3 (x : Bx) : readPart Try.prog 3 x.cs (0 + (3 : Int).toNat * 2 + 1) = some (.int .i64 x.b3) := by kernel_rfl
theorem lo_read4 (x : Bx) : readPart Try.prog 3 x.cs (0 + (4 : Int).toNat * 2 + 0) = some (.int .i64 x.a4) := by kernel_rfl
theorem hi_read4 (x : Bx) : readPart Try.prog 3 x.cs (0 + (4 : Int).toNat * 2 + 1) = some (.int .i64 x.b4) := by kernel_rfl
theorem lo_read (x : Bx) {p : Int} (h0 : 0 ≤ p) (h5 : p < 5) : readPart Try.prog 3 x.cs (0 + p.toNat * 2 + 0) = some (.int .i64 (x.lo p)) := by
  have : p = 0 ∨ p = 1 ∨ p = 2 ∨ p = 3 ∨ p = 4 := by omega
  rcases this with h | h | h | h | h <;> rw [h]
  · rw [lo_read0]; simp [Bx.lo]
  · rw [lo_read1]; simp [Bx.lo]
  · rw [lo_read2]; simp [Bx.lo]
  · rw [lo_read3]; simp [Bx.lo]
  · rw [lo_read4]; simp [Bx.lo]
theorem hi_read (x : Bx) {p : Int} (h0 : 0 ≤ p) (h5 : p < 5) : readPart Try.prog 3 x.cs (0 + p.toNat * 2 + 1) = some (.int .i64 (x.hi p)) := by
  have : p = 0 ∨ p = 1 ∨ p = 2 ∨ p = 3 ∨ p = 4 := by omega
  rcases this with h | h | h | h | h <;> rw [h]
  · rw [hi_read0]; simp [Bx.hi]
  · rw [hi_read1]; simp [Bx.hi]
  · rw [hi_read2]; simp [Bx.hi]
  · rw [hi_read3]; simp [Bx.hi]
  · rw [hi_read4]; simp [Bx.hi]
/-- One end told anew. -/
def _root_.Go.Proofs.Ythbaccmhdffjdaa.Ev.Bx.setHi (x : Bx) (k v : Int) : Bx := ⟨x.a0, if k = 0 then v else x.b0, x.a1, if k = 1 then v else x.b1, x.a2, if k = 2 then v else x.b2, x.a3, if k = 3 then v else x.b3, x.a4, if k = 4 then v else x.b4⟩
def _root_.Go.Proofs.Ythbaccmhdffjdaa.Ev.Bx.setLo (x : Bx) (k v : Int) : Bx := ⟨if k = 0 then v else x.a0, x.b0, if k = 1 then v else x.a1, x.b1, if k = 2 then v else x.a2, x.b2, if k = 3 then v else x.a3, x.b3, if k = 4 then v else x.a4, x.b4⟩
/-- A cut that leaves no part empty. -/
theorem cut_in (x : Bx) {p a : Int} (h0 : 0 ≤ p) (h5 : p < 5) (hl : x.lo p ≤ a) (hh : a < x.hi p) : x.low p a = x.setHi p a ∧ x.high p a = x.setLo p (a + 1) := by
  have cc : ∀ u v : Int, u ≤ a → a < v → cutLo u v a = u ∧ cutHi u v a = a ∧ cutLo' u v a = a + 1 ∧ cutHi' u v a = v := fun u v h1 h2 => by
    have := cut_cases u v a
    omega
  have : p = 0 ∨ p = 1 ∨ p = 2 ∨ p = 3 ∨ p = 4 := by omega
  obtain ⟨a0, b0, a1, b1, a2, b2, a3, b3, a4, b4⟩ := x
  rcases this with rfl | rfl | rfl | rfl | rfl <;> simp [Bx.lo, Bx.hi] at hl hh <;> obtain ⟨h1, h2, h3, h4⟩ := cc _ _ hl hh <;> simp [Bx.low, Bx.high, Bx.setHi, Bx.setLo, cL, cH, dL, dH, h1, h2, h3, h4]
theorem i64s_set (x : Bx) {p a : Int} (hx : x.I64s) (h0 : 0 ≤ p) (h5 : p < 5) (hl : x.lo p ≤ a) (hh : a < x.hi p) : (x.setHi p a).I64s ∧ (x.setLo p (a + 1)).I64s ∧ I64 a := by
  have : p = 0 ∨ p = 1 ∨ p = 2 ∨ p = 3 ∨ p = 4 := by omega
  obtain ⟨a0, b0, a1, b1, a2, b2, a3, b3, a4, b4⟩ := x
  obtain ⟨⟨c1, c2⟩, ⟨c3, c4⟩, ⟨c5, c6⟩, ⟨c7, c8⟩, ⟨c9, c10⟩, ⟨c11, c12⟩, ⟨c13, c14⟩, ⟨c15, c16⟩, ⟨c17, c18⟩, ⟨c19, c20⟩⟩ := hx
  simp only at *
  rcases this with rfl | rfl | rfl | rfl | rfl <;> simp [Bx.lo, Bx.hi] at hl hh <;> simp [Bx.setHi, Bx.setLo, Bx.I64s] <;> omega
end Go.Proofs.Ythbaccmhdffjdaa.BoxF


set_option linter.unusedVariables false
set_option linter.unusedSimpArgs false
set_option maxRecDepth 100000
namespace Go.Proofs.Ythbaccmhdffjdaa.Tr
open Go Go.RowKit Go.Proofs.Ythbaccmhdffjdaa.Ev Go.Proofs.Ythbaccmhdffjdaa.NodeE Go.Proofs.Ythbaccmhdffjdaa.Tr Go.Proofs.Ythbaccmhdffjdaa.BoxF

def rempty_F : List Value → Option (Value × List Prop)
  | [.agg ⟨[.int .i64 a0, .int .i64 a1, .int .i64 a2, .int .i64 a3, .int .i64 a4, .int .i64 a5, .int .i64 a6, .int .i64 a7, .int .i64 a8, .int .i64 a9]⟩] => some (.bool (emptyB a0 a1 a2 a3 a4 a5 a6 a7 a8 a9), [])
  | _ => none
theorem rempty_sum : SumOK Try.prog 25 (sumOf rempty_F) := by
  refine sumOf_ok (en Try.func25 rfl) fun args v ob h hob => ?_
  unfold rempty_F at h
  split at h
  · obtain ⟨rfl, rfl⟩ := Prod.mk.inj (Option.some.inj h)
    exact calls_run0 hm (auto0_ok t_bcut_ok) noHint [.go,.go,.fork,.go,.fork,.go,.fork,.go,.fork,.go,.fork] (by kernel_rfl)
  · exact absurd h (by simp)
noncomputable def t_rempty : Sums := upd t_bcut 25 (some (sumOf rempty_F))
theorem t_rempty_ok : SumsOK Try.prog t_rempty := sums_cons t_bcut_ok rempty_sum
def rmeet_F : List Value → Option (Value × List Prop)
  | [.agg ⟨[.int .i64 a, .int .i64 b]⟩, .agg ⟨[.int .i64 c, .int .i64 d]⟩] => some (sp (ofLo (maxI a c) (minI b d)) (ofHi (maxI a c) (minI b d)), [])
  | _ => none
theorem rmeet_sum : SumOK Try.prog 47 (sumOf rmeet_F) := by
  refine sumOf_ok (en Try.func47 rfl) fun args v ob h hob => ?_
  unfold rmeet_F at h
  split at h
  · obtain ⟨rfl, rfl⟩ := Prod.mk.inj (Option.some.inj h)
    exact calls_run0 hm (auto0_ok t_rempty_ok) noHint [.fork] (by kernel_rfl)
  · exact absurd h (by simp)
noncomputable def t_rmeet : Sums := upd t_rempty 47 (some (sumOf rmeet_F))
theorem t_rmeet_ok : SumsOK Try.prog t_rmeet := sums_cons t_rempty_ok rmeet_sum
noncomputable def t_ls1 : Sums := upd t_rmeet 43 (some (sumOf unpack_F))
theorem t_ls1_ok : SumsOK Try.prog t_ls1 := sums_cons t_rmeet_ok unpack_sum
noncomputable def t_ls2 : Sums := upd t_ls1 46 (some (sumOf runpack_F))
theorem t_ls2_ok : SumsOK Try.prog t_ls2 := sums_cons t_ls1_ok runpack_sum
noncomputable def t_ls3 : Sums := upd t_ls2 42 (some (roSum right_F))
theorem t_ls3_ok : SumsOK Try.prog t_ls3 := sums_cons t_ls2_ok right_sum
noncomputable def t_ls : Sums := upd t_ls3 45 (some (roSum right_F))
theorem t_ls_ok : SumsOK Try.prog t_ls := sums_cons t_ls3_ok rtree_sum
structure LS where
  i : Nat
  r : List Bx
  out : List Pc
def ouV (z : Nat) (out : List Pc) : Value := match z with | 0 => .slice none 0 0 | _ => .slice (some ⟨13, 0, none⟩) out.length mk
def fLs (t0 : Nat) (cs : List Value) (o n c : Nat) (Q : Nat → LS → Prop) : LoopF LS where
  ts _ := [5, 6, t0, t0 + 1, t0 + 2]
  hs z := match z with | 0 => [0, 10] | _ => [0, 10, 13]
  tv z := fun ⟨i, r, out⟩ => [.slice (some ⟨10, 0, none⟩) n n, ouV z out, .slice (some ⟨0, o, none⟩) n c, .int .i64 (n : Int), .int .i64 (i : Int)]
  hv z := fun ⟨i, r, out⟩ => match z with | 0 => [.ro cs, .cells (eBox.row r) 25] | _ => [.ro cs, .cells (eBox.row r) 25, .vec (ePc.row out) 27 11]
  inv := Q
  mu _ := fun ⟨i, r, out⟩ => n - i
  nx := 14
theorem fLs_ok (t0 : Nat) (cs : List Value) (o n c : Nat) (Q : Nat → LS → Prop) (hpl : ∀ x ∈ cs, leafG x = true) : (fLs t0 cs o n c Q).OK 1 := by
  refine ⟨(by decide : 1 ≤ 14), fun z i h k hk => ?_, fun z i h v hv k hk => ?_, fun z i h x hx => ?_⟩
  · show k < 14
    match z with
    | 0 => simp [fLs] at hk; omega
    | z + 1 => simp [fLs] at hk; omega
  · show k < 14
    match z with
    | 0 =>
      simp [fLs, ouV] at hv
      repeat' (refine Or.elim hv (fun hv => ?_) (fun hv => ?_))
      all_goals (subst hv; simp [nms, nm1, nm0] at hk; try omega)
    | z + 1 =>
      simp [fLs, ouV] at hv
      repeat' (refine Or.elim hv (fun hv => ?_) (fun hv => ?_))
      all_goals (subst hv; simp [nms, nm1, nm0] at hk; try omega)
  · match z with
    | 0 =>
      simp [fLs] at hx
      rcases hx with rfl | rfl
      · exact Blk.plain.namesLt (b := .ro cs) hpl _
      · exact Blk.plain.namesLt (b := .cells _ 25) (Elt.row_pl _) _
    | z + 1 =>
      simp [fLs] at hx
      rcases hx with rfl | rfl | rfl
      · exact Blk.plain.namesLt (b := .ro cs) hpl _
      · exact Blk.plain.namesLt (b := .cells _ 25) (Elt.row_pl _) _
      · exact Blk.plain.namesLt (b := .vec _ _ _) (Elt.row_pl _) _
end Go.Proofs.Ythbaccmhdffjdaa.Tr


set_option linter.unusedVariables false
set_option linter.unusedSimpArgs false
set_option maxRecDepth 100000
namespace Go.Proofs.Ythbaccmhdffjdaa.Tr
open Go Go.RowKit Go.Proofs.Ythbaccmhdffjdaa.Ev Go.Proofs.Ythbaccmhdffjdaa.NodeE Go.Proofs.Ythbaccmhdffjdaa.Tr Go.Proofs.Ythbaccmhdffjdaa.BoxF

theorem lsNil (b : Bx)  {E : Env} (hE : EnvOK E Try.prog Try.f23 2 0 (.slice none 0 0) [] []) (hob : all ([Back (Value.slice none 0 0) (Value.slice none 0 0) [] [] [], plainR []])) : Sat E [.code (bodyOf Try.f23)] (st0 Try.f23 [.slice none 0 0, .agg ⟨b.cs⟩] (roRows []) 0) :=
  by_ret (T := auto0 t_ls) (h := hints []) (ws := []) (nx' := 0) hE hm (auto0_ok t_ls_ok) (by omega) (by simp) (by simp) (by kernel_rfl) hob
theorem lsNo (cs : List Value) (o n c : Nat) (b : Bx)  {E : Env} (hE : EnvOK E Try.prog Try.f23 2 1 (.slice none 0 0) [] []) (hob : all ([Back (Value.slice none 0 0) (Value.slice none 0 0) [] [] [], Value.bool (rightI (eWord.list cs o n) ((4 : Int))) = Value.bool false, plainR [cs], eWord.Row cs o n, ∀ (w : Int), w ∈ eWord.list cs o n → U64 w, n ≤ 65536])) : Sat E [.code (bodyOf Try.f23)] (st0 Try.f23 [.slice (some ⟨0, o, none⟩) n c, .agg ⟨b.cs⟩] (roRows [cs]) 1) :=
  by_ret (T := auto0 t_ls) (h := hints [(1, 1, {v := some (.bool false)})]) (ws := []) (nx' := 1) hE hm (auto0_ok t_ls_ok) (by omega) (by simp) (by simp) (by kernel_rfl) hob
theorem lsEm (cs : List Value) (o n c : Nat) (b : Bx)  {E : Env} (hE : EnvOK E Try.prog Try.f23 2 1 (.slice none 0 0) [] []) (hob : all ([Back (Value.slice none 0 0) (Value.slice none 0 0) [] [] [], Value.bool (emptyB b.a0 b.b0 b.a1 b.b1 b.a2 b.b2 b.a3 b.b3 b.a4 b.b4) = Value.bool true, Value.bool (rightI (eWord.list cs o n) ((4 : Int))) = Value.bool true, plainR [cs], eWord.Row cs o n, ∀ (w : Int), w ∈ eWord.list cs o n → U64 w, n ≤ 65536])) : Sat E [.code (bodyOf Try.f23)] (st0 Try.f23 [.slice (some ⟨0, o, none⟩) n c, .agg ⟨b.cs⟩] (roRows [cs]) 1) :=
  by_ret (T := auto0 t_ls) (h := hints [(1, 1, {v := some (.bool true)}), (1, 5, {v := some (.bool true)})]) (ws := []) (nx' := 1) hE hm (auto0_ok t_ls_ok) (by omega) (by simp) (by simp) (by kernel_rfl) hob
theorem lsIn (cs : List Value) (o n c : Nat) (Q : Nat → LS → Prop) (b : Bx) (zs r : List Bx)  {E : Env} {rv : Value} {rhs : List Nat} {rhv : List Blk} (hE : EnvOK E Try.prog Try.f23 2 1 rv rhs rhv) (hL : (fLs 24 cs o n c Q).OK 1) (hob : all ([SameK (atLp (lp Try.f23 0)) (atLp (lp Try.f23 0)), Enter (fLs 24 cs o n c Q) 0 none [Value.slice (some (Addr.mk 45 0 none)) ((n : Int)).toNat ((n : Int)).toNat, Value.slice none 0 0, Value.slice (some (Addr.mk 0 o none)) n c, Value.int IntKind.i64 ((n : Int)), Value.int IntKind.i64 ((0 : Int))] [Blk.ro cs, Blk.cells (eBox.row r) 25] [(10, 45), (0, 0)], lset (eBox.row zs) 0 [Value.int IntKind.i64 b.a0, Value.int IntKind.i64 b.b0, Value.int IntKind.i64 b.a1, Value.int IntKind.i64 b.b1, Value.int IntKind.i64 b.a2, Value.int IntKind.i64 b.b2, Value.int IntKind.i64 b.a3, Value.int IntKind.i64 b.b3, Value.int IntKind.i64 b.a4, Value.int IntKind.i64 b.b4] = some (eBox.row r), (0 : Int) ≤ (0 : Int) ∧ (0 : Int) < (n : Int), MkOK ((n : Int)) ((n : Int)) 80 [Value.int IntKind.i64 ((0 : Int)), Value.int IntKind.i64 ((0 : Int)), Value.int IntKind.i64 ((0 : Int)), Value.int IntKind.i64 ((0 : Int)), Value.int IntKind.i64 ((0 : Int)), Value.int IntKind.i64 ((0 : Int)), Value.int IntKind.i64 ((0 : Int)), Value.int IntKind.i64 ((0 : Int)), Value.int IntKind.i64 ((0 : Int)), Value.int IntKind.i64 ((0 : Int))] (eBox.row zs), Value.bool (emptyB b.a0 b.b0 b.a1 b.b1 b.a2 b.b2 b.a3 b.b3 b.a4 b.b4) = Value.bool false, Value.bool (rightI (eWord.list cs o n) ((4 : Int))) = Value.bool true, plainR [cs], eWord.Row cs o n, ∀ (w : Int), w ∈ eWord.list cs o n → U64 w, n ≤ 65536])) (hK : ∀ zz, (fLs 24 cs o n c Q).inv 0 zz → ltO ((fLs 24 cs o n c Q).mu 0 zz) none → Sat E (atLp (lp Try.f23 0)) ((fLs 24 cs o n c Q).st 0 zz)) : Sat E [.code (bodyOf Try.f23)] (st0 Try.f23 [.slice (some ⟨0, o, none⟩) n c, .agg ⟨b.cs⟩] (roRows [cs]) 1) :=
  by_to (T := auto0 t_ls) (h := hints [(1, 1, {v := some (.bool true)}), (1, 5, {v := some (.bool false)}), (3, 2, {c := some (eBox.row zs)}), (4, 2, {p := true}), (4, 3, {c := some (eBox.row r)})]) (ws := [.go, .stop]) (i0 := ⟨0, r, []⟩) hE hm (auto0_ok t_ls_ok) hL (by kernel_rfl) hob hK
theorem lsI0 (cs : List Value) (o n c : Nat) (Q : Nat → LS → Prop) (i : Nat) (r : List Bx) (bo b1 b2 : Bx) (r1 r2 : List Bx) (w f a x y : Int) (J : Act → World → Prop) {E : Env} {rv : Value} {rhs : List Nat} {rhv : List Blk} (hE : EnvOK E Try.prog Try.f23 2 1 rv rhs rhv) (hL : (fLs 24 cs o n c Q).OK 1) (hob : all ([SameK (mkLp (lp Try.f23 0) J) (mkLp (lp Try.f23 0) J), Enter (fLs 24 cs o n c Q) 0 (some (n - i)) [Value.slice (some (Addr.mk 10 0 none)) n n, Value.slice none 0 0, Value.slice (some (Addr.mk 0 o none)) n c, Value.int IntKind.i64 ((n : Int)), Value.int IntKind.i64 (Int.ofNat i.succ)] [Blk.ro cs, Blk.cells (eBox.row r2) 25] [(10, 10), (0, 0)], Value.int IntKind.i64 (IntKind.i64.wrap (Int.ofNat i.succ)) = Value.int IntKind.i64 (Int.ofNat i.succ), lset (eBox.row r1) (0 + y.toNat * 10) b2.cs = some (eBox.row r2), (0 : Int) ≤ y ∧ y < (n : Int), lset (eBox.row r) (0 + x.toNat * 10) b1.cs = some (eBox.row r1), (0 : Int) ≤ x ∧ x < (n : Int), Value.tuple (Array.mk [Value.agg (Array.mk [Value.int IntKind.i64 (cL ((0 : Int)) f bo.a0 bo.b0 a), Value.int IntKind.i64 (cH ((0 : Int)) f bo.a0 bo.b0 a), Value.int IntKind.i64 (cL ((1 : Int)) f bo.a1 bo.b1 a), Value.int IntKind.i64 (cH ((1 : Int)) f bo.a1 bo.b1 a), Value.int IntKind.i64 (cL ((2 : Int)) f bo.a2 bo.b2 a), Value.int IntKind.i64 (cH ((2 : Int)) f bo.a2 bo.b2 a), Value.int IntKind.i64 (cL ((3 : Int)) f bo.a3 bo.b3 a), Value.int IntKind.i64 (cH ((3 : Int)) f bo.a3 bo.b3 a), Value.int IntKind.i64 (cL ((4 : Int)) f bo.a4 bo.b4 a), Value.int IntKind.i64 (cH ((4 : Int)) f bo.a4 bo.b4 a)]), Value.agg (Array.mk [Value.int IntKind.i64 (dL ((0 : Int)) f bo.a0 bo.b0 a), Value.int IntKind.i64 (dH ((0 : Int)) f bo.a0 bo.b0 a), Value.int IntKind.i64 (dL ((1 : Int)) f bo.a1 bo.b1 a), Value.int IntKind.i64 (dH ((1 : Int)) f bo.a1 bo.b1 a), Value.int IntKind.i64 (dL ((2 : Int)) f bo.a2 bo.b2 a), Value.int IntKind.i64 (dH ((2 : Int)) f bo.a2 bo.b2 a), Value.int IntKind.i64 (dL ((3 : Int)) f bo.a3 bo.b3 a), Value.int IntKind.i64 (dH ((3 : Int)) f bo.a3 bo.b3 a), Value.int IntKind.i64 (dL ((4 : Int)) f bo.a4 bo.b4 a), Value.int IntKind.i64 (dH ((4 : Int)) f bo.a4 bo.b4 a)])]) = Value.tuple (Array.mk [Value.agg (Array.mk [Value.int IntKind.i64 b1.a0, Value.int IntKind.i64 b1.b0, Value.int IntKind.i64 b1.a1, Value.int IntKind.i64 b1.b1, Value.int IntKind.i64 b1.a2, Value.int IntKind.i64 b1.b2, Value.int IntKind.i64 b1.a3, Value.int IntKind.i64 b1.b3, Value.int IntKind.i64 b1.a4, Value.int IntKind.i64 b1.b4]), Value.agg (Array.mk [Value.int IntKind.i64 b2.a0, Value.int IntKind.i64 b2.b0, Value.int IntKind.i64 b2.a1, Value.int IntKind.i64 b2.b1, Value.int IntKind.i64 b2.a2, Value.int IntKind.i64 b2.b2, Value.int IntKind.i64 b2.a3, Value.int IntKind.i64 b2.b3, Value.int IntKind.i64 b2.a4, Value.int IntKind.i64 b2.b4])]), I64 a, bo.b0 ≤ (9223372036854775807 : Int), bo.b1 ≤ (9223372036854775807 : Int), bo.b2 ≤ (9223372036854775807 : Int), bo.b3 ≤ (9223372036854775807 : Int), bo.b4 ≤ (9223372036854775807 : Int), readPart Try.prog 25 (eBox.row r) (0 + ((i : Int)).toNat * 10) = some (Value.agg (Array.mk [Value.int IntKind.i64 bo.a0, Value.int IntKind.i64 bo.b0, Value.int IntKind.i64 bo.a1, Value.int IntKind.i64 bo.b1, Value.int IntKind.i64 bo.a2, Value.int IntKind.i64 bo.b2, Value.int IntKind.i64 bo.a3, Value.int IntKind.i64 bo.b3, Value.int IntKind.i64 bo.a4, Value.int IntKind.i64 bo.b4])), (0 : Int) ≤ (i : Int) ∧ (i : Int) < (n : Int), Value.tuple (Array.mk [Value.agg (Array.mk [Value.bool (okB w && lfB w), Value.int IntKind.i64 (sV w), Value.int IntKind.i64 (sF w), Value.int IntKind.i64 (sA w), Value.int IntKind.i64 (sX w), Value.int IntKind.i64 (sY w)]), Value.bool (okB w)]) = Value.tuple (Array.mk [Value.agg (Array.mk [Value.bool false, Value.int IntKind.i64 ((0 : Int)), Value.int IntKind.i64 f, Value.int IntKind.i64 a, Value.int IntKind.i64 x, Value.int IntKind.i64 y]), Value.bool true]), U64 w, readPart Try.prog 83 cs (o + ((i : Int)).toNat * 1) = some (Value.int IntKind.u64 w), (0 : Int) ≤ (i : Int) ∧ (i : Int) < (n : Int), decide ((↑i : Int) < (↑n : Int)) = true])) (hK : ∀ zz, (fLs 24 cs o n c Q).inv 0 zz → ltO ((fLs 24 cs o n c Q).mu 0 zz) (some (n - i)) → Sat E (mkLp (lp Try.f23 0) J) ((fLs 24 cs o n c Q).st 0 zz)) : Sat E (inLp (lp Try.f23 0) J) ((fLs 24 cs o n c Q).st 0 ⟨i, r, []⟩) :=
  by_to (T := auto0 t_ls) (h := hints [(8, 1, {p := true}), (8, 2, {o := some (.int .u64 w)}), (9, 1, {v := some (.tuple ⟨[nd false 0 f a x y, .bool true]⟩)}), (11, 8, {p := true}), (11, 9, {o := some (.agg ⟨bo.cs⟩)}), (11, 14, {v := some (.tuple ⟨[.agg ⟨b1.cs⟩, .agg ⟨b2.cs⟩]⟩)}), (11, 18, {p := true}), (11, 19, {c := some (eBox.row r1)}), (11, 20, {p := true}), (11, 21, {c := some (eBox.row r2)}), (14, 0, {v := some (.int .i64 ((i + 1 : Nat) : Int))})]) (ws := [.b true]) (i0 := ⟨i + 1, r2, []⟩) hE hm (auto0_ok t_ls_ok) hL (by kernel_rfl) hob hK
theorem lsE0 (cs : List Value) (o n c : Nat) (Q : Nat → LS → Prop) (i : Nat) (r : List Bx) (bo : Bx) (w v : Int) (J : Act → World → Prop) {E : Env} {rv : Value} {rhs : List Nat} {rhv : List Blk} (hE : EnvOK E Try.prog Try.f23 2 1 rv rhs rhv) (hL : (fLs 24 cs o n c Q).OK 1) (hob : all ([SameK (mkLp (lp Try.f23 0) J) (mkLp (lp Try.f23 0) J), Enter (fLs 24 cs o n c Q) 0 (some (n - i)) [Value.slice (some (Addr.mk 10 0 none)) n n, Value.slice none 0 0, Value.slice (some (Addr.mk 0 o none)) n c, Value.int IntKind.i64 ((n : Int)), Value.int IntKind.i64 (Int.ofNat i.succ)] [Blk.ro cs, Blk.cells (eBox.row r) 25] [(10, 10), (0, 0)], Value.int IntKind.i64 (IntKind.i64.wrap (Int.ofNat i.succ)) = Value.int IntKind.i64 (Int.ofNat i.succ), Value.bool (emptyB bo.a0 bo.b0 bo.a1 bo.b1 bo.a2 bo.b2 bo.a3 bo.b3 bo.a4 bo.b4) = Value.bool true, readPart Try.prog 25 (eBox.row r) (0 + ((i : Int)).toNat * 10) = some (Value.agg (Array.mk [Value.int IntKind.i64 bo.a0, Value.int IntKind.i64 bo.b0, Value.int IntKind.i64 bo.a1, Value.int IntKind.i64 bo.b1, Value.int IntKind.i64 bo.a2, Value.int IntKind.i64 bo.b2, Value.int IntKind.i64 bo.a3, Value.int IntKind.i64 bo.b3, Value.int IntKind.i64 bo.a4, Value.int IntKind.i64 bo.b4])), (0 : Int) ≤ (i : Int) ∧ (i : Int) < (n : Int), Value.tuple (Array.mk [Value.agg (Array.mk [Value.bool (okB w && lfB w), Value.int IntKind.i64 (sV w), Value.int IntKind.i64 (sF w), Value.int IntKind.i64 (sA w), Value.int IntKind.i64 (sX w), Value.int IntKind.i64 (sY w)]), Value.bool (okB w)]) = Value.tuple (Array.mk [Value.agg (Array.mk [Value.bool true, Value.int IntKind.i64 v, Value.int IntKind.i64 ((0 : Int)), Value.int IntKind.i64 ((0 : Int)), Value.int IntKind.i64 ((0 : Int)), Value.int IntKind.i64 ((0 : Int))]), Value.bool true]), U64 w, readPart Try.prog 83 cs (o + ((i : Int)).toNat * 1) = some (Value.int IntKind.u64 w), (0 : Int) ≤ (i : Int) ∧ (i : Int) < (n : Int), decide ((↑i : Int) < (↑n : Int)) = true])) (hK : ∀ zz, (fLs 24 cs o n c Q).inv 0 zz → ltO ((fLs 24 cs o n c Q).mu 0 zz) (some (n - i)) → Sat E (mkLp (lp Try.f23 0) J) ((fLs 24 cs o n c Q).st 0 zz)) : Sat E (inLp (lp Try.f23 0) J) ((fLs 24 cs o n c Q).st 0 ⟨i, r, []⟩) :=
  by_to (T := auto0 t_ls) (h := hints [(8, 1, {p := true}), (8, 2, {o := some (.int .u64 w)}), (9, 1, {v := some (.tuple ⟨[nd true v 0 0 0 0, .bool true]⟩)}), (12, 2, {p := true}), (12, 3, {o := some (.agg ⟨bo.cs⟩)}), (12, 4, {v := some (.bool true)}), (14, 0, {v := some (.int .i64 ((i + 1 : Nat) : Int))})]) (ws := [.b true]) (i0 := ⟨i + 1, r, []⟩) hE hm (auto0_ok t_ls_ok) hL (by kernel_rfl) hob hK
theorem lsF0 (cs : List Value) (o n c : Nat) (Q : Nat → LS → Prop) (i : Nat) (r : List Bx) (bo : Bx) (out2 : List Pc) (w v : Int) (J : Act → World → Prop) {E : Env} {rv : Value} {rhs : List Nat} {rhv : List Blk} (hE : EnvOK E Try.prog Try.f23 2 1 rv rhs rhv) (hL : (fLs 24 cs o n c Q).OK 1) (hob : all ([SameK (mkLp (lp Try.f23 0) J) (mkLp (lp Try.f23 0) J), Enter (fLs 24 cs o n c Q) 1 (some (n - i)) [Value.slice (some (Addr.mk 10 0 none)) n n, Value.slice (some (Addr.mk 150 0 none)) 1 1267650600228229401496703205376, Value.slice (some (Addr.mk 0 o none)) n c, Value.int IntKind.i64 ((n : Int)), Value.int IntKind.i64 (Int.ofNat i.succ)] [Blk.ro cs, Blk.cells (eBox.row r) 25, Blk.vec (ePc.row out2) 27 11] [(10, 10), (13, 150), (0, 0)], Value.int IntKind.i64 (IntKind.i64.wrap (Int.ofNat i.succ)) = Value.int IntKind.i64 (Int.ofNat i.succ), AppOK none 0 0 11 88 1 [Value.int IntKind.i64 bo.a0, Value.int IntKind.i64 bo.b0, Value.int IntKind.i64 bo.a1, Value.int IntKind.i64 bo.b1, Value.int IntKind.i64 bo.a2, Value.int IntKind.i64 bo.b2, Value.int IntKind.i64 bo.a3, Value.int IntKind.i64 bo.b3, Value.int IntKind.i64 bo.a4, Value.int IntKind.i64 bo.b4, Value.int IntKind.i64 v] 0 (ePc.row out2), readPart Try.prog 25 (eBox.row r) (0 + ((i : Int)).toNat * 10) = some (Value.agg (Array.mk [Value.int IntKind.i64 bo.a0, Value.int IntKind.i64 bo.b0, Value.int IntKind.i64 bo.a1, Value.int IntKind.i64 bo.b1, Value.int IntKind.i64 bo.a2, Value.int IntKind.i64 bo.b2, Value.int IntKind.i64 bo.a3, Value.int IntKind.i64 bo.b3, Value.int IntKind.i64 bo.a4, Value.int IntKind.i64 bo.b4])), (0 : Int) ≤ (i : Int) ∧ (i : Int) < (n : Int), Value.bool (emptyB bo.a0 bo.b0 bo.a1 bo.b1 bo.a2 bo.b2 bo.a3 bo.b3 bo.a4 bo.b4) = Value.bool false, readPart Try.prog 25 (eBox.row r) (0 + ((i : Int)).toNat * 10) = some (Value.agg (Array.mk [Value.int IntKind.i64 bo.a0, Value.int IntKind.i64 bo.b0, Value.int IntKind.i64 bo.a1, Value.int IntKind.i64 bo.b1, Value.int IntKind.i64 bo.a2, Value.int IntKind.i64 bo.b2, Value.int IntKind.i64 bo.a3, Value.int IntKind.i64 bo.b3, Value.int IntKind.i64 bo.a4, Value.int IntKind.i64 bo.b4])), (0 : Int) ≤ (i : Int) ∧ (i : Int) < (n : Int), Value.tuple (Array.mk [Value.agg (Array.mk [Value.bool (okB w && lfB w), Value.int IntKind.i64 (sV w), Value.int IntKind.i64 (sF w), Value.int IntKind.i64 (sA w), Value.int IntKind.i64 (sX w), Value.int IntKind.i64 (sY w)]), Value.bool (okB w)]) = Value.tuple (Array.mk [Value.agg (Array.mk [Value.bool true, Value.int IntKind.i64 v, Value.int IntKind.i64 ((0 : Int)), Value.int IntKind.i64 ((0 : Int)), Value.int IntKind.i64 ((0 : Int)), Value.int IntKind.i64 ((0 : Int))]), Value.bool true]), U64 w, readPart Try.prog 83 cs (o + ((i : Int)).toNat * 1) = some (Value.int IntKind.u64 w), (0 : Int) ≤ (i : Int) ∧ (i : Int) < (n : Int), decide ((↑i : Int) < (↑n : Int)) = true])) (hK : ∀ zz, (fLs 24 cs o n c Q).inv 1 zz → ltO ((fLs 24 cs o n c Q).mu 1 zz) (some (n - i)) → Sat E (mkLp (lp Try.f23 0) J) ((fLs 24 cs o n c Q).st 1 zz)) : Sat E (inLp (lp Try.f23 0) J) ((fLs 24 cs o n c Q).st 0 ⟨i, r, []⟩) :=
  by_to (T := auto0 t_ls) (h := hints [(8, 1, {p := true}), (8, 2, {o := some (.int .u64 w)}), (9, 1, {v := some (.tuple ⟨[nd true v 0 0 0 0, .bool true]⟩)}), (12, 2, {p := true}), (12, 3, {o := some (.agg ⟨bo.cs⟩)}), (12, 4, {v := some (.bool false)}), (13, 3, {p := true}), (13, 4, {o := some (.agg ⟨bo.cs⟩)}), (13, 9, {c := some (ePc.row out2)}), (14, 0, {v := some (.int .i64 ((i + 1 : Nat) : Int))})]) (ws := [.b true]) (i0 := ⟨i + 1, r, out2⟩) hE hm (auto0_ok t_ls_ok) hL (by kernel_rfl) hob hK
theorem lsI1 (cs : List Value) (o n c : Nat) (Q : Nat → LS → Prop) (i : Nat) (r : List Bx) (out : List Pc) (bo b1 b2 : Bx) (r1 r2 : List Bx) (w f a x y : Int) (J : Act → World → Prop) {E : Env} {rv : Value} {rhs : List Nat} {rhv : List Blk} (hE : EnvOK E Try.prog Try.f23 2 1 rv rhs rhv) (hL : (fLs 24 cs o n c Q).OK 1) (hob : all ([SameK (mkLp (lp Try.f23 0) J) (mkLp (lp Try.f23 0) J), Enter (fLs 24 cs o n c Q) 1 (some (n - i)) [Value.slice (some (Addr.mk 10 0 none)) n n, Value.slice (some (Addr.mk 13 0 none)) out.length 1267650600228229401496703205376, Value.slice (some (Addr.mk 0 o none)) n c, Value.int IntKind.i64 ((n : Int)), Value.int IntKind.i64 (Int.ofNat i.succ)] [Blk.ro cs, Blk.cells (eBox.row r2) 25, Blk.vec (ePc.row out) 27 11] [(10, 10), (13, 13), (0, 0)], Value.int IntKind.i64 (IntKind.i64.wrap (Int.ofNat i.succ)) = Value.int IntKind.i64 (Int.ofNat i.succ), lset (eBox.row r1) (0 + y.toNat * 10) b2.cs = some (eBox.row r2), (0 : Int) ≤ y ∧ y < (n : Int), lset (eBox.row r) (0 + x.toNat * 10) b1.cs = some (eBox.row r1), (0 : Int) ≤ x ∧ x < (n : Int), Value.tuple (Array.mk [Value.agg (Array.mk [Value.int IntKind.i64 (cL ((0 : Int)) f bo.a0 bo.b0 a), Value.int IntKind.i64 (cH ((0 : Int)) f bo.a0 bo.b0 a), Value.int IntKind.i64 (cL ((1 : Int)) f bo.a1 bo.b1 a), Value.int IntKind.i64 (cH ((1 : Int)) f bo.a1 bo.b1 a), Value.int IntKind.i64 (cL ((2 : Int)) f bo.a2 bo.b2 a), Value.int IntKind.i64 (cH ((2 : Int)) f bo.a2 bo.b2 a), Value.int IntKind.i64 (cL ((3 : Int)) f bo.a3 bo.b3 a), Value.int IntKind.i64 (cH ((3 : Int)) f bo.a3 bo.b3 a), Value.int IntKind.i64 (cL ((4 : Int)) f bo.a4 bo.b4 a), Value.int IntKind.i64 (cH ((4 : Int)) f bo.a4 bo.b4 a)]), Value.agg (Array.mk [Value.int IntKind.i64 (dL ((0 : Int)) f bo.a0 bo.b0 a), Value.int IntKind.i64 (dH ((0 : Int)) f bo.a0 bo.b0 a), Value.int IntKind.i64 (dL ((1 : Int)) f bo.a1 bo.b1 a), Value.int IntKind.i64 (dH ((1 : Int)) f bo.a1 bo.b1 a), Value.int IntKind.i64 (dL ((2 : Int)) f bo.a2 bo.b2 a), Value.int IntKind.i64 (dH ((2 : Int)) f bo.a2 bo.b2 a), Value.int IntKind.i64 (dL ((3 : Int)) f bo.a3 bo.b3 a), Value.int IntKind.i64 (dH ((3 : Int)) f bo.a3 bo.b3 a), Value.int IntKind.i64 (dL ((4 : Int)) f bo.a4 bo.b4 a), Value.int IntKind.i64 (dH ((4 : Int)) f bo.a4 bo.b4 a)])]) = Value.tuple (Array.mk [Value.agg (Array.mk [Value.int IntKind.i64 b1.a0, Value.int IntKind.i64 b1.b0, Value.int IntKind.i64 b1.a1, Value.int IntKind.i64 b1.b1, Value.int IntKind.i64 b1.a2, Value.int IntKind.i64 b1.b2, Value.int IntKind.i64 b1.a3, Value.int IntKind.i64 b1.b3, Value.int IntKind.i64 b1.a4, Value.int IntKind.i64 b1.b4]), Value.agg (Array.mk [Value.int IntKind.i64 b2.a0, Value.int IntKind.i64 b2.b0, Value.int IntKind.i64 b2.a1, Value.int IntKind.i64 b2.b1, Value.int IntKind.i64 b2.a2, Value.int IntKind.i64 b2.b2, Value.int IntKind.i64 b2.a3, Value.int IntKind.i64 b2.b3, Value.int IntKind.i64 b2.a4, Value.int IntKind.i64 b2.b4])]), I64 a, bo.b0 ≤ (9223372036854775807 : Int), bo.b1 ≤ (9223372036854775807 : Int), bo.b2 ≤ (9223372036854775807 : Int), bo.b3 ≤ (9223372036854775807 : Int), bo.b4 ≤ (9223372036854775807 : Int), readPart Try.prog 25 (eBox.row r) (0 + ((i : Int)).toNat * 10) = some (Value.agg (Array.mk [Value.int IntKind.i64 bo.a0, Value.int IntKind.i64 bo.b0, Value.int IntKind.i64 bo.a1, Value.int IntKind.i64 bo.b1, Value.int IntKind.i64 bo.a2, Value.int IntKind.i64 bo.b2, Value.int IntKind.i64 bo.a3, Value.int IntKind.i64 bo.b3, Value.int IntKind.i64 bo.a4, Value.int IntKind.i64 bo.b4])), (0 : Int) ≤ (i : Int) ∧ (i : Int) < (n : Int), Value.tuple (Array.mk [Value.agg (Array.mk [Value.bool (okB w && lfB w), Value.int IntKind.i64 (sV w), Value.int IntKind.i64 (sF w), Value.int IntKind.i64 (sA w), Value.int IntKind.i64 (sX w), Value.int IntKind.i64 (sY w)]), Value.bool (okB w)]) = Value.tuple (Array.mk [Value.agg (Array.mk [Value.bool false, Value.int IntKind.i64 ((0 : Int)), Value.int IntKind.i64 f, Value.int IntKind.i64 a, Value.int IntKind.i64 x, Value.int IntKind.i64 y]), Value.bool true]), U64 w, readPart Try.prog 83 cs (o + ((i : Int)).toNat * 1) = some (Value.int IntKind.u64 w), (0 : Int) ≤ (i : Int) ∧ (i : Int) < (n : Int), decide ((↑i : Int) < (↑n : Int)) = true])) (hK : ∀ zz, (fLs 24 cs o n c Q).inv 1 zz → ltO ((fLs 24 cs o n c Q).mu 1 zz) (some (n - i)) → Sat E (mkLp (lp Try.f23 0) J) ((fLs 24 cs o n c Q).st 1 zz)) : Sat E (inLp (lp Try.f23 0) J) ((fLs 24 cs o n c Q).st 1 ⟨i, r, out⟩) :=
  by_to (T := auto0 t_ls) (h := hints [(8, 1, {p := true}), (8, 2, {o := some (.int .u64 w)}), (9, 1, {v := some (.tuple ⟨[nd false 0 f a x y, .bool true]⟩)}), (11, 8, {p := true}), (11, 9, {o := some (.agg ⟨bo.cs⟩)}), (11, 14, {v := some (.tuple ⟨[.agg ⟨b1.cs⟩, .agg ⟨b2.cs⟩]⟩)}), (11, 18, {p := true}), (11, 19, {c := some (eBox.row r1)}), (11, 20, {p := true}), (11, 21, {c := some (eBox.row r2)}), (14, 0, {v := some (.int .i64 ((i + 1 : Nat) : Int))})]) (ws := [.b true]) (i0 := ⟨i + 1, r2, out⟩) hE hm (auto0_ok t_ls_ok) hL (by kernel_rfl) hob hK
theorem lsE1 (cs : List Value) (o n c : Nat) (Q : Nat → LS → Prop) (i : Nat) (r : List Bx) (out : List Pc) (bo : Bx) (w v : Int) (J : Act → World → Prop) {E : Env} {rv : Value} {rhs : List Nat} {rhv : List Blk} (hE : EnvOK E Try.prog Try.f23 2 1 rv rhs rhv) (hL : (fLs 24 cs o n c Q).OK 1) (hob : all ([SameK (mkLp (lp Try.f23 0) J) (mkLp (lp Try.f23 0) J), Enter (fLs 24 cs o n c Q) 1 (some (n - i)) [Value.slice (some (Addr.mk 10 0 none)) n n, Value.slice (some (Addr.mk 13 0 none)) out.length 1267650600228229401496703205376, Value.slice (some (Addr.mk 0 o none)) n c, Value.int IntKind.i64 ((n : Int)), Value.int IntKind.i64 (Int.ofNat i.succ)] [Blk.ro cs, Blk.cells (eBox.row r) 25, Blk.vec (ePc.row out) 27 11] [(10, 10), (13, 13), (0, 0)], Value.int IntKind.i64 (IntKind.i64.wrap (Int.ofNat i.succ)) = Value.int IntKind.i64 (Int.ofNat i.succ), Value.bool (emptyB bo.a0 bo.b0 bo.a1 bo.b1 bo.a2 bo.b2 bo.a3 bo.b3 bo.a4 bo.b4) = Value.bool true, readPart Try.prog 25 (eBox.row r) (0 + ((i : Int)).toNat * 10) = some (Value.agg (Array.mk [Value.int IntKind.i64 bo.a0, Value.int IntKind.i64 bo.b0, Value.int IntKind.i64 bo.a1, Value.int IntKind.i64 bo.b1, Value.int IntKind.i64 bo.a2, Value.int IntKind.i64 bo.b2, Value.int IntKind.i64 bo.a3, Value.int IntKind.i64 bo.b3, Value.int IntKind.i64 bo.a4, Value.int IntKind.i64 bo.b4])), (0 : Int) ≤ (i : Int) ∧ (i : Int) < (n : Int), Value.tuple (Array.mk [Value.agg (Array.mk [Value.bool (okB w && lfB w), Value.int IntKind.i64 (sV w), Value.int IntKind.i64 (sF w), Value.int IntKind.i64 (sA w), Value.int IntKind.i64 (sX w), Value.int IntKind.i64 (sY w)]), Value.bool (okB w)]) = Value.tuple (Array.mk [Value.agg (Array.mk [Value.bool true, Value.int IntKind.i64 v, Value.int IntKind.i64 ((0 : Int)), Value.int IntKind.i64 ((0 : Int)), Value.int IntKind.i64 ((0 : Int)), Value.int IntKind.i64 ((0 : Int))]), Value.bool true]), U64 w, readPart Try.prog 83 cs (o + ((i : Int)).toNat * 1) = some (Value.int IntKind.u64 w), (0 : Int) ≤ (i : Int) ∧ (i : Int) < (n : Int), decide ((↑i : Int) < (↑n : Int)) = true])) (hK : ∀ zz, (fLs 24 cs o n c Q).inv 1 zz → ltO ((fLs 24 cs o n c Q).mu 1 zz) (some (n - i)) → Sat E (mkLp (lp Try.f23 0) J) ((fLs 24 cs o n c Q).st 1 zz)) : Sat E (inLp (lp Try.f23 0) J) ((fLs 24 cs o n c Q).st 1 ⟨i, r, out⟩) :=
  by_to (T := auto0 t_ls) (h := hints [(8, 1, {p := true}), (8, 2, {o := some (.int .u64 w)}), (9, 1, {v := some (.tuple ⟨[nd true v 0 0 0 0, .bool true]⟩)}), (12, 2, {p := true}), (12, 3, {o := some (.agg ⟨bo.cs⟩)}), (12, 4, {v := some (.bool true)}), (14, 0, {v := some (.int .i64 ((i + 1 : Nat) : Int))})]) (ws := [.b true]) (i0 := ⟨i + 1, r, out⟩) hE hm (auto0_ok t_ls_ok) hL (by kernel_rfl) hob hK
theorem lsF1 (cs : List Value) (o n c : Nat) (Q : Nat → LS → Prop) (i : Nat) (r : List Bx) (out : List Pc) (bo : Bx) (out2 : List Pc) (w v : Int) (J : Act → World → Prop) {E : Env} {rv : Value} {rhs : List Nat} {rhv : List Blk} (hE : EnvOK E Try.prog Try.f23 2 1 rv rhs rhv) (hL : (fLs 24 cs o n c Q).OK 1) (hob : all ([SameK (mkLp (lp Try.f23 0) J) (mkLp (lp Try.f23 0) J), Enter (fLs 24 cs o n c Q) 1 (some (n - i)) [Value.slice (some (Addr.mk 10 0 none)) n n, Value.slice (some (Addr.mk 150 0 none)) (out.length + 1) 1267650600228229401496703205376, Value.slice (some (Addr.mk 0 o none)) n c, Value.int IntKind.i64 ((n : Int)), Value.int IntKind.i64 (Int.ofNat i.succ)] [Blk.ro cs, Blk.cells (eBox.row r) 25, Blk.vec (ePc.row out2) 27 11] [(10, 10), (13, 150), (0, 0)], Value.int IntKind.i64 (IntKind.i64.wrap (Int.ofNat i.succ)) = Value.int IntKind.i64 (Int.ofNat i.succ), AppOK (some (Blk.vec (ePc.row out) 27 11)) out.length 1267650600228229401496703205376 11 88 1 [Value.int IntKind.i64 bo.a0, Value.int IntKind.i64 bo.b0, Value.int IntKind.i64 bo.a1, Value.int IntKind.i64 bo.b1, Value.int IntKind.i64 bo.a2, Value.int IntKind.i64 bo.b2, Value.int IntKind.i64 bo.a3, Value.int IntKind.i64 bo.b3, Value.int IntKind.i64 bo.a4, Value.int IntKind.i64 bo.b4, Value.int IntKind.i64 v] 0 (ePc.row out2), readPart Try.prog 25 (eBox.row r) (0 + ((i : Int)).toNat * 10) = some (Value.agg (Array.mk [Value.int IntKind.i64 bo.a0, Value.int IntKind.i64 bo.b0, Value.int IntKind.i64 bo.a1, Value.int IntKind.i64 bo.b1, Value.int IntKind.i64 bo.a2, Value.int IntKind.i64 bo.b2, Value.int IntKind.i64 bo.a3, Value.int IntKind.i64 bo.b3, Value.int IntKind.i64 bo.a4, Value.int IntKind.i64 bo.b4])), (0 : Int) ≤ (i : Int) ∧ (i : Int) < (n : Int), Value.bool (emptyB bo.a0 bo.b0 bo.a1 bo.b1 bo.a2 bo.b2 bo.a3 bo.b3 bo.a4 bo.b4) = Value.bool false, readPart Try.prog 25 (eBox.row r) (0 + ((i : Int)).toNat * 10) = some (Value.agg (Array.mk [Value.int IntKind.i64 bo.a0, Value.int IntKind.i64 bo.b0, Value.int IntKind.i64 bo.a1, Value.int IntKind.i64 bo.b1, Value.int IntKind.i64 bo.a2, Value.int IntKind.i64 bo.b2, Value.int IntKind.i64 bo.a3, Value.int IntKind.i64 bo.b3, Value.int IntKind.i64 bo.a4, Value.int IntKind.i64 bo.b4])), (0 : Int) ≤ (i : Int) ∧ (i : Int) < (n : Int), Value.tuple (Array.mk [Value.agg (Array.mk [Value.bool (okB w && lfB w), Value.int IntKind.i64 (sV w), Value.int IntKind.i64 (sF w), Value.int IntKind.i64 (sA w), Value.int IntKind.i64 (sX w), Value.int IntKind.i64 (sY w)]), Value.bool (okB w)]) = Value.tuple (Array.mk [Value.agg (Array.mk [Value.bool true, Value.int IntKind.i64 v, Value.int IntKind.i64 ((0 : Int)), Value.int IntKind.i64 ((0 : Int)), Value.int IntKind.i64 ((0 : Int)), Value.int IntKind.i64 ((0 : Int))]), Value.bool true]), U64 w, readPart Try.prog 83 cs (o + ((i : Int)).toNat * 1) = some (Value.int IntKind.u64 w), (0 : Int) ≤ (i : Int) ∧ (i : Int) < (n : Int), decide ((↑i : Int) < (↑n : Int)) = true])) (hK : ∀ zz, (fLs 24 cs o n c Q).inv 1 zz → ltO ((fLs 24 cs o n c Q).mu 1 zz) (some (n - i)) → Sat E (mkLp (lp Try.f23 0) J) ((fLs 24 cs o n c Q).st 1 zz)) : Sat E (inLp (lp Try.f23 0) J) ((fLs 24 cs o n c Q).st 1 ⟨i, r, out⟩) :=
  by_to (T := auto0 t_ls) (h := hints [(8, 1, {p := true}), (8, 2, {o := some (.int .u64 w)}), (9, 1, {v := some (.tuple ⟨[nd true v 0 0 0 0, .bool true]⟩)}), (12, 2, {p := true}), (12, 3, {o := some (.agg ⟨bo.cs⟩)}), (12, 4, {v := some (.bool false)}), (13, 3, {p := true}), (13, 4, {o := some (.agg ⟨bo.cs⟩)}), (13, 9, {c := some (ePc.row out2)}), (14, 0, {v := some (.int .i64 ((i + 1 : Nat) : Int))})]) (ws := [.b true]) (i0 := ⟨i + 1, r, out2⟩) hE hm (auto0_ok t_ls_ok) hL (by kernel_rfl) hob hK
theorem lsX0 (cs : List Value) (o n c : Nat) (Q : Nat → LS → Prop) (i : Nat) (r : List Bx) (J : Act → World → Prop) {E : Env} (hE : EnvOK E Try.prog Try.f23 2 1 (.slice none 0 0) [] []) (hob : all ([Back (Value.slice none 0 0) (Value.slice none 0 0) [] [] [], decide ((↑i : Int) < (↑n : Int)) = false])) : Sat E (inLp (lp Try.f23 0) J) ((fLs 24 cs o n c Q).st 0 ⟨i, r, []⟩) :=
  by_ret (T := auto0 t_ls) (h := hints []) (ws := [.b false]) (nx' := 101) hE hm (auto0_ok t_ls_ok) (by omega) (by simp) (by simp) (by kernel_rfl) hob
theorem lsX1 (cs : List Value) (o n c : Nat) (Q : Nat → LS → Prop) (i : Nat) (r : List Bx) (out : List Pc) (J : Act → World → Prop) {E : Env} (hE : EnvOK E Try.prog Try.f23 2 1 (.slice (some ⟨100, 0, none⟩) out.length mk) [100] [.vec (ePc.row out) 27 11]) (hob : all ([Back (Value.slice (some (Addr.mk 13 0 none)) out.length 1267650600228229401496703205376) (Value.slice (some (Addr.mk 100 0 none)) out.length 1267650600228229401496703205376) [Blk.vec (ePc.row out) 27 11] [Blk.vec (ePc.row out) 27 11] [(100, 13)], decide ((↑i : Int) < (↑n : Int)) = false])) : Sat E (inLp (lp Try.f23 0) J) ((fLs 24 cs o n c Q).st 1 ⟨i, r, out⟩) :=
  by_ret (T := auto0 t_ls) (h := hints []) (ws := [.b false]) (nx' := 101) hE hm (auto0_ok t_ls_ok) (by omega) (by simp) (by intro x hx; simp at hx; subst hx; exact Blk.plain.namesLt (b := .vec _ _ _) (Elt.row_pl _) _) (by kernel_rfl) hob
theorem rlNil (b : Bx)  {E : Env} (hE : EnvOK E Try.prog Try.f26 2 0 (.slice none 0 0) [] []) (hob : all ([Back (Value.slice none 0 0) (Value.slice none 0 0) [] [] [], plainR []])) : Sat E [.code (bodyOf Try.f26)] (st0 Try.f26 [.slice none 0 0, .agg ⟨b.cs⟩] (roRows []) 0) :=
  by_ret (T := auto0 t_ls) (h := hints []) (ws := []) (nx' := 0) hE hm (auto0_ok t_ls_ok) (by omega) (by simp) (by simp) (by kernel_rfl) hob
theorem rlNo (cs : List Value) (o n c : Nat) (b : Bx)  {E : Env} (hE : EnvOK E Try.prog Try.f26 2 1 (.slice none 0 0) [] []) (hob : all ([Back (Value.slice none 0 0) (Value.slice none 0 0) [] [] [], Value.bool (rightI (eWord.list cs o n) ((4 : Int))) = Value.bool false, plainR [cs], eWord.Row cs o n, ∀ (w : Int), w ∈ eWord.list cs o n → U64 w, n ≤ 65536])) : Sat E [.code (bodyOf Try.f26)] (st0 Try.f26 [.slice (some ⟨0, o, none⟩) n c, .agg ⟨b.cs⟩] (roRows [cs]) 1) :=
  by_ret (T := auto0 t_ls) (h := hints [(1, 1, {v := some (.bool false)})]) (ws := []) (nx' := 1) hE hm (auto0_ok t_ls_ok) (by omega) (by simp) (by simp) (by kernel_rfl) hob
theorem rlIn (cs : List Value) (o n c : Nat) (Q : Nat → LS → Prop) (b : Bx) (zs r : List Bx)  {E : Env} {rv : Value} {rhs : List Nat} {rhv : List Blk} (hE : EnvOK E Try.prog Try.f26 2 1 rv rhs rhv) (hL : (fLs 21 cs o n c Q).OK 1) (hob : all ([SameK (atLp (lp Try.f26 0)) (atLp (lp Try.f26 0)), Enter (fLs 21 cs o n c Q) 0 none [Value.slice (some (Addr.mk 29 0 none)) ((n : Int)).toNat ((n : Int)).toNat, Value.slice none 0 0, Value.slice (some (Addr.mk 0 o none)) n c, Value.int IntKind.i64 ((n : Int)), Value.int IntKind.i64 ((0 : Int))] [Blk.ro cs, Blk.cells (eBox.row r) 25] [(10, 29), (0, 0)], lset (eBox.row zs) 0 [Value.int IntKind.i64 b.a0, Value.int IntKind.i64 b.b0, Value.int IntKind.i64 b.a1, Value.int IntKind.i64 b.b1, Value.int IntKind.i64 b.a2, Value.int IntKind.i64 b.b2, Value.int IntKind.i64 b.a3, Value.int IntKind.i64 b.b3, Value.int IntKind.i64 b.a4, Value.int IntKind.i64 b.b4] = some (eBox.row r), (0 : Int) ≤ (0 : Int) ∧ (0 : Int) < (n : Int), MkOK ((n : Int)) ((n : Int)) 80 [Value.int IntKind.i64 ((0 : Int)), Value.int IntKind.i64 ((0 : Int)), Value.int IntKind.i64 ((0 : Int)), Value.int IntKind.i64 ((0 : Int)), Value.int IntKind.i64 ((0 : Int)), Value.int IntKind.i64 ((0 : Int)), Value.int IntKind.i64 ((0 : Int)), Value.int IntKind.i64 ((0 : Int)), Value.int IntKind.i64 ((0 : Int)), Value.int IntKind.i64 ((0 : Int))] (eBox.row zs), Value.bool (rightI (eWord.list cs o n) ((4 : Int))) = Value.bool true, plainR [cs], eWord.Row cs o n, ∀ (w : Int), w ∈ eWord.list cs o n → U64 w, n ≤ 65536])) (hK : ∀ zz, (fLs 21 cs o n c Q).inv 0 zz → ltO ((fLs 21 cs o n c Q).mu 0 zz) none → Sat E (atLp (lp Try.f26 0)) ((fLs 21 cs o n c Q).st 0 zz)) : Sat E [.code (bodyOf Try.f26)] (st0 Try.f26 [.slice (some ⟨0, o, none⟩) n c, .agg ⟨b.cs⟩] (roRows [cs]) 1) :=
  by_to (T := auto0 t_ls) (h := hints [(1, 1, {v := some (.bool true)}), (3, 2, {c := some (eBox.row zs)}), (4, 2, {p := true}), (4, 3, {c := some (eBox.row r)})]) (ws := [.go, .stop]) (i0 := ⟨0, r, []⟩) hE hm (auto0_ok t_ls_ok) hL (by kernel_rfl) hob hK
theorem rlI0 (cs : List Value) (o n c : Nat) (Q : Nat → LS → Prop) (i : Nat) (r : List Bx) (bo b1 b2 : Bx) (r1 r2 r3 r4 : List Bx) (w f a x y lo hi l1 h1 l2 h2 : Int) (J : Act → World → Prop) {E : Env} {rv : Value} {rhs : List Nat} {rhv : List Blk} (hE : EnvOK E Try.prog Try.f26 2 1 rv rhs rhv) (hL : (fLs 21 cs o n c Q).OK 1) (hob : all ([SameK (mkLp (lp Try.f26 0) J) (mkLp (lp Try.f26 0) J), Enter (fLs 21 cs o n c Q) 0 (some (n - i)) [Value.slice (some (Addr.mk 10 0 none)) n n, Value.slice none 0 0, Value.slice (some (Addr.mk 0 o none)) n c, Value.int IntKind.i64 ((n : Int)), Value.int IntKind.i64 (Int.ofNat i.succ)] [Blk.ro cs, Blk.cells (eBox.row r4) 25] [(10, 10), (0, 0)], Value.int IntKind.i64 (IntKind.i64.wrap (Int.ofNat i.succ)) = Value.int IntKind.i64 (Int.ofNat i.succ), lset (eBox.row r3) (0 + y.toNat * 10 + f.toNat * 2) [Value.int IntKind.i64 l2, Value.int IntKind.i64 h2] = some (eBox.row r4), (0 : Int) ≤ f ∧ f < (5 : Int), (0 : Int) ≤ y ∧ y < (n : Int), Value.agg (Array.mk [Value.int IntKind.i64 (ofLo (maxI lo (a + (1 : Int))) (minI hi hi)), Value.int IntKind.i64 (ofHi (maxI lo (a + (1 : Int))) (minI hi hi))]) = Value.agg (Array.mk [Value.int IntKind.i64 l2, Value.int IntKind.i64 h2]), Value.int IntKind.i64 (IntKind.i64.wrap (a + (1 : Int))) = Value.int IntKind.i64 (a + (1 : Int)), lset (eBox.row r2) (0 + x.toNat * 10 + f.toNat * 2) [Value.int IntKind.i64 l1, Value.int IntKind.i64 h1] = some (eBox.row r3), (0 : Int) ≤ f ∧ f < (5 : Int), (0 : Int) ≤ x ∧ x < (n : Int), Value.agg (Array.mk [Value.int IntKind.i64 (ofLo (maxI lo lo) (minI hi a)), Value.int IntKind.i64 (ofHi (maxI lo lo) (minI hi a))]) = Value.agg (Array.mk [Value.int IntKind.i64 l1, Value.int IntKind.i64 h1]), lset (eBox.row r1) (0 + y.toNat * 10) bo.cs = some (eBox.row r2), (0 : Int) ≤ y ∧ y < (n : Int), lset (eBox.row r) (0 + x.toNat * 10) bo.cs = some (eBox.row r1), (0 : Int) ≤ x ∧ x < (n : Int), readPart Try.prog 25 (eBox.row r) (0 + ((i : Int)).toNat * 10) = some (Value.agg (Array.mk [Value.int IntKind.i64 bo.a0, Value.int IntKind.i64 bo.b0, Value.int IntKind.i64 bo.a1, Value.int IntKind.i64 bo.b1, Value.int IntKind.i64 bo.a2, Value.int IntKind.i64 bo.b2, Value.int IntKind.i64 bo.a3, Value.int IntKind.i64 bo.b3, Value.int IntKind.i64 bo.a4, Value.int IntKind.i64 bo.b4])), (0 : Int) ≤ (i : Int) ∧ (i : Int) < (n : Int), readPart Try.prog 25 (eBox.row r) (0 + ((i : Int)).toNat * 10) = some (Value.agg (Array.mk [Value.int IntKind.i64 bo.a0, Value.int IntKind.i64 bo.b0, Value.int IntKind.i64 bo.a1, Value.int IntKind.i64 bo.b1, Value.int IntKind.i64 bo.a2, Value.int IntKind.i64 bo.b2, Value.int IntKind.i64 bo.a3, Value.int IntKind.i64 bo.b3, Value.int IntKind.i64 bo.a4, Value.int IntKind.i64 bo.b4])), (0 : Int) ≤ (i : Int) ∧ (i : Int) < (n : Int), readPart Try.prog 23 (eBox.row r) (0 + ((i : Int)).toNat * 10 + f.toNat * 2) = some (Value.agg (Array.mk [Value.int IntKind.i64 lo, Value.int IntKind.i64 hi])), (0 : Int) ≤ f ∧ f < (5 : Int), (0 : Int) ≤ (i : Int) ∧ (i : Int) < (n : Int), Value.tuple (Array.mk [Value.agg (Array.mk [Value.bool (okB w && lfB w), Value.int IntKind.i64 (sV w), Value.int IntKind.i64 (sF w), Value.int IntKind.i64 (sA w), Value.int IntKind.i64 (sX w), Value.int IntKind.i64 (sY w)]), Value.bool (okB w)]) = Value.tuple (Array.mk [Value.agg (Array.mk [Value.bool false, Value.int IntKind.i64 ((0 : Int)), Value.int IntKind.i64 f, Value.int IntKind.i64 a, Value.int IntKind.i64 x, Value.int IntKind.i64 y]), Value.bool true]), U64 w, readPart Try.prog 83 cs (o + ((i : Int)).toNat * 1) = some (Value.int IntKind.u64 w), (0 : Int) ≤ (i : Int) ∧ (i : Int) < (n : Int), decide ((↑i : Int) < (↑n : Int)) = true])) (hK : ∀ zz, (fLs 21 cs o n c Q).inv 0 zz → ltO ((fLs 21 cs o n c Q).mu 0 zz) (some (n - i)) → Sat E (mkLp (lp Try.f26 0) J) ((fLs 21 cs o n c Q).st 0 zz)) : Sat E (inLp (lp Try.f26 0) J) ((fLs 21 cs o n c Q).st 0 ⟨i, r, []⟩) :=
  by_to (T := auto0 t_ls) (h := hints [(8, 1, {p := true}), (8, 2, {o := some (.int .u64 w)}), (9, 1, {v := some (.tuple ⟨[nd false 0 f a x y, .bool true]⟩)}), (13, 4, {p := true}), (13, 5, {p := true}), (13, 6, {o := some (.agg ⟨[.int .i64 lo, .int .i64 hi]⟩)}), (14, 8, {p := true}), (14, 9, {o := some (.agg ⟨bo.cs⟩)}), (14, 12, {p := true}), (14, 13, {o := some (.agg ⟨bo.cs⟩)}), (14, 14, {p := true}), (14, 15, {c := some (eBox.row r1)}), (14, 16, {p := true}), (14, 17, {c := some (eBox.row r2)}), (15, 11, {v := some (.agg ⟨[.int .i64 l1, .int .i64 h1]⟩)}), (15, 12, {p := true}), (15, 13, {p := true}), (15, 14, {c := some (eBox.row r3)}), (16, 8, {v := some (.int .i64 (a + 1))}), (16, 12, {v := some (.agg ⟨[.int .i64 l2, .int .i64 h2]⟩)}), (16, 13, {p := true}), (16, 14, {p := true}), (16, 15, {c := some (eBox.row r4)}), (17, 0, {v := some (.int .i64 ((i + 1 : Nat) : Int))})]) (ws := [.b true]) (i0 := ⟨i + 1, r4, []⟩) hE hm (auto0_ok t_ls_ok) hL (by kernel_rfl) hob hK
theorem rlE0 (cs : List Value) (o n c : Nat) (Q : Nat → LS → Prop) (i : Nat) (r : List Bx) (bo : Bx) (w v : Int) (J : Act → World → Prop) {E : Env} {rv : Value} {rhs : List Nat} {rhv : List Blk} (hE : EnvOK E Try.prog Try.f26 2 1 rv rhs rhv) (hL : (fLs 21 cs o n c Q).OK 1) (hob : all ([SameK (mkLp (lp Try.f26 0) J) (mkLp (lp Try.f26 0) J), Enter (fLs 21 cs o n c Q) 0 (some (n - i)) [Value.slice (some (Addr.mk 10 0 none)) n n, Value.slice none 0 0, Value.slice (some (Addr.mk 0 o none)) n c, Value.int IntKind.i64 ((n : Int)), Value.int IntKind.i64 (Int.ofNat i.succ)] [Blk.ro cs, Blk.cells (eBox.row r) 25] [(10, 10), (0, 0)], Value.int IntKind.i64 (IntKind.i64.wrap (Int.ofNat i.succ)) = Value.int IntKind.i64 (Int.ofNat i.succ), Value.bool (emptyB bo.a0 bo.b0 bo.a1 bo.b1 bo.a2 bo.b2 bo.a3 bo.b3 bo.a4 bo.b4) = Value.bool true, readPart Try.prog 25 (eBox.row r) (0 + ((i : Int)).toNat * 10) = some (Value.agg (Array.mk [Value.int IntKind.i64 bo.a0, Value.int IntKind.i64 bo.b0, Value.int IntKind.i64 bo.a1, Value.int IntKind.i64 bo.b1, Value.int IntKind.i64 bo.a2, Value.int IntKind.i64 bo.b2, Value.int IntKind.i64 bo.a3, Value.int IntKind.i64 bo.b3, Value.int IntKind.i64 bo.a4, Value.int IntKind.i64 bo.b4])), (0 : Int) ≤ (i : Int) ∧ (i : Int) < (n : Int), Value.tuple (Array.mk [Value.agg (Array.mk [Value.bool (okB w && lfB w), Value.int IntKind.i64 (sV w), Value.int IntKind.i64 (sF w), Value.int IntKind.i64 (sA w), Value.int IntKind.i64 (sX w), Value.int IntKind.i64 (sY w)]), Value.bool (okB w)]) = Value.tuple (Array.mk [Value.agg (Array.mk [Value.bool true, Value.int IntKind.i64 v, Value.int IntKind.i64 ((0 : Int)), Value.int IntKind.i64 ((0 : Int)), Value.int IntKind.i64 ((0 : Int)), Value.int IntKind.i64 ((0 : Int))]), Value.bool true]), U64 w, readPart Try.prog 83 cs (o + ((i : Int)).toNat * 1) = some (Value.int IntKind.u64 w), (0 : Int) ≤ (i : Int) ∧ (i : Int) < (n : Int), decide ((↑i : Int) < (↑n : Int)) = true])) (hK : ∀ zz, (fLs 21 cs o n c Q).inv 0 zz → ltO ((fLs 21 cs o n c Q).mu 0 zz) (some (n - i)) → Sat E (mkLp (lp Try.f26 0) J) ((fLs 21 cs o n c Q).st 0 zz)) : Sat E (inLp (lp Try.f26 0) J) ((fLs 21 cs o n c Q).st 0 ⟨i, r, []⟩) :=
  by_to (T := auto0 t_ls) (h := hints [(8, 1, {p := true}), (8, 2, {o := some (.int .u64 w)}), (9, 1, {v := some (.tuple ⟨[nd true v 0 0 0 0, .bool true]⟩)}), (11, 2, {p := true}), (11, 3, {o := some (.agg ⟨bo.cs⟩)}), (11, 4, {v := some (.bool true)}), (17, 0, {v := some (.int .i64 ((i + 1 : Nat) : Int))})]) (ws := [.b true]) (i0 := ⟨i + 1, r, []⟩) hE hm (auto0_ok t_ls_ok) hL (by kernel_rfl) hob hK
theorem rlF0 (cs : List Value) (o n c : Nat) (Q : Nat → LS → Prop) (i : Nat) (r : List Bx) (bo : Bx) (out2 : List Pc) (w v : Int) (J : Act → World → Prop) {E : Env} {rv : Value} {rhs : List Nat} {rhv : List Blk} (hE : EnvOK E Try.prog Try.f26 2 1 rv rhs rhv) (hL : (fLs 21 cs o n c Q).OK 1) (hob : all ([SameK (mkLp (lp Try.f26 0) J) (mkLp (lp Try.f26 0) J), Enter (fLs 21 cs o n c Q) 1 (some (n - i)) [Value.slice (some (Addr.mk 10 0 none)) n n, Value.slice (some (Addr.mk 138 0 none)) 1 1267650600228229401496703205376, Value.slice (some (Addr.mk 0 o none)) n c, Value.int IntKind.i64 ((n : Int)), Value.int IntKind.i64 (Int.ofNat i.succ)] [Blk.ro cs, Blk.cells (eBox.row r) 25, Blk.vec (ePc.row out2) 27 11] [(10, 10), (13, 138), (0, 0)], Value.int IntKind.i64 (IntKind.i64.wrap (Int.ofNat i.succ)) = Value.int IntKind.i64 (Int.ofNat i.succ), AppOK none 0 0 11 88 1 [Value.int IntKind.i64 bo.a0, Value.int IntKind.i64 bo.b0, Value.int IntKind.i64 bo.a1, Value.int IntKind.i64 bo.b1, Value.int IntKind.i64 bo.a2, Value.int IntKind.i64 bo.b2, Value.int IntKind.i64 bo.a3, Value.int IntKind.i64 bo.b3, Value.int IntKind.i64 bo.a4, Value.int IntKind.i64 bo.b4, Value.int IntKind.i64 v] 0 (ePc.row out2), readPart Try.prog 25 (eBox.row r) (0 + ((i : Int)).toNat * 10) = some (Value.agg (Array.mk [Value.int IntKind.i64 bo.a0, Value.int IntKind.i64 bo.b0, Value.int IntKind.i64 bo.a1, Value.int IntKind.i64 bo.b1, Value.int IntKind.i64 bo.a2, Value.int IntKind.i64 bo.b2, Value.int IntKind.i64 bo.a3, Value.int IntKind.i64 bo.b3, Value.int IntKind.i64 bo.a4, Value.int IntKind.i64 bo.b4])), (0 : Int) ≤ (i : Int) ∧ (i : Int) < (n : Int), Value.bool (emptyB bo.a0 bo.b0 bo.a1 bo.b1 bo.a2 bo.b2 bo.a3 bo.b3 bo.a4 bo.b4) = Value.bool false, readPart Try.prog 25 (eBox.row r) (0 + ((i : Int)).toNat * 10) = some (Value.agg (Array.mk [Value.int IntKind.i64 bo.a0, Value.int IntKind.i64 bo.b0, Value.int IntKind.i64 bo.a1, Value.int IntKind.i64 bo.b1, Value.int IntKind.i64 bo.a2, Value.int IntKind.i64 bo.b2, Value.int IntKind.i64 bo.a3, Value.int IntKind.i64 bo.b3, Value.int IntKind.i64 bo.a4, Value.int IntKind.i64 bo.b4])), (0 : Int) ≤ (i : Int) ∧ (i : Int) < (n : Int), Value.tuple (Array.mk [Value.agg (Array.mk [Value.bool (okB w && lfB w), Value.int IntKind.i64 (sV w), Value.int IntKind.i64 (sF w), Value.int IntKind.i64 (sA w), Value.int IntKind.i64 (sX w), Value.int IntKind.i64 (sY w)]), Value.bool (okB w)]) = Value.tuple (Array.mk [Value.agg (Array.mk [Value.bool true, Value.int IntKind.i64 v, Value.int IntKind.i64 ((0 : Int)), Value.int IntKind.i64 ((0 : Int)), Value.int IntKind.i64 ((0 : Int)), Value.int IntKind.i64 ((0 : Int))]), Value.bool true]), U64 w, readPart Try.prog 83 cs (o + ((i : Int)).toNat * 1) = some (Value.int IntKind.u64 w), (0 : Int) ≤ (i : Int) ∧ (i : Int) < (n : Int), decide ((↑i : Int) < (↑n : Int)) = true])) (hK : ∀ zz, (fLs 21 cs o n c Q).inv 1 zz → ltO ((fLs 21 cs o n c Q).mu 1 zz) (some (n - i)) → Sat E (mkLp (lp Try.f26 0) J) ((fLs 21 cs o n c Q).st 1 zz)) : Sat E (inLp (lp Try.f26 0) J) ((fLs 21 cs o n c Q).st 0 ⟨i, r, []⟩) :=
  by_to (T := auto0 t_ls) (h := hints [(8, 1, {p := true}), (8, 2, {o := some (.int .u64 w)}), (9, 1, {v := some (.tuple ⟨[nd true v 0 0 0 0, .bool true]⟩)}), (11, 2, {p := true}), (11, 3, {o := some (.agg ⟨bo.cs⟩)}), (11, 4, {v := some (.bool false)}), (12, 3, {p := true}), (12, 4, {o := some (.agg ⟨bo.cs⟩)}), (12, 9, {c := some (ePc.row out2)}), (17, 0, {v := some (.int .i64 ((i + 1 : Nat) : Int))})]) (ws := [.b true]) (i0 := ⟨i + 1, r, out2⟩) hE hm (auto0_ok t_ls_ok) hL (by kernel_rfl) hob hK
theorem rlI1 (cs : List Value) (o n c : Nat) (Q : Nat → LS → Prop) (i : Nat) (r : List Bx) (out : List Pc) (bo b1 b2 : Bx) (r1 r2 r3 r4 : List Bx) (w f a x y lo hi l1 h1 l2 h2 : Int) (J : Act → World → Prop) {E : Env} {rv : Value} {rhs : List Nat} {rhv : List Blk} (hE : EnvOK E Try.prog Try.f26 2 1 rv rhs rhv) (hL : (fLs 21 cs o n c Q).OK 1) (hob : all ([SameK (mkLp (lp Try.f26 0) J) (mkLp (lp Try.f26 0) J), Enter (fLs 21 cs o n c Q) 1 (some (n - i)) [Value.slice (some (Addr.mk 10 0 none)) n n, Value.slice (some (Addr.mk 13 0 none)) out.length 1267650600228229401496703205376, Value.slice (some (Addr.mk 0 o none)) n c, Value.int IntKind.i64 ((n : Int)), Value.int IntKind.i64 (Int.ofNat i.succ)] [Blk.ro cs, Blk.cells (eBox.row r4) 25, Blk.vec (ePc.row out) 27 11] [(10, 10), (13, 13), (0, 0)], Value.int IntKind.i64 (IntKind.i64.wrap (Int.ofNat i.succ)) = Value.int IntKind.i64 (Int.ofNat i.succ), lset (eBox.row r3) (0 + y.toNat * 10 + f.toNat * 2) [Value.int IntKind.i64 l2, Value.int IntKind.i64 h2] = some (eBox.row r4), (0 : Int) ≤ f ∧ f < (5 : Int), (0 : Int) ≤ y ∧ y < (n : Int), Value.agg (Array.mk [Value.int IntKind.i64 (ofLo (maxI lo (a + (1 : Int))) (minI hi hi)), Value.int IntKind.i64 (ofHi (maxI lo (a + (1 : Int))) (minI hi hi))]) = Value.agg (Array.mk [Value.int IntKind.i64 l2, Value.int IntKind.i64 h2]), Value.int IntKind.i64 (IntKind.i64.wrap (a + (1 : Int))) = Value.int IntKind.i64 (a + (1 : Int)), lset (eBox.row r2) (0 + x.toNat * 10 + f.toNat * 2) [Value.int IntKind.i64 l1, Value.int IntKind.i64 h1] = some (eBox.row r3), (0 : Int) ≤ f ∧ f < (5 : Int), (0 : Int) ≤ x ∧ x < (n : Int), Value.agg (Array.mk [Value.int IntKind.i64 (ofLo (maxI lo lo) (minI hi a)), Value.int IntKind.i64 (ofHi (maxI lo lo) (minI hi a))]) = Value.agg (Array.mk [Value.int IntKind.i64 l1, Value.int IntKind.i64 h1]), lset (eBox.row r1) (0 + y.toNat * 10) bo.cs = some (eBox.row r2), (0 : Int) ≤ y ∧ y < (n : Int), lset (eBox.row r) (0 + x.toNat * 10) bo.cs = some (eBox.row r1), (0 : Int) ≤ x ∧ x < (n : Int), readPart Try.prog 25 (eBox.row r) (0 + ((i : Int)).toNat * 10) = some (Value.agg (Array.mk [Value.int IntKind.i64 bo.a0, Value.int IntKind.i64 bo.b0, Value.int IntKind.i64 bo.a1, Value.int IntKind.i64 bo.b1, Value.int IntKind.i64 bo.a2, Value.int IntKind.i64 bo.b2, Value.int IntKind.i64 bo.a3, Value.int IntKind.i64 bo.b3, Value.int IntKind.i64 bo.a4, Value.int IntKind.i64 bo.b4])), (0 : Int) ≤ (i : Int) ∧ (i : Int) < (n : Int), readPart Try.prog 25 (eBox.row r) (0 + ((i : Int)).toNat * 10) = some (Value.agg (Array.mk [Value.int IntKind.i64 bo.a0, Value.int IntKind.i64 bo.b0, Value.int IntKind.i64 bo.a1, Value.int IntKind.i64 bo.b1, Value.int IntKind.i64 bo.a2, Value.int IntKind.i64 bo.b2, Value.int IntKind.i64 bo.a3, Value.int IntKind.i64 bo.b3, Value.int IntKind.i64 bo.a4, Value.int IntKind.i64 bo.b4])), (0 : Int) ≤ (i : Int) ∧ (i : Int) < (n : Int), readPart Try.prog 23 (eBox.row r) (0 + ((i : Int)).toNat * 10 + f.toNat * 2) = some (Value.agg (Array.mk [Value.int IntKind.i64 lo, Value.int IntKind.i64 hi])), (0 : Int) ≤ f ∧ f < (5 : Int), (0 : Int) ≤ (i : Int) ∧ (i : Int) < (n : Int), Value.tuple (Array.mk [Value.agg (Array.mk [Value.bool (okB w && lfB w), Value.int IntKind.i64 (sV w), Value.int IntKind.i64 (sF w), Value.int IntKind.i64 (sA w), Value.int IntKind.i64 (sX w), Value.int IntKind.i64 (sY w)]), Value.bool (okB w)]) = Value.tuple (Array.mk [Value.agg (Array.mk [Value.bool false, Value.int IntKind.i64 ((0 : Int)), Value.int IntKind.i64 f, Value.int IntKind.i64 a, Value.int IntKind.i64 x, Value.int IntKind.i64 y]), Value.bool true]), U64 w, readPart Try.prog 83 cs (o + ((i : Int)).toNat * 1) = some (Value.int IntKind.u64 w), (0 : Int) ≤ (i : Int) ∧ (i : Int) < (n : Int), decide ((↑i : Int) < (↑n : Int)) = true])) (hK : ∀ zz, (fLs 21 cs o n c Q).inv 1 zz → ltO ((fLs 21 cs o n c Q).mu 1 zz) (some (n - i)) → Sat E (mkLp (lp Try.f26 0) J) ((fLs 21 cs o n c Q).st 1 zz)) : Sat E (inLp (lp Try.f26 0) J) ((fLs 21 cs o n c Q).st 1 ⟨i, r, out⟩) :=
  by_to (T := auto0 t_ls) (h := hints [(8, 1, {p := true}), (8, 2, {o := some (.int .u64 w)}), (9, 1, {v := some (.tuple ⟨[nd false 0 f a x y, .bool true]⟩)}), (13, 4, {p := true}), (13, 5, {p := true}), (13, 6, {o := some (.agg ⟨[.int .i64 lo, .int .i64 hi]⟩)}), (14, 8, {p := true}), (14, 9, {o := some (.agg ⟨bo.cs⟩)}), (14, 12, {p := true}), (14, 13, {o := some (.agg ⟨bo.cs⟩)}), (14, 14, {p := true}), (14, 15, {c := some (eBox.row r1)}), (14, 16, {p := true}), (14, 17, {c := some (eBox.row r2)}), (15, 11, {v := some (.agg ⟨[.int .i64 l1, .int .i64 h1]⟩)}), (15, 12, {p := true}), (15, 13, {p := true}), (15, 14, {c := some (eBox.row r3)}), (16, 8, {v := some (.int .i64 (a + 1))}), (16, 12, {v := some (.agg ⟨[.int .i64 l2, .int .i64 h2]⟩)}), (16, 13, {p := true}), (16, 14, {p := true}), (16, 15, {c := some (eBox.row r4)}), (17, 0, {v := some (.int .i64 ((i + 1 : Nat) : Int))})]) (ws := [.b true]) (i0 := ⟨i + 1, r4, out⟩) hE hm (auto0_ok t_ls_ok) hL (by kernel_rfl) hob hK
theorem rlE1 (cs : List Value) (o n c : Nat) (Q : Nat → LS → Prop) (i : Nat) (r : List Bx) (out : List Pc) (bo : Bx) (w v : Int) (J : Act → World → Prop) {E : Env} {rv : Value} {rhs : List Nat} {rhv : List Blk} (hE : EnvOK E Try.prog Try.f26 2 1 rv rhs rhv) (hL : (fLs 21 cs o n c Q).OK 1) (hob : all ([SameK (mkLp (lp Try.f26 0) J) (mkLp (lp Try.f26 0) J), Enter (fLs 21 cs o n c Q) 1 (some (n - i)) [Value.slice (some (Addr.mk 10 0 none)) n n, Value.slice (some (Addr.mk 13 0 none)) out.length 1267650600228229401496703205376, Value.slice (some (Addr.mk 0 o none)) n c, Value.int IntKind.i64 ((n : Int)), Value.int IntKind.i64 (Int.ofNat i.succ)] [Blk.ro cs, Blk.cells (eBox.row r) 25, Blk.vec (ePc.row out) 27 11] [(10, 10), (13, 13), (0, 0)], Value.int IntKind.i64 (IntKind.i64.wrap (Int.ofNat i.succ)) = Value.int IntKind.i64 (Int.ofNat i.succ), Value.bool (emptyB bo.a0 bo.b0 bo.a1 bo.b1 bo.a2 bo.b2 bo.a3 bo.b3 bo.a4 bo.b4) = Value.bool true, readPart Try.prog 25 (eBox.row r) (0 + ((i : Int)).toNat * 10) = some (Value.agg (Array.mk [Value.int IntKind.i64 bo.a0, Value.int IntKind.i64 bo.b0, Value.int IntKind.i64 bo.a1, Value.int IntKind.i64 bo.b1, Value.int IntKind.i64 bo.a2, Value.int IntKind.i64 bo.b2, Value.int IntKind.i64 bo.a3, Value.int IntKind.i64 bo.b3, Value.int IntKind.i64 bo.a4, Value.int IntKind.i64 bo.b4])), (0 : Int) ≤ (i : Int) ∧ (i : Int) < (n : Int), Value.tuple (Array.mk [Value.agg (Array.mk [Value.bool (okB w && lfB w), Value.int IntKind.i64 (sV w), Value.int IntKind.i64 (sF w), Value.int IntKind.i64 (sA w), Value.int IntKind.i64 (sX w), Value.int IntKind.i64 (sY w)]), Value.bool (okB w)]) = Value.tuple (Array.mk [Value.agg (Array.mk [Value.bool true, Value.int IntKind.i64 v, Value.int IntKind.i64 ((0 : Int)), Value.int IntKind.i64 ((0 : Int)), Value.int IntKind.i64 ((0 : Int)), Value.int IntKind.i64 ((0 : Int))]), Value.bool true]), U64 w, readPart Try.prog 83 cs (o + ((i : Int)).toNat * 1) = some (Value.int IntKind.u64 w), (0 : Int) ≤ (i : Int) ∧ (i : Int) < (n : Int), decide ((↑i : Int) < (↑n : Int)) = true])) (hK : ∀ zz, (fLs 21 cs o n c Q).inv 1 zz → ltO ((fLs 21 cs o n c Q).mu 1 zz) (some (n - i)) → Sat E (mkLp (lp Try.f26 0) J) ((fLs 21 cs o n c Q).st 1 zz)) : Sat E (inLp (lp Try.f26 0) J) ((fLs 21 cs o n c Q).st 1 ⟨i, r, out⟩) :=
  by_to (T := auto0 t_ls) (h := hints [(8, 1, {p := true}), (8, 2, {o := some (.int .u64 w)}), (9, 1, {v := some (.tuple ⟨[nd true v 0 0 0 0, .bool true]⟩)}), (11, 2, {p := true}), (11, 3, {o := some (.agg ⟨bo.cs⟩)}), (11, 4, {v := some (.bool true)}), (17, 0, {v := some (.int .i64 ((i + 1 : Nat) : Int))})]) (ws := [.b true]) (i0 := ⟨i + 1, r, out⟩) hE hm (auto0_ok t_ls_ok) hL (by kernel_rfl) hob hK
theorem rlF1 (cs : List Value) (o n c : Nat) (Q : Nat → LS → Prop) (i : Nat) (r : List Bx) (out : List Pc) (bo : Bx) (out2 : List Pc) (w v : Int) (J : Act → World → Prop) {E : Env} {rv : Value} {rhs : List Nat} {rhv : List Blk} (hE : EnvOK E Try.prog Try.f26 2 1 rv rhs rhv) (hL : (fLs 21 cs o n c Q).OK 1) (hob : all ([SameK (mkLp (lp Try.f26 0) J) (mkLp (lp Try.f26 0) J), Enter (fLs 21 cs o n c Q) 1 (some (n - i)) [Value.slice (some (Addr.mk 10 0 none)) n n, Value.slice (some (Addr.mk 138 0 none)) (out.length + 1) 1267650600228229401496703205376, Value.slice (some (Addr.mk 0 o none)) n c, Value.int IntKind.i64 ((n : Int)), Value.int IntKind.i64 (Int.ofNat i.succ)] [Blk.ro cs, Blk.cells (eBox.row r) 25, Blk.vec (ePc.row out2) 27 11] [(10, 10), (13, 138), (0, 0)], Value.int IntKind.i64 (IntKind.i64.wrap (Int.ofNat i.succ)) = Value.int IntKind.i64 (Int.ofNat i.succ), AppOK (some (Blk.vec (ePc.row out) 27 11)) out.length 1267650600228229401496703205376 11 88 1 [Value.int IntKind.i64 bo.a0, Value.int IntKind.i64 bo.b0, Value.int IntKind.i64 bo.a1, Value.int IntKind.i64 bo.b1, Value.int IntKind.i64 bo.a2, Value.int IntKind.i64 bo.b2, Value.int IntKind.i64 bo.a3, Value.int IntKind.i64 bo.b3, Value.int IntKind.i64 bo.a4, Value.int IntKind.i64 bo.b4, Value.int IntKind.i64 v] 0 (ePc.row out2), readPart Try.prog 25 (eBox.row r) (0 + ((i : Int)).toNat * 10) = some (Value.agg (Array.mk [Value.int IntKind.i64 bo.a0, Value.int IntKind.i64 bo.b0, Value.int IntKind.i64 bo.a1, Value.int IntKind.i64 bo.b1, Value.int IntKind.i64 bo.a2, Value.int IntKind.i64 bo.b2, Value.int IntKind.i64 bo.a3, Value.int IntKind.i64 bo.b3, Value.int IntKind.i64 bo.a4, Value.int IntKind.i64 bo.b4])), (0 : Int) ≤ (i : Int) ∧ (i : Int) < (n : Int), Value.bool (emptyB bo.a0 bo.b0 bo.a1 bo.b1 bo.a2 bo.b2 bo.a3 bo.b3 bo.a4 bo.b4) = Value.bool false, readPart Try.prog 25 (eBox.row r) (0 + ((i : Int)).toNat * 10) = some (Value.agg (Array.mk [Value.int IntKind.i64 bo.a0, Value.int IntKind.i64 bo.b0, Value.int IntKind.i64 bo.a1, Value.int IntKind.i64 bo.b1, Value.int IntKind.i64 bo.a2, Value.int IntKind.i64 bo.b2, Value.int IntKind.i64 bo.a3, Value.int IntKind.i64 bo.b3, Value.int IntKind.i64 bo.a4, Value.int IntKind.i64 bo.b4])), (0 : Int) ≤ (i : Int) ∧ (i : Int) < (n : Int), Value.tuple (Array.mk [Value.agg (Array.mk [Value.bool (okB w && lfB w), Value.int IntKind.i64 (sV w), Value.int IntKind.i64 (sF w), Value.int IntKind.i64 (sA w), Value.int IntKind.i64 (sX w), Value.int IntKind.i64 (sY w)]), Value.bool (okB w)]) = Value.tuple (Array.mk [Value.agg (Array.mk [Value.bool true, Value.int IntKind.i64 v, Value.int IntKind.i64 ((0 : Int)), Value.int IntKind.i64 ((0 : Int)), Value.int IntKind.i64 ((0 : Int)), Value.int IntKind.i64 ((0 : Int))]), Value.bool true]), U64 w, readPart Try.prog 83 cs (o + ((i : Int)).toNat * 1) = some (Value.int IntKind.u64 w), (0 : Int) ≤ (i : Int) ∧ (i : Int) < (n : Int), decide ((↑i : Int) < (↑n : Int)) = true])) (hK : ∀ zz, (fLs 21 cs o n c Q).inv 1 zz → ltO ((fLs 21 cs o n c Q).mu 1 zz) (some (n - i)) → Sat E (mkLp (lp Try.f26 0) J) ((fLs 21 cs o n c Q).st 1 zz)) : Sat E (inLp (lp Try.f26 0) J) ((fLs 21 cs o n c Q).st 1 ⟨i, r, out⟩) :=
  by_to (T := auto0 t_ls) (h := hints [(8, 1, {p := true}), (8, 2, {o := some (.int .u64 w)}), (9, 1, {v := some (.tuple ⟨[nd true v 0 0 0 0, .bool true]⟩)}), (11, 2, {p := true}), (11, 3, {o := some (.agg ⟨bo.cs⟩)}), (11, 4, {v := some (.bool false)}), (12, 3, {p := true}), (12, 4, {o := some (.agg ⟨bo.cs⟩)}), (12, 9, {c := some (ePc.row out2)}), (17, 0, {v := some (.int .i64 ((i + 1 : Nat) : Int))})]) (ws := [.b true]) (i0 := ⟨i + 1, r, out2⟩) hE hm (auto0_ok t_ls_ok) hL (by kernel_rfl) hob hK
theorem rlX0 (cs : List Value) (o n c : Nat) (Q : Nat → LS → Prop) (i : Nat) (r : List Bx) (J : Act → World → Prop) {E : Env} (hE : EnvOK E Try.prog Try.f26 2 1 (.slice none 0 0) [] []) (hob : all ([Back (Value.slice none 0 0) (Value.slice none 0 0) [] [] [], decide ((↑i : Int) < (↑n : Int)) = false])) : Sat E (inLp (lp Try.f26 0) J) ((fLs 21 cs o n c Q).st 0 ⟨i, r, []⟩) :=
  by_ret (T := auto0 t_ls) (h := hints []) (ws := [.b false]) (nx' := 101) hE hm (auto0_ok t_ls_ok) (by omega) (by simp) (by simp) (by kernel_rfl) hob
theorem rlX1 (cs : List Value) (o n c : Nat) (Q : Nat → LS → Prop) (i : Nat) (r : List Bx) (out : List Pc) (J : Act → World → Prop) {E : Env} (hE : EnvOK E Try.prog Try.f26 2 1 (.slice (some ⟨100, 0, none⟩) out.length mk) [100] [.vec (ePc.row out) 27 11]) (hob : all ([Back (Value.slice (some (Addr.mk 13 0 none)) out.length 1267650600228229401496703205376) (Value.slice (some (Addr.mk 100 0 none)) out.length 1267650600228229401496703205376) [Blk.vec (ePc.row out) 27 11] [Blk.vec (ePc.row out) 27 11] [(100, 13)], decide ((↑i : Int) < (↑n : Int)) = false])) : Sat E (inLp (lp Try.f26 0) J) ((fLs 21 cs o n c Q).st 1 ⟨i, r, out⟩) :=
  by_ret (T := auto0 t_ls) (h := hints []) (ws := [.b false]) (nx' := 101) hE hm (auto0_ok t_ls_ok) (by omega) (by simp) (by intro x hx; simp at hx; subst hx; exact Blk.plain.namesLt (b := .vec _ _ _) (Elt.row_pl _) _) (by kernel_rfl) hob
end Go.Proofs.Ythbaccmhdffjdaa.Tr


set_option linter.unusedVariables false
set_option linter.unusedSimpArgs false
set_option maxRecDepth 100000
namespace Go.Proofs.Ythbaccmhdffjdaa.Tr
open Go Go.RowKit Go.Proofs.Ythbaccmhdffjdaa.Ev Go.Proofs.Ythbaccmhdffjdaa.NodeE Go.Proofs.Ythbaccmhdffjdaa.Tr Go.Proofs.Ythbaccmhdffjdaa.BoxF

/-! ### The plain law -/
def _root_.Go.Proofs.Ythbaccmhdffjdaa.Ev.Bx.zero : Bx := ⟨0, 0, 0, 0, 0, 0, 0, 0, 0, 0⟩
def _root_.Go.Proofs.Ythbaccmhdffjdaa.Ev.Bx.emp (x : Bx) : Bool := emptyB x.a0 x.b0 x.a1 x.b1 x.a2 x.b2 x.a3 x.b3 x.a4 x.b4
/-- One node: where a box goes. -/
def bxS (i : Nat) (w : Int) (s : List Bx × List Pc) : List Bx × List Pc :=
  bif lfB w then (s.1, bif (s.1.getD i Bx.zero).emp then s.2 else s.2 ++ [⟨s.1.getD i Bx.zero, low32 w⟩])
  else ((s.1.set (uX w).toNat ((s.1.getD i Bx.zero).low (uF w) (low32 w))).set (uY w).toNat ((s.1.getD i Bx.zero).high (uF w) (low32 w)), s.2)
def bxGo : Nat → List Int → List Bx × List Pc → List Bx × List Pc
  | _, [], s => s
  | i, w :: ws, s => bxGo (i + 1) ws (bxS i w s)
theorem bxGo_app : ∀ (l m : List Int) (i : Nat) (s : List Bx × List Pc), bxGo i (l ++ m) s = bxGo (i + l.length) m (bxGo i l s)
  | [], m, i, s => rfl
  | w :: l, m, i, s => by
    simp only [List.cons_append, bxGo, bxGo_app l m (i + 1), List.length_cons]
    rw [show i + (l.length + 1) = i + 1 + l.length by omega]
def bx0 (n : Nat) (b : Bx) : List Bx × List Pc := ((List.replicate n Bx.zero).set 0 b, [])
def pcsI (ws : List Int) (b : Bx) : List Pc := (bxGo 0 ws (bx0 ws.length b)).2
def listP (ws : List Int) (b : Bx) : List Pc := bif rightI ws 4 && !b.emp then pcsI ws b else []
def rlvP (ws : List Int) (b : Bx) : List Pc := bif rightI ws 4 then pcsI ws b else []
structure BsOK (n : Nat) (r : List Bx) : Prop where
  len : r.length = n
  rr : ∀ x ∈ r, x.I64s
theorem zero_ok : Bx.zero.I64s := by simp [Bx.zero, Bx.I64s, I64]
theorem cut_ok {a b n : Int} (ha : I64 a) (hb : I64 b) (hn : I64 n) (i p : Int) : I64 (cL i p a b n) ∧ I64 (cH i p a b n) ∧ I64 (dL i p a b n) ∧ I64 (dH i p a b n) := by
  simp only [cL, cH, dL, dH]
  cases p == i
  · exact ⟨ha, hb, ha, hb⟩
  · have := cut_cases a b n
    simp only [cond_true]
    unfold I64 at *
    omega
theorem low_ok {x : Bx} (h : x.I64s) {n : Int} (hn : I64 n) (p : Int) : (x.low p n).I64s ∧ (x.high p n).I64s := by
  obtain ⟨c0, c1, c2, c3, c4, c5, c6, c7, c8, c9⟩ := h
  obtain ⟨x0, x1, x2, x3⟩ := cut_ok c0 c1 hn 0 p
  obtain ⟨y0, y1, y2, y3⟩ := cut_ok c2 c3 hn 1 p
  obtain ⟨z0, z1, z2, z3⟩ := cut_ok c4 c5 hn 2 p
  obtain ⟨u0, u1, u2, u3⟩ := cut_ok c6 c7 hn 3 p
  obtain ⟨v0, v1, v2, v3⟩ := cut_ok c8 c9 hn 4 p
  exact ⟨⟨x0, x1, y0, y1, z0, z1, u0, u1, v0, v1⟩, ⟨x2, x3, y2, y3, z2, z3, u2, u3, v2, v3⟩⟩
theorem getB {r : List Bx} {i : Nat} (h : i < r.length) : r.getD i Bx.zero ∈ r ∧ r[i]? = some (r.getD i Bx.zero) := by
  have e : r.getD i Bx.zero = r[i] := by rw [List.getD_eq_getElem?_getD, List.getElem?_eq_getElem h]; rfl
  rw [e]
  exact ⟨List.getElem_mem h, List.getElem?_eq_getElem h⟩
theorem set_ok {n : Nat} {r : List Bx} {x : Bx} (h : BsOK n r) (hx : x.I64s) (k : Nat) : BsOK n (r.set k x) := by
  refine ⟨by rw [List.length_set]; exact h.len, fun y hy => ?_⟩
  rcases List.mem_or_eq_of_mem_set hy with hy | rfl
  · exact h.rr y hy
  · exact hx
theorem low32_64 (w : Int) : I64 (low32 w) := by
  have := low32_r w
  unfold I64
  omega
theorem bxS_ok {n i : Nat} {s : List Bx × List Pc} (w : Int) (h : BsOK n s.1) (hi : i < n) : BsOK n (bxS i w s).1 := by
  have hg := getB (r := s.1) (i := i) (by rw [h.len]; exact hi)
  obtain ⟨h1, h2⟩ := low_ok (h.rr _ hg.1) (low32_64 w) (uF w)
  simp only [bxS]
  cases lfB w
  · exact set_ok (set_ok h h1 _) h2 _
  · exact h
theorem bx0_ok (n : Nat) {b : Bx} (h : b.I64s) : BsOK n (bx0 n b).1 := by
  refine set_ok ⟨List.length_replicate, fun x hx => ?_⟩ h 0
  rw [List.eq_of_mem_replicate hx]
  exact zero_ok
/-! ### A span of a box -/
theorem sub_in {cs : List Value} {k s d m : Nat} {ys : List Value} (h : sub cs k s = some ys) (hs : k + s ≤ cs.length) (hd : d + m ≤ s) : sub cs (k + d) m = some ((ys.drop d).take m) := by
  rw [sub_of hs] at h
  injection h with h
  rw [sub_of (by omega), ← h, List.drop_take, List.drop_drop, List.take_take, Nat.min_eq_left (by omega)]
theorem span_read {r : List Bx} {i : Nat} {x : Bx} {p : Int} (hx : r[i]? = some x) (h0 : 0 ≤ p) (h5 : p < 5) : readPart Try.prog 23 (eBox.row r) (0 + (Int.ofNat i).toNat * 10 + p.toNat * 2) = some (.agg ⟨[.int .i64 (x.lo p), .int .i64 (x.hi p)]⟩) := by
  have hlt := (List.getElem?_eq_some_iff.1 hx).1
  have hs : sub (eBox.row r) (i * 10) 10 = some x.cs := by
    have := (Elt.row_sub (e := eBox) r [] hx)
    rw [List.append_nil] at this
    exact this
  have hl : i * 10 + 10 ≤ (eBox.row r).length := by rw [Elt.row_len]; show _ ≤ r.length * 10; omega
  have ha : aggT Try.prog 23 = some true := by kernel_rfl
  have hz : sizeOfT Try.prog 23 = some 2 := by kernel_rfl
  have key : ∀ d : Nat, d + 2 ≤ 10 → readPart Try.prog 23 (eBox.row r) (i * 10 + d) = some (.agg ⟨(x.cs.drop d).take 2⟩) := fun d hd => by
    simp only [readPart, ha, hz, sub_in hs hl hd]
  have e : 0 + (Int.ofNat i).toNat * 10 = i * 10 := by rw [Nat.zero_add]; rfl
  rw [e]
  have : p = 0 ∨ p = 1 ∨ p = 2 ∨ p = 3 ∨ p = 4 := by omega
  rcases this with h | h | h | h | h <;> rw [h]
  · exact key 0 (by omega)
  · exact key 2 (by omega)
  · exact key 4 (by omega)
  · exact key 6 (by omega)
  · exact key 8 (by omega)
def _root_.Go.Proofs.Ythbaccmhdffjdaa.Ev.Bx.put (x : Bx) (p l h : Int) : Bx := (x.setLo p l).setHi p h
theorem put_set (x : Bx) {p : Int} (l h : Int) (h0 : 0 ≤ p) (h5 : p < 5) : lset x.cs (p.toNat * 2) [.int .i64 l, .int .i64 h] = some (x.put p l h).cs := by
  have : p = 0 ∨ p = 1 ∨ p = 2 ∨ p = 3 ∨ p = 4 := by omega
  rcases this with h | h | h | h | h <;> rw [h] <;> simp [Bx.put, Bx.setLo, Bx.setHi, Bx.cs, lset]
theorem meet_low (a b n : Int) : ofLo (maxI a a) (minI b n) = cutLo a b n ∧ ofHi (maxI a a) (minI b n) = cutHi a b n := by
  have : maxI a a = a := by rw [maxI_eq]; omega
  rw [this]
  exact ⟨rfl, rfl⟩
theorem meet_high (a b n : Int) : ofLo (maxI a (n + 1)) (minI b b) = cutLo' a b n ∧ ofHi (maxI a (n + 1)) (minI b b) = cutHi' a b n := by
  have e : minI b b = b := by rw [minI_eq]; omega
  rw [e]
  have hm := maxI_eq a (n + 1)
  simp only [cutLo', cutHi', ofLo, ofHi, cond_eq_ite, decide_eq_true_eq]
  constructor <;> (repeat' split) <;> omega
theorem low_put (x : Bx) {p : Int} (n : Int) (h0 : 0 ≤ p) (h5 : p < 5) : x.low p n = x.put p (cutLo (x.lo p) (x.hi p) n) (cutHi (x.lo p) (x.hi p) n) ∧ x.high p n = x.put p (cutLo' (x.lo p) (x.hi p) n) (cutHi' (x.lo p) (x.hi p) n) := by
  have : p = 0 ∨ p = 1 ∨ p = 2 ∨ p = 3 ∨ p = 4 := by omega
  rcases this with h | h | h | h | h <;> rw [h] <;> simp [Bx.put, Bx.setLo, Bx.setHi, Bx.lo, Bx.hi, Bx.low, Bx.high, cL, cH, dL, dH]

def lsQ (n : Nat) (ws : List Int) (b : Bx) : Nat → LS → Prop := fun z s => s.i ≤ n ∧ BsOK n s.r ∧ (s.r, s.out) = bxGo 0 (ws.take s.i) (bx0 n b) ∧ s.out.length ≤ s.i ∧ ((z = 0 ∧ s.out = []) ∨ (z = 1 ∧ s.out ≠ []))

theorem lset_all (cs vs : List Value) (h : cs.length = vs.length) : lset cs 0 vs = some vs := by
  rw [lset_of (by omega), List.take_zero, List.nil_append, Nat.zero_add, List.drop_of_length_le (by omega), List.append_nil]

theorem ls_loop {cs : List Value} {o n c : Nat} {b : Bx} (hr : eWord.Row cs o n) (hpl : ∀ x ∈ cs, leafG x = true) (hU : ∀ w ∈ eWord.list cs o n, U64 w) (hn : n ≤ 65536) (hR : rightI (eWord.list cs o n) 4 = true) (hb : b.I64s) (hem : b.emp = false) {E : Env} {rv : Value} {rhs : List Nat} {rhv : List Blk} (hE : EnvOK E Try.prog Try.f23 2 1 rv rhs rhv)
    (hX0 : pcsI (eWord.list cs o n) b = [] → ∀ r J, Sat E (inLp (lp Try.f23 0) J) ((fLs 24 cs o n c (lsQ n (eWord.list cs o n) b)).st 0 ⟨n, r, []⟩)) (hX1 : pcsI (eWord.list cs o n) b ≠ [] → ∀ r J, Sat E (inLp (lp Try.f23 0) J) ((fLs 24 cs o n c (lsQ n (eWord.list cs o n) b)).st 1 ⟨n, r, pcsI (eWord.list cs o n) b⟩)) :
    Sat E [.code (bodyOf Try.f23)] (st0 Try.f23 [.slice (some ⟨0, o, none⟩) n c, .agg ⟨b.cs⟩] (roRows [cs]) 1) := by
  have okL := fLs_ok 24 cs o n c (lsQ n (eWord.list cs o n) b) hpl
  have hQ : ∀ z s, (s.i ≤ n ∧ BsOK n s.r ∧ (s.r, s.out) = bxGo 0 ((eWord.list cs o n).take s.i) (bx0 n b) ∧ s.out.length ≤ s.i ∧ ((z = 0 ∧ s.out = []) ∨ (z = 1 ∧ s.out ≠ []))) → (fLs 24 cs o n c (lsQ n (eWord.list cs o n) b)).inv z s := fun z s h => h
  have hlen : (eWord.list cs o n).length = n := Elt.list_len _ _ _
  have hUl : ∀ w ∈ eWord.list cs o n, U64 w := hU
  have hr1 : Value.bool (rightI (eWord.list cs o n) 4) = .bool true := by rw [hR]
  generalize hws : eWord.list cs o n = ws at hU hlen hR hX0 hX1
  obtain ⟨⟨hn1, hn31⟩, hgood, hone⟩ := right_parts.1 hR
  have rnr : ∀ f : Nat → Nat, Blk.rnB f (.ro cs) = .ro cs := fun f => Blk.plain.rnB (b := .ro cs) hpl f
  rw [hws] at hQ okL
  have hz : repl [.int .i64 0, .int .i64 0, .int .i64 0, .int .i64 0, .int .i64 0, .int .i64 0, .int .i64 0, .int .i64 0, .int .i64 0, .int .i64 0] n = eBox.row (List.replicate n Bx.zero) := repl_row (e := eBox) (x := Bx.zero) rfl _
  have hst : lset (eBox.row (List.replicate n Bx.zero)) 0 b.cs = some (eBox.row ((List.replicate n Bx.zero).set 0 b)) := lsetE (e := eBox) (l := List.replicate n Bx.zero) (k := 0) (f := 0) (x := b) (y := Bx.zero) (by rw [List.getElem?_replicate, if_pos (by omega)]) (lset_all _ _ rfl) (by simp)
  have rni : ∀ (f : Nat → Nat) (l : List Bx), Blk.rnB f (.cells (eBox.row l) 25) = .cells (eBox.row l) 25 := fun f l => Blk.plain.rnB (b := .cells (eBox.row l) 25) (Elt.row_pl _) f
  have rnv : ∀ (f : Nat → Nat) (l : List Pc), Blk.rnB f (.vec (ePc.row l) 27 11) = .vec (ePc.row l) 27 11 := fun f l => Blk.plain.rnB (b := .vec (ePc.row l) 27 11) (Elt.row_pl _) f
  refine lsIn cs o n c (lsQ n ws b) b (List.replicate n Bx.zero) ((List.replicate n Bx.zero).set 0 b) hE okL ⟨rfl, ⟨⟨0, (List.replicate n Bx.zero).set 0 b, []⟩, hQ 0 ⟨0, _, []⟩ ⟨Nat.zero_le _, bx0_ok n hb, rfl, Nat.le_refl _, Or.inl ⟨rfl, rfl⟩⟩, trivial, rfl, (by first | (simp only [fLs, ouV, List.map_cons, List.map_nil, rnr, rni, rnv]) | (simp only [fLs, List.map_cons, List.map_nil, rnr, rni]))⟩, hst, ⟨by decide, by omega⟩, ⟨rfl, Int.natCast_nonneg _, by show (n : Int) ≤ _; omega, by show (80 : Int) * (n : Int) ≤ _; omega, hz.symm⟩, (congrArg Value.bool hem), hr1, plain1 hpl, hr, hUl, hn, trivial⟩ fun zz hz _ => by_loop (fLs 24 cs o n c (lsQ n ws b)) (lp Try.f23 0) ?_ 0 zz hz
  rintro z ⟨i, r, out⟩ hinv J hJ
  have hinv : i ≤ n ∧ BsOK n r ∧ (r, out) = bxGo 0 (ws.take i) (bx0 n b) ∧ out.length ≤ i ∧ ((z = 0 ∧ out = []) ∨ (z = 1 ∧ out ≠ [])) := hinv
  obtain ⟨k1, k2, k3, k4, k5⟩ := hinv
  have hJ' : ∀ b' zz, (fLs 24 cs o n c (lsQ n ws b)).inv b' zz → ltO ((fLs 24 cs o n c (lsQ n ws b)).mu b' zz) (some (n - i)) → Sat E (mkLp (lp Try.f23 0) J) ((fLs 24 cs o n c (lsQ n ws b)).st b' zz) := fun b' zz h1 h2 => hJ b' zz h1 h2
  have hrl : r.length = n := k2.len
  by_cases hin : i < n
  · have hlt : decide ((i : Int) < (n : Int)) = true := decide_eq_true (by omega)
    obtain ⟨w, hw⟩ : ∃ w, ws[i]? = some w := ⟨_, List.getElem?_eq_getElem (by rw [hlen]; omega)⟩
    have hrd := hr.read1 (P := Try.prog) (ty := 83) (by kernel_rfl) rfl (i := i) (x := w) (by rw [hws]; exact hw) rfl rfl
    rw [← Nat.mul_one i] at hrd
    have htk : ws.take (i + 1) = ws.take i ++ [w] := by rw [List.take_add_one, hw]; rfl
    have ho := right_ok hR w (List.mem_of_getElem? hw)
    have htl : (ws.take i).length = i := by rw [List.length_take, hlen]; omega
    have hmu : n - (i + 1) < n - i := by omega
    obtain ⟨g1, g2⟩ := getB (r := r) (i := i) (by omega)
    have gI := k2.rr _ g1
    have hnx : bxGo 0 (ws.take (i + 1)) (bx0 n b) = bxS i w (r, out) := by rw [htk, bxGo_app, ← k3, htl, Nat.zero_add]; rfl
    have hok := bxS_ok (s := (r, out)) w k2 hin
    cases hl : lfB w
    · obtain ⟨_, d1, d2, d3, d4, d5, d6⟩ := good_inner (hgood i w hw) hl
      obtain ⟨⟨d0, _⟩, _⟩ := inner_bounds ho hl
      have d0b : uF w < 5 := by omega
      rw [hlen] at d5 d6
      obtain ⟨X, hX⟩ := Int.eq_ofNat_of_zero_le (show 0 ≤ uX w by omega)
      obtain ⟨Y, hY⟩ := Int.eq_ofNat_of_zero_le (show 0 ≤ uY w by omega)
      have hun := unp_inner ho hl
      rw [hX, hY] at hun
      have s1 := lsetE (e := eBox) (l := r) (k := X) (f := 0) (o := 0 + X * 10) (x := (r.getD i Bx.zero).low (uF w) (low32 w)) (vs := ((r.getD i Bx.zero).low (uF w) (low32 w)).cs) (List.getElem?_eq_getElem (by omega)) (lset_all _ _ rfl) (by show _ = _ * 10 + 0; omega)
      have s2 := lsetE (e := eBox) (l := r.set X ((r.getD i Bx.zero).low (uF w) (low32 w))) (k := Y) (f := 0) (o := 0 + Y * 10) (x := (r.getD i Bx.zero).high (uF w) (low32 w)) (vs := ((r.getD i Bx.zero).high (uF w) (low32 w)).cs) (List.getElem?_eq_getElem (by rw [List.length_set]; omega)) (lset_all _ _ rfl) (by show _ = _ * 10 + 0; omega)
      have hdS : bxS i w (r, out) = ((r.set X ((r.getD i Bx.zero).low (uF w) (low32 w))).set Y ((r.getD i Bx.zero).high (uF w) (low32 w)), out) := by
        simp only [bxS, hl, cond_false, hX, hY, Int.toNat_natCast]
      rw [hdS] at hnx hok
      rcases k5 with ⟨rfl, ko⟩ | ⟨rfl, ko⟩
      · subst ko
        exact lsI0 cs o n c (lsQ n ws b) i r (r.getD i Bx.zero) _ _ _ _ w (uF w) (low32 w) X Y J hE okL ⟨rfl, ⟨⟨i + 1, _, []⟩, hQ 0 ⟨i + 1, _, []⟩ ⟨hin, hok, hnx.symm, (by simp only [List.length_nil] at *; show _ ≤ i + 1; first | omega | exact Nat.zero_le _), Or.inl ⟨rfl, rfl⟩⟩, hmu, rfl, (by first | (simp only [fLs, ouV, List.map_cons, List.map_nil, rnr, rni, rnv]) | (simp only [fLs, List.map_cons, List.map_nil, rnr, rni]))⟩, i64_succ (by omega), s2, ⟨Int.natCast_nonneg _, Int.ofNat_lt.2 (by omega)⟩, s1, ⟨Int.natCast_nonneg _, Int.ofNat_lt.2 (by omega)⟩, rfl, low32_64 w, gI.2.1.2, gI.2.2.2.1.2, gI.2.2.2.2.2.1.2, gI.2.2.2.2.2.2.2.1.2, gI.2.2.2.2.2.2.2.2.2.2, read_row (e := eBox) (by kernel_rfl) (by kernel_rfl) g2, ⟨Int.natCast_nonneg _, Int.ofNat_lt.2 hin⟩, hun, hU w (List.mem_of_getElem? hw), hrd, ⟨Int.natCast_nonneg _, Int.ofNat_lt.2 hin⟩, hlt, trivial⟩ (hJ' 0)
      · exact lsI1 cs o n c (lsQ n ws b) i r out (r.getD i Bx.zero) _ _ _ _ w (uF w) (low32 w) X Y J hE okL ⟨rfl, ⟨⟨i + 1, _, out⟩, hQ 1 ⟨i + 1, _, out⟩ ⟨hin, hok, hnx.symm, (by simp only [List.length_nil] at *; show _ ≤ i + 1; first | omega | exact Nat.zero_le _), Or.inr ⟨rfl, ko⟩⟩, hmu, rfl, (by first | (simp only [fLs, ouV, List.map_cons, List.map_nil, rnr, rni, rnv]) | (simp only [fLs, List.map_cons, List.map_nil, rnr, rni]))⟩, i64_succ (by omega), s2, ⟨Int.natCast_nonneg _, Int.ofNat_lt.2 (by omega)⟩, s1, ⟨Int.natCast_nonneg _, Int.ofNat_lt.2 (by omega)⟩, rfl, low32_64 w, gI.2.1.2, gI.2.2.2.1.2, gI.2.2.2.2.2.1.2, gI.2.2.2.2.2.2.2.1.2, gI.2.2.2.2.2.2.2.2.2.2, read_row (e := eBox) (by kernel_rfl) (by kernel_rfl) g2, ⟨Int.natCast_nonneg _, Int.ofNat_lt.2 hin⟩, hun, hU w (List.mem_of_getElem? hw), hrd, ⟨Int.natCast_nonneg _, Int.ofNat_lt.2 hin⟩, hlt, trivial⟩ (hJ' 1)
    · cases he : (r.getD i Bx.zero).emp
      · have hdS : bxS i w (r, out) = (r, out ++ [⟨r.getD i Bx.zero, low32 w⟩]) := by simp only [bxS, hl, he, cond_true, cond_false]
        rw [hdS] at hnx hok
        rcases k5 with ⟨rfl, ko⟩ | ⟨rfl, ko⟩
        · subst ko
          exact lsF0 cs o n c (lsQ n ws b) i r (r.getD i Bx.zero) [(⟨r.getD i Bx.zero, low32 w⟩ : Pc)] w (low32 w) J hE okL ⟨rfl, ⟨⟨i + 1, r, [(⟨r.getD i Bx.zero, low32 w⟩ : Pc)]⟩, hQ 1 ⟨i + 1, r, [(⟨r.getD i Bx.zero, low32 w⟩ : Pc)]⟩ ⟨hin, hok, hnx.symm, (by simp; try omega), Or.inr ⟨rfl, by simp⟩⟩, hmu, rfl, (by first | (simp only [fLs, ouV, List.map_cons, List.map_nil, rnr, rni, rnv]) | (simp only [fLs, List.map_cons, List.map_nil, rnr, rni]))⟩, i64_succ (by omega), appOK_nil (e := ePc) (new := [(⟨r.getD i Bx.zero, low32 w⟩ : Pc)]) rfl rfl rfl rfl (by decide) (by decide) (by decide), read_row (e := eBox) (by kernel_rfl) (by kernel_rfl) g2, ⟨Int.natCast_nonneg _, Int.ofNat_lt.2 hin⟩, (congrArg Value.bool he), read_row (e := eBox) (by kernel_rfl) (by kernel_rfl) g2, ⟨Int.natCast_nonneg _, Int.ofNat_lt.2 hin⟩, unp_leaf ho hl, hU w (List.mem_of_getElem? hw), hrd, ⟨Int.natCast_nonneg _, Int.ofNat_lt.2 hin⟩, hlt, trivial⟩ (hJ' 1)
        · exact lsF1 cs o n c (lsQ n ws b) i r out (r.getD i Bx.zero) (out ++ [(⟨r.getD i Bx.zero, low32 w⟩ : Pc)]) w (low32 w) J hE okL ⟨rfl, ⟨⟨i + 1, r, (out ++ [(⟨r.getD i Bx.zero, low32 w⟩ : Pc)])⟩, hQ 1 ⟨i + 1, r, (out ++ [(⟨r.getD i Bx.zero, low32 w⟩ : Pc)])⟩ ⟨hin, hok, hnx.symm, (by simp; try omega), Or.inr ⟨rfl, by simp⟩⟩, hmu, (by simp [fLs, ouV]; first | rfl | exact ⟨rfl, rfl, rfl, rfl, rfl⟩), (by first | (simp only [fLs, ouV, List.map_cons, List.map_nil, rnr, rni, rnv]) | (simp only [fLs, List.map_cons, List.map_nil, rnr, rni]))⟩, i64_succ (by omega), appOK (e := ePc) (L := out) (new := [(⟨r.getD i Bx.zero, low32 w⟩ : Pc)]) rfl rfl rfl rfl (Nat.le_refl _) (by simp) (by decide) (by omega) (by omega), read_row (e := eBox) (by kernel_rfl) (by kernel_rfl) g2, ⟨Int.natCast_nonneg _, Int.ofNat_lt.2 hin⟩, (congrArg Value.bool he), read_row (e := eBox) (by kernel_rfl) (by kernel_rfl) g2, ⟨Int.natCast_nonneg _, Int.ofNat_lt.2 hin⟩, unp_leaf ho hl, hU w (List.mem_of_getElem? hw), hrd, ⟨Int.natCast_nonneg _, Int.ofNat_lt.2 hin⟩, hlt, trivial⟩ (hJ' 1)
      · have hdS : bxS i w (r, out) = (r, out) := by simp only [bxS, hl, he, cond_true]
        rw [hdS] at hnx hok
        rcases k5 with ⟨rfl, ko⟩ | ⟨rfl, ko⟩
        · subst ko
          exact lsE0 cs o n c (lsQ n ws b) i r (r.getD i Bx.zero) w (low32 w) J hE okL ⟨rfl, ⟨⟨i + 1, r, []⟩, hQ 0 ⟨i + 1, r, []⟩ ⟨hin, hok, hnx.symm, (by simp only [List.length_nil] at *; show _ ≤ i + 1; first | omega | exact Nat.zero_le _), Or.inl ⟨rfl, rfl⟩⟩, hmu, rfl, (by first | (simp only [fLs, ouV, List.map_cons, List.map_nil, rnr, rni, rnv]) | (simp only [fLs, List.map_cons, List.map_nil, rnr, rni]))⟩, i64_succ (by omega), (congrArg Value.bool he), read_row (e := eBox) (by kernel_rfl) (by kernel_rfl) g2, ⟨Int.natCast_nonneg _, Int.ofNat_lt.2 hin⟩, unp_leaf ho hl, hU w (List.mem_of_getElem? hw), hrd, ⟨Int.natCast_nonneg _, Int.ofNat_lt.2 hin⟩, hlt, trivial⟩ (hJ' 0)
        · exact lsE1 cs o n c (lsQ n ws b) i r out (r.getD i Bx.zero) w (low32 w) J hE okL ⟨rfl, ⟨⟨i + 1, r, out⟩, hQ 1 ⟨i + 1, r, out⟩ ⟨hin, hok, hnx.symm, (by simp only [List.length_nil] at *; show _ ≤ i + 1; first | omega | exact Nat.zero_le _), Or.inr ⟨rfl, ko⟩⟩, hmu, rfl, (by first | (simp only [fLs, ouV, List.map_cons, List.map_nil, rnr, rni, rnv]) | (simp only [fLs, List.map_cons, List.map_nil, rnr, rni]))⟩, i64_succ (by omega), (congrArg Value.bool he), read_row (e := eBox) (by kernel_rfl) (by kernel_rfl) g2, ⟨Int.natCast_nonneg _, Int.ofNat_lt.2 hin⟩, unp_leaf ho hl, hU w (List.mem_of_getElem? hw), hrd, ⟨Int.natCast_nonneg _, Int.ofNat_lt.2 hin⟩, hlt, trivial⟩ (hJ' 1)
  · obtain rfl : i = n := by omega
    rw [List.take_of_length_le (by omega)] at k3
    have hp : pcsI ws b = out := by unfold pcsI; rw [hlen, ← k3]
    rcases k5 with ⟨rfl, ko⟩ | ⟨rfl, ko⟩
    · rw [ko]
      exact hX0 (by rw [hp, ko]) r J
    · have := hX1 (by rw [hp]; exact ko) r J
      rw [hp] at this
      exact this

theorem rl_loop {cs : List Value} {o n c : Nat} {b : Bx} (hr : eWord.Row cs o n) (hpl : ∀ x ∈ cs, leafG x = true) (hU : ∀ w ∈ eWord.list cs o n, U64 w) (hn : n ≤ 65536) (hR : rightI (eWord.list cs o n) 4 = true) (hb : b.I64s) {E : Env} {rv : Value} {rhs : List Nat} {rhv : List Blk} (hE : EnvOK E Try.prog Try.f26 2 1 rv rhs rhv)
    (hX0 : pcsI (eWord.list cs o n) b = [] → ∀ r J, Sat E (inLp (lp Try.f26 0) J) ((fLs 21 cs o n c (lsQ n (eWord.list cs o n) b)).st 0 ⟨n, r, []⟩)) (hX1 : pcsI (eWord.list cs o n) b ≠ [] → ∀ r J, Sat E (inLp (lp Try.f26 0) J) ((fLs 21 cs o n c (lsQ n (eWord.list cs o n) b)).st 1 ⟨n, r, pcsI (eWord.list cs o n) b⟩)) :
    Sat E [.code (bodyOf Try.f26)] (st0 Try.f26 [.slice (some ⟨0, o, none⟩) n c, .agg ⟨b.cs⟩] (roRows [cs]) 1) := by
  have okL := fLs_ok 21 cs o n c (lsQ n (eWord.list cs o n) b) hpl
  have hQ : ∀ z s, (s.i ≤ n ∧ BsOK n s.r ∧ (s.r, s.out) = bxGo 0 ((eWord.list cs o n).take s.i) (bx0 n b) ∧ s.out.length ≤ s.i ∧ ((z = 0 ∧ s.out = []) ∨ (z = 1 ∧ s.out ≠ []))) → (fLs 21 cs o n c (lsQ n (eWord.list cs o n) b)).inv z s := fun z s h => h
  have hlen : (eWord.list cs o n).length = n := Elt.list_len _ _ _
  have hUl : ∀ w ∈ eWord.list cs o n, U64 w := hU
  have hr1 : Value.bool (rightI (eWord.list cs o n) 4) = .bool true := by rw [hR]
  generalize hws : eWord.list cs o n = ws at hU hlen hR hX0 hX1
  obtain ⟨⟨hn1, hn31⟩, hgood, hone⟩ := right_parts.1 hR
  have rnr : ∀ f : Nat → Nat, Blk.rnB f (.ro cs) = .ro cs := fun f => Blk.plain.rnB (b := .ro cs) hpl f
  rw [hws] at hQ okL
  have hz : repl [.int .i64 0, .int .i64 0, .int .i64 0, .int .i64 0, .int .i64 0, .int .i64 0, .int .i64 0, .int .i64 0, .int .i64 0, .int .i64 0] n = eBox.row (List.replicate n Bx.zero) := repl_row (e := eBox) (x := Bx.zero) rfl _
  have hst : lset (eBox.row (List.replicate n Bx.zero)) 0 b.cs = some (eBox.row ((List.replicate n Bx.zero).set 0 b)) := lsetE (e := eBox) (l := List.replicate n Bx.zero) (k := 0) (f := 0) (x := b) (y := Bx.zero) (by rw [List.getElem?_replicate, if_pos (by omega)]) (lset_all _ _ rfl) (by simp)
  have rni : ∀ (f : Nat → Nat) (l : List Bx), Blk.rnB f (.cells (eBox.row l) 25) = .cells (eBox.row l) 25 := fun f l => Blk.plain.rnB (b := .cells (eBox.row l) 25) (Elt.row_pl _) f
  have rnv : ∀ (f : Nat → Nat) (l : List Pc), Blk.rnB f (.vec (ePc.row l) 27 11) = .vec (ePc.row l) 27 11 := fun f l => Blk.plain.rnB (b := .vec (ePc.row l) 27 11) (Elt.row_pl _) f
  refine rlIn cs o n c (lsQ n ws b) b (List.replicate n Bx.zero) ((List.replicate n Bx.zero).set 0 b) hE okL ⟨rfl, ⟨⟨0, (List.replicate n Bx.zero).set 0 b, []⟩, hQ 0 ⟨0, _, []⟩ ⟨Nat.zero_le _, bx0_ok n hb, rfl, Nat.le_refl _, Or.inl ⟨rfl, rfl⟩⟩, trivial, rfl, (by first | (simp only [fLs, ouV, List.map_cons, List.map_nil, rnr, rni, rnv]) | (simp only [fLs, List.map_cons, List.map_nil, rnr, rni]))⟩, hst, ⟨by decide, by omega⟩, ⟨rfl, Int.natCast_nonneg _, by show (n : Int) ≤ _; omega, by show (80 : Int) * (n : Int) ≤ _; omega, hz.symm⟩, hr1, plain1 hpl, hr, hUl, hn, trivial⟩ fun zz hz _ => by_loop (fLs 21 cs o n c (lsQ n ws b)) (lp Try.f26 0) ?_ 0 zz hz
  rintro z ⟨i, r, out⟩ hinv J hJ
  have hinv : i ≤ n ∧ BsOK n r ∧ (r, out) = bxGo 0 (ws.take i) (bx0 n b) ∧ out.length ≤ i ∧ ((z = 0 ∧ out = []) ∨ (z = 1 ∧ out ≠ [])) := hinv
  obtain ⟨k1, k2, k3, k4, k5⟩ := hinv
  have hJ' : ∀ b' zz, (fLs 21 cs o n c (lsQ n ws b)).inv b' zz → ltO ((fLs 21 cs o n c (lsQ n ws b)).mu b' zz) (some (n - i)) → Sat E (mkLp (lp Try.f26 0) J) ((fLs 21 cs o n c (lsQ n ws b)).st b' zz) := fun b' zz h1 h2 => hJ b' zz h1 h2
  have hrl : r.length = n := k2.len
  by_cases hin : i < n
  · have hlt : decide ((i : Int) < (n : Int)) = true := decide_eq_true (by omega)
    obtain ⟨w, hw⟩ : ∃ w, ws[i]? = some w := ⟨_, List.getElem?_eq_getElem (by rw [hlen]; omega)⟩
    have hrd := hr.read1 (P := Try.prog) (ty := 83) (by kernel_rfl) rfl (i := i) (x := w) (by rw [hws]; exact hw) rfl rfl
    rw [← Nat.mul_one i] at hrd
    have htk : ws.take (i + 1) = ws.take i ++ [w] := by rw [List.take_add_one, hw]; rfl
    have ho := right_ok hR w (List.mem_of_getElem? hw)
    have htl : (ws.take i).length = i := by rw [List.length_take, hlen]; omega
    have hmu : n - (i + 1) < n - i := by omega
    obtain ⟨g1, g2⟩ := getB (r := r) (i := i) (by omega)
    have gI := k2.rr _ g1
    have hnx : bxGo 0 (ws.take (i + 1)) (bx0 n b) = bxS i w (r, out) := by rw [htk, bxGo_app, ← k3, htl, Nat.zero_add]; rfl
    have hok := bxS_ok (s := (r, out)) w k2 hin
    cases hl : lfB w
    · obtain ⟨_, d1, d2, d3, d4, d5, d6⟩ := good_inner (hgood i w hw) hl
      obtain ⟨⟨d0, _⟩, _⟩ := inner_bounds ho hl
      have d0b : uF w < 5 := by omega
      rw [hlen] at d5 d6
      obtain ⟨X, hX⟩ := Int.eq_ofNat_of_zero_le (show 0 ≤ uX w by omega)
      obtain ⟨Y, hY⟩ := Int.eq_ofNat_of_zero_le (show 0 ≤ uY w by omega)
      have hun := unp_inner ho hl
      rw [hX, hY] at hun
      have ha1 : Value.int .i64 (IntKind.i64.wrap (low32 w + 1)) = .int .i64 (low32 w + 1) := i64_id rfl (by have := low32_r w; omega) (by have := low32_r w; omega)
      have ml : Value.agg ⟨[.int .i64 (ofLo (maxI ((r.getD i Bx.zero).lo (uF w)) ((r.getD i Bx.zero).lo (uF w))) (minI ((r.getD i Bx.zero).hi (uF w)) (low32 w))), .int .i64 (ofHi (maxI ((r.getD i Bx.zero).lo (uF w)) ((r.getD i Bx.zero).lo (uF w))) (minI ((r.getD i Bx.zero).hi (uF w)) (low32 w)))]⟩ = .agg ⟨[.int .i64 (cutLo ((r.getD i Bx.zero).lo (uF w)) ((r.getD i Bx.zero).hi (uF w)) (low32 w)), .int .i64 (cutHi ((r.getD i Bx.zero).lo (uF w)) ((r.getD i Bx.zero).hi (uF w)) (low32 w))]⟩ := by
        rw [(meet_low _ _ _).1, (meet_low _ _ _).2]
      have mh : Value.agg ⟨[.int .i64 (ofLo (maxI ((r.getD i Bx.zero).lo (uF w)) (low32 w + 1)) (minI ((r.getD i Bx.zero).hi (uF w)) ((r.getD i Bx.zero).hi (uF w)))), .int .i64 (ofHi (maxI ((r.getD i Bx.zero).lo (uF w)) (low32 w + 1)) (minI ((r.getD i Bx.zero).hi (uF w)) ((r.getD i Bx.zero).hi (uF w))))]⟩ = .agg ⟨[.int .i64 (cutLo' ((r.getD i Bx.zero).lo (uF w)) ((r.getD i Bx.zero).hi (uF w)) (low32 w)), .int .i64 (cutHi' ((r.getD i Bx.zero).lo (uF w)) ((r.getD i Bx.zero).hi (uF w)) (low32 w))]⟩ := by
        rw [(meet_high _ _ _).1, (meet_high _ _ _).2]
      have hXY : X ≠ Y := by omega
      have s1 := lsetE (e := eBox) (l := r) (k := X) (f := 0) (o := 0 + X * 10) (x := r.getD i Bx.zero) (vs := (r.getD i Bx.zero).cs) (List.getElem?_eq_getElem (by omega)) (lset_all _ _ rfl) (by show _ = _ * 10 + 0; omega)
      have s2 := lsetE (e := eBox) (l := r.set X (r.getD i Bx.zero)) (k := Y) (f := 0) (o := 0 + Y * 10) (x := r.getD i Bx.zero) (vs := (r.getD i Bx.zero).cs) (List.getElem?_eq_getElem (by rw [List.length_set]; omega)) (lset_all _ _ rfl) (by show _ = _ * 10 + 0; omega)
      have s3 := lsetE (e := eBox) (l := (r.set X (r.getD i Bx.zero)).set Y (r.getD i Bx.zero)) (k := X) (f := (uF w).toNat * 2) (o := 0 + X * 10 + (uF w).toNat * 2) (y := r.getD i Bx.zero) (by rw [List.getElem?_set_ne (by omega), List.getElem?_set_self (by omega)]) (put_set (r.getD i Bx.zero) (cutLo ((r.getD i Bx.zero).lo (uF w)) ((r.getD i Bx.zero).hi (uF w)) (low32 w)) (cutHi ((r.getD i Bx.zero).lo (uF w)) ((r.getD i Bx.zero).hi (uF w)) (low32 w)) d0 d0b) (by show _ = _ * 10 + _; omega)
      have s4 := lsetE (e := eBox) (l := (((r.set X (r.getD i Bx.zero)).set Y (r.getD i Bx.zero)).set X ((r.getD i Bx.zero).put (uF w) (cutLo ((r.getD i Bx.zero).lo (uF w)) ((r.getD i Bx.zero).hi (uF w)) (low32 w)) (cutHi ((r.getD i Bx.zero).lo (uF w)) ((r.getD i Bx.zero).hi (uF w)) (low32 w))))) (k := Y) (f := (uF w).toNat * 2) (o := 0 + Y * 10 + (uF w).toNat * 2) (y := r.getD i Bx.zero) (by rw [List.getElem?_set_ne (by omega), List.getElem?_set_self (by rw [List.length_set]; omega)]) (put_set (r.getD i Bx.zero) (cutLo' ((r.getD i Bx.zero).lo (uF w)) ((r.getD i Bx.zero).hi (uF w)) (low32 w)) (cutHi' ((r.getD i Bx.zero).lo (uF w)) ((r.getD i Bx.zero).hi (uF w)) (low32 w)) d0 d0b) (by show _ = _ * 10 + _; omega)
      rw [← (low_put (r.getD i Bx.zero) (low32 w) d0 d0b).1] at s4 s3
      rw [← (low_put (r.getD i Bx.zero) (low32 w) d0 d0b).2] at s4
      rw [show (((r.set X (r.getD i Bx.zero)).set Y (r.getD i Bx.zero)).set X ((r.getD i Bx.zero).low (uF w) (low32 w))).set Y ((r.getD i Bx.zero).high (uF w) (low32 w)) = (r.set X ((r.getD i Bx.zero).low (uF w) (low32 w))).set Y ((r.getD i Bx.zero).high (uF w) (low32 w)) by rw [List.set_comm _ _ hXY.symm, List.set_set, List.set_set]] at s4
      have hdS : bxS i w (r, out) = ((r.set X ((r.getD i Bx.zero).low (uF w) (low32 w))).set Y ((r.getD i Bx.zero).high (uF w) (low32 w)), out) := by
        simp only [bxS, hl, cond_false, hX, hY, Int.toNat_natCast]
      rw [hdS] at hnx hok
      rcases k5 with ⟨rfl, ko⟩ | ⟨rfl, ko⟩
      · subst ko
        exact rlI0 cs o n c (lsQ n ws b) i r (r.getD i Bx.zero) (r.getD i Bx.zero) (r.getD i Bx.zero) _ _ _ _ w (uF w) (low32 w) X Y _ _ _ _ _ _ J hE okL ⟨rfl, ⟨⟨i + 1, _, []⟩, hQ 0 ⟨i + 1, _, []⟩ ⟨hin, hok, hnx.symm, (by simp only [List.length_nil] at *; show _ ≤ i + 1; first | omega | exact Nat.zero_le _), Or.inl ⟨rfl, rfl⟩⟩, hmu, rfl, (by first | (simp only [fLs, ouV, List.map_cons, List.map_nil, rnr, rni, rnv]) | (simp only [fLs, List.map_cons, List.map_nil, rnr, rni]))⟩, i64_succ (by omega), s4, ⟨d0, d0b⟩, ⟨Int.natCast_nonneg _, Int.ofNat_lt.2 (by omega)⟩, mh, ha1, s3, ⟨d0, d0b⟩, ⟨Int.natCast_nonneg _, Int.ofNat_lt.2 (by omega)⟩, ml, s2, ⟨Int.natCast_nonneg _, Int.ofNat_lt.2 (by omega)⟩, s1, ⟨Int.natCast_nonneg _, Int.ofNat_lt.2 (by omega)⟩, read_row (e := eBox) (by kernel_rfl) (by kernel_rfl) g2, ⟨Int.natCast_nonneg _, Int.ofNat_lt.2 hin⟩, read_row (e := eBox) (by kernel_rfl) (by kernel_rfl) g2, ⟨Int.natCast_nonneg _, Int.ofNat_lt.2 hin⟩, span_read g2 d0 d0b, ⟨d0, d0b⟩, ⟨Int.natCast_nonneg _, Int.ofNat_lt.2 hin⟩, hun, hU w (List.mem_of_getElem? hw), hrd, ⟨Int.natCast_nonneg _, Int.ofNat_lt.2 hin⟩, hlt, trivial⟩ (hJ' 0)
      · exact rlI1 cs o n c (lsQ n ws b) i r out (r.getD i Bx.zero) (r.getD i Bx.zero) (r.getD i Bx.zero) _ _ _ _ w (uF w) (low32 w) X Y _ _ _ _ _ _ J hE okL ⟨rfl, ⟨⟨i + 1, _, out⟩, hQ 1 ⟨i + 1, _, out⟩ ⟨hin, hok, hnx.symm, (by simp only [List.length_nil] at *; show _ ≤ i + 1; first | omega | exact Nat.zero_le _), Or.inr ⟨rfl, ko⟩⟩, hmu, rfl, (by first | (simp only [fLs, ouV, List.map_cons, List.map_nil, rnr, rni, rnv]) | (simp only [fLs, List.map_cons, List.map_nil, rnr, rni]))⟩, i64_succ (by omega), s4, ⟨d0, d0b⟩, ⟨Int.natCast_nonneg _, Int.ofNat_lt.2 (by omega)⟩, mh, ha1, s3, ⟨d0, d0b⟩, ⟨Int.natCast_nonneg _, Int.ofNat_lt.2 (by omega)⟩, ml, s2, ⟨Int.natCast_nonneg _, Int.ofNat_lt.2 (by omega)⟩, s1, ⟨Int.natCast_nonneg _, Int.ofNat_lt.2 (by omega)⟩, read_row (e := eBox) (by kernel_rfl) (by kernel_rfl) g2, ⟨Int.natCast_nonneg _, Int.ofNat_lt.2 hin⟩, read_row (e := eBox) (by kernel_rfl) (by kernel_rfl) g2, ⟨Int.natCast_nonneg _, Int.ofNat_lt.2 hin⟩, span_read g2 d0 d0b, ⟨d0, d0b⟩, ⟨Int.natCast_nonneg _, Int.ofNat_lt.2 hin⟩, hun, hU w (List.mem_of_getElem? hw), hrd, ⟨Int.natCast_nonneg _, Int.ofNat_lt.2 hin⟩, hlt, trivial⟩ (hJ' 1)
    · cases he : (r.getD i Bx.zero).emp
      · have hdS : bxS i w (r, out) = (r, out ++ [⟨r.getD i Bx.zero, low32 w⟩]) := by simp only [bxS, hl, he, cond_true, cond_false]
        rw [hdS] at hnx hok
        rcases k5 with ⟨rfl, ko⟩ | ⟨rfl, ko⟩
        · subst ko
          exact rlF0 cs o n c (lsQ n ws b) i r (r.getD i Bx.zero) [(⟨r.getD i Bx.zero, low32 w⟩ : Pc)] w (low32 w) J hE okL ⟨rfl, ⟨⟨i + 1, r, [(⟨r.getD i Bx.zero, low32 w⟩ : Pc)]⟩, hQ 1 ⟨i + 1, r, [(⟨r.getD i Bx.zero, low32 w⟩ : Pc)]⟩ ⟨hin, hok, hnx.symm, (by simp; try omega), Or.inr ⟨rfl, by simp⟩⟩, hmu, rfl, (by first | (simp only [fLs, ouV, List.map_cons, List.map_nil, rnr, rni, rnv]) | (simp only [fLs, List.map_cons, List.map_nil, rnr, rni]))⟩, i64_succ (by omega), appOK_nil (e := ePc) (new := [(⟨r.getD i Bx.zero, low32 w⟩ : Pc)]) rfl rfl rfl rfl (by decide) (by decide) (by decide), read_row (e := eBox) (by kernel_rfl) (by kernel_rfl) g2, ⟨Int.natCast_nonneg _, Int.ofNat_lt.2 hin⟩, (congrArg Value.bool he), read_row (e := eBox) (by kernel_rfl) (by kernel_rfl) g2, ⟨Int.natCast_nonneg _, Int.ofNat_lt.2 hin⟩, unp_leaf ho hl, hU w (List.mem_of_getElem? hw), hrd, ⟨Int.natCast_nonneg _, Int.ofNat_lt.2 hin⟩, hlt, trivial⟩ (hJ' 1)
        · exact rlF1 cs o n c (lsQ n ws b) i r out (r.getD i Bx.zero) (out ++ [(⟨r.getD i Bx.zero, low32 w⟩ : Pc)]) w (low32 w) J hE okL ⟨rfl, ⟨⟨i + 1, r, (out ++ [(⟨r.getD i Bx.zero, low32 w⟩ : Pc)])⟩, hQ 1 ⟨i + 1, r, (out ++ [(⟨r.getD i Bx.zero, low32 w⟩ : Pc)])⟩ ⟨hin, hok, hnx.symm, (by simp; try omega), Or.inr ⟨rfl, by simp⟩⟩, hmu, (by simp [fLs, ouV]; first | rfl | exact ⟨rfl, rfl, rfl, rfl, rfl⟩), (by first | (simp only [fLs, ouV, List.map_cons, List.map_nil, rnr, rni, rnv]) | (simp only [fLs, List.map_cons, List.map_nil, rnr, rni]))⟩, i64_succ (by omega), appOK (e := ePc) (L := out) (new := [(⟨r.getD i Bx.zero, low32 w⟩ : Pc)]) rfl rfl rfl rfl (Nat.le_refl _) (by simp) (by decide) (by omega) (by omega), read_row (e := eBox) (by kernel_rfl) (by kernel_rfl) g2, ⟨Int.natCast_nonneg _, Int.ofNat_lt.2 hin⟩, (congrArg Value.bool he), read_row (e := eBox) (by kernel_rfl) (by kernel_rfl) g2, ⟨Int.natCast_nonneg _, Int.ofNat_lt.2 hin⟩, unp_leaf ho hl, hU w (List.mem_of_getElem? hw), hrd, ⟨Int.natCast_nonneg _, Int.ofNat_lt.2 hin⟩, hlt, trivial⟩ (hJ' 1)
      · have hdS : bxS i w (r, out) = (r, out) := by simp only [bxS, hl, he, cond_true]
        rw [hdS] at hnx hok
        rcases k5 with ⟨rfl, ko⟩ | ⟨rfl, ko⟩
        · subst ko
          exact rlE0 cs o n c (lsQ n ws b) i r (r.getD i Bx.zero) w (low32 w) J hE okL ⟨rfl, ⟨⟨i + 1, r, []⟩, hQ 0 ⟨i + 1, r, []⟩ ⟨hin, hok, hnx.symm, (by simp only [List.length_nil] at *; show _ ≤ i + 1; first | omega | exact Nat.zero_le _), Or.inl ⟨rfl, rfl⟩⟩, hmu, rfl, (by first | (simp only [fLs, ouV, List.map_cons, List.map_nil, rnr, rni, rnv]) | (simp only [fLs, List.map_cons, List.map_nil, rnr, rni]))⟩, i64_succ (by omega), (congrArg Value.bool he), read_row (e := eBox) (by kernel_rfl) (by kernel_rfl) g2, ⟨Int.natCast_nonneg _, Int.ofNat_lt.2 hin⟩, unp_leaf ho hl, hU w (List.mem_of_getElem? hw), hrd, ⟨Int.natCast_nonneg _, Int.ofNat_lt.2 hin⟩, hlt, trivial⟩ (hJ' 0)
        · exact rlE1 cs o n c (lsQ n ws b) i r out (r.getD i Bx.zero) w (low32 w) J hE okL ⟨rfl, ⟨⟨i + 1, r, out⟩, hQ 1 ⟨i + 1, r, out⟩ ⟨hin, hok, hnx.symm, (by simp only [List.length_nil] at *; show _ ≤ i + 1; first | omega | exact Nat.zero_le _), Or.inr ⟨rfl, ko⟩⟩, hmu, rfl, (by first | (simp only [fLs, ouV, List.map_cons, List.map_nil, rnr, rni, rnv]) | (simp only [fLs, List.map_cons, List.map_nil, rnr, rni]))⟩, i64_succ (by omega), (congrArg Value.bool he), read_row (e := eBox) (by kernel_rfl) (by kernel_rfl) g2, ⟨Int.natCast_nonneg _, Int.ofNat_lt.2 hin⟩, unp_leaf ho hl, hU w (List.mem_of_getElem? hw), hrd, ⟨Int.natCast_nonneg _, Int.ofNat_lt.2 hin⟩, hlt, trivial⟩ (hJ' 1)
  · obtain rfl : i = n := by omega
    rw [List.take_of_length_le (by omega)] at k3
    have hp : pcsI ws b = out := by unfold pcsI; rw [hlen, ← k3]
    rcases k5 with ⟨rfl, ko⟩ | ⟨rfl, ko⟩
    · rw [ko]
      exact hX0 (by rw [hp, ko]) r J
    · have := hX1 (by rw [hp]; exact ko) r J
      rw [hp] at this
      exact this

end Go.Proofs.Ythbaccmhdffjdaa.Tr


set_option linter.unusedVariables false
set_option linter.unusedSimpArgs false
set_option maxRecDepth 100000
namespace Go.Proofs.Ythbaccmhdffjdaa.Tr
open Go Go.RowKit Go.Proofs.Ythbaccmhdffjdaa.Ev Go.Proofs.Ythbaccmhdffjdaa.NodeE Go.Proofs.Ythbaccmhdffjdaa.Tr Go.Proofs.Ythbaccmhdffjdaa.BoxF

theorem ls_nil (cs : List Value) (o n c : Nat) (b : Bx) (hr : eWord.Row cs o n) (hpl : ∀ x ∈ cs, leafG x = true) (hU : ∀ w ∈ eWord.list cs o n, U64 w) (hn : n ≤ 65536) (hb : b.I64s) (hp : listP (eWord.list cs o n) b = []) :
    CallSpec Try.prog 23 [.slice (some ⟨0, o, none⟩) n c, .agg ⟨b.cs⟩] (roRows [cs]) 1 (.slice none 0 0) (assocN [] []) := by
  refine spec_of_sat Try.func23 rfl fun E hE => ?_
  cases hR : rightI (eWord.list cs o n) 4
  · exact lsNo cs o n c b hE ⟨⟨rfl, rfl⟩, (congrArg Value.bool hR), plain1 hpl, hr, hU, hn, trivial⟩
  cases hem : b.emp
  · have hP : pcsI (eWord.list cs o n) b = [] := by simpa only [listP, hR, hem, Bool.true_and, Bool.not_false, Bool.not_true, Bool.and_true, Bool.and_false, cond_true, cond_false] using hp
    exact ls_loop hr hpl hU hn hR hb hem hE (fun _ r J => lsX0 cs o n c (lsQ n (eWord.list cs o n) b) n r J hE ⟨⟨rfl, rfl⟩, decide_eq_false (by omega), trivial⟩) fun h => absurd hP h
  · exact lsEm cs o n c b hE ⟨⟨rfl, rfl⟩, (congrArg Value.bool hem), (congrArg Value.bool hR), plain1 hpl, hr, hU, hn, trivial⟩
theorem ls_row (cs : List Value) (o n c : Nat) (b : Bx) (hr : eWord.Row cs o n) (hpl : ∀ x ∈ cs, leafG x = true) (hU : ∀ w ∈ eWord.list cs o n, U64 w) (hn : n ≤ 65536) (hb : b.I64s) (hp : listP (eWord.list cs o n) b ≠ []) :
    CallSpec Try.prog 23 [.slice (some ⟨0, o, none⟩) n c, .agg ⟨b.cs⟩] (roRows [cs]) 1 (.slice (some ⟨100, 0, none⟩) (listP (eWord.list cs o n) b).length mk) (assocN [100] [.vec (ePc.row (listP (eWord.list cs o n) b)) 27 11]) := by
  refine spec_of_sat Try.func23 rfl fun E hE => ?_
  have hRe : rightI (eWord.list cs o n) 4 = true ∧ b.emp = false := by
    cases hR : rightI (eWord.list cs o n) 4
    · exact absurd (by simp only [listP, hR, Bool.false_and, cond_false]) hp
    · cases hem : b.emp
      · exact ⟨rfl, rfl⟩
      · exact absurd (by simp only [listP, hem, Bool.not_true, Bool.and_false, cond_false]) hp
  obtain ⟨hR, hem⟩ := hRe
  have hP : listP (eWord.list cs o n) b = pcsI (eWord.list cs o n) b := by simp only [listP, hR, hem, Bool.true_and, Bool.not_false, Bool.not_true, Bool.and_true, Bool.and_false, cond_true, cond_false]
  rw [hP] at hE hp
  exact ls_loop hr hpl hU hn hR hb hem hE (fun h => absurd h hp) fun _ r J => lsX1 cs o n c (lsQ n (eWord.list cs o n) b) n r (pcsI (eWord.list cs o n) b) J hE ⟨⟨rfl, by simp only [List.map_cons, List.map_nil]; exact congrArg (· :: []) (Blk.plain.rnB (b := .vec (ePc.row (pcsI (eWord.list cs o n) b)) 27 11) (Elt.row_pl _) _).symm⟩, decide_eq_false (by omega), trivial⟩
/-- K: are there pieces? -/
def ls_F (K : Bool) (PL : List Int → Bx → List Pc) : RoF := fun xs css => match xs, css with
  | [.slice (some ⟨0, o, none⟩) n c, .agg ⟨[.int .i64 a0, .int .i64 b0, .int .i64 a1, .int .i64 b1, .int .i64 a2, .int .i64 b2, .int .i64 a3, .int .i64 b3, .int .i64 a4, .int .i64 b4]⟩], [cs] => match K with
    | true => some (.slice (some ⟨100, 0, none⟩) (PL (eWord.list cs o n) ⟨a0, b0, a1, b1, a2, b2, a3, b3, a4, b4⟩).length mk, [.vec (ePc.row (PL (eWord.list cs o n) ⟨a0, b0, a1, b1, a2, b2, a3, b3, a4, b4⟩)) 27 11], [PL = listP, PL (eWord.list cs o n) ⟨a0, b0, a1, b1, a2, b2, a3, b3, a4, b4⟩ ≠ [], eWord.Row cs o n, ∀ w ∈ eWord.list cs o n, U64 w, n ≤ 65536, Bx.I64s ⟨a0, b0, a1, b1, a2, b2, a3, b3, a4, b4⟩])
    | false => some (.slice none 0 0, [], [PL = listP, PL (eWord.list cs o n) ⟨a0, b0, a1, b1, a2, b2, a3, b3, a4, b4⟩ = [], eWord.Row cs o n, ∀ w ∈ eWord.list cs o n, U64 w, n ≤ 65536, Bx.I64s ⟨a0, b0, a1, b1, a2, b2, a3, b3, a4, b4⟩])
  | [.slice none 0 0, .agg ⟨[.int .i64 a0, .int .i64 b0, .int .i64 a1, .int .i64 b1, .int .i64 a2, .int .i64 b2, .int .i64 a3, .int .i64 b3, .int .i64 a4, .int .i64 b4]⟩], [] => some (.slice none 0 0, [], [])
  | _, _ => none
theorem ls_sum (K : Bool) (PL : List Int → Bx → List Pc) : SumOK Try.prog 23 (roSum (ls_F K PL)) := by
  refine roSum_ok (en Try.func23 rfl) ?_ (fun xs css r h => ?_)
  · intro xs css v blks ob h hob hpl hl
    unfold ls_F at h
    split at h
    · rename_i o n c a0 b0 a1 b1 a2 b2 a3 b3 a4 b4 cs
      cases K
      · simp only [Option.some.injEq, Prod.mk.injEq] at h
        obtain ⟨rfl, rfl, rfl⟩ := h
        obtain rfl : PL = listP := hob _ (List.mem_cons_self ..)
        refine ⟨by simp, by simp, fun j hj => by simp [nms, nm1, nmL, nm0] at hj, ?_⟩
        exact ls_nil cs o n c ⟨a0, b0, a1, b1, a2, b2, a3, b3, a4, b4⟩ (hob _ (by simp)) (hpl cs (by simp)) (hob _ (List.mem_cons_of_mem _ (List.mem_cons_of_mem _ (List.mem_cons_of_mem _ (List.mem_cons_self ..))))) (hob _ (by simp)) (hob _ (by simp)) (hob _ (List.mem_cons_of_mem _ (List.mem_cons_self ..)))
      · simp only [Option.some.injEq, Prod.mk.injEq] at h
        obtain ⟨rfl, rfl, rfl⟩ := h
        obtain rfl : PL = listP := hob _ (List.mem_cons_self ..)
        refine ⟨by simp, fun x hx => by simp at hx; subst hx; exact ⟨Elt.row_pl _, rfl⟩, fun j hj => by simp [nms, nm1, nm0] at hj; subst hj; simp, ?_⟩
        exact ls_row cs o n c ⟨a0, b0, a1, b1, a2, b2, a3, b3, a4, b4⟩ (hob _ (by simp)) (hpl cs (by simp)) (hob _ (List.mem_cons_of_mem _ (List.mem_cons_of_mem _ (List.mem_cons_of_mem _ (List.mem_cons_self ..))))) (hob _ (by simp)) (hob _ (by simp)) (hob _ (List.mem_cons_of_mem _ (List.mem_cons_self ..)))
    · rename_i a0 b0 a1 b1 a2 b2 a3 b3 a4 b4
      simp only [Option.some.injEq, Prod.mk.injEq] at h
      obtain ⟨rfl, rfl, rfl⟩ := h
      refine ⟨by simp, by simp, fun j hj => by simp [nms, nm1, nmL, nm0] at hj, ?_⟩
      exact spec_of_sat Try.func23 rfl fun E hE => lsNil ⟨a0, b0, a1, b1, a2, b2, a3, b3, a4, b4⟩ hE ⟨⟨rfl, rfl⟩, (fun x hx => by simp at hx), trivial⟩
    · simp at h
  · unfold ls_F at h
    split at h
    · cases K <;> simp at h <;> simp
    all_goals (simp at h <;> simp)

theorem rl_nil (cs : List Value) (o n c : Nat) (b : Bx) (hr : eWord.Row cs o n) (hpl : ∀ x ∈ cs, leafG x = true) (hU : ∀ w ∈ eWord.list cs o n, U64 w) (hn : n ≤ 65536) (hb : b.I64s) (hp : rlvP (eWord.list cs o n) b = []) :
    CallSpec Try.prog 26 [.slice (some ⟨0, o, none⟩) n c, .agg ⟨b.cs⟩] (roRows [cs]) 1 (.slice none 0 0) (assocN [] []) := by
  refine spec_of_sat Try.func26 rfl fun E hE => ?_
  cases hR : rightI (eWord.list cs o n) 4
  · exact rlNo cs o n c b hE ⟨⟨rfl, rfl⟩, (congrArg Value.bool hR), plain1 hpl, hr, hU, hn, trivial⟩
  · have hP : pcsI (eWord.list cs o n) b = [] := by simpa only [rlvP, hR, cond_true] using hp
    exact rl_loop hr hpl hU hn hR hb hE (fun _ r J => rlX0 cs o n c (lsQ n (eWord.list cs o n) b) n r J hE ⟨⟨rfl, rfl⟩, decide_eq_false (by omega), trivial⟩) fun h => absurd hP h
theorem rl_row (cs : List Value) (o n c : Nat) (b : Bx) (hr : eWord.Row cs o n) (hpl : ∀ x ∈ cs, leafG x = true) (hU : ∀ w ∈ eWord.list cs o n, U64 w) (hn : n ≤ 65536) (hb : b.I64s) (hp : rlvP (eWord.list cs o n) b ≠ []) :
    CallSpec Try.prog 26 [.slice (some ⟨0, o, none⟩) n c, .agg ⟨b.cs⟩] (roRows [cs]) 1 (.slice (some ⟨100, 0, none⟩) (rlvP (eWord.list cs o n) b).length mk) (assocN [100] [.vec (ePc.row (rlvP (eWord.list cs o n) b)) 27 11]) := by
  refine spec_of_sat Try.func26 rfl fun E hE => ?_
  have hR : rightI (eWord.list cs o n) 4 = true := by
    cases hR : rightI (eWord.list cs o n) 4
    · exact absurd (by simp only [rlvP, hR, cond_false]) hp
    · rfl
  have hP : rlvP (eWord.list cs o n) b = pcsI (eWord.list cs o n) b := by simp only [rlvP, hR, cond_true]
  rw [hP] at hE hp
  exact rl_loop hr hpl hU hn hR hb hE (fun h => absurd h hp) fun _ r J => rlX1 cs o n c (lsQ n (eWord.list cs o n) b) n r (pcsI (eWord.list cs o n) b) J hE ⟨⟨rfl, by simp only [List.map_cons, List.map_nil]; exact congrArg (· :: []) (Blk.plain.rnB (b := .vec (ePc.row (pcsI (eWord.list cs o n) b)) 27 11) (Elt.row_pl _) _).symm⟩, decide_eq_false (by omega), trivial⟩
/-- K: are there pieces? -/
def rl_F (K : Bool) (PL : List Int → Bx → List Pc) : RoF := fun xs css => match xs, css with
  | [.slice (some ⟨0, o, none⟩) n c, .agg ⟨[.int .i64 a0, .int .i64 b0, .int .i64 a1, .int .i64 b1, .int .i64 a2, .int .i64 b2, .int .i64 a3, .int .i64 b3, .int .i64 a4, .int .i64 b4]⟩], [cs] => match K with
    | true => some (.slice (some ⟨100, 0, none⟩) (PL (eWord.list cs o n) ⟨a0, b0, a1, b1, a2, b2, a3, b3, a4, b4⟩).length mk, [.vec (ePc.row (PL (eWord.list cs o n) ⟨a0, b0, a1, b1, a2, b2, a3, b3, a4, b4⟩)) 27 11], [PL = rlvP, PL (eWord.list cs o n) ⟨a0, b0, a1, b1, a2, b2, a3, b3, a4, b4⟩ ≠ [], eWord.Row cs o n, ∀ w ∈ eWord.list cs o n, U64 w, n ≤ 65536, Bx.I64s ⟨a0, b0, a1, b1, a2, b2, a3, b3, a4, b4⟩])
    | false => some (.slice none 0 0, [], [PL = rlvP, PL (eWord.list cs o n) ⟨a0, b0, a1, b1, a2, b2, a3, b3, a4, b4⟩ = [], eWord.Row cs o n, ∀ w ∈ eWord.list cs o n, U64 w, n ≤ 65536, Bx.I64s ⟨a0, b0, a1, b1, a2, b2, a3, b3, a4, b4⟩])
  | [.slice none 0 0, .agg ⟨[.int .i64 a0, .int .i64 b0, .int .i64 a1, .int .i64 b1, .int .i64 a2, .int .i64 b2, .int .i64 a3, .int .i64 b3, .int .i64 a4, .int .i64 b4]⟩], [] => some (.slice none 0 0, [], [])
  | _, _ => none
theorem rl_sum (K : Bool) (PL : List Int → Bx → List Pc) : SumOK Try.prog 26 (roSum (rl_F K PL)) := by
  refine roSum_ok (en Try.func26 rfl) ?_ (fun xs css r h => ?_)
  · intro xs css v blks ob h hob hpl hl
    unfold rl_F at h
    split at h
    · rename_i o n c a0 b0 a1 b1 a2 b2 a3 b3 a4 b4 cs
      cases K
      · simp only [Option.some.injEq, Prod.mk.injEq] at h
        obtain ⟨rfl, rfl, rfl⟩ := h
        obtain rfl : PL = rlvP := hob _ (List.mem_cons_self ..)
        refine ⟨by simp, by simp, fun j hj => by simp [nms, nm1, nmL, nm0] at hj, ?_⟩
        exact rl_nil cs o n c ⟨a0, b0, a1, b1, a2, b2, a3, b3, a4, b4⟩ (hob _ (by simp)) (hpl cs (by simp)) (hob _ (List.mem_cons_of_mem _ (List.mem_cons_of_mem _ (List.mem_cons_of_mem _ (List.mem_cons_self ..))))) (hob _ (by simp)) (hob _ (by simp)) (hob _ (List.mem_cons_of_mem _ (List.mem_cons_self ..)))
      · simp only [Option.some.injEq, Prod.mk.injEq] at h
        obtain ⟨rfl, rfl, rfl⟩ := h
        obtain rfl : PL = rlvP := hob _ (List.mem_cons_self ..)
        refine ⟨by simp, fun x hx => by simp at hx; subst hx; exact ⟨Elt.row_pl _, rfl⟩, fun j hj => by simp [nms, nm1, nm0] at hj; subst hj; simp, ?_⟩
        exact rl_row cs o n c ⟨a0, b0, a1, b1, a2, b2, a3, b3, a4, b4⟩ (hob _ (by simp)) (hpl cs (by simp)) (hob _ (List.mem_cons_of_mem _ (List.mem_cons_of_mem _ (List.mem_cons_of_mem _ (List.mem_cons_self ..))))) (hob _ (by simp)) (hob _ (by simp)) (hob _ (List.mem_cons_of_mem _ (List.mem_cons_self ..)))
    · rename_i a0 b0 a1 b1 a2 b2 a3 b3 a4 b4
      simp only [Option.some.injEq, Prod.mk.injEq] at h
      obtain ⟨rfl, rfl, rfl⟩ := h
      refine ⟨by simp, by simp, fun j hj => by simp [nms, nm1, nmL, nm0] at hj, ?_⟩
      exact spec_of_sat Try.func26 rfl fun E hE => rlNil ⟨a0, b0, a1, b1, a2, b2, a3, b3, a4, b4⟩ hE ⟨⟨rfl, rfl⟩, (fun x hx => by simp at hx), trivial⟩
    · simp at h
  · unfold rl_F at h
    split at h
    · cases K <;> simp at h <;> simp
    all_goals (simp at h <;> simp)

end Go.Proofs.Ythbaccmhdffjdaa.Tr


set_option linter.unusedVariables false
set_option linter.unusedSimpArgs false
set_option maxRecDepth 100000
namespace Go.Proofs.Ythbaccmhdffjdaa.SamePc
open Go Go.RowKit Go.Proofs.Ythbaccmhdffjdaa.Ev 
def sL (cs ds : List Value) (o n c p m d : Nat) : LoopF Nat where
  ts _ := [0, 1, 5]
  hs _ := [0, 1]
  tv _ i := [.slice (some ⟨0, o, none⟩) n c, .slice (some ⟨1, p, none⟩) m d, .int .i64 (i : Int)]
  hv _ _ := [.ro cs, .ro ds]
  inv _ i := i ≤ n ∧ n = m ∧ n ≤ 9223372036854775806 ∧ ((ePc.list cs o n).take i = (ePc.list ds p m).take i)
  mu _ i := n - i
  nx := 2
theorem sL_ok (cs ds : List Value) (o n c p m d : Nat) (h1 : ∀ x ∈ cs, leafG x = true) (h2 : ∀ x ∈ ds, leafG x = true) : (sL cs ds o n c p m d).OK 2 := by
  refine ⟨Nat.le_refl _, fun b i h k hk => ?_, fun b i h v hv k hk => ?_, fun b i h x hx => ?_⟩
  · simp [sL] at hk
    show k < 2
    omega
  · simp [sL] at hv
    show k < 2
    rcases hv with rfl | rfl | rfl <;> simp [nms, nm1, nm0] at hk <;> omega
  · simp [sL] at hx
    rcases hx with rfl | rfl
    · exact Blk.plain.namesLt (b := .ro cs) h1 _
    · exact Blk.plain.namesLt (b := .ro ds) h2 _
end Go.Proofs.Ythbaccmhdffjdaa.SamePc


set_option linter.unusedVariables false
set_option linter.unusedSimpArgs false
set_option maxRecDepth 100000
namespace Go.Proofs.Ythbaccmhdffjdaa.SamePc
open Go Go.RowKit Go.Proofs.Ythbaccmhdffjdaa.Ev  Go.Proofs.Ythbaccmhdffjdaa.SamePc
theorem sNN (u : Unit)  {E : Env} (hE : EnvOK E Try.prog Try.f15 2 0 (.bool true) [] []) (hob : all ([Back (Value.bool true) (Value.bool true) [] [] []])) : Sat E [.code (bodyOf Try.f15)] (st0 Try.f15 [.slice none 0 0, .slice none 0 0] (roRows []) 0) :=
  by_ret (T := auto0 t_none) (h := hints []) (ws := []) (nx' := 0) hE hm (auto0_ok t_none_ok) (by omega) (by simp) (by simp) (by kernel_rfl) hob
theorem sNS0 (ds : List Value) (p m d : Nat)  {E : Env} (hE : EnvOK E Try.prog Try.f15 2 1 (.bool true) [] []) (hob : all ([Back (Value.bool true) (Value.bool true) [] [] [], ((0 : Int) != (m : Int)) = false])) : Sat E [.code (bodyOf Try.f15)] (st0 Try.f15 [.slice none 0 0, .slice (some ⟨0, p, none⟩) m d] (roRows [ds]) 1) :=
  by_ret (T := auto0 t_none) (h := hints []) (ws := [.b false]) (nx' := 1) hE hm (auto0_ok t_none_ok) (by omega) (by simp) (by simp) (by kernel_rfl) hob
theorem sNS1 (ds : List Value) (p m d : Nat)  {E : Env} (hE : EnvOK E Try.prog Try.f15 2 1 (.bool false) [] []) (hob : all ([Back (Value.bool false) (Value.bool false) [] [] [], ((0 : Int) != (m : Int)) = true])) : Sat E [.code (bodyOf Try.f15)] (st0 Try.f15 [.slice none 0 0, .slice (some ⟨0, p, none⟩) m d] (roRows [ds]) 1) :=
  by_ret (T := auto0 t_none) (h := hints []) (ws := [.b true]) (nx' := 1) hE hm (auto0_ok t_none_ok) (by omega) (by simp) (by simp) (by kernel_rfl) hob
theorem sSN0 (cs : List Value) (o n c : Nat)  {E : Env} (hE : EnvOK E Try.prog Try.f15 2 1 (.bool true) [] []) (hob : all ([Back (Value.bool true) (Value.bool true) [] [] [], decide (0 < (↑n : Int)) = false, ((n : Int) != (0 : Int)) = false])) : Sat E [.code (bodyOf Try.f15)] (st0 Try.f15 [.slice (some ⟨0, o, none⟩) n c, .slice none 0 0] (roRows [cs]) 1) :=
  by_ret (T := auto0 t_none) (h := hints []) (ws := [.b false, .go, .b false]) (nx' := 1) hE hm (auto0_ok t_none_ok) (by omega) (by simp) (by simp) (by kernel_rfl) hob
theorem sSN1 (cs : List Value) (o n c : Nat)  {E : Env} (hE : EnvOK E Try.prog Try.f15 2 1 (.bool false) [] []) (hob : all ([Back (Value.bool false) (Value.bool false) [] [] [], ((n : Int) != (0 : Int)) = true])) : Sat E [.code (bodyOf Try.f15)] (st0 Try.f15 [.slice (some ⟨0, o, none⟩) n c, .slice none 0 0] (roRows [cs]) 1) :=
  by_ret (T := auto0 t_none) (h := hints []) (ws := [.b true]) (nx' := 1) hE hm (auto0_ok t_none_ok) (by omega) (by simp) (by simp) (by kernel_rfl) hob
theorem sLen (cs ds : List Value) (o n c p m d : Nat)  {E : Env} (hE : EnvOK E Try.prog Try.f15 2 2 (.bool false) [] []) (hob : all ([Back (Value.bool false) (Value.bool false) [] [] [], ((n : Int) != (m : Int)) = true])) : Sat E [.code (bodyOf Try.f15)] (st0 Try.f15 [.slice (some ⟨0, o, none⟩) n c, .slice (some ⟨1, p, none⟩) m d] (roRows [cs, ds]) 2) :=
  by_ret (T := auto0 t_none) (h := hints []) (ws := [.b true]) (nx' := 2) hE hm (auto0_ok t_none_ok) (by omega) (by simp) (by simp) (by kernel_rfl) hob
theorem sIn (cs ds : List Value) (o n c p m d : Nat)  {E : Env} {rv : Value} {rhs : List Nat} {rhv : List Blk} (hE : EnvOK E Try.prog Try.f15 2 2 rv rhs rhv) (hL : (sL cs ds o n c p m d).OK 2) (hob : all ([SameK (atLp (lp Try.f15 0)) (atLp (lp Try.f15 0)), Enter (sL cs ds o n c p m d) 0 none [Value.slice (some (Addr.mk 0 o none)) n c, Value.slice (some (Addr.mk 1 p none)) m d, Value.int IntKind.i64 ((0 : Int))] [Blk.ro cs, Blk.ro ds] [(0, 0), (1, 1)], ((n : Int) != (m : Int)) = false])) (hK : ∀ zz, (sL cs ds o n c p m d).inv 0 zz → ltO ((sL cs ds o n c p m d).mu 0 zz) none → Sat E (atLp (lp Try.f15 0)) ((sL cs ds o n c p m d).st 0 zz)) : Sat E [.code (bodyOf Try.f15)] (st0 Try.f15 [.slice (some ⟨0, o, none⟩) n c, .slice (some ⟨1, p, none⟩) m d] (roRows [cs, ds]) 2) :=
  by_to (T := auto0 t_none) (h := hints []) (ws := [.b false, .stop]) (i0 := 0) hE hm (auto0_ok t_none_ok) hL (by kernel_rfl) hob hK
theorem sEnd (cs ds : List Value) (o n c p m d : Nat) (i : Nat) (J : Act → World → Prop) {E : Env} (hE : EnvOK E Try.prog Try.f15 2 2 (.bool true) [] []) (hob : all ([Back (Value.bool true) (Value.bool true) [] [] [], decide ((↑i : Int) < (↑n : Int)) = false])) : Sat E (inLp (lp Try.f15 0) J) ((sL cs ds o n c p m d).st 0 i) :=
  by_ret (T := auto0 t_none) (h := hints []) (ws := [.b false]) (nx' := 2) hE hm (auto0_ok t_none_ok) (by omega) (by simp) (by simp) (by kernel_rfl) hob
theorem sDiff (cs ds : List Value) (o n c p m d : Nat) (i : Nat) (xa0 : Int) (xb0 : Int) (xa1 : Int) (xb1 : Int) (xa2 : Int) (xb2 : Int) (xa3 : Int) (xb3 : Int) (xa4 : Int) (xb4 : Int) (xv : Int) (ya0 : Int) (yb0 : Int) (ya1 : Int) (yb1 : Int) (ya2 : Int) (yb2 : Int) (ya3 : Int) (yb3 : Int) (ya4 : Int) (yb4 : Int) (yv : Int) (J : Act → World → Prop) {E : Env} (hE : EnvOK E Try.prog Try.f15 2 2 (.bool false) [] []) (hob : all ([Back (Value.bool false) (Value.bool false) [] [] [], (!keyEq (Value.agg (Array.mk [Value.int IntKind.i64 xa0, Value.int IntKind.i64 xb0, Value.int IntKind.i64 xa1, Value.int IntKind.i64 xb1, Value.int IntKind.i64 xa2, Value.int IntKind.i64 xb2, Value.int IntKind.i64 xa3, Value.int IntKind.i64 xb3, Value.int IntKind.i64 xa4, Value.int IntKind.i64 xb4, Value.int IntKind.i64 xv])) (Value.agg (Array.mk [Value.int IntKind.i64 ya0, Value.int IntKind.i64 yb0, Value.int IntKind.i64 ya1, Value.int IntKind.i64 yb1, Value.int IntKind.i64 ya2, Value.int IntKind.i64 yb2, Value.int IntKind.i64 ya3, Value.int IntKind.i64 yb3, Value.int IntKind.i64 ya4, Value.int IntKind.i64 yb4, Value.int IntKind.i64 yv]))) = true, readPart Try.prog 27 ds (p + ((i : Int)).toNat * 11) = some (Value.agg (Array.mk [Value.int IntKind.i64 ya0, Value.int IntKind.i64 yb0, Value.int IntKind.i64 ya1, Value.int IntKind.i64 yb1, Value.int IntKind.i64 ya2, Value.int IntKind.i64 yb2, Value.int IntKind.i64 ya3, Value.int IntKind.i64 yb3, Value.int IntKind.i64 ya4, Value.int IntKind.i64 yb4, Value.int IntKind.i64 yv])), (0 : Int) ≤ (i : Int) ∧ (i : Int) < (m : Int), readPart Try.prog 27 cs (o + ((i : Int)).toNat * 11) = some (Value.agg (Array.mk [Value.int IntKind.i64 xa0, Value.int IntKind.i64 xb0, Value.int IntKind.i64 xa1, Value.int IntKind.i64 xb1, Value.int IntKind.i64 xa2, Value.int IntKind.i64 xb2, Value.int IntKind.i64 xa3, Value.int IntKind.i64 xb3, Value.int IntKind.i64 xa4, Value.int IntKind.i64 xb4, Value.int IntKind.i64 xv])), (0 : Int) ≤ (i : Int) ∧ (i : Int) < (n : Int), decide ((↑i : Int) < (↑n : Int)) = true])) : Sat E (inLp (lp Try.f15 0) J) ((sL cs ds o n c p m d).st 0 i) :=
  by_ret (T := auto0 t_none) (h := hints [(6, 2, {p := true}), (6, 3, {o := some (.agg ⟨[.int .i64 xa0, .int .i64 xb0, .int .i64 xa1, .int .i64 xb1, .int .i64 xa2, .int .i64 xb2, .int .i64 xa3, .int .i64 xb3, .int .i64 xa4, .int .i64 xb4, .int .i64 xv]⟩)}), (6, 6, {p := true}), (6, 7, {o := some (.agg ⟨[.int .i64 ya0, .int .i64 yb0, .int .i64 ya1, .int .i64 yb1, .int .i64 ya2, .int .i64 yb2, .int .i64 ya3, .int .i64 yb3, .int .i64 ya4, .int .i64 yb4, .int .i64 yv]⟩)})]) (ws := [.b true, .b true]) (nx' := 2) hE hm (auto0_ok t_none_ok) (by omega) (by simp) (by simp) (by kernel_rfl) hob
theorem sNext (cs ds : List Value) (o n c p m d : Nat) (i : Nat) (xa0 : Int) (xb0 : Int) (xa1 : Int) (xb1 : Int) (xa2 : Int) (xb2 : Int) (xa3 : Int) (xb3 : Int) (xa4 : Int) (xb4 : Int) (xv : Int) (ya0 : Int) (yb0 : Int) (ya1 : Int) (yb1 : Int) (ya2 : Int) (yb2 : Int) (ya3 : Int) (yb3 : Int) (ya4 : Int) (yb4 : Int) (yv : Int) (J : Act → World → Prop) {E : Env} {rv : Value} {rhs : List Nat} {rhv : List Blk} (hE : EnvOK E Try.prog Try.f15 2 2 rv rhs rhv) (hL : (sL cs ds o n c p m d).OK 2) (hob : all ([SameK (mkLp (lp Try.f15 0) J) (mkLp (lp Try.f15 0) J), Enter (sL cs ds o n c p m d) 0 (some (n - i)) [Value.slice (some (Addr.mk 0 o none)) n c, Value.slice (some (Addr.mk 1 p none)) m d, Value.int IntKind.i64 (Int.ofNat i.succ)] [Blk.ro cs, Blk.ro ds] [(0, 0), (1, 1)], Value.int IntKind.i64 (IntKind.i64.wrap (Int.ofNat i.succ)) = Value.int IntKind.i64 (Int.ofNat i.succ), (!keyEq (Value.agg (Array.mk [Value.int IntKind.i64 xa0, Value.int IntKind.i64 xb0, Value.int IntKind.i64 xa1, Value.int IntKind.i64 xb1, Value.int IntKind.i64 xa2, Value.int IntKind.i64 xb2, Value.int IntKind.i64 xa3, Value.int IntKind.i64 xb3, Value.int IntKind.i64 xa4, Value.int IntKind.i64 xb4, Value.int IntKind.i64 xv])) (Value.agg (Array.mk [Value.int IntKind.i64 ya0, Value.int IntKind.i64 yb0, Value.int IntKind.i64 ya1, Value.int IntKind.i64 yb1, Value.int IntKind.i64 ya2, Value.int IntKind.i64 yb2, Value.int IntKind.i64 ya3, Value.int IntKind.i64 yb3, Value.int IntKind.i64 ya4, Value.int IntKind.i64 yb4, Value.int IntKind.i64 yv]))) = false, readPart Try.prog 27 ds (p + ((i : Int)).toNat * 11) = some (Value.agg (Array.mk [Value.int IntKind.i64 ya0, Value.int IntKind.i64 yb0, Value.int IntKind.i64 ya1, Value.int IntKind.i64 yb1, Value.int IntKind.i64 ya2, Value.int IntKind.i64 yb2, Value.int IntKind.i64 ya3, Value.int IntKind.i64 yb3, Value.int IntKind.i64 ya4, Value.int IntKind.i64 yb4, Value.int IntKind.i64 yv])), (0 : Int) ≤ (i : Int) ∧ (i : Int) < (m : Int), readPart Try.prog 27 cs (o + ((i : Int)).toNat * 11) = some (Value.agg (Array.mk [Value.int IntKind.i64 xa0, Value.int IntKind.i64 xb0, Value.int IntKind.i64 xa1, Value.int IntKind.i64 xb1, Value.int IntKind.i64 xa2, Value.int IntKind.i64 xb2, Value.int IntKind.i64 xa3, Value.int IntKind.i64 xb3, Value.int IntKind.i64 xa4, Value.int IntKind.i64 xb4, Value.int IntKind.i64 xv])), (0 : Int) ≤ (i : Int) ∧ (i : Int) < (n : Int), decide ((↑i : Int) < (↑n : Int)) = true])) (hK : ∀ zz, (sL cs ds o n c p m d).inv 0 zz → ltO ((sL cs ds o n c p m d).mu 0 zz) (some (n - i)) → Sat E (mkLp (lp Try.f15 0) J) ((sL cs ds o n c p m d).st 0 zz)) : Sat E (inLp (lp Try.f15 0) J) ((sL cs ds o n c p m d).st 0 i) :=
  by_to (T := auto0 t_none) (h := hints [(6, 2, {p := true}), (6, 3, {o := some (.agg ⟨[.int .i64 xa0, .int .i64 xb0, .int .i64 xa1, .int .i64 xb1, .int .i64 xa2, .int .i64 xb2, .int .i64 xa3, .int .i64 xb3, .int .i64 xa4, .int .i64 xb4, .int .i64 xv]⟩)}), (6, 6, {p := true}), (6, 7, {o := some (.agg ⟨[.int .i64 ya0, .int .i64 yb0, .int .i64 ya1, .int .i64 yb1, .int .i64 ya2, .int .i64 yb2, .int .i64 ya3, .int .i64 yb3, .int .i64 ya4, .int .i64 yb4, .int .i64 yv]⟩)}), (5, 1, {v := some (.int .i64 ((i + 1 : Nat) : Int))})]) (ws := [.b true, .b false]) (i0 := i) hE hm (auto0_ok t_none_ok) hL (by kernel_rfl) hob hK
end Go.Proofs.Ythbaccmhdffjdaa.SamePc


set_option linter.unusedVariables false
set_option linter.unusedSimpArgs false
set_option maxRecDepth 100000
namespace Go.Proofs.Ythbaccmhdffjdaa.SamePc
open Go Go.RowKit Go.Proofs.Ythbaccmhdffjdaa.Ev 
theorem keq (xa0 : Int) (xb0 : Int) (xa1 : Int) (xb1 : Int) (xa2 : Int) (xb2 : Int) (xa3 : Int) (xb3 : Int) (xa4 : Int) (xb4 : Int) (xv : Int) (ya0 : Int) (yb0 : Int) (ya1 : Int) (yb1 : Int) (ya2 : Int) (yb2 : Int) (ya3 : Int) (yb3 : Int) (ya4 : Int) (yb4 : Int) (yv : Int) : keyEq (.agg ⟨[.int .i64 xa0, .int .i64 xb0, .int .i64 xa1, .int .i64 xb1, .int .i64 xa2, .int .i64 xb2, .int .i64 xa3, .int .i64 xb3, .int .i64 xa4, .int .i64 xb4, .int .i64 xv]⟩) (.agg ⟨[.int .i64 ya0, .int .i64 yb0, .int .i64 ya1, .int .i64 yb1, .int .i64 ya2, .int .i64 yb2, .int .i64 ya3, .int .i64 yb3, .int .i64 ya4, .int .i64 yb4, .int .i64 yv]⟩) = decide ((⟨⟨xa0, xb0, xa1, xb1, xa2, xb2, xa3, xb3, xa4, xb4⟩, xv⟩ : Pc) = ⟨⟨ya0, yb0, ya1, yb1, ya2, yb2, ya3, yb3, ya4, yb4⟩, yv⟩) := by
  rw [Bool.eq_iff_iff]
  simp [keyEq, cellsEq, leafEq, and_assoc]
theorem same_spec (cs ds : List Value) (o n c p m d : Nat) (r1 : ePc.Row cs o n) (r2 : ePc.Row ds p m) (h1 : ∀ x ∈ cs, leafG x = true) (h2 : ∀ x ∈ ds, leafG x = true) (hn : n ≤ 9223372036854775806) :
    CallSpec Try.prog 15 [.slice (some ⟨0, o, none⟩) n c, .slice (some ⟨1, p, none⟩) m d] (roRows [cs, ds]) 2 (.bool (decide (ePc.list cs o n = ePc.list ds p m))) (assocN [] []) := by
  refine spec_of_sat Try.func15 rfl fun E hE => ?_
  have l1 : (ePc.list cs o n).length = n := Elt.list_len cs o n
  have l2 : (ePc.list ds p m).length = m := Elt.list_len ds p m
  by_cases hnm : n ≠ m
  · have e : decide (ePc.list cs o n = ePc.list ds p m) = false := decide_eq_false fun h => hnm (by rw [← l1, ← l2, h])
    rw [e] at hE
    exact sLen cs ds o n c p m d hE ⟨⟨rfl, rfl⟩, by simpa [bne_iff_ne] using (fun h => hnm (by omega) : ¬ (n : Int) = (m : Int)), trivial⟩
  have hnm : n = m := Decidable.not_not.1 hnm
  refine sIn cs ds o n c p m d hE (sL_ok cs ds o n c p m d h1 h2) ⟨rfl, ⟨0, ⟨Nat.zero_le _, hnm, hn, by simp⟩, trivial, rfl, ?_⟩, by simp [bne_iff_ne, hnm], trivial⟩ fun i hi _ => by_loop (sL cs ds o n c p m d) (lp Try.f15 0) ?_ 0 i hi
  · simp [sL, Blk.plain.rnB (b := .ro cs) h1, Blk.plain.rnB (b := .ro ds) h2]
  rintro b i ⟨k1, k2, k3, k4⟩ J hJ
  show Sat E (inLp (lp Try.f15 0) J) ((sL cs ds o n c p m d).st 0 i)
  by_cases hin : i < n
  · have hlt : decide ((i : Int) < (n : Int)) = true := decide_eq_true (by omega)
    obtain ⟨x, hx⟩ : ∃ x, (ePc.list cs o n)[i]? = some x := ⟨_, List.getElem?_eq_getElem (by rw [l1]; omega)⟩
    obtain ⟨y, hy⟩ : ∃ y, (ePc.list ds p m)[i]? = some y := ⟨_, List.getElem?_eq_getElem (by rw [l2]; omega)⟩
    obtain ⟨⟨xa0, xb0, xa1, xb1, xa2, xb2, xa3, xb3, xa4, xb4⟩, xv⟩ := x
    obtain ⟨⟨ya0, yb0, ya1, yb1, ya2, yb2, ya3, yb3, ya4, yb4⟩, yv⟩ := y
    have g1 := (r1.read (P := Try.prog) (ty := 27) (by kernel_rfl) (by kernel_rfl) (i := i) hx)
    have g2 := (r2.read (P := Try.prog) (ty := 27) (by kernel_rfl) (by kernel_rfl) (i := i) hy)
    by_cases hxy : (⟨⟨xa0, xb0, xa1, xb1, xa2, xb2, xa3, xb3, xa4, xb4⟩, xv⟩ : Pc) = ⟨⟨ya0, yb0, ya1, yb1, ya2, yb2, ya3, yb3, ya4, yb4⟩, yv⟩
    · refine sNext cs ds o n c p m d i xa0 xb0 xa1 xb1 xa2 xb2 xa3 xb3 xa4 xb4 xv ya0 yb0 ya1 yb1 ya2 yb2 ya3 yb3 ya4 yb4 yv J hE (sL_ok cs ds o n c p m d h1 h2) ⟨rfl, ⟨i + 1, ⟨by omega, k2, k3, ?_⟩, ?_, rfl, ?_⟩, i64_succ (by omega), by rw [keq, decide_eq_true hxy]; rfl, g2, by omega, g1, by omega, hlt, trivial⟩ fun zz hz hz' => hJ 0 zz hz hz'
      · rw [List.take_add_one, List.take_add_one, hx, hy, k4, hxy]
      · simp only [sL, ltO]; omega
      · simp [sL, Blk.plain.rnB (b := .ro cs) h1, Blk.plain.rnB (b := .ro ds) h2]
    · have e : decide (ePc.list cs o n = ePc.list ds p m) = false := decide_eq_false fun h => hxy (by rw [h, hy] at hx; exact (Option.some.inj hx).symm)
      rw [e] at hE
      exact sDiff cs ds o n c p m d i xa0 xb0 xa1 xb1 xa2 xb2 xa3 xb3 xa4 xb4 xv ya0 yb0 ya1 yb1 ya2 yb2 ya3 yb3 ya4 yb4 yv J hE ⟨⟨rfl, rfl⟩, by rw [keq, decide_eq_false hxy]; rfl, g2, by omega, g1, by omega, hlt, trivial⟩
  · have hlt : decide ((i : Int) < (n : Int)) = false := decide_eq_false (by omega)
    have e : decide (ePc.list cs o n = ePc.list ds p m) = true := decide_eq_true (by
      rw [List.take_of_length_le (by omega), List.take_of_length_le (by omega)] at k4
      exact k4)
    rw [e] at hE
    exact sEnd cs ds o n c p m d i J hE ⟨⟨rfl, rfl⟩, hlt, trivial⟩
def same_F : RoF := fun xs css => match xs, css with
  | [.slice none 0 0, .slice none 0 0], [] => some (.bool true, [], [])
  | [.slice none 0 0, .slice (some ⟨0, p, none⟩) m d], [ds] => some (.bool (decide ([] = ePc.list ds p m)), [], [])
  | [.slice (some ⟨0, o, none⟩) n c, .slice none 0 0], [cs] => some (.bool (decide (ePc.list cs o n = [])), [], [])
  | [.slice (some ⟨0, o, none⟩) n c, .slice (some ⟨1, p, none⟩) m d], [cs, ds] => some (.bool (decide (ePc.list cs o n = ePc.list ds p m)), [], [ePc.Row cs o n, ePc.Row ds p m, n ≤ 9223372036854775806])
  | _, _ => none
theorem same_sum : SumOK Try.prog 15 (roSum same_F) := by
  refine roSum_ok (en Try.func15 rfl) ?_ (fun xs css r h => ?_)
  · intro xs css v blks ob h hob hpl hl
    unfold same_F at h
    split at h
    · simp only [Option.some.injEq, Prod.mk.injEq] at h
      obtain ⟨rfl, rfl, rfl⟩ := h
      refine ⟨by simp, by simp, fun j hj => by simp [nms, nm1, nm0] at hj, ?_⟩
      exact spec_of_sat Try.func15 rfl fun E hE => sNN () hE ⟨⟨rfl, rfl⟩, trivial⟩
    · rename_i p m d ds
      simp only [Option.some.injEq, Prod.mk.injEq] at h
      obtain ⟨rfl, rfl, rfl⟩ := h
      refine ⟨by simp, by simp, fun j hj => by simp [nms, nm1, nm0] at hj, ?_⟩
      refine spec_of_sat Try.func15 rfl fun E hE => ?_
      have l2 : (ePc.list ds p m).length = m := Elt.list_len ds p m
      by_cases hm : m = 0
      · have e : decide ([] = ePc.list ds p m) = true := decide_eq_true (List.eq_nil_of_length_eq_zero (by omega)).symm
        rw [e] at hE
        exact sNS0 ds p m d hE ⟨⟨rfl, rfl⟩, by simp [hm], trivial⟩
      · have e : decide ([] = ePc.list ds p m) = false := decide_eq_false fun h => hm (by rw [← l2, ← h]; rfl)
        rw [e] at hE
        exact sNS1 ds p m d hE ⟨⟨rfl, rfl⟩, bne_iff_ne.2 (by show (0 : Int) ≠ (m : Int); omega), trivial⟩
    · rename_i o n c cs
      simp only [Option.some.injEq, Prod.mk.injEq] at h
      obtain ⟨rfl, rfl, rfl⟩ := h
      refine ⟨by simp, by simp, fun j hj => by simp [nms, nm1, nm0] at hj, ?_⟩
      refine spec_of_sat Try.func15 rfl fun E hE => ?_
      have l1 : (ePc.list cs o n).length = n := Elt.list_len cs o n
      by_cases hm : n = 0
      · have e : decide (ePc.list cs o n = []) = true := decide_eq_true (List.eq_nil_of_length_eq_zero (by omega))
        rw [e] at hE
        exact sSN0 cs o n c hE ⟨⟨rfl, rfl⟩, decide_eq_false (by show ¬ (0 : Int) < (n : Int); omega), by simp [hm], trivial⟩
      · have e : decide (ePc.list cs o n = []) = false := decide_eq_false fun h => hm (by rw [← l1, h]; rfl)
        rw [e] at hE
        exact sSN1 cs o n c hE ⟨⟨rfl, rfl⟩, bne_iff_ne.2 (by show (n : Int) ≠ (0 : Int); omega), trivial⟩
    · rename_i o n c p m d cs ds
      simp only [Option.some.injEq, Prod.mk.injEq] at h
      obtain ⟨rfl, rfl, rfl⟩ := h
      refine ⟨by simp, by simp, fun j hj => by simp [nms, nm1, nm0] at hj, ?_⟩
      exact same_spec cs ds o n c p m d (hob _ (by simp)) (hob _ (by simp)) (hpl cs (by simp)) (hpl ds (by simp)) (hob _ (by simp))
    · simp at h
  · unfold same_F at h
    split at h <;> simp at h <;> simp
noncomputable def t_same : Sums := upd t_none 15 (some (roSum same_F))
theorem t_same_ok : SumsOK Try.prog t_same := sums_cons t_none_ok same_sum
end Go.Proofs.Ythbaccmhdffjdaa.SamePc


set_option linter.unusedVariables false
set_option linter.unusedSimpArgs false
set_option maxRecDepth 100000
namespace Go.Proofs.Ythbaccmhdffjdaa.WkLeavesRuns
open Go Go.RowKit Go.Proofs.Ythbaccmhdffjdaa.Ev
theorem walk (w : World) : Calls Try.prog 6 #[] w fun e w' => e = .returned (.bool true) ∧ Below w.heap.size w w' :=
  (calls_runO hm (autoM_ok t_none_ok) noHint [] [] (by kernel_rfl) trivial).2.2 w
end Go.Proofs.Ythbaccmhdffjdaa.WkLeavesRuns


set_option linter.unusedVariables false
set_option linter.unusedSimpArgs false
set_option maxRecDepth 100000
namespace Go.Proofs.Ythbaccmhdffjdaa.Tr
open Go Go.RowKit Go.Proofs.Ythbaccmhdffjdaa.Ev Go.Proofs.Ythbaccmhdffjdaa.NodeE Go.Proofs.Ythbaccmhdffjdaa.Within Go.Proofs.Ythbaccmhdffjdaa.PickE Go.Proofs.Ythbaccmhdffjdaa.Tn Go.Proofs.Ythbaccmhdffjdaa.Tr Go.Proofs.Ythbaccmhdffjdaa.BoxF

def lruns_F : List Value → Option (Value × List Prop)
  | [] => some (.bool true, [])
  | _ => none
theorem lruns_sum : SumOK Try.prog 6 (sumOf lruns_F) := by
  refine sumOf_ok (en Try.func6 rfl) fun args v ob h hob => ?_
  unfold lruns_F at h
  split at h
  · obtain ⟨rfl, rfl⟩ := Prod.mk.inj (Option.some.inj h)
    exact ⟨rfl, rfl, WkLeavesRuns.walk⟩
  · exact absurd h (by simp)
noncomputable def t_lruns : Sums := upd t_runpack 6 (some (sumOf lruns_F))
theorem t_lruns_ok : SumsOK Try.prog t_lruns := sums_cons t_runpack_ok lruns_sum
noncomputable def lt_em (NI : List Int → List Int → List Int → List Int → Int → List Nd) (PL RL : List Int → Bx → List Pc) (K : Bool) : Sums := upd (t_nodes NI) 25 (some (sumOf rempty_F))
theorem lt_em_ok (NI : List Int → List Int → List Int → List Int → Int → List Nd) (PL RL : List Int → Bx → List Pc) (K : Bool) : SumsOK Try.prog (lt_em NI PL RL K) := sums_cons (t_nodes_ok NI) rempty_sum
noncomputable def lt_ls (NI : List Int → List Int → List Int → List Int → Int → List Nd) (PL RL : List Int → Bx → List Pc) (K : Bool) : Sums := upd (lt_em NI PL RL K) 23 (some (roSum (ls_F K PL)))
theorem lt_ls_ok (NI : List Int → List Int → List Int → List Int → Int → List Nd) (PL RL : List Int → Bx → List Pc) (K : Bool) : SumsOK Try.prog (lt_ls NI PL RL K) := sums_cons (lt_em_ok NI PL RL K) (ls_sum K PL)
noncomputable def lt_rl (NI : List Int → List Int → List Int → List Int → Int → List Nd) (PL RL : List Int → Bx → List Pc) (K : Bool) : Sums := upd (lt_ls NI PL RL K) 26 (some (roSum (rl_F K RL)))
theorem lt_rl_ok (NI : List Int → List Int → List Int → List Int → Int → List Nd) (PL RL : List Int → Bx → List Pc) (K : Bool) : SumsOK Try.prog (lt_rl NI PL RL K) := sums_cons (lt_ls_ok NI PL RL K) (rl_sum K RL)
noncomputable def lt_same (NI : List Int → List Int → List Int → List Int → Int → List Nd) (PL RL : List Int → Bx → List Pc) (K : Bool) : Sums := upd (lt_rl NI PL RL K) 15 (some (roSum SamePc.same_F))
theorem lt_same_ok (NI : List Int → List Int → List Int → List Int → Int → List Nd) (PL RL : List Int → Bx → List Pc) (K : Bool) : SumsOK Try.prog (lt_same NI PL RL K) := sums_cons (lt_rl_ok NI PL RL K) SamePc.same_sum
noncomputable def lt_runs (NI : List Int → List Int → List Int → List Int → Int → List Nd) (PL RL : List Int → Bx → List Pc) (K : Bool) : Sums := upd (lt_same NI PL RL K) 6 (some (sumOf lruns_F))
theorem lt_runs_ok (NI : List Int → List Int → List Int → List Int → Int → List Nd) (PL RL : List Int → Bx → List Pc) (K : Bool) : SumsOK Try.prog (lt_runs NI PL RL K) := sums_cons (lt_same_ok NI PL RL K) lruns_sum
noncomputable abbrev t_lt (NI : List Int → List Int → List Int → List Int → Int → List Nd) (PL RL : List Int → Bx → List Pc) (K : Bool) : Sums := lt_runs NI PL RL K
theorem t_lt_ok (NI : List Int → List Int → List Int → List Int → Int → List Nd) (PL RL : List Int → Bx → List Pc) (K : Bool) : SumsOK Try.prog (t_lt NI PL RL K) := lt_runs_ok NI PL RL K
/-- Behind the choice of the words: nil, a row that came in, a row of the call's own. -/
def ltL (L : List Int) (m c : Nat) (b : Bx) : LoopF Unit where
  ts _ := [0, 6]
  hs z := match z with | 0 => [10] | 1 => [10, 0] | _ => [10, 11]
  tv z _ := [match z with | 0 => .slice none 0 0 | 1 => .slice (some ⟨0, 0, none⟩) m c | _ => .slice (some ⟨11, 0, none⟩) m mk, .pointer (some ⟨10, 0, none⟩)]
  hv z _ := match z with | 0 => [.cells b.cs 25] | 1 => [.cells b.cs 25, .ro (eWord.row L)] | _ => [.cells b.cs 25, .vec (eWord.row L) 83 1]
  inv _ _ := True
  mu _ _ := 0
  nx := 14
theorem ltL_ok (L : List Int) (m c : Nat) (b : Bx) : (ltL L m c b).OK 5 := by
  have bpl : ∀ x ∈ b.cs, leafG x = true := eBox.pl b
  refine ⟨(by decide : 5 ≤ 14), fun z i h k hk => ?_, fun z i h v hv k hk => ?_, fun z i h x hx => ?_⟩
  · show k < 14
    match z with
    | 0 => simp [ltL] at hk; omega
    | 1 => simp [ltL] at hk; omega
    | z + 2 => simp [ltL] at hk; omega
  · show k < 14
    match z with
    | 0 =>
      simp [ltL] at hv
      repeat' (refine Or.elim hv (fun hv => ?_) (fun hv => ?_))
      all_goals (subst hv; simp [nms, nm1, nm0] at hk; try omega)
    | 1 =>
      simp [ltL] at hv
      repeat' (refine Or.elim hv (fun hv => ?_) (fun hv => ?_))
      all_goals (subst hv; simp [nms, nm1, nm0] at hk; try omega)
    | z + 2 =>
      simp [ltL] at hv
      repeat' (refine Or.elim hv (fun hv => ?_) (fun hv => ?_))
      all_goals (subst hv; simp [nms, nm1, nm0] at hk; try omega)
  · match z with
    | 0 =>
      simp [ltL] at hx
      subst hx
      exact Blk.plain.namesLt (b := .cells _ _) bpl _
    | 1 =>
      simp [ltL] at hx
      rcases hx with rfl | rfl
      · exact Blk.plain.namesLt (b := .cells _ _) bpl _
      · exact Blk.plain.namesLt (b := .ro _) (Elt.row_pl _) _
    | z + 2 =>
      simp [ltL] at hx
      rcases hx with rfl | rfl
      · exact Blk.plain.namesLt (b := .cells _ _) bpl _
      · exact Blk.plain.namesLt (b := .vec _ _ _) (Elt.row_pl _) _
end Go.Proofs.Ythbaccmhdffjdaa.Tr

