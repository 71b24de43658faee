/-
  The row of the law copselaw7.TreeTells: for every input the call returns true, and each argument reads afterwards as it read before. No condition beside the form's own.
-/
import Derived.Test.YtnngaedhedbenaaRows
import Derived.WalkKit
import Derived.ProofKit
import Derived.KernelRfl
import Derived.Lib.SmallJoins
import Derived.OpenShut
import Derived.ShutString
import Derived.ChangeOld
import Derived.Below
import Derived.SizedLaws
import Derived.Test.YtnngaedhedbenaaTreeTellsP2
set_option linter.unusedVariables false
set_option linter.unusedSimpArgs false
set_option maxRecDepth 100000
namespace Go.Proofs.Ytnngaedhedbenaa.Rm
open Go Go.RowKit Go.Proofs.Ytnngaedhedbenaa.Ev Go.Proofs.Ytnngaedhedbenaa.BitLib Go.Proofs.Ytnngaedhedbenaa.Rm Go.Proofs.Ytnngaedhedbenaa.SameWord
theorem rmIn (Q : Nat → List Value → Prop) (cs : List Value) (o n c N : Nat) (k ln : Int) (zs r : List Value)  {E : Env} {rv : Value} {rhs : List Nat} {rhv : List Blk} (hE : EnvOK E Try.prog Try.f29 2 1 rv rhs rhv) (hL : (rmL N k Q).OK 1) (hob : all ([SameK (atLp (lp Try.f29 0)) (atLp (lp Try.f29 0)), Enter (rmL N k Q) 0 none [Value.int IntKind.u64 k, Value.slice (some (Addr.mk 17 0 none)) (Int.ofNat N).toNat (Int.ofNat N).toNat, Value.int IntKind.i64 ((n : Int))] [Blk.cells r 26] [(10, 17)], CopyOK n (Int.ofNat N).toNat 1 0 cs o zs r, MkOK (Int.ofNat N) (Int.ofNat N) 8 [Value.int IntKind.u64 ((0 : Int))] zs, Value.int IntKind.i64 (IntKind.i64.wrap (ln + (80 : Int))) = Value.int IntKind.i64 (Int.ofNat N), Value.int IntKind.i64 ((n : Int)) = Value.int IntKind.i64 ln])) (hK : ∀ zz, (rmL N k Q).inv 0 zz → ltO ((rmL N k Q).mu 0 zz) none → Sat E (atLp (lp Try.f29 0)) ((rmL N k Q).st 0 zz)) : Sat E [.code (bodyOf Try.f29)] (st0 Try.f29 [.slice (some ⟨0, o, none⟩) n c, .int .u64 k] (roRows [cs]) 1) :=
  by_to (T := auto0 t_same) (h := hints [(1, 1, {v := some (.int .i64 ln)}), (1, 2, {v := some (.int .i64 (N : Int))}), (1, 3, {c := some zs}), (2, 2, {c := some r})]) (ws := [.stop]) (i0 := (n, r)) hE hm (auto0_ok t_same_ok) hL (by kernel_rfl) hob hK
theorem rmB (Q : Nat → List Value → Prop) (N i : Nat) (k : Int) (r r1 : List Value) (J : Act → World → Prop) {E : Env} {rv : Value} {rhs : List Nat} {rhv : List Blk} (hE : EnvOK E Try.prog Try.f29 2 1 rv rhs rhv) (hL : (rmL N k Q).OK 1) (hob : all ([SameK (mkLp (lp Try.f29 0) J) (mkLp (lp Try.f29 0) J), Enter (rmL N k Q) 0 (some (N - i)) [Value.int IntKind.u64 k, Value.slice (some (Addr.mk 10 0 none)) N N, Value.int IntKind.i64 (Int.ofNat i.succ)] [Blk.cells r1 26] [(10, 10)], Value.int IntKind.i64 (IntKind.i64.wrap (Int.ofNat i.succ)) = Value.int IntKind.i64 (Int.ofNat i.succ), lset r (0 + ((i : Int)).toNat * 1) [Value.int IntKind.u64 k] = some r1, (0 : Int) ≤ (i : Int) ∧ (i : Int) < Int.ofNat N, decide ((↑i : Int) < (↑N : Int)) = true])) (hK : ∀ zz, (rmL N k Q).inv 0 zz → ltO ((rmL N k Q).mu 0 zz) (some (N - i)) → Sat E (mkLp (lp Try.f29 0) J) ((rmL N k Q).st 0 zz)) : Sat E (inLp (lp Try.f29 0) J) ((rmL N k Q).st 0 (i, r)) :=
  by_to (T := auto0 t_same) (h := hints [(6, 3, {p := true}), (6, 4, {c := some r1}), (5, 1, {v := some (.int .i64 ((i + 1 : Nat) : Int))})]) (ws := [.b true]) (i0 := (i + 1, r1)) hE hm (auto0_ok t_same_ok) hL (by kernel_rfl) hob hK
theorem rmE (Q : Nat → List Value → Prop) (N i : Nat) (k : Int) (r : List Value) (hpl : ∀ x ∈ r, leafG x = true) (J : Act → World → Prop) {E : Env} (hE : EnvOK E Try.prog Try.f29 2 1 (.slice (some ⟨100, 0, none⟩) N N) [100] [.cells r 26]) (hob : all ([Back (Value.slice (some (Addr.mk 10 0 none)) N N) (Value.slice (some (Addr.mk 100 0 none)) N N) [Blk.cells r 26] [Blk.cells r 26] [(100, 10)], decide ((↑i : Int) < (↑N : Int)) = false])) : Sat E (inLp (lp Try.f29 0) J) ((rmL N k Q).st 0 (i, r)) :=
  by_ret (T := auto0 t_same) (h := hints []) (ws := [.b false]) (nx' := 101) hE hm (auto0_ok t_same_ok) (by omega) (by simp) (by intro x hx; simp at hx; subst hx; exact Blk.plain.namesLt (b := .cells r 26) hpl _) (by kernel_rfl) hob
theorem itIn (cs ds : List Value) (o n c p m d : Nat) (k lm : Int)  {E : Env} {rv : Value} {rhs : List Nat} {rhv : List Blk} (hE : EnvOK E Try.prog Try.f33 3 2 rv rhs rhv) (hL : (itL cs o n c k m).OK 2) (hob : all ([SameK (atLp (lp Try.f33 0)) (atLp (lp Try.f33 0)), Enter (itL cs o n c k m) 0 none [Value.slice (some (Addr.mk 0 o none)) n c, Value.int IntKind.u64 k, Value.int IntKind.i64 ((m : Int))] [Blk.ro cs] [(0, 0)], Value.bool (decide (eWord.list cs o m = eWord.list ds p m)) = Value.bool true, plainR [cs, ds], eWord.Row cs o m, eWord.Row ds p m, m ≤ 9223372036854775806, SlOK 1 0 o n c none (some ((m : Int))) (some (Blk.ro cs)) (Value.slice (some (Addr.mk 0 o none)) m c), Value.bool ((n : Int) != (n : Int)) = Value.bool false, Value.int IntKind.i64 (IntKind.i64.wrap (lm + (80 : Int))) = Value.int IntKind.i64 ((n : Int)), Value.int IntKind.i64 ((m : Int)) = Value.int IntKind.i64 lm])) (hK : ∀ zz, (itL cs o n c k m).inv 0 zz → ltO ((itL cs o n c k m).mu 0 zz) none → Sat E (atLp (lp Try.f33 0)) ((itL cs o n c k m).st 0 zz)) : Sat E [.code (bodyOf Try.f33)] (st0 Try.f33 [.slice (some ⟨0, o, none⟩) n c, .slice (some ⟨1, p, none⟩) m d, .int .u64 k] (roRows [cs, ds]) 2) :=
  by_to (T := auto0 t_same) (h := hints [(1, 4, {v := some (.int .i64 (n : Int))}), (1, 3, {v := some (.int .i64 lm)}), (1, 5, ht false), (1, 10, {o := some (.slice (some ⟨0, o, none⟩) m c)}), (1, 12, ht true)]) (ws := [.go, .stop]) (i0 := m) hE hm (auto0_ok t_same_ok) hL (by kernel_rfl) hob hK
theorem itB (cs : List Value) (o n c : Nat) (k : Int) (m i : Nat) (J : Act → World → Prop) {E : Env} {rv : Value} {rhs : List Nat} {rhv : List Blk} (hE : EnvOK E Try.prog Try.f33 3 2 rv rhs rhv) (hL : (itL cs o n c k m).OK 2) (hob : all ([SameK (mkLp (lp Try.f33 0) J) (mkLp (lp Try.f33 0) J), Enter (itL cs o n c k m) 0 (some (n - i)) [Value.slice (some (Addr.mk 0 o none)) n c, Value.int IntKind.u64 k, Value.int IntKind.i64 (Int.ofNat i.succ)] [Blk.ro cs] [(0, 0)], Value.int IntKind.i64 (IntKind.i64.wrap (Int.ofNat i.succ)) = Value.int IntKind.i64 (Int.ofNat i.succ), Value.bool (k != k) = Value.bool false, readPart Try.prog 26 cs (o + ((i : Int)).toNat * 1) = some (Value.int IntKind.u64 k), (0 : Int) ≤ (i : Int) ∧ (i : Int) < (n : Int), decide ((↑i : Int) < (↑n : Int)) = true])) (hK : ∀ zz, (itL cs o n c k m).inv 0 zz → ltO ((itL cs o n c k m).mu 0 zz) (some (n - i)) → Sat E (mkLp (lp Try.f33 0) J) ((itL cs o n c k m).st 0 zz)) : Sat E (inLp (lp Try.f33 0) J) ((itL cs o n c k m).st 0 i) :=
  by_to (T := auto0 t_same) (h := hints [(6, 2, {p := true}), (6, 3, {o := some (.int .u64 k)}), (6, 5, ht false), (5, 1, {v := some (.int .i64 ((i + 1 : Nat) : Int))})]) (ws := [.b true, .go]) (i0 := (i + 1)) hE hm (auto0_ok t_same_ok) hL (by kernel_rfl) hob hK
theorem itE (cs : List Value) (o n c : Nat) (k : Int) (m i : Nat) (J : Act → World → Prop) {E : Env} (hE : EnvOK E Try.prog Try.f33 3 2 (.bool true) [] []) (hob : all ([Back (Value.bool true) (Value.bool true) [] [] [], decide ((↑i : Int) < (↑n : Int)) = false])) : Sat E (inLp (lp Try.f33 0) J) ((itL cs o n c k m).st 0 i) :=
  by_ret (T := auto0 t_same) (h := hints []) (ws := [.b false]) (nx' := 2) hE hm (auto0_ok t_same_ok) (by omega) (by simp) (by simp) (by kernel_rfl) hob
theorem rmInN (Q : Nat → List Value → Prop) (k : Int) (r : List Value)  {E : Env} {rv : Value} {rhs : List Nat} {rhv : List Blk} (hE : EnvOK E Try.prog Try.f29 2 0 rv rhs rhv) (hL : (rmL 80 k Q).OK 0) (hob : all ([SameK (atLp (lp Try.f29 0)) (atLp (lp Try.f29 0)), Enter (rmL 80 k Q) 0 none [Value.int IntKind.u64 k, Value.slice (some (Addr.mk 16 0 none)) 80 80, Value.int IntKind.i64 ((0 : Int))] [Blk.cells r 26] [(10, 16)], MkOK ((80 : Int)) ((80 : Int)) 8 [Value.int IntKind.u64 ((0 : Int))] r, Value.int IntKind.i64 ((80 : Int)) = Value.int IntKind.i64 ((80 : Int)), Value.int IntKind.i64 ((0 : Int)) = Value.int IntKind.i64 ((0 : Int))])) (hK : ∀ zz, (rmL 80 k Q).inv 0 zz → ltO ((rmL 80 k Q).mu 0 zz) none → Sat E (atLp (lp Try.f29 0)) ((rmL 80 k Q).st 0 zz)) : Sat E [.code (bodyOf Try.f29)] (st0 Try.f29 [.slice none 0 0, .int .u64 k] (roRows []) 0) :=
  by_to (T := auto0 t_same) (h := hints [(1, 1, {v := some (.int .i64 0)}), (1, 2, {v := some (.int .i64 ((80 : Nat) : Int))}), (1, 3, {c := some r}), (2, 2, {c := some []})]) (ws := [.stop]) (i0 := (0, r)) hE hm (auto0_ok t_same_ok) hL (by kernel_rfl) hob hK
theorem rmB0 (Q : Nat → List Value → Prop) (N i : Nat) (k : Int) (r r1 : List Value) (J : Act → World → Prop) {E : Env} {rv : Value} {rhs : List Nat} {rhv : List Blk} (hE : EnvOK E Try.prog Try.f29 2 0 rv rhs rhv) (hL : (rmL N k Q).OK 0) (hob : all ([SameK (mkLp (lp Try.f29 0) J) (mkLp (lp Try.f29 0) J), Enter (rmL N k Q) 0 (some (N - i)) [Value.int IntKind.u64 k, Value.slice (some (Addr.mk 10 0 none)) N N, Value.int IntKind.i64 (Int.ofNat i.succ)] [Blk.cells r1 26] [(10, 10)], Value.int IntKind.i64 (IntKind.i64.wrap (Int.ofNat i.succ)) = Value.int IntKind.i64 (Int.ofNat i.succ), lset r (0 + ((i : Int)).toNat * 1) [Value.int IntKind.u64 k] = some r1, (0 : Int) ≤ (i : Int) ∧ (i : Int) < Int.ofNat N, decide ((↑i : Int) < (↑N : Int)) = true])) (hK : ∀ zz, (rmL N k Q).inv 0 zz → ltO ((rmL N k Q).mu 0 zz) (some (N - i)) → Sat E (mkLp (lp Try.f29 0) J) ((rmL N k Q).st 0 zz)) : Sat E (inLp (lp Try.f29 0) J) ((rmL N k Q).st 0 (i, r)) :=
  by_to (T := auto0 t_same) (h := hints [(6, 3, {p := true}), (6, 4, {c := some r1}), (5, 1, {v := some (.int .i64 ((i + 1 : Nat) : Int))})]) (ws := [.b true]) (i0 := (i + 1, r1)) hE hm (auto0_ok t_same_ok) hL (by kernel_rfl) hob hK
theorem rmE0 (Q : Nat → List Value → Prop) (N i : Nat) (k : Int) (r : List Value) (hpl : ∀ x ∈ r, leafG x = true) (J : Act → World → Prop) {E : Env} (hE : EnvOK E Try.prog Try.f29 2 0 (.slice (some ⟨100, 0, none⟩) N N) [100] [.cells r 26]) (hob : all ([Back (Value.slice (some (Addr.mk 10 0 none)) N N) (Value.slice (some (Addr.mk 100 0 none)) N N) [Blk.cells r 26] [Blk.cells r 26] [(100, 10)], decide ((↑i : Int) < (↑N : Int)) = false])) : Sat E (inLp (lp Try.f29 0) J) ((rmL N k Q).st 0 (i, r)) :=
  by_ret (T := auto0 t_same) (h := hints []) (ws := [.b false]) (nx' := 101) hE hm (auto0_ok t_same_ok) (by omega) (by simp) (by intro x hx; simp at hx; subst hx; exact Blk.plain.namesLt (b := .cells r 26) hpl _) (by kernel_rfl) hob
theorem itInN (cs : List Value) (o n c : Nat) (k : Int)  {E : Env} {rv : Value} {rhs : List Nat} {rhv : List Blk} (hE : EnvOK E Try.prog Try.f33 3 1 rv rhs rhv) (hL : (itL cs o n c k 0).OK 1) (hob : all ([SameK (atLp (lp Try.f33 0)) (atLp (lp Try.f33 0)), Enter (itL cs o n c k 0) 0 none [Value.slice (some (Addr.mk 0 o none)) n c, Value.int IntKind.u64 k, Value.int IntKind.i64 ((0 : Int))] [Blk.ro cs] [(0, 0)], Value.bool true = Value.bool true, plainR [cs], SlOK 1 0 o n c none (some ((0 : Int))) (some (Blk.ro cs)) (Value.slice (some (Addr.mk 0 o none)) 0 c), Value.bool ((n : Int) != (n : Int)) = Value.bool false, Value.int IntKind.i64 ((80 : Int)) = Value.int IntKind.i64 ((n : Int)), Value.int IntKind.i64 ((0 : Int)) = Value.int IntKind.i64 ((0 : Int))])) (hK : ∀ zz, (itL cs o n c k 0).inv 0 zz → ltO ((itL cs o n c k 0).mu 0 zz) none → Sat E (atLp (lp Try.f33 0)) ((itL cs o n c k 0).st 0 zz)) : Sat E [.code (bodyOf Try.f33)] (st0 Try.f33 [.slice (some ⟨0, o, none⟩) n c, .slice none 0 0, .int .u64 k] (roRows [cs]) 1) :=
  by_to (T := auto0 t_same) (h := hints [(1, 4, {v := some (.int .i64 (n : Int))}), (1, 3, {v := some (.int .i64 0)}), (1, 5, ht false), (1, 10, {o := some (.slice (some ⟨0, o, none⟩) 0 c)}), (1, 12, ht true)]) (ws := [.go, .stop]) (i0 := 0) hE hm (auto0_ok t_same_ok) hL (by kernel_rfl) hob hK
theorem itB0 (cs : List Value) (o n c : Nat) (k : Int) (m i : Nat) (J : Act → World → Prop) {E : Env} {rv : Value} {rhs : List Nat} {rhv : List Blk} (hE : EnvOK E Try.prog Try.f33 3 1 rv rhs rhv) (hL : (itL cs o n c k m).OK 1) (hob : all ([SameK (mkLp (lp Try.f33 0) J) (mkLp (lp Try.f33 0) J), Enter (itL cs o n c k m) 0 (some (n - i)) [Value.slice (some (Addr.mk 0 o none)) n c, Value.int IntKind.u64 k, Value.int IntKind.i64 (Int.ofNat i.succ)] [Blk.ro cs] [(0, 0)], Value.int IntKind.i64 (IntKind.i64.wrap (Int.ofNat i.succ)) = Value.int IntKind.i64 (Int.ofNat i.succ), Value.bool (k != k) = Value.bool false, readPart Try.prog 26 cs (o + ((i : Int)).toNat * 1) = some (Value.int IntKind.u64 k), (0 : Int) ≤ (i : Int) ∧ (i : Int) < (n : Int), decide ((↑i : Int) < (↑n : Int)) = true])) (hK : ∀ zz, (itL cs o n c k m).inv 0 zz → ltO ((itL cs o n c k m).mu 0 zz) (some (n - i)) → Sat E (mkLp (lp Try.f33 0) J) ((itL cs o n c k m).st 0 zz)) : Sat E (inLp (lp Try.f33 0) J) ((itL cs o n c k m).st 0 i) :=
  by_to (T := auto0 t_same) (h := hints [(6, 2, {p := true}), (6, 3, {o := some (.int .u64 k)}), (6, 5, ht false), (5, 1, {v := some (.int .i64 ((i + 1 : Nat) : Int))})]) (ws := [.b true, .go]) (i0 := (i + 1)) hE hm (auto0_ok t_same_ok) hL (by kernel_rfl) hob hK
theorem itE0 (cs : List Value) (o n c : Nat) (k : Int) (m i : Nat) (J : Act → World → Prop) {E : Env} (hE : EnvOK E Try.prog Try.f33 3 1 (.bool true) [] []) (hob : all ([Back (Value.bool true) (Value.bool true) [] [] [], decide ((↑i : Int) < (↑n : Int)) = false])) : Sat E (inLp (lp Try.f33 0) J) ((itL cs o n c k m).st 0 i) :=
  by_ret (T := auto0 t_same) (h := hints []) (ws := [.b false]) (nx' := 1) hE hm (auto0_ok t_same_ok) (by omega) (by simp) (by simp) (by kernel_rfl) hob
end Go.Proofs.Ytnngaedhedbenaa.Rm


set_option linter.unusedVariables false
set_option linter.unusedSimpArgs false
set_option maxRecDepth 100000
namespace Go.Proofs.Ytnngaedhedbenaa.Rm
open Go Go.RowKit Go.Proofs.Ytnngaedhedbenaa.Ev Go.Proofs.Ytnngaedhedbenaa.BitLib Go.Proofs.Ytnngaedhedbenaa.Rm Go.Proofs.Ytnngaedhedbenaa.SameWord
theorem rmL_ok0 (N : Nat) (k : Int) (Q : Nat → List Value → Prop) (hQ : ∀ i r, Q i r → ∀ x ∈ r, leafG x = true) : (rmL N k Q).OK 0 := by
  obtain ⟨_, h1, h2, h3⟩ := rmL_ok N k Q hQ
  exact ⟨Nat.zero_le _, h1, h2, h3⟩
theorem itL_ok1 (cs : List Value) (o n c : Nat) (k : Int) (m : Nat) (h1 : ∀ x ∈ cs, leafG x = true) : (itL cs o n c k m).OK 1 := by
  obtain ⟨_, h1, h2, h3⟩ := itL_ok cs o n c k m h1
  exact ⟨(by decide : 1 ≤ 2), h1, h2, h3⟩
def fullR (L : List Int) (k : Int) (i : Nat) : List Value := eWord.row (L ++ List.replicate (i - L.length) k ++ List.replicate (L.length + 80 - i) 0)
theorem roomy_spec (cs : List Value) (o n c : Nat) (k : Int) (hr : eWord.Row cs o n) (hpl : ∀ x ∈ cs, leafG x = true) (hn : n ≤ 65536) :
    CallSpec Try.prog 29 [.slice (some ⟨0, o, none⟩) n c, .int .u64 k] (roRows [cs]) 1 (.slice (some ⟨100, 0, none⟩) (n + 80) (n + 80)) (assocN [100] [.cells (eWord.row (eWord.list cs o n ++ List.replicate 80 k)) 26]) := by
  refine spec_of_sat Try.func29 rfl fun E hE => ?_
  have hlen : (eWord.list cs o n).length = n := Elt.list_len _ _ _
  let Q : Nat → List Value → Prop := fun i r => n ≤ i ∧ i ≤ n + 80 ∧ r = fullR (eWord.list cs o n) k i
  have hQ : ∀ i r, Q i r → ∀ x ∈ r, leafG x = true := fun i r h => by rw [h.2.2]; exact Elt.row_pl _
  have okL := rmL_ok (n + 80) k Q hQ
  have rnr : ∀ (f : Nat → Nat) (l : List Int), Blk.rnB f (.cells (eWord.row l) 26) = .cells (eWord.row l) 26 := fun f l => Blk.plain.rnB (b := .cells (eWord.row l) 26) (Elt.row_pl _) f
  have hz : repl [Value.int .u64 0] (n + 80) = eWord.row (List.replicate (n + 80) 0) := repl_row (e := eWord) (x := 0) rfl _
  have hcopy : CopyOK n (n + 80) 1 0 cs o (eWord.row (List.replicate (n + 80) 0)) (fullR (eWord.list cs o n) k n) := copyOK (e := eWord) hr rfl (by omega) (by simp) hpl (congrArg eWord.row (by rw [hlen, Nat.sub_self]; simp [List.drop_replicate]))
  refine rmIn Q cs o n c (n + 80) k (n : Int) (eWord.row (List.replicate (n + 80) 0)) (fullR (eWord.list cs o n) k n) hE okL
    ⟨rfl, ⟨(n, _), ⟨Nat.le_refl _, by omega, rfl⟩, trivial, rfl, by simp [rmL, fullR, rnr]⟩, hcopy, ⟨rfl, by show (0 : Int) ≤ ((n + 80 : Nat) : Int); omega, by show ((n + 80 : Nat) : Int) ≤ _; omega, by show (8 : Int) * ((n + 80 : Nat) : Int) ≤ _; omega, hz.symm⟩, (i64_id (by show (n : Int) + 80 = ((n + 80 : Nat) : Int); omega) (by show _ ≤ ((n + 80 : Nat) : Int); omega) (by show ((n + 80 : Nat) : Int) ≤ _; omega)), rfl, trivial⟩ fun zz hz _ => by_loop (rmL (n + 80) k Q) (lp Try.f29 0) ?_ 0 zz hz
  rintro b ⟨i, r⟩ hinv J hJ
  have hinv : n ≤ i ∧ i ≤ n + 80 ∧ r = fullR (eWord.list cs o n) k i := hinv
  obtain ⟨k1, k2, k3⟩ := hinv
  show Sat E (inLp (lp Try.f29 0) J) ((rmL (n + 80) k Q).st 0 (i, r))
  have hJ' : ∀ zz, (rmL (n + 80) k Q).inv 0 zz → ltO ((rmL (n + 80) k Q).mu 0 zz) (some (n + 80 - i)) → Sat E (mkLp (lp Try.f29 0) J) ((rmL (n + 80) k Q).st 0 zz) := fun zz h1 h2 => hJ 0 zz h1 h2
  by_cases hin : i < n + 80
  · have hlt : decide ((i : Int) < ((n + 80 : Nat) : Int)) = true := decide_eq_true (by omega)
    have hset : lset r (0 + ((i : Int)).toNat * 1) [.int .u64 k] = some (fullR (eWord.list cs o n) k (i + 1)) := by
      rw [k3]
      have hget : (eWord.list cs o n ++ List.replicate (i - (eWord.list cs o n).length) k ++ List.replicate ((eWord.list cs o n).length + 80 - i) 0)[i]? = some 0 := by
        rw [hlen, List.getElem?_append_right (by simp [hlen]; omega)]
        rw [List.getElem?_replicate, if_pos (by simp [hlen]; omega)]
      have := lsetE (e := eWord) (x := k) (f := 0) (vs := [.int .u64 k]) (o := 0 + ((i : Int)).toNat * 1) hget rfl (by simp [eWord])
      unfold fullR
      rw [this]
      congr 2
      rw [hlen, show n + 80 - i = (n + 80 - (i + 1)) + 1 by omega, show i + 1 - n = (i - n) + 1 by omega, List.replicate_succ, List.replicate_succ']
      rw [List.set_append_right _ _ (by simp [hlen]; omega)]
      have : i - (eWord.list cs o n ++ List.replicate (i - n) k).length = 0 := by simp [hlen]; omega
      rw [this]
      simp
    exact rmB Q (n + 80) i k r _ J hE okL ⟨rfl, ⟨(i + 1, _), ⟨by omega, by omega, rfl⟩, (by show n + 80 - (i + 1) < n + 80 - i; omega), rfl, by simp [rmL, fullR, rnr]⟩, i64_succ (by omega), hset, ⟨Int.natCast_nonneg _, Int.ofNat_lt.2 hin⟩, hlt, trivial⟩ hJ'
  · have hlt : decide ((i : Int) < ((n + 80 : Nat) : Int)) = false := decide_eq_false (by omega)
    have hi : i = n + 80 := by omega
    have hfin : r = eWord.row (eWord.list cs o n ++ List.replicate 80 k) := by
      rw [k3, hi]; unfold fullR; rw [hlen]; congr 1; simp
    subst hfin
    exact rmE Q (n + 80) i k _ (Elt.row_pl _) J hE ⟨⟨rfl, by simp [rnr]⟩, hlt, trivial⟩
theorem roomy_nil (k : Int) :
    CallSpec Try.prog 29 [.slice none 0 0, .int .u64 k] (roRows []) 0 (.slice (some ⟨100, 0, none⟩) 80 80) (assocN [100] [.cells (eWord.row (([] : List Int) ++ List.replicate 80 k)) 26]) := by
  refine spec_of_sat Try.func29 rfl fun E hE => ?_
  have hlen : ([] : List Int).length = 0 := rfl
  let Q : Nat → List Value → Prop := fun i r => 0 ≤ i ∧ i ≤ 80 ∧ r = fullR (([] : List Int)) k i
  have hQ : ∀ i r, Q i r → ∀ x ∈ r, leafG x = true := fun i r h => by rw [h.2.2]; exact Elt.row_pl _
  have okL : (rmL 80 k Q).OK 0 := rmL_ok0 80 k Q hQ
  have rnr : ∀ (f : Nat → Nat) (l : List Int), Blk.rnB f (.cells (eWord.row l) 26) = .cells (eWord.row l) 26 := fun f l => Blk.plain.rnB (b := .cells (eWord.row l) 26) (Elt.row_pl _) f
  have hz : repl [Value.int .u64 0] 80 = eWord.row (List.replicate 80 0) := repl_row (e := eWord) (x := 0) rfl _
  refine rmInN Q k (fullR ([] : List Int) k 0) hE okL
    ⟨rfl, ⟨(0, _), ⟨Nat.le_refl _, by omega, rfl⟩, trivial, rfl, by simp only [rmL, List.map_cons, List.map_nil, fullR, rnr]⟩, ⟨rfl, by decide, by decide, by decide, hz.symm⟩, rfl, rfl, trivial⟩ fun zz hz _ => by_loop (rmL 80 k Q) (lp Try.f29 0) ?_ 0 zz hz
  rintro b ⟨i, r⟩ hinv J hJ
  have hinv : 0 ≤ i ∧ i ≤ 80 ∧ r = fullR (([] : List Int)) k i := hinv
  obtain ⟨k1, k2, k3⟩ := hinv
  show Sat E (inLp (lp Try.f29 0) J) ((rmL 80 k Q).st 0 (i, r))
  have hJ' : ∀ zz, (rmL 80 k Q).inv 0 zz → ltO ((rmL 80 k Q).mu 0 zz) (some (80 - i)) → Sat E (mkLp (lp Try.f29 0) J) ((rmL 80 k Q).st 0 zz) := fun zz h1 h2 => hJ 0 zz h1 h2
  by_cases hin : i < 80
  · have hlt : decide ((i : Int) < ((80 : Nat) : Int)) = true := decide_eq_true (by omega)
    have hset : lset r (0 + ((i : Int)).toNat * 1) [.int .u64 k] = some (fullR ([] : List Int) k (i + 1)) := by
      have e : fullR ([] : List Int) k i = eWord.row (List.replicate i k ++ List.replicate (80 - i) 0) := by simp [fullR]
      have e' : fullR ([] : List Int) k (i + 1) = eWord.row (List.replicate (i + 1) k ++ List.replicate (80 - (i + 1)) 0) := by simp [fullR]
      rw [k3, e, e']
      have hget : (List.replicate i k ++ List.replicate (80 - i) 0)[i]? = some 0 := by
        rw [List.getElem?_append_right (by simp), List.getElem?_replicate, if_pos (by simp <;> omega)]
      have := lsetE (e := eWord) (x := k) (f := 0) (vs := [.int .u64 k]) (o := 0 + ((i : Int)).toNat * 1) hget rfl (by simp [eWord])
      rw [this]
      congr 2
      rw [show 80 - i = (80 - (i + 1)) + 1 by omega, List.replicate_succ, List.replicate_succ', List.set_append_right _ _ (by simp)]
      simp
    exact rmB0 Q 80 i k r _ J hE okL ⟨rfl, ⟨(i + 1, _), ⟨by omega, by omega, rfl⟩, (by show 80 - (i + 1) < 80 - i; omega), rfl, by simp [rmL, fullR, rnr]⟩, i64_succ (by omega), hset, ⟨Int.natCast_nonneg _, Int.ofNat_lt.2 hin⟩, hlt, trivial⟩ hJ'
  · have hlt : decide ((i : Int) < ((80 : Nat) : Int)) = false := decide_eq_false (by omega)
    have hi : i = 80 := by omega
    have hfin : r = eWord.row (([] : List Int) ++ List.replicate 80 k) := by
      rw [k3, hi]; unfold fullR; rw [hlen]; congr 1
    subst hfin
    exact rmE0 Q 80 i k _ (Elt.row_pl _) J hE ⟨⟨rfl, by simp [rnr]⟩, hlt, trivial⟩
def roomy_F (N8 : Nat → Nat) : RoF := fun xs css => match xs, css with
  | [.slice (some ⟨0, o, none⟩) n c, .int .u64 k], [cs] => some (.slice (some ⟨100, 0, none⟩) (N8 n) (N8 n), [.cells (eWord.row (eWord.list cs o n ++ List.replicate 80 k)) 26], [eWord.Row cs o n, n ≤ 65536, N8 = fun n => n + 80])
  | [.slice none 0 0, .int .u64 k], [] => some (.slice (some ⟨100, 0, none⟩) (N8 0) (N8 0), [.cells (eWord.row (List.replicate (N8 0) k)) 26], [N8 = fun n => n + 80])
  | _, _ => none
theorem roomy_sum (N8 : Nat → Nat) : SumOK Try.prog 29 (roSum (roomy_F N8)) := by
  refine roSum_ok (en Try.func29 rfl) ?_ (fun xs css r h => ?_)
  · intro xs css v blks ob h hob hpl hl
    unfold roomy_F at h
    split at h
    · rename_i o n c k cs
      simp only [Option.some.injEq, Prod.mk.injEq] at h
      obtain ⟨rfl, rfl, rfl⟩ := h
      obtain rfl : N8 = fun n => n + 80 := hob _ (by simp)
      refine ⟨by simp, fun x hx => by simp at hx; subst hx; exact ⟨Elt.row_pl _, rfl⟩, fun j hj => by simp [nms, nm1, nm0] at hj; subst hj; simp, ?_⟩
      exact roomy_spec cs o n c k (hob _ (List.mem_cons_self ..)) (hpl cs (by simp)) (hob _ (by simp))
    · rename_i k
      simp only [Option.some.injEq, Prod.mk.injEq] at h
      obtain ⟨rfl, rfl, rfl⟩ := h
      obtain rfl : N8 = fun n => n + 80 := hob _ (by simp)
      refine ⟨by simp, fun x hx => by simp at hx; subst hx; exact ⟨Elt.row_pl _, rfl⟩, fun j hj => by simp [nms, nm1, nm0] at hj; subst hj; simp, ?_⟩
      exact roomy_nil k
    · simp at h
  · unfold roomy_F at h
    split at h <;> simp at h <;> simp
/-- Intact, where it says true. -/
theorem intact_spec (cs ds : List Value) (o n c p m d : Nat) (k : Int) (hr : eWord.Row cs o n) (hr2 : eWord.Row ds p m) (hpl : ∀ x ∈ cs, leafG x = true) (hpl2 : ∀ x ∈ ds, leafG x = true) (hn : n ≤ 65536) (hnc : n ≤ c) (hcm : c ≤ 16777216) (heq : eWord.list cs o n = eWord.list ds p m ++ List.replicate 80 k) :
    CallSpec Try.prog 33 [.slice (some ⟨0, o, none⟩) n c, .slice (some ⟨1, p, none⟩) m d, .int .u64 k] (roRows [cs, ds]) 2 (.bool true) (assocN [] []) := by
  refine spec_of_sat Try.func33 rfl fun E hE => ?_
  have hlen : (eWord.list cs o n).length = n := Elt.list_len _ _ _
  have hlen2 : (eWord.list ds p m).length = m := Elt.list_len _ _ _
  have hnm : n = m + 80 := by have := congrArg List.length heq; simp [hlen, hlen2] at this; omega
  obtain ⟨hrm, htake⟩ := hr.take (m := m) (by omega)
  have hsame : eWord.list cs o m = eWord.list ds p m := by rw [htake, heq, List.take_left' hlen2]
  have okL := itL_ok cs o n c k m hpl
  have rnr : ∀ f : Nat → Nat, Blk.rnB f (.ro cs) = .ro cs := fun f => Blk.plain.rnB (b := .ro cs) hpl f
  have hcm' : c < Ev.mark := by unfold Ev.mark; omega
  refine itIn cs ds o n c p m d k (m : Int) hE okL ⟨rfl, ⟨m, ⟨Nat.le_refl _, by omega⟩, trivial, rfl, by simp [itL, rnr]⟩, (congrArg _ (decide_eq_true hsame)), plain2 hpl hpl2, hrm, hr2, (by omega),
    ⟨0, m, rfl, rfl, Nat.zero_le _, by omega, Or.inr ⟨hcm', hnc, if h0 : c = 0 then Or.inl ⟨h0, by simp⟩ else Or.inr ⟨h0, by simp⟩⟩⟩, (congrArg _ (bne_self_eq_false _)), (i64_id (by show (m : Int) + 80 = (n : Int); omega) (by show _ ≤ (n : Int); omega) (by show (n : Int) ≤ _; omega)), rfl, trivial⟩ fun zz hz _ => by_loop (itL cs o n c k m) (lp Try.f33 0) ?_ 0 zz hz
  rintro b i hinv J hJ
  have hinv : m ≤ i ∧ i ≤ n := hinv
  obtain ⟨k1, k2⟩ := hinv
  show Sat E (inLp (lp Try.f33 0) J) ((itL cs o n c k m).st 0 i)
  have hJ' : ∀ zz, (itL cs o n c k m).inv 0 zz → ltO ((itL cs o n c k m).mu 0 zz) (some (n - i)) → Sat E (mkLp (lp Try.f33 0) J) ((itL cs o n c k m).st 0 zz) := fun zz h1 h2 => hJ 0 zz h1 h2
  by_cases hin : i < n
  · have hlt : decide ((i : Int) < (n : Int)) = true := decide_eq_true (by omega)
    have hx : (eWord.list cs o n)[i]? = some k := by
      rw [heq, List.getElem?_append_right (by omega), List.getElem?_replicate, if_pos (by omega)]
    have hrd := hr.read1 (P := Try.prog) (ty := 26) (by kernel_rfl) rfl (i := i) hx rfl rfl
    rw [← Nat.mul_one i] at hrd
    exact itB cs o n c k m i J hE okL ⟨rfl, ⟨i + 1, ⟨by omega, by omega⟩, (by show n - (i + 1) < n - i; omega), rfl, by simp [itL, rnr]⟩, i64_succ (by omega), (congrArg _ (bne_self_eq_false _)), hrd, ⟨Int.natCast_nonneg _, Int.ofNat_lt.2 hin⟩, hlt, trivial⟩ hJ'
  · have hlt : decide ((i : Int) < (n : Int)) = false := decide_eq_false (by omega)
    exact itE cs o n c k m i J hE ⟨⟨rfl, rfl⟩, hlt, trivial⟩
theorem intact_nil (cs : List Value) (o n c : Nat) (k : Int) (hr : eWord.Row cs o n) (hpl : ∀ x ∈ cs, leafG x = true) (hn : n ≤ 65536) (hnc : n ≤ c) (hcm : c ≤ 16777216) (heq : eWord.list cs o n = ([] : List Int) ++ List.replicate 80 k) :
    CallSpec Try.prog 33 [.slice (some ⟨0, o, none⟩) n c, .slice none 0 0, .int .u64 k] (roRows [cs]) 1 (.bool true) (assocN [] []) := by
  refine spec_of_sat Try.func33 rfl fun E hE => ?_
  have hlen : (eWord.list cs o n).length = n := Elt.list_len _ _ _
  have hlen2 : ([] : List Int).length = 0 := rfl
  have hnm : n = 80 := by have := congrArg List.length heq; simp [hlen, hlen2] at this; omega
  obtain ⟨hrm, htake⟩ := hr.take (m := 0) (by omega)
  have okL := itL_ok1 cs o n c k 0 hpl
  have rnr : ∀ f : Nat → Nat, Blk.rnB f (.ro cs) = .ro cs := fun f => Blk.plain.rnB (b := .ro cs) hpl f
  have hcm' : c < Ev.mark := by unfold Ev.mark; omega
  refine itInN cs o n c k hE okL ⟨rfl, ⟨0, ⟨Nat.le_refl _, by omega⟩, trivial, rfl, by simp only [itL, List.map_cons, List.map_nil, rnr]⟩, rfl, plain1 hpl,
    ⟨0, 0, rfl, rfl, Nat.zero_le _, by omega, Or.inr ⟨hcm', hnc, if h0 : c = 0 then Or.inl ⟨h0, by simp⟩ else Or.inr ⟨h0, by simp⟩⟩⟩, (congrArg _ (bne_self_eq_false _)), (congrArg _ (by rw [hnm]; rfl)), rfl, trivial⟩ fun zz hz _ => by_loop (itL cs o n c k 0) (lp Try.f33 0) ?_ 0 zz hz
  rintro b i hinv J hJ
  have hinv : 0 ≤ i ∧ i ≤ n := hinv
  obtain ⟨k1, k2⟩ := hinv
  show Sat E (inLp (lp Try.f33 0) J) ((itL cs o n c k 0).st 0 i)
  have hJ' : ∀ zz, (itL cs o n c k 0).inv 0 zz → ltO ((itL cs o n c k 0).mu 0 zz) (some (n - i)) → Sat E (mkLp (lp Try.f33 0) J) ((itL cs o n c k 0).st 0 zz) := fun zz h1 h2 => hJ 0 zz h1 h2
  by_cases hin : i < n
  · have hlt : decide ((i : Int) < (n : Int)) = true := decide_eq_true (by omega)
    have hx : (eWord.list cs o n)[i]? = some k := by
      rw [heq, List.getElem?_append_right (by omega), List.getElem?_replicate, if_pos (by omega)]
    have hrd := hr.read1 (P := Try.prog) (ty := 26) (by kernel_rfl) rfl (i := i) hx rfl rfl
    rw [← Nat.mul_one i] at hrd
    exact itB0 cs o n c k 0 i J hE okL ⟨rfl, ⟨i + 1, ⟨by omega, by omega⟩, (by show n - (i + 1) < n - i; omega), rfl, by simp [itL, rnr]⟩, i64_succ (by omega), (congrArg _ (bne_self_eq_false _)), hrd, ⟨Int.natCast_nonneg _, Int.ofNat_lt.2 hin⟩, hlt, trivial⟩ hJ'
  · have hlt : decide ((i : Int) < (n : Int)) = false := decide_eq_false (by omega)
    exact itE0 cs o n c k 0 i J hE ⟨⟨rfl, rfl⟩, hlt, trivial⟩
def intact_F : RoF := fun xs css => match xs, css with
  | [.slice (some ⟨0, o, none⟩) n c, .slice (some ⟨1, p, none⟩) m d, .int .u64 k], [cs, ds] => some (.bool true, [], [eWord.Row cs o n, eWord.Row ds p m, n ≤ 65536, n ≤ c, c ≤ 16777216, eWord.list cs o n = eWord.list ds p m ++ List.replicate 80 k])
  | [.slice (some ⟨0, o, none⟩) n c, .slice none 0 0, .int .u64 k], [cs] => some (.bool true, [], [eWord.Row cs o n, n ≤ 65536, n ≤ c, c ≤ 16777216, n = 80, ∀ z ∈ eWord.list cs o n, z = k])
  | _, _ => none
theorem intact_sum : SumOK Try.prog 33 (roSum intact_F) := by
  refine roSum_ok (en Try.func33 rfl) ?_ (fun xs css r h => ?_)
  · intro xs css v blks ob h hob hpl hl
    unfold intact_F at h
    split at h
    · rename_i o n c p m d k cs ds
      simp only [Option.some.injEq, Prod.mk.injEq] at h
      obtain ⟨rfl, rfl, rfl⟩ := h
      refine ⟨by simp, by simp, fun j hj => by simp [nms, nm1, nm0] at hj, ?_⟩
      exact intact_spec cs ds o n c p m d k (hob _ (by simp)) (hob _ (by simp)) (hpl cs (by simp)) (hpl ds (by simp)) (hob _ (by simp)) (hob _ (by simp)) (hob _ (by simp)) (hob _ (by simp))
    · rename_i o n c k cs
      simp only [Option.some.injEq, Prod.mk.injEq] at h
      obtain ⟨rfl, rfl, rfl⟩ := h
      refine ⟨by simp, by simp, fun j hj => by simp [nms, nm1, nm0] at hj, ?_⟩
      have hn80 : n = 80 := hob _ (by simp)
      have hall : ∀ z ∈ eWord.list cs o n, z = k := hob _ (List.mem_cons_of_mem _ (List.mem_cons_of_mem _ (List.mem_cons_of_mem _ (List.mem_cons_of_mem _ (List.mem_cons_of_mem _ (List.mem_cons_self ..))))))
      exact intact_nil cs o n c k (hob _ (by simp)) (hpl cs (by simp)) (hob _ (by simp)) (hob _ (by simp)) (hob _ (by simp)) (by rw [List.nil_append]; exact List.eq_replicate_iff.2 ⟨by rw [Elt.list_len]; exact hn80, hall⟩)
    · simp at h
  · unfold intact_F at h
    split at h <;> simp at h <;> simp
end Go.Proofs.Ytnngaedhedbenaa.Rm


set_option linter.unusedVariables false
set_option linter.unusedSimpArgs false
set_option maxRecDepth 100000
namespace Go.Proofs.Ytnngaedhedbenaa.Tr
open Go Go.RowKit Go.Proofs.Ytnngaedhedbenaa.Ev Go.Proofs.Ytnngaedhedbenaa.NodeE

def fEn (cs : List Value) (o n c : Nat) (p : Pt) (Q : Nat × Nat → Prop) : LoopF (Nat × Nat) where
  ts _ := [0, 3, 5, 6, 9]
  hs _ := [0, 10, 11]
  tv _ := fun ⟨k, a⟩ => [.slice (some ⟨0, o, none⟩) n c, .pointer (some ⟨10, 0, none⟩), .pointer (some ⟨11, 0, none⟩), .int .i64 (a : Int), .int .i64 (k : Int)]
  hv _ _ := [.ro cs, .cells p.cs 41, .cells [.bool false, .int .i64 0, .int .i64 0, .int .i64 0, .int .i64 0, .int .i64 0] 23]
  inv _ := Q
  mu _ := fun ⟨k, a⟩ => 31 - k
  nx := 12
theorem pt_pl (p : Pt) : ∀ x ∈ p.cs, leafG x = true := by
  intro x hx
  simp [Pt.cs] at hx
  rcases hx with rfl | rfl | rfl | rfl <;> rfl
theorem nd_pl (l : Bool) (v f a x y : Int) : ∀ q ∈ [Value.bool l, .int .i64 v, .int .i64 f, .int .i64 a, .int .i64 x, .int .i64 y], leafG q = true := by
  intro q hq
  simp at hq
  rcases hq with rfl | rfl | rfl | rfl | rfl | rfl <;> rfl

theorem fEn_ok (cs : List Value) (o n c : Nat) (p : Pt) (Q : Nat × Nat → Prop) (hpl : ∀ x ∈ cs, leafG x = true) : (fEn cs o n c p Q).OK 1 := by
  refine ⟨(by decide : 1 ≤ 12), fun z i h k hk => ?_, fun z i h v hv k hk => ?_, fun z i h x hx => ?_⟩
  · show k < 12
    simp [fEn] at hk; omega
  · show k < 12
    simp [fEn] at hv
    rcases hv with rfl | rfl | rfl | rfl | rfl <;> simp [nms, nm1, nm0] at hk <;> omega
  · simp [fEn] at hx
    rcases hx with rfl | rfl | rfl
    · exact Blk.plain.namesLt (b := .ro cs) hpl _
    · exact Blk.plain.namesLt (b := .cells p.cs 41) (pt_pl p) _
    · exact Blk.plain.namesLt (b := .cells _ 23) (nd_pl _ _ _ _ _ _) _

def fRw (cs : List Value) (o n c : Nat) (p : Pt) (Q : Nat × Nat → Prop) : LoopF (Nat × Nat) where
  ts _ := [0, 3, 5, 8]
  hs _ := [0, 10]
  tv _ := fun ⟨k, a⟩ => [.slice (some ⟨0, o, none⟩) n c, .pointer (some ⟨10, 0, none⟩), .int .i64 (a : Int), .int .i64 (k : Int)]
  hv _ _ := [.ro cs, .cells p.cs 41]
  inv _ := Q
  mu _ := fun ⟨k, a⟩ => 31 - k
  nx := 12

theorem fRw_ok (cs : List Value) (o n c : Nat) (p : Pt) (Q : Nat × Nat → Prop) (hpl : ∀ x ∈ cs, leafG x = true) : (fRw cs o n c p Q).OK 1 := by
  refine ⟨(by decide : 1 ≤ 12), fun z i h k hk => ?_, fun z i h v hv k hk => ?_, fun z i h x hx => ?_⟩
  · show k < 12
    simp [fRw] at hk; omega
  · show k < 12
    simp [fRw] at hv
    rcases hv with rfl | rfl | rfl | rfl <;> simp [nms, nm1, nm0] at hk <;> omega
  · simp [fRw] at hx
    rcases hx with rfl | rfl
    · exact Blk.plain.namesLt (b := .ro cs) hpl _
    · exact Blk.plain.namesLt (b := .cells p.cs 41) (pt_pl p) _

/-- tree.Right's first loop: the counts so far. -/
def fRt (cs : List Value) (o n c : Nat) (dim : Int) (Q : Nat × List Int → Prop) : LoopF (Nat × List Int) where
  ts _ := [0, 1, 5, 23, 24, 25]
  hs _ := [0, 10]
  tv _ := fun ⟨i, r⟩ => [.slice (some ⟨0, o, none⟩) n c, .int .i64 dim, .slice (some ⟨10, 0, none⟩) n n, .slice (some ⟨0, o, none⟩) n c, .int .i64 (n : Int), .int .i64 (i : Int)]
  hv _ := fun ⟨i, r⟩ => [.ro cs, .cells (eInt.row r) 3]
  inv _ := Q
  mu _ := fun ⟨i, r⟩ => n - i
  nx := 12

theorem fRt_ok (cs : List Value) (o n c : Nat) (dim : Int) (Q : Nat × List Int → Prop) (hpl : ∀ x ∈ cs, leafG x = true) : (fRt cs o n c dim Q).OK 1 := by
  refine ⟨(by decide : 1 ≤ 12), fun z i h k hk => ?_, fun z i h v hv k hk => ?_, fun z i h x hx => ?_⟩
  · show k < 12
    simp [fRt] at hk; omega
  · show k < 12
    simp [fRt] at hv
    rcases hv with rfl | rfl | rfl | rfl | rfl | rfl <;> simp [nms, nm1, nm0] at hk <;> omega
  · simp [fRt] at hx
    rcases hx with rfl | rfl
    · exact Blk.plain.namesLt (b := .ro cs) hpl _
    · exact Blk.plain.namesLt (b := .cells _ 3) (Elt.row_pl _) _

/-- tree.Right's second loop. -/
def fRn (m q : Nat) (r : List Int) (Q : Nat → Prop) : LoopF Nat where
  ts _ := [85, 86, 87]
  hs _ := [10]
  tv _ := fun i => [.slice (some ⟨10, q, none⟩) m m, .int .i64 (m : Int), .int .i64 (i : Int)]
  hv _ := fun i => [.cells (eInt.row r) 3]
  inv _ := Q
  mu _ := fun i => m - i
  nx := 12

theorem fRn_ok (m q : Nat) (r : List Int) (Q : Nat → Prop) : (fRn m q r Q).OK 1 := by
  refine ⟨(by decide : 1 ≤ 12), fun z i h k hk => ?_, fun z i h v hv k hk => ?_, fun z i h x hx => ?_⟩
  · show k < 12
    simp [fRn] at hk; omega
  · show k < 12
    simp [fRn] at hv
    rcases hv with rfl | rfl | rfl <;> simp [nms, nm1, nm0] at hk <;> omega
  · simp [fRn] at hx
    subst hx
    exact Blk.plain.namesLt (b := .cells _ 3) (Elt.row_pl _) _

end Go.Proofs.Ytnngaedhedbenaa.Tr


set_option linter.unusedVariables false
set_option linter.unusedSimpArgs false
set_option maxRecDepth 100000
namespace Go.Proofs.Ytnngaedhedbenaa.Tr
open Go Go.RowKit Go.Proofs.Ytnngaedhedbenaa.Ev Go.Proofs.Ytnngaedhedbenaa.NodeE Go.Proofs.Ytnngaedhedbenaa.Tr

theorem rtNil (dim : Int)  {E : Env} (hE : EnvOK E Try.prog Try.f22 2 0 (.bool false) [] []) (hob : all [Back (Value.bool false) (Value.bool false) [] [] []]) : Sat E [.code (bodyOf Try.f22)] (st0 Try.f22 [.slice none 0 0, .int .i64 dim] (roRows []) 0) :=
  by_ret (T := auto0 t_runpack) (h := hints []) (ws := []) (nx' := 0) hE hm (auto0_ok t_runpack_ok) (by omega) (by simp) (by simp) (by kernel_rfl) hob
theorem rtShort (cs : List Value) (o n c : Nat) (dim : Int)  {E : Env} (hE : EnvOK E Try.prog Try.f22 2 1 (.bool false) [] []) (hob : all [Back (Value.bool false) (Value.bool false) [] [] [], Value.bool (decide ((↑n : Int) < 1)) = Value.bool true]) : Sat E [.code (bodyOf Try.f22)] (st0 Try.f22 [.slice (some ⟨0, o, none⟩) n c, .int .i64 dim] (roRows [cs]) 1) :=
  by_ret (T := auto0 t_runpack) (h := hints [(1, 2, ht true)]) (ws := []) (nx' := 1) hE hm (auto0_ok t_runpack_ok) (by omega) (by simp) (by simp) (by kernel_rfl) hob
theorem rtLong (cs : List Value) (o n c : Nat) (dim : Int)  {E : Env} (hE : EnvOK E Try.prog Try.f22 2 1 (.bool false) [] []) (hob : all [Back (Value.bool false) (Value.bool false) [] [] [], Value.bool (decide ((↑n : Int) > 31)) = Value.bool true, Value.bool (decide ((↑n : Int) < 1)) = Value.bool false]) : Sat E [.code (bodyOf Try.f22)] (st0 Try.f22 [.slice (some ⟨0, o, none⟩) n c, .int .i64 dim] (roRows [cs]) 1) :=
  by_ret (T := auto0 t_runpack) (h := hints [(1, 2, ht false), (1, 6, ht true)]) (ws := []) (nx' := 1) hE hm (auto0_ok t_runpack_ok) (by omega) (by simp) (by simp) (by kernel_rfl) hob
theorem rtIn (cs : List Value) (o n c : Nat) (dim : Int) (Q : Nat × List Int → Prop) (r : List Int)  {E : Env} {rv : Value} {rhs : List Nat} {rhv : List Blk} (hE : EnvOK E Try.prog Try.f22 2 1 rv rhs rhv) (hL : (fRt cs o n c dim Q).OK 1) (hob : all [SameK (atLp (lp Try.f22 0)) (atLp (lp Try.f22 0)), Enter (fRt cs o n c dim Q) 0 none [Value.slice (some (Addr.mk 0 o none)) n c, Value.int IntKind.i64 dim, Value.slice (some (Addr.mk 45 0 none)) ((n : Int)).toNat ((n : Int)).toNat, Value.slice (some (Addr.mk 0 o none)) n c, Value.int IntKind.i64 ((n : Int)), Value.int IntKind.i64 ((0 : Int))] [Blk.ro cs, Blk.cells (eInt.row r) 3] [(0, 0), (10, 45), (0, 0)], MkOK ((n : Int)) ((n : Int)) 8 [Value.int IntKind.i64 ((0 : Int))] (eInt.row r), Value.bool (decide ((↑n : Int) > 31)) = Value.bool false, Value.bool (decide ((↑n : Int) < 1)) = Value.bool false]) (hK : ∀ zz, (fRt cs o n c dim Q).inv 0 zz → ltO ((fRt cs o n c dim Q).mu 0 zz) none → Sat E (atLp (lp Try.f22 0)) ((fRt cs o n c dim Q).st 0 zz)) : Sat E [.code (bodyOf Try.f22)] (st0 Try.f22 [.slice (some ⟨0, o, none⟩) n c, .int .i64 dim] (roRows [cs]) 1) :=
  by_to (T := auto0 t_runpack) (h := hints [(1, 2, ht false), (1, 6, ht false), (3, 2, {c := some (eInt.row r)})]) (ws := [.go, .stop]) (i0 := (0, r)) hE hm (auto0_ok t_runpack_ok) hL (by kernel_rfl) hob hK
theorem rtN (cs : List Value) (o n c : Nat) (dim : Int) (Q : Nat × List Int → Prop) (i : Nat) (r : List Int) (w : Int) (J : Act → World → Prop) {E : Env} (hE : EnvOK E Try.prog Try.f22 2 1 (.bool false) [] []) (hob : all [Back (Value.bool false) (Value.bool false) [] [] [], Value.tuple (Array.mk [Value.agg (Array.mk [Value.bool (okB w && lfB w), Value.int IntKind.i64 (sV w), Value.int IntKind.i64 (sF w), Value.int IntKind.i64 (sA w), Value.int IntKind.i64 (sX w), Value.int IntKind.i64 (sY w)]), Value.bool (okB w)]) = Value.tuple (Array.mk [Value.agg (Array.mk [Value.bool false, Value.int IntKind.i64 ((0 : Int)), Value.int IntKind.i64 ((0 : Int)), Value.int IntKind.i64 ((0 : Int)), Value.int IntKind.i64 ((0 : Int)), Value.int IntKind.i64 ((0 : Int))]), Value.bool false]), U64 w, readPart Try.prog 26 cs (o + ((i : Int)).toNat * 1) = some (Value.int IntKind.u64 w), (0 : Int) ≤ (i : Int) ∧ (i : Int) < (n : Int), decide ((↑i : Int) < (↑n : Int)) = true]) : Sat E (inLp (lp Try.f22 0) J) ((fRt cs o n c dim Q).st 0 (i, r)) :=
  by_ret (T := auto0 t_runpack) (h := hints [(6, 1, {p := true}), (6, 2, {o := some (.int .u64 w)}), (7, 1, {v := some (.tuple ⟨[nd false 0 0 0 0 0, .bool false]⟩)})]) (ws := [.b true]) (nx' := 1) hE hm (auto0_ok t_runpack_ok) (by omega) (by simp) (by simp) (by kernel_rfl) hob
theorem rtF (cs : List Value) (o n c : Nat) (dim : Int) (Q : Nat × List Int → Prop) (i : Nat) (r : List Int) (w v : Int) (J : Act → World → Prop) {E : Env} {rv : Value} {rhs : List Nat} {rhv : List Blk} (hE : EnvOK E Try.prog Try.f22 2 1 rv rhs rhv) (hL : (fRt cs o n c dim Q).OK 1) (hob : all [SameK (mkLp (lp Try.f22 0) J) (mkLp (lp Try.f22 0) J), Enter (fRt cs o n c dim Q) 0 (some (n - i)) [Value.slice (some (Addr.mk 0 o none)) n c, Value.int IntKind.i64 dim, Value.slice (some (Addr.mk 10 0 none)) n n, Value.slice (some (Addr.mk 0 o none)) n c, Value.int IntKind.i64 ((n : Int)), Value.int IntKind.i64 (Int.ofNat i.succ)] [Blk.ro cs, Blk.cells (eInt.row r) 3] [(0, 0), (10, 10), (0, 0)], Value.int IntKind.i64 (IntKind.i64.wrap (Int.ofNat i.succ)) = Value.int IntKind.i64 (Int.ofNat i.succ), Value.tuple (Array.mk [Value.agg (Array.mk [Value.bool (okB w && lfB w), Value.int IntKind.i64 (sV w), Value.int IntKind.i64 (sF w), Value.int IntKind.i64 (sA w), Value.int IntKind.i64 (sX w), Value.int IntKind.i64 (sY w)]), Value.bool (okB w)]) = Value.tuple (Array.mk [Value.agg (Array.mk [Value.bool true, Value.int IntKind.i64 v, Value.int IntKind.i64 ((0 : Int)), Value.int IntKind.i64 ((0 : Int)), Value.int IntKind.i64 ((0 : Int)), Value.int IntKind.i64 ((0 : Int))]), Value.bool true]), U64 w, readPart Try.prog 26 cs (o + ((i : Int)).toNat * 1) = some (Value.int IntKind.u64 w), (0 : Int) ≤ (i : Int) ∧ (i : Int) < (n : Int), decide ((↑i : Int) < (↑n : Int)) = true]) (hK : ∀ zz, (fRt cs o n c dim Q).inv 0 zz → ltO ((fRt cs o n c dim Q).mu 0 zz) (some (n - i)) → Sat E (mkLp (lp Try.f22 0) J) ((fRt cs o n c dim Q).st 0 zz)) : Sat E (inLp (lp Try.f22 0) J) ((fRt cs o n c dim Q).st 0 (i, r)) :=
  by_to (T := auto0 t_runpack) (h := hints [(6, 1, {p := true}), (6, 2, {o := some (.int .u64 w)}), (7, 1, {v := some (.tuple ⟨[nd true v 0 0 0 0, .bool true]⟩)}), (15, 0, {v := some (.int .i64 ((i + 1 : Nat) : Int))})]) (ws := [.b true]) (i0 := (i + 1, r)) hE hm (auto0_ok t_runpack_ok) hL (by kernel_rfl) hob hK
theorem rtD (cs : List Value) (o n c : Nat) (dim : Int) (Q : Nat × List Int → Prop) (i : Nat) (r : List Int) (w f a x y : Int) (J : Act → World → Prop) {E : Env} (hE : EnvOK E Try.prog Try.f22 2 1 (.bool false) [] []) (hob : all [Back (Value.bool false) (Value.bool false) [] [] [], Value.bool (decide (f ≥ dim)) = Value.bool true, Value.tuple (Array.mk [Value.agg (Array.mk [Value.bool (okB w && lfB w), Value.int IntKind.i64 (sV w), Value.int IntKind.i64 (sF w), Value.int IntKind.i64 (sA w), Value.int IntKind.i64 (sX w), Value.int IntKind.i64 (sY w)]), Value.bool (okB w)]) = Value.tuple (Array.mk [Value.agg (Array.mk [Value.bool false, Value.int IntKind.i64 ((0 : Int)), Value.int IntKind.i64 f, Value.int IntKind.i64 a, Value.int IntKind.i64 x, Value.int IntKind.i64 y]), Value.bool true]), U64 w, readPart Try.prog 26 cs (o + ((i : Int)).toNat * 1) = some (Value.int IntKind.u64 w), (0 : Int) ≤ (i : Int) ∧ (i : Int) < (n : Int), decide ((↑i : Int) < (↑n : Int)) = true]) : Sat E (inLp (lp Try.f22 0) J) ((fRt cs o n c dim Q).st 0 (i, r)) :=
  by_ret (T := auto0 t_runpack) (h := hints [(6, 1, {p := true}), (6, 2, {o := some (.int .u64 w)}), (7, 1, {v := some (.tuple ⟨[nd false 0 f a x y, .bool true]⟩)}), (11, 3, ht true)]) (ws := [.b true]) (nx' := 1) hE hm (auto0_ok t_runpack_ok) (by omega) (by simp) (by simp) (by kernel_rfl) hob
theorem rtE (cs : List Value) (o n c : Nat) (dim : Int) (Q : Nat × List Int → Prop) (i : Nat) (r : List Int) (w f a x y : Int) (J : Act → World → Prop) {E : Env} (hE : EnvOK E Try.prog Try.f22 2 1 (.bool false) [] []) (hob : all [Back (Value.bool false) (Value.bool false) [] [] [], Value.bool (x == y) = Value.bool true, Value.bool (decide (f ≥ dim)) = Value.bool false, Value.tuple (Array.mk [Value.agg (Array.mk [Value.bool (okB w && lfB w), Value.int IntKind.i64 (sV w), Value.int IntKind.i64 (sF w), Value.int IntKind.i64 (sA w), Value.int IntKind.i64 (sX w), Value.int IntKind.i64 (sY w)]), Value.bool (okB w)]) = Value.tuple (Array.mk [Value.agg (Array.mk [Value.bool false, Value.int IntKind.i64 ((0 : Int)), Value.int IntKind.i64 f, Value.int IntKind.i64 a, Value.int IntKind.i64 x, Value.int IntKind.i64 y]), Value.bool true]), U64 w, readPart Try.prog 26 cs (o + ((i : Int)).toNat * 1) = some (Value.int IntKind.u64 w), (0 : Int) ≤ (i : Int) ∧ (i : Int) < (n : Int), decide ((↑i : Int) < (↑n : Int)) = true]) : Sat E (inLp (lp Try.f22 0) J) ((fRt cs o n c dim Q).st 0 (i, r)) :=
  by_ret (T := auto0 t_runpack) (h := hints [(6, 1, {p := true}), (6, 2, {o := some (.int .u64 w)}), (7, 1, {v := some (.tuple ⟨[nd false 0 f a x y, .bool true]⟩)}), (11, 3, ht false), (11, 9, ht true)]) (ws := [.b true]) (nx' := 1) hE hm (auto0_ok t_runpack_ok) (by omega) (by simp) (by simp) (by kernel_rfl) hob
theorem rtM (cs : List Value) (o n c : Nat) (dim : Int) (Q : Nat × List Int → Prop) (i : Nat) (r : List Int) (w f a x y : Int) (J : Act → World → Prop) {E : Env} (hE : EnvOK E Try.prog Try.f22 2 1 (.bool false) [] []) (hob : all [Back (Value.bool false) (Value.bool false) [] [] [], Value.bool (decide (minI x y ≤ (↑i : Int))) = Value.bool true, Value.bool (x == y) = Value.bool false, Value.bool (decide (f ≥ dim)) = Value.bool false, Value.tuple (Array.mk [Value.agg (Array.mk [Value.bool (okB w && lfB w), Value.int IntKind.i64 (sV w), Value.int IntKind.i64 (sF w), Value.int IntKind.i64 (sA w), Value.int IntKind.i64 (sX w), Value.int IntKind.i64 (sY w)]), Value.bool (okB w)]) = Value.tuple (Array.mk [Value.agg (Array.mk [Value.bool false, Value.int IntKind.i64 ((0 : Int)), Value.int IntKind.i64 f, Value.int IntKind.i64 a, Value.int IntKind.i64 x, Value.int IntKind.i64 y]), Value.bool true]), U64 w, readPart Try.prog 26 cs (o + ((i : Int)).toNat * 1) = some (Value.int IntKind.u64 w), (0 : Int) ≤ (i : Int) ∧ (i : Int) < (n : Int), decide ((↑i : Int) < (↑n : Int)) = true]) : Sat E (inLp (lp Try.f22 0) J) ((fRt cs o n c dim Q).st 0 (i, r)) :=
  by_ret (T := auto0 t_runpack) (h := hints [(6, 1, {p := true}), (6, 2, {o := some (.int .u64 w)}), (7, 1, {v := some (.tuple ⟨[nd false 0 f a x y, .bool true]⟩)}), (11, 3, ht false), (11, 9, ht false), (11, 18, ht true)]) (ws := [.b true]) (nx' := 1) hE hm (auto0_ok t_runpack_ok) (by omega) (by simp) (by simp) (by kernel_rfl) hob
theorem rtX (cs : List Value) (o n c : Nat) (dim : Int) (Q : Nat × List Int → Prop) (i : Nat) (r : List Int) (w f a x y : Int) (J : Act → World → Prop) {E : Env} (hE : EnvOK E Try.prog Try.f22 2 1 (.bool false) [] []) (hob : all [Back (Value.bool false) (Value.bool false) [] [] [], Value.bool (decide (maxI x y ≥ (↑n : Int))) = Value.bool true, Value.bool (decide (minI x y ≤ (↑i : Int))) = Value.bool false, Value.bool (x == y) = Value.bool false, Value.bool (decide (f ≥ dim)) = Value.bool false, Value.tuple (Array.mk [Value.agg (Array.mk [Value.bool (okB w && lfB w), Value.int IntKind.i64 (sV w), Value.int IntKind.i64 (sF w), Value.int IntKind.i64 (sA w), Value.int IntKind.i64 (sX w), Value.int IntKind.i64 (sY w)]), Value.bool (okB w)]) = Value.tuple (Array.mk [Value.agg (Array.mk [Value.bool false, Value.int IntKind.i64 ((0 : Int)), Value.int IntKind.i64 f, Value.int IntKind.i64 a, Value.int IntKind.i64 x, Value.int IntKind.i64 y]), Value.bool true]), U64 w, readPart Try.prog 26 cs (o + ((i : Int)).toNat * 1) = some (Value.int IntKind.u64 w), (0 : Int) ≤ (i : Int) ∧ (i : Int) < (n : Int), decide ((↑i : Int) < (↑n : Int)) = true]) : Sat E (inLp (lp Try.f22 0) J) ((fRt cs o n c dim Q).st 0 (i, r)) :=
  by_ret (T := auto0 t_runpack) (h := hints [(6, 1, {p := true}), (6, 2, {o := some (.int .u64 w)}), (7, 1, {v := some (.tuple ⟨[nd false 0 f a x y, .bool true]⟩)}), (11, 3, ht false), (11, 9, ht false), (11, 18, ht false), (11, 28, ht true)]) (ws := [.b true]) (nx' := 1) hE hm (auto0_ok t_runpack_ok) (by omega) (by simp) (by simp) (by kernel_rfl) hob
theorem rtG (cs : List Value) (o n c : Nat) (dim : Int) (Q : Nat × List Int → Prop) (i : Nat) (r r1 r2 : List Int) (w f a x y g1 g2 h1 h2 : Int) (J : Act → World → Prop) {E : Env} {rv : Value} {rhs : List Nat} {rhv : List Blk} (hE : EnvOK E Try.prog Try.f22 2 1 rv rhs rhv) (hL : (fRt cs o n c dim Q).OK 1) (hob : all [SameK (mkLp (lp Try.f22 0) J) (mkLp (lp Try.f22 0) J), Enter (fRt cs o n c dim Q) 0 (some (n - i)) [Value.slice (some (Addr.mk 0 o none)) n c, Value.int IntKind.i64 dim, Value.slice (some (Addr.mk 10 0 none)) n n, Value.slice (some (Addr.mk 0 o none)) n c, Value.int IntKind.i64 ((n : Int)), Value.int IntKind.i64 (Int.ofNat i.succ)] [Blk.ro cs, Blk.cells (eInt.row r2) 3] [(0, 0), (10, 10), (0, 0)], Value.int IntKind.i64 (IntKind.i64.wrap (Int.ofNat i.succ)) = Value.int IntKind.i64 (Int.ofNat i.succ), lset (eInt.row r1) (0 + y.toNat * 1) [Value.int IntKind.i64 h2] = some (eInt.row r2), (0 : Int) ≤ y ∧ y < (n : Int), Value.int IntKind.i64 (IntKind.i64.wrap (g2 + (1 : Int))) = Value.int IntKind.i64 h2, readPart Try.prog 3 (eInt.row r1) (0 + y.toNat * 1) = some (Value.int IntKind.i64 g2), (0 : Int) ≤ y ∧ y < (n : Int), lset (eInt.row r) (0 + x.toNat * 1) [Value.int IntKind.i64 h1] = some (eInt.row r1), (0 : Int) ≤ x ∧ x < (n : Int), Value.int IntKind.i64 (IntKind.i64.wrap (g1 + (1 : Int))) = Value.int IntKind.i64 h1, readPart Try.prog 3 (eInt.row r) (0 + x.toNat * 1) = some (Value.int IntKind.i64 g1), (0 : Int) ≤ x ∧ x < (n : Int), Value.bool (decide (maxI x y ≥ (↑n : Int))) = Value.bool false, Value.bool (decide (minI x y ≤ (↑i : Int))) = Value.bool false, Value.bool (x == y) = Value.bool false, Value.bool (decide (f ≥ dim)) = Value.bool false, Value.tuple (Array.mk [Value.agg (Array.mk [Value.bool (okB w && lfB w), Value.int IntKind.i64 (sV w), Value.int IntKind.i64 (sF w), Value.int IntKind.i64 (sA w), Value.int IntKind.i64 (sX w), Value.int IntKind.i64 (sY w)]), Value.bool (okB w)]) = Value.tuple (Array.mk [Value.agg (Array.mk [Value.bool false, Value.int IntKind.i64 ((0 : Int)), Value.int IntKind.i64 f, Value.int IntKind.i64 a, Value.int IntKind.i64 x, Value.int IntKind.i64 y]), Value.bool true]), U64 w, readPart Try.prog 26 cs (o + ((i : Int)).toNat * 1) = some (Value.int IntKind.u64 w), (0 : Int) ≤ (i : Int) ∧ (i : Int) < (n : Int), decide ((↑i : Int) < (↑n : Int)) = true]) (hK : ∀ zz, (fRt cs o n c dim Q).inv 0 zz → ltO ((fRt cs o n c dim Q).mu 0 zz) (some (n - i)) → Sat E (mkLp (lp Try.f22 0) J) ((fRt cs o n c dim Q).st 0 zz)) : Sat E (inLp (lp Try.f22 0) J) ((fRt cs o n c dim Q).st 0 (i, r)) :=
  by_to (T := auto0 t_runpack) (h := hints [(6, 1, {p := true}), (6, 2, {o := some (.int .u64 w)}), (7, 1, {v := some (.tuple ⟨[nd false 0 f a x y, .bool true]⟩)}), (11, 3, ht false), (11, 9, ht false), (11, 18, ht false), (11, 28, ht false), (13, 3, {p := true}), (13, 4, {o := some (.int .i64 g1)}), (13, 5, {v := some (.int .i64 h1)}), (13, 6, {p := true}), (13, 7, {c := some (eInt.row r1)}), (14, 3, {p := true}), (14, 4, {o := some (.int .i64 g2)}), (14, 5, {v := some (.int .i64 h2)}), (14, 6, {p := true}), (14, 7, {c := some (eInt.row r2)}), (15, 0, {v := some (.int .i64 ((i + 1 : Nat) : Int))})]) (ws := [.b true]) (i0 := (i + 1, r2)) hE hm (auto0_ok t_runpack_ok) hL (by kernel_rfl) hob hK
theorem rtZ (cs : List Value) (o n c m q : Nat) (dim : Int) (Q : Nat × List Int → Prop) (Q2 : Nat → Prop) (i : Nat) (r : List Int) (J : Act → World → Prop) {E : Env} {rv : Value} {rhs : List Nat} {rhv : List Blk} (hE : EnvOK E Try.prog Try.f22 2 1 rv rhs rhv) (hL : (fRn m q r Q2).OK 1) (hob : all [SameK (atLp (lp Try.f22 1)) (atLp (lp Try.f22 1)), Enter (fRn m q r Q2) 0 none [Value.slice (some (Addr.mk 10 q none)) m m, Value.int IntKind.i64 ((m : Int)), Value.int IntKind.i64 ((0 : Int))] [Blk.cells (eInt.row r) 3] [(10, 10)], SlOK 1 10 0 n n (some ((1 : Int))) none (some (Blk.cells (eInt.row r) 3)) (Value.slice (some (Addr.mk 10 q none)) m m), decide ((↑i : Int) < (↑n : Int)) = false]) (hK : ∀ zz, (fRn m q r Q2).inv 0 zz → ltO ((fRn m q r Q2).mu 0 zz) none → Sat E (atLp (lp Try.f22 1)) ((fRn m q r Q2).st 0 zz)) : Sat E (inLp (lp Try.f22 0) J) ((fRt cs o n c dim Q).st 0 (i, r)) :=
  by_to (T := auto0 t_runpack) (h := hints [(16, 1, {o := some (.slice (some ⟨10, q, none⟩) m m)})]) (ws := [.b false, .stop]) (i0 := 0) hE hm (auto0_ok t_runpack_ok) hL (by kernel_rfl) hob hK
theorem rnY (m q : Nat) (r : List Int) (Q : Nat → Prop) (i : Nat) (g : Int) (J : Act → World → Prop) {E : Env} {rv : Value} {rhs : List Nat} {rhv : List Blk} (hE : EnvOK E Try.prog Try.f22 2 1 rv rhs rhv) (hL : (fRn m q r Q).OK 1) (hob : all [SameK (mkLp (lp Try.f22 1) J) (mkLp (lp Try.f22 1) J), Enter (fRn m q r Q) 0 (some (m - i)) [Value.slice (some (Addr.mk 10 q none)) m m, Value.int IntKind.i64 ((m : Int)), Value.int IntKind.i64 (Int.ofNat i.succ)] [Blk.cells (eInt.row r) 3] [(10, 10)], Value.int IntKind.i64 (IntKind.i64.wrap (Int.ofNat i.succ)) = Value.int IntKind.i64 (Int.ofNat i.succ), (g != (1 : Int)) = false, readPart Try.prog 3 (eInt.row r) (q + ((i : Int)).toNat * 1) = some (Value.int IntKind.i64 g), (0 : Int) ≤ (i : Int) ∧ (i : Int) < (m : Int), decide ((↑i : Int) < (↑m : Int)) = true]) (hK : ∀ zz, (fRn m q r Q).inv 0 zz → ltO ((fRn m q r Q).mu 0 zz) (some (m - i)) → Sat E (mkLp (lp Try.f22 1) J) ((fRn m q r Q).st 0 zz)) : Sat E (inLp (lp Try.f22 1) J) ((fRn m q r Q).st 0 i) :=
  by_to (T := auto0 t_runpack) (h := hints [(18, 0, {p := true}), (18, 1, {o := some (.int .i64 g)}), (21, 0, {v := some (.int .i64 ((i + 1 : Nat) : Int))})]) (ws := [.b true, .b false]) (i0 := (i + 1)) hE hm (auto0_ok t_runpack_ok) hL (by kernel_rfl) hob hK
theorem rnN (m q : Nat) (r : List Int) (Q : Nat → Prop) (i : Nat) (g : Int) (J : Act → World → Prop) {E : Env} (hE : EnvOK E Try.prog Try.f22 2 1 (.bool false) [] []) (hob : all [Back (Value.bool false) (Value.bool false) [] [] [], (g != (1 : Int)) = true, readPart Try.prog 3 (eInt.row r) (q + ((i : Int)).toNat * 1) = some (Value.int IntKind.i64 g), (0 : Int) ≤ (i : Int) ∧ (i : Int) < (m : Int), decide ((↑i : Int) < (↑m : Int)) = true]) : Sat E (inLp (lp Try.f22 1) J) ((fRn m q r Q).st 0 i) :=
  by_ret (T := auto0 t_runpack) (h := hints [(18, 0, {p := true}), (18, 1, {o := some (.int .i64 g)})]) (ws := [.b true, .b true]) (nx' := 1) hE hm (auto0_ok t_runpack_ok) (by omega) (by simp) (by simp) (by kernel_rfl) hob
theorem rnE (m q : Nat) (r : List Int) (Q : Nat → Prop) (i : Nat) (J : Act → World → Prop) {E : Env} (hE : EnvOK E Try.prog Try.f22 2 1 (.bool true) [] []) (hob : all [Back (Value.bool true) (Value.bool true) [] [] [], decide ((↑i : Int) < (↑m : Int)) = false]) : Sat E (inLp (lp Try.f22 1) J) ((fRn m q r Q).st 0 i) :=
  by_ret (T := auto0 t_runpack) (h := hints []) (ws := [.b false]) (nx' := 1) hE hm (auto0_ok t_runpack_ok) (by omega) (by simp) (by simp) (by kernel_rfl) hob
end Go.Proofs.Ytnngaedhedbenaa.Tr


set_option linter.unusedVariables false
set_option linter.unusedSimpArgs false
set_option maxRecDepth 100000
namespace Go.Proofs.Ytnngaedhedbenaa.Tr
open Go Go.RowKit Go.Proofs.Ytnngaedhedbenaa.Ev Go.Proofs.Ytnngaedhedbenaa.NodeE Go.Proofs.Ytnngaedhedbenaa.Tr

theorem enIn (cs : List Value) (o n c : Nat) (p : Pt) (Q : Nat × Nat → Prop)  {E : Env} {rv : Value} {rhs : List Nat} {rhv : List Blk} (hE : EnvOK E Try.prog Try.f44 2 1 rv rhs rhv) (hL : (fEn cs o n c p Q).OK 1) (hob : all [SameK (atLp (lp Try.f44 0)) (atLp (lp Try.f44 0)), Enter (fEn cs o n c p Q) 0 none [Value.slice (some (Addr.mk 0 o none)) n c, Value.pointer (some (Addr.mk 1 0 none)), Value.pointer (some (Addr.mk 9 0 none)), Value.int IntKind.i64 ((0 : Int)), Value.int IntKind.i64 ((0 : Int))] [Blk.ro cs, Blk.cells [Value.int IntKind.i64 p.p0, Value.int IntKind.i64 p.p1, Value.int IntKind.i64 p.p2, Value.int IntKind.i64 p.p3] 41, Blk.cells [Value.bool false, Value.int IntKind.i64 ((0 : Int)), Value.int IntKind.i64 ((0 : Int)), Value.int IntKind.i64 ((0 : Int)), Value.int IntKind.i64 ((0 : Int)), Value.int IntKind.i64 ((0 : Int))] 23] [(0, 0), (10, 1), (11, 9)]]) (hK : ∀ zz, (fEn cs o n c p Q).inv 0 zz → ltO ((fEn cs o n c p Q).mu 0 zz) none → Sat E (atLp (lp Try.f44 0)) ((fEn cs o n c p Q).st 0 zz)) : Sat E [.code (bodyOf Try.f44)] (st0 Try.f44 [.slice (some ⟨0, o, none⟩) n c, .agg ⟨p.cs⟩] (roRows [cs]) 1) :=
  by_to (T := auto0 t_runpack) (h := hints []) (ws := [.stop]) (i0 := (0, 0)) hE hm (auto0_ok t_runpack_ok) hL (by kernel_rfl) hob hK
theorem enK (cs : List Value) (o n c : Nat) (p : Pt) (Q : Nat × Nat → Prop) (k a : Nat) (J : Act → World → Prop) {E : Env} (hE : EnvOK E Try.prog Try.f44 2 1 (.tuple ⟨[.int .i64 (-1), nd false 0 0 0 0 0]⟩) [] []) (hob : all [Back (Value.tuple (Array.mk [Value.int IntKind.i64 ((-1 : Int)), Value.agg (Array.mk [Value.bool false, Value.int IntKind.i64 ((0 : Int)), Value.int IntKind.i64 ((0 : Int)), Value.int IntKind.i64 ((0 : Int)), Value.int IntKind.i64 ((0 : Int)), Value.int IntKind.i64 ((0 : Int))])])) (Value.tuple (Array.mk [Value.int IntKind.i64 ((-1 : Int)), Value.agg (Array.mk [Value.bool false, Value.int IntKind.i64 ((0 : Int)), Value.int IntKind.i64 ((0 : Int)), Value.int IntKind.i64 ((0 : Int)), Value.int IntKind.i64 ((0 : Int)), Value.int IntKind.i64 ((0 : Int))])])) [] [] [], decide ((↑k : Int) < 31) = false]) : Sat E (inLp (lp Try.f44 0) J) ((fEn cs o n c p Q).st 0 (k, a)) :=
  by_ret (T := auto0 t_runpack) (h := hints []) (ws := [.b false]) (nx' := 1) hE hm (auto0_ok t_runpack_ok) (by omega) (by simp) (by simp) (by kernel_rfl) hob
theorem enO (cs : List Value) (o n c : Nat) (p : Pt) (Q : Nat × Nat → Prop) (k a : Nat) (J : Act → World → Prop) {E : Env} (hE : EnvOK E Try.prog Try.f44 2 1 (.tuple ⟨[.int .i64 (-1), nd false 0 0 0 0 0]⟩) [] []) (hob : all [Back (Value.tuple (Array.mk [Value.int IntKind.i64 ((-1 : Int)), Value.agg (Array.mk [Value.bool false, Value.int IntKind.i64 ((0 : Int)), Value.int IntKind.i64 ((0 : Int)), Value.int IntKind.i64 ((0 : Int)), Value.int IntKind.i64 ((0 : Int)), Value.int IntKind.i64 ((0 : Int))])])) (Value.tuple (Array.mk [Value.int IntKind.i64 ((-1 : Int)), Value.agg (Array.mk [Value.bool false, Value.int IntKind.i64 ((0 : Int)), Value.int IntKind.i64 ((0 : Int)), Value.int IntKind.i64 ((0 : Int)), Value.int IntKind.i64 ((0 : Int)), Value.int IntKind.i64 ((0 : Int))])])) [] [] [], decide ((↑a : Int) ≥ (↑n : Int)) = true, decide ((↑k : Int) < 31) = true]) : Sat E (inLp (lp Try.f44 0) J) ((fEn cs o n c p Q).st 0 (k, a)) :=
  by_ret (T := auto0 t_runpack) (h := hints []) (ws := [.b true, .b true]) (nx' := 1) hE hm (auto0_ok t_runpack_ok) (by omega) (by simp) (by simp) (by kernel_rfl) hob
theorem enN (cs : List Value) (o n c : Nat) (p : Pt) (Q : Nat × Nat → Prop) (k a : Nat) (w : Int) (J : Act → World → Prop) {E : Env} (hE : EnvOK E Try.prog Try.f44 2 1 (.tuple ⟨[.int .i64 (-1), nd false 0 0 0 0 0]⟩) [] []) (hob : all [Back (Value.tuple (Array.mk [Value.int IntKind.i64 ((-1 : Int)), Value.agg (Array.mk [Value.bool false, Value.int IntKind.i64 ((0 : Int)), Value.int IntKind.i64 ((0 : Int)), Value.int IntKind.i64 ((0 : Int)), Value.int IntKind.i64 ((0 : Int)), Value.int IntKind.i64 ((0 : Int))])])) (Value.tuple (Array.mk [Value.int IntKind.i64 ((-1 : Int)), Value.agg (Array.mk [Value.bool false, Value.int IntKind.i64 ((0 : Int)), Value.int IntKind.i64 ((0 : Int)), Value.int IntKind.i64 ((0 : Int)), Value.int IntKind.i64 ((0 : Int)), Value.int IntKind.i64 ((0 : Int))])])) [] [] [], Value.tuple (Array.mk [Value.agg (Array.mk [Value.bool (okB w && lfB w), Value.int IntKind.i64 (sV w), Value.int IntKind.i64 (sF w), Value.int IntKind.i64 (sA w), Value.int IntKind.i64 (sX w), Value.int IntKind.i64 (sY w)]), Value.bool (okB w)]) = Value.tuple (Array.mk [Value.agg (Array.mk [Value.bool false, Value.int IntKind.i64 ((0 : Int)), Value.int IntKind.i64 ((0 : Int)), Value.int IntKind.i64 ((0 : Int)), Value.int IntKind.i64 ((0 : Int)), Value.int IntKind.i64 ((0 : Int))]), Value.bool false]), U64 w, readPart Try.prog 26 cs (o + ((a : Int)).toNat * 1) = some (Value.int IntKind.u64 w), (0 : Int) ≤ (a : Int) ∧ (a : Int) < (n : Int), decide ((↑a : Int) ≥ (↑n : Int)) = false, decide ((↑k : Int) < 31) = true]) : Sat E (inLp (lp Try.f44 0) J) ((fEn cs o n c p Q).st 0 (k, a)) :=
  by_ret (T := auto0 t_runpack) (h := hints [(5, 2, {p := true}), (5, 3, {o := some (.int .u64 w)}), (5, 4, {v := some (.tuple ⟨[nd false 0 0 0 0 0, .bool false]⟩)})]) (ws := [.b true, .b false]) (nx' := 1) hE hm (auto0_ok t_runpack_ok) (by omega) (by simp) (by simp) (by kernel_rfl) hob
theorem enF (cs : List Value) (o n c : Nat) (p : Pt) (Q : Nat × Nat → Prop) (k a : Nat) (w v : Int) (J : Act → World → Prop) {E : Env} (hE : EnvOK E Try.prog Try.f44 2 1 (.tuple ⟨[.int .i64 (a : Int), nd true v 0 0 0 0]⟩) [] []) (hob : all [Back (Value.tuple (Array.mk [Value.int IntKind.i64 ((a : Int)), Value.agg (Array.mk [Value.bool true, Value.int IntKind.i64 v, Value.int IntKind.i64 ((0 : Int)), Value.int IntKind.i64 ((0 : Int)), Value.int IntKind.i64 ((0 : Int)), Value.int IntKind.i64 ((0 : Int))])])) (Value.tuple (Array.mk [Value.int IntKind.i64 ((a : Int)), Value.agg (Array.mk [Value.bool true, Value.int IntKind.i64 v, Value.int IntKind.i64 ((0 : Int)), Value.int IntKind.i64 ((0 : Int)), Value.int IntKind.i64 ((0 : Int)), Value.int IntKind.i64 ((0 : Int))])])) [] [] [], Value.tuple (Array.mk [Value.agg (Array.mk [Value.bool (okB w && lfB w), Value.int IntKind.i64 (sV w), Value.int IntKind.i64 (sF w), Value.int IntKind.i64 (sA w), Value.int IntKind.i64 (sX w), Value.int IntKind.i64 (sY w)]), Value.bool (okB w)]) = Value.tuple (Array.mk [Value.agg (Array.mk [Value.bool true, Value.int IntKind.i64 v, Value.int IntKind.i64 ((0 : Int)), Value.int IntKind.i64 ((0 : Int)), Value.int IntKind.i64 ((0 : Int)), Value.int IntKind.i64 ((0 : Int))]), Value.bool true]), U64 w, readPart Try.prog 26 cs (o + ((a : Int)).toNat * 1) = some (Value.int IntKind.u64 w), (0 : Int) ≤ (a : Int) ∧ (a : Int) < (n : Int), decide ((↑a : Int) ≥ (↑n : Int)) = false, decide ((↑k : Int) < 31) = true]) : Sat E (inLp (lp Try.f44 0) J) ((fEn cs o n c p Q).st 0 (k, a)) :=
  by_ret (T := auto0 t_runpack) (h := hints [(5, 2, {p := true}), (5, 3, {o := some (.int .u64 w)}), (5, 4, {v := some (.tuple ⟨[nd true v 0 0 0 0, .bool true]⟩)})]) (ws := [.b true, .b false]) (nx' := 1) hE hm (auto0_ok t_runpack_ok) (by omega) (by simp) (by simp) (by kernel_rfl) hob
theorem enL (cs : List Value) (o n c : Nat) (p : Pt) (Q : Nat × Nat → Prop) (k m b : Nat) (w f a x y g : Int) (J : Act → World → Prop) {E : Env} {rv : Value} {rhs : List Nat} {rhv : List Blk} (hE : EnvOK E Try.prog Try.f44 2 1 rv rhs rhv) (hL : (fEn cs o n c p Q).OK 1) (hob : all [SameK (mkLp (lp Try.f44 0) J) (mkLp (lp Try.f44 0) J), Enter (fEn cs o n c p Q) 0 (some (31 - k)) [Value.slice (some (Addr.mk 0 o none)) n c, Value.pointer (some (Addr.mk 10 0 none)), Value.pointer (some (Addr.mk 11 0 none)), Value.int IntKind.i64 ((b : Int)), Value.int IntKind.i64 (Int.ofNat k.succ)] [Blk.ro cs, Blk.cells [Value.int IntKind.i64 p.p0, Value.int IntKind.i64 p.p1, Value.int IntKind.i64 p.p2, Value.int IntKind.i64 p.p3] 41, Blk.cells [Value.bool false, Value.int IntKind.i64 ((0 : Int)), Value.int IntKind.i64 ((0 : Int)), Value.int IntKind.i64 ((0 : Int)), Value.int IntKind.i64 ((0 : Int)), Value.int IntKind.i64 ((0 : Int))] 23] [(0, 0), (10, 10), (11, 11)], Value.int IntKind.i64 (IntKind.i64.wrap (Int.ofNat k.succ)) = Value.int IntKind.i64 (Int.ofNat k.succ), Value.int IntKind.i64 x = Value.int IntKind.i64 ((b : Int)), decide (g ≤ a) = true, readPart Try.prog 3 p.cs (0 + f.toNat * 1) = some (Value.int IntKind.i64 g), (0 : Int) ≤ f ∧ f < (4 : Int), Value.tuple (Array.mk [Value.agg (Array.mk [Value.bool (okB w && lfB w), Value.int IntKind.i64 (sV w), Value.int IntKind.i64 (sF w), Value.int IntKind.i64 (sA w), Value.int IntKind.i64 (sX w), Value.int IntKind.i64 (sY w)]), Value.bool (okB w)]) = Value.tuple (Array.mk [Value.agg (Array.mk [Value.bool false, Value.int IntKind.i64 ((0 : Int)), Value.int IntKind.i64 f, Value.int IntKind.i64 a, Value.int IntKind.i64 x, Value.int IntKind.i64 y]), Value.bool true]), U64 w, readPart Try.prog 26 cs (o + ((m : Int)).toNat * 1) = some (Value.int IntKind.u64 w), (0 : Int) ≤ (m : Int) ∧ (m : Int) < (n : Int), decide ((↑m : Int) ≥ (↑n : Int)) = false, decide ((↑k : Int) < 31) = true]) (hK : ∀ zz, (fEn cs o n c p Q).inv 0 zz → ltO ((fEn cs o n c p Q).mu 0 zz) (some (31 - k)) → Sat E (mkLp (lp Try.f44 0) J) ((fEn cs o n c p Q).st 0 zz)) : Sat E (inLp (lp Try.f44 0) J) ((fEn cs o n c p Q).st 0 (k, m)) :=
  by_to (T := auto0 t_runpack) (h := hints [(5, 2, {p := true}), (5, 3, {o := some (.int .u64 w)}), (5, 4, {v := some (.tuple ⟨[nd false 0 f a x y, .bool true]⟩)}), (11, 2, {p := true}), (11, 3, {o := some (.int .i64 g)}), (12, 1, {v := some (.int .i64 (b : Int))}), (13, 0, {v := some (.int .i64 ((k + 1 : Nat) : Int))})]) (ws := [.b true, .b false, .go, .go, .b true]) (i0 := (k + 1, b)) hE hm (auto0_ok t_runpack_ok) hL (by kernel_rfl) hob hK
theorem enR (cs : List Value) (o n c : Nat) (p : Pt) (Q : Nat × Nat → Prop) (k m b : Nat) (w f a x y g : Int) (J : Act → World → Prop) {E : Env} {rv : Value} {rhs : List Nat} {rhv : List Blk} (hE : EnvOK E Try.prog Try.f44 2 1 rv rhs rhv) (hL : (fEn cs o n c p Q).OK 1) (hob : all [SameK (mkLp (lp Try.f44 0) J) (mkLp (lp Try.f44 0) J), Enter (fEn cs o n c p Q) 0 (some (31 - k)) [Value.slice (some (Addr.mk 0 o none)) n c, Value.pointer (some (Addr.mk 10 0 none)), Value.pointer (some (Addr.mk 11 0 none)), Value.int IntKind.i64 ((b : Int)), Value.int IntKind.i64 (Int.ofNat k.succ)] [Blk.ro cs, Blk.cells [Value.int IntKind.i64 p.p0, Value.int IntKind.i64 p.p1, Value.int IntKind.i64 p.p2, Value.int IntKind.i64 p.p3] 41, Blk.cells [Value.bool false, Value.int IntKind.i64 ((0 : Int)), Value.int IntKind.i64 ((0 : Int)), Value.int IntKind.i64 ((0 : Int)), Value.int IntKind.i64 ((0 : Int)), Value.int IntKind.i64 ((0 : Int))] 23] [(0, 0), (10, 10), (11, 11)], Value.int IntKind.i64 (IntKind.i64.wrap (Int.ofNat k.succ)) = Value.int IntKind.i64 (Int.ofNat k.succ), Value.int IntKind.i64 y = Value.int IntKind.i64 ((b : Int)), decide (g ≤ a) = false, readPart Try.prog 3 p.cs (0 + f.toNat * 1) = some (Value.int IntKind.i64 g), (0 : Int) ≤ f ∧ f < (4 : Int), Value.tuple (Array.mk [Value.agg (Array.mk [Value.bool (okB w && lfB w), Value.int IntKind.i64 (sV w), Value.int IntKind.i64 (sF w), Value.int IntKind.i64 (sA w), Value.int IntKind.i64 (sX w), Value.int IntKind.i64 (sY w)]), Value.bool (okB w)]) = Value.tuple (Array.mk [Value.agg (Array.mk [Value.bool false, Value.int IntKind.i64 ((0 : Int)), Value.int IntKind.i64 f, Value.int IntKind.i64 a, Value.int IntKind.i64 x, Value.int IntKind.i64 y]), Value.bool true]), U64 w, readPart Try.prog 26 cs (o + ((m : Int)).toNat * 1) = some (Value.int IntKind.u64 w), (0 : Int) ≤ (m : Int) ∧ (m : Int) < (n : Int), decide ((↑m : Int) ≥ (↑n : Int)) = false, decide ((↑k : Int) < 31) = true]) (hK : ∀ zz, (fEn cs o n c p Q).inv 0 zz → ltO ((fEn cs o n c p Q).mu 0 zz) (some (31 - k)) → Sat E (mkLp (lp Try.f44 0) J) ((fEn cs o n c p Q).st 0 zz)) : Sat E (inLp (lp Try.f44 0) J) ((fEn cs o n c p Q).st 0 (k, m)) :=
  by_to (T := auto0 t_runpack) (h := hints [(5, 2, {p := true}), (5, 3, {o := some (.int .u64 w)}), (5, 4, {v := some (.tuple ⟨[nd false 0 f a x y, .bool true]⟩)}), (11, 2, {p := true}), (11, 3, {o := some (.int .i64 g)}), (6, 1, {v := some (.int .i64 (b : Int))}), (13, 0, {v := some (.int .i64 ((k + 1 : Nat) : Int))})]) (ws := [.b true, .b false, .go, .go, .b false]) (i0 := (k + 1, b)) hE hm (auto0_ok t_runpack_ok) hL (by kernel_rfl) hob hK
end Go.Proofs.Ytnngaedhedbenaa.Tr


set_option linter.unusedVariables false
set_option linter.unusedSimpArgs false
set_option maxRecDepth 100000
namespace Go.Proofs.Ytnngaedhedbenaa.Tr
open Go Go.RowKit Go.Proofs.Ytnngaedhedbenaa.Ev Go.Proofs.Ytnngaedhedbenaa.NodeE

theorem pt_read {p : Pt} {f : Int} (hf : 0 ≤ f ∧ f < 4) : readPart Try.prog 3 p.cs (0 + f.toNat * 1) = some (.int .i64 (p.at f)) := by
  have hc : f = 0 ∨ f = 1 ∨ f = 2 ∨ f = 3 := by omega
  have h0 : readPart Try.prog 3 p.cs 0 = some (.int .i64 p.p0) := by kernel_rfl
  have h1 : readPart Try.prog 3 p.cs 1 = some (.int .i64 p.p1) := by kernel_rfl
  have h2 : readPart Try.prog 3 p.cs 2 = some (.int .i64 p.p2) := by kernel_rfl
  have h3 : readPart Try.prog 3 p.cs 3 = some (.int .i64 p.p3) := by kernel_rfl
  rcases hc with rfl | rfl | rfl | rfl
  · exact h0
  · exact h1
  · exact h2
  · exact h3

theorem end_spec (cs : List Value) (o n c : Nat) (p : Pt) (hr : eWord.Row cs o n) (hpl : ∀ x ∈ cs, leafG x = true) (hU : ∀ w ∈ eWord.list cs o n, U64 w) (hn : n ≤ 65536) :
    CallSpec Try.prog 44 [.slice (some ⟨0, o, none⟩) n c, .agg ⟨p.cs⟩] (roRows [cs]) 1 (.tuple ⟨[.int .i64 (walkI (eWord.list cs o n) p), nd (endL (eWord.list cs o n) p) (endV (eWord.list cs o n) p) 0 0 0 0]⟩) (assocN [] []) := by
  refine spec_of_sat Try.func44 rfl fun E hE => ?_
  have hlen : (eWord.list cs o n).length = n := Elt.list_len _ _ _
  let Q : Nat × Nat → Prop := fun s => s.1 ≤ 31 ∧ goW (eWord.list cs o n) p (31 - s.1) s.2 = goW (eWord.list cs o n) p 31 0
  have okL := fEn_ok cs o n c p Q hpl
  have rnr : ∀ f : Nat → Nat, Blk.rnB f (.ro cs) = .ro cs := fun f => Blk.plain.rnB (b := .ro cs) hpl f
  have rn0 : ∀ f : Nat → Nat, Blk.rnB f (.cells p.cs 41) = .cells [.int .i64 p.p0, .int .i64 p.p1, .int .i64 p.p2, .int .i64 p.p3] 41 := fun f => rfl
  have rn1 : ∀ f : Nat → Nat, Blk.rnB f (.cells [.int .i64 p.p0, .int .i64 p.p1, .int .i64 p.p2, .int .i64 p.p3] 41) = .cells [.int .i64 p.p0, .int .i64 p.p1, .int .i64 p.p2, .int .i64 p.p3] 41 := fun f => rfl
  have rn2 : ∀ f : Nat → Nat, Blk.rnB f (.cells [.bool false, .int .i64 0, .int .i64 0, .int .i64 0, .int .i64 0, .int .i64 0] 23) = .cells [.bool false, .int .i64 0, .int .i64 0, .int .i64 0, .int .i64 0, .int .i64 0] 23 := fun f => rfl
  refine enIn cs o n c p Q hE okL ⟨rfl, ⟨(0, 0), ⟨Nat.zero_le _, rfl⟩, trivial, rfl, by simp [fEn, rnr, rn0, rn1, rn2]⟩, trivial⟩ fun zz hz _ => by_loop (fEn cs o n c p Q) (lp Try.f44 0) ?_ 0 zz hz
  rintro b ⟨k, a⟩ hinv J hJ
  have hinv : k ≤ 31 ∧ goW (eWord.list cs o n) p (31 - k) a = goW (eWord.list cs o n) p 31 0 := hinv
  obtain ⟨k1, k2⟩ := hinv
  show Sat E (inLp (lp Try.f44 0) J) ((fEn cs o n c p Q).st 0 (k, a))
  have hJ' : ∀ zz, (fEn cs o n c p Q).inv 0 zz → ltO ((fEn cs o n c p Q).mu 0 zz) (some (31 - k)) → Sat E (mkLp (lp Try.f44 0) J) ((fEn cs o n c p Q).st 0 zz) := fun zz h1 h2 => hJ 0 zz h1 h2
  by_cases hk : k < 31
  · have hlt : decide ((k : Int) < 31) = true := decide_eq_true (by omega)
    have hs : 31 - k = (31 - (k + 1)) + 1 := by omega
    by_cases han : a < n
    · have hlt2 : decide ((a : Int) ≥ (n : Int)) = false := decide_eq_false (by omega)
      obtain ⟨w, hw⟩ : ∃ w, (eWord.list cs o n)[a]? = some w := ⟨_, List.getElem?_eq_getElem (by rw [hlen]; omega)⟩
      have hrd := hr.read1 (P := Try.prog) (ty := 26) (by kernel_rfl) rfl (i := a) hw rfl rfl
      rw [← Nat.mul_one a] at hrd
      cases ho : okB w
      · have hg : goW (eWord.list cs o n) p 31 0 = none := by rw [← k2, hs]; exact goW_bad hw ho
        obtain ⟨q1, q2, q3⟩ := end_none hg
        rw [q1, q2, q3] at hE
        exact enN cs o n c p Q k a w J hE ⟨⟨rfl, rfl⟩, unp_no ho, hU w (List.mem_of_getElem? hw), hrd, ⟨Int.natCast_nonneg _, Int.ofNat_lt.2 han⟩, hlt2, hlt, trivial⟩
      · cases hl : lfB w
        · have hib := inner_bounds ho hl
          have hf := hib.1
          have hgo : goW (eWord.list cs o n) p (31 - (k + 1)) (goes p w).toNat = goW (eWord.list cs o n) p 31 0 := by rw [← k2, hs, goW_step hw ho hl]
          cases hd : decide (p.at (uF w) ≤ low32 w)
          · have hb : goes p w = uY w := by unfold goes; rw [hd]; rfl
            rw [hb] at hgo
            exact enR cs o n c p Q k a (uY w).toNat w (uF w) (low32 w) (uX w) (uY w) (p.at (uF w)) J hE okL ⟨rfl, ⟨(k + 1, (uY w).toNat), ⟨hk, hgo⟩, (by show 31 - (k + 1) < 31 - k; omega), rfl, by simp [fEn, rnr, rn0, rn1, rn2]⟩, i64_succ (by omega), (congrArg _ (Int.toNat_of_nonneg (by omega)).symm), hd, pt_read hf, hf, unp_inner ho hl, hU w (List.mem_of_getElem? hw), hrd, ⟨Int.natCast_nonneg _, Int.ofNat_lt.2 han⟩, hlt2, hlt, trivial⟩ hJ'
          · have hb : goes p w = uX w := by unfold goes; rw [hd]; rfl
            rw [hb] at hgo
            exact enL cs o n c p Q k a (uX w).toNat w (uF w) (low32 w) (uX w) (uY w) (p.at (uF w)) J hE okL ⟨rfl, ⟨(k + 1, (uX w).toNat), ⟨hk, hgo⟩, (by show 31 - (k + 1) < 31 - k; omega), rfl, by simp [fEn, rnr, rn0, rn1, rn2]⟩, i64_succ (by omega), (congrArg _ (Int.toNat_of_nonneg (by omega)).symm), hd, pt_read hf, hf, unp_inner ho hl, hU w (List.mem_of_getElem? hw), hrd, ⟨Int.natCast_nonneg _, Int.ofNat_lt.2 han⟩, hlt2, hlt, trivial⟩ hJ'
        · have hg : goW (eWord.list cs o n) p 31 0 = some a := by rw [← k2, hs]; exact goW_leaf hw ho hl
          obtain ⟨q1, q2, q3⟩ := end_some hg
          have q4 : (eWord.list cs o n).getD a 0 = w := by rw [List.getD_eq_getElem?_getD, hw]; rfl
          rw [q4] at q2
          rw [q1, q2, q3] at hE
          exact enF cs o n c p Q k a w (low32 w) J hE ⟨⟨rfl, rfl⟩, unp_leaf ho hl, hU w (List.mem_of_getElem? hw), hrd, ⟨Int.natCast_nonneg _, Int.ofNat_lt.2 han⟩, hlt2, hlt, trivial⟩
    · have hlt2 : decide ((a : Int) ≥ (n : Int)) = true := decide_eq_true (by omega)
      have hg : goW (eWord.list cs o n) p 31 0 = none := by rw [← k2, hs]; exact goW_out (by rw [hlen]; omega)
      obtain ⟨q1, q2, q3⟩ := end_none hg
      rw [q1, q2, q3] at hE
      exact enO cs o n c p Q k a J hE ⟨⟨rfl, rfl⟩, hlt2, hlt, trivial⟩
  · have hlt : decide ((k : Int) < 31) = false := decide_eq_false (by omega)
    have hg : goW (eWord.list cs o n) p 31 0 = none := by rw [← k2, show 31 - k = 0 by omega]; rfl
    obtain ⟨q1, q2, q3⟩ := end_none hg
    rw [q1, q2, q3] at hE
    exact enK cs o n c p Q k a J hE ⟨⟨rfl, rfl⟩, hlt, trivial⟩

def end_F : RoF := fun xs css => match xs, css with
  | [.slice (some ⟨0, o, none⟩) n c, .agg ⟨[.int .i64 p0, .int .i64 p1, .int .i64 p2, .int .i64 p3]⟩], [cs] => some (.tuple ⟨[.int .i64 (walkI (eWord.list cs o n) ⟨p0, p1, p2, p3⟩), nd (endL (eWord.list cs o n) ⟨p0, p1, p2, p3⟩) (endV (eWord.list cs o n) ⟨p0, p1, p2, p3⟩) 0 0 0 0]⟩, [], [eWord.Row cs o n, ∀ w ∈ eWord.list cs o n, U64 w, n ≤ 65536])
  | _, _ => none
theorem end_sum : SumOK Try.prog 44 (roSum end_F) := by
  refine roSum_ok (en Try.func44 rfl) ?_ (fun xs css r h => ?_)
  · intro xs css v blks ob h hob hpl hl
    unfold end_F at h
    split at h
    · rename_i o n c p0 p1 p2 p3 cs
      simp only [Option.some.injEq, Prod.mk.injEq] at h
      obtain ⟨rfl, rfl, rfl⟩ := h
      refine ⟨by simp, by simp, fun j hj => by simp [nms, nm1, nmL, nm0] at hj, ?_⟩
      exact end_spec cs o n c ⟨p0, p1, p2, p3⟩ (hob _ (List.mem_cons_self ..)) (hpl cs (by simp)) (hob _ (List.mem_cons_of_mem _ (List.mem_cons_self ..))) (hob _ (by simp))
    · simp at h
  · unfold end_F at h
    split at h <;> simp at h <;> simp

noncomputable def t_end : Sums := upd t_runpack 44 (some (roSum end_F))
theorem t_end_ok : SumsOK Try.prog t_end := sums_cons t_runpack_ok end_sum
end Go.Proofs.Ytnngaedhedbenaa.Tr


set_option linter.unusedVariables false
set_option linter.unusedSimpArgs false
set_option maxRecDepth 100000
namespace Go.Proofs.Ytnngaedhedbenaa.Tr
open Go Go.RowKit Go.Proofs.Ytnngaedhedbenaa.Ev Go.Proofs.Ytnngaedhedbenaa.NodeE Go.Proofs.Ytnngaedhedbenaa.Tr

theorem wkP (cs : List Value) (o n c : Nat) (p : Pt) (a v : Int) (l : Bool)  {E : Env} (hE : EnvOK E Try.prog Try.f23 2 1 (.int .i64 a) [] []) (hob : all [Back (Value.int IntKind.i64 a) (Value.int IntKind.i64 a) [] [] [], Value.tuple (Array.mk [Value.int IntKind.i64 (walkI (eWord.list cs o n) (Pt.mk p.p0 p.p1 p.p2 p.p3)), Value.agg (Array.mk [Value.bool (endL (eWord.list cs o n) (Pt.mk p.p0 p.p1 p.p2 p.p3)), Value.int IntKind.i64 (endV (eWord.list cs o n) (Pt.mk p.p0 p.p1 p.p2 p.p3)), Value.int IntKind.i64 ((0 : Int)), Value.int IntKind.i64 ((0 : Int)), Value.int IntKind.i64 ((0 : Int)), Value.int IntKind.i64 ((0 : Int))])]) = Value.tuple (Array.mk [Value.int IntKind.i64 a, Value.agg (Array.mk [Value.bool l, Value.int IntKind.i64 v, Value.int IntKind.i64 ((0 : Int)), Value.int IntKind.i64 ((0 : Int)), Value.int IntKind.i64 ((0 : Int)), Value.int IntKind.i64 ((0 : Int))])]), plainR [cs], eWord.Row cs o n, ∀ (w : Int), w ∈ eWord.list cs o n → U64 w, n ≤ 65536]) : Sat E [.code (bodyOf Try.f23)] (st0 Try.f23 [.slice (some ⟨0, o, none⟩) n c, .agg ⟨p.cs⟩] (roRows [cs]) 1) :=
  by_ret (T := auto0 t_end) (h := hints [(1, 2, {v := some (.tuple ⟨[.int .i64 a, nd l v 0 0 0 0]⟩)})]) (ws := []) (nx' := 1) hE hm (auto0_ok t_end_ok) (by omega) (by simp) (by simp) (by kernel_rfl) hob
theorem vlP (cs : List Value) (o n c : Nat) (p : Pt) (a v : Int) (l : Bool)  {E : Env} (hE : EnvOK E Try.prog Try.f27 2 1 (.int .i64 v) [] []) (hob : all [Back (Value.int IntKind.i64 v) (Value.int IntKind.i64 v) [] [] [], Value.tuple (Array.mk [Value.int IntKind.i64 (walkI (eWord.list cs o n) (Pt.mk p.p0 p.p1 p.p2 p.p3)), Value.agg (Array.mk [Value.bool (endL (eWord.list cs o n) (Pt.mk p.p0 p.p1 p.p2 p.p3)), Value.int IntKind.i64 (endV (eWord.list cs o n) (Pt.mk p.p0 p.p1 p.p2 p.p3)), Value.int IntKind.i64 ((0 : Int)), Value.int IntKind.i64 ((0 : Int)), Value.int IntKind.i64 ((0 : Int)), Value.int IntKind.i64 ((0 : Int))])]) = Value.tuple (Array.mk [Value.int IntKind.i64 a, Value.agg (Array.mk [Value.bool l, Value.int IntKind.i64 v, Value.int IntKind.i64 ((0 : Int)), Value.int IntKind.i64 ((0 : Int)), Value.int IntKind.i64 ((0 : Int)), Value.int IntKind.i64 ((0 : Int))])]), plainR [cs], eWord.Row cs o n, ∀ (w : Int), w ∈ eWord.list cs o n → U64 w, n ≤ 65536]) : Sat E [.code (bodyOf Try.f27)] (st0 Try.f27 [.slice (some ⟨0, o, none⟩) n c, .agg ⟨p.cs⟩] (roRows [cs]) 1) :=
  by_ret (T := auto0 t_end) (h := hints [(1, 2, {v := some (.tuple ⟨[.int .i64 a, nd l v 0 0 0 0]⟩)})]) (ws := []) (nx' := 1) hE hm (auto0_ok t_end_ok) (by omega) (by simp) (by simp) (by kernel_rfl) hob
end Go.Proofs.Ytnngaedhedbenaa.Tr


set_option linter.unusedVariables false
set_option linter.unusedSimpArgs false
set_option maxRecDepth 100000
namespace Go.Proofs.Ytnngaedhedbenaa.Tr
open Go Go.RowKit Go.Proofs.Ytnngaedhedbenaa.Ev Go.Proofs.Ytnngaedhedbenaa.NodeE

theorem walk_spec (cs : List Value) (o n c : Nat) (p : Pt) (hr : eWord.Row cs o n) (hpl : ∀ x ∈ cs, leafG x = true) (hU : ∀ w ∈ eWord.list cs o n, U64 w) (hn : n ≤ 65536) :
    CallSpec Try.prog 23 [.slice (some ⟨0, o, none⟩) n c, .agg ⟨p.cs⟩] (roRows [cs]) 1 (.int .i64 (walkI (eWord.list cs o n) p)) (assocN [] []) := by
  refine spec_of_sat Try.func23 rfl fun E hE => ?_
  exact wkP cs o n c p (walkI (eWord.list cs o n) p) (endV (eWord.list cs o n) p) (endL (eWord.list cs o n) p) hE ⟨⟨rfl, rfl⟩, rfl, plain1 hpl, hr, hU, hn, trivial⟩

def walk_F : RoF := fun xs css => match xs, css with
  | [.slice (some ⟨0, o, none⟩) n c, .agg ⟨[.int .i64 p0, .int .i64 p1, .int .i64 p2, .int .i64 p3]⟩], [cs] => some (.int .i64 (walkI (eWord.list cs o n) ⟨p0, p1, p2, p3⟩), [], [eWord.Row cs o n, ∀ w ∈ eWord.list cs o n, U64 w, n ≤ 65536])
  | _, _ => none
theorem walk_sum : SumOK Try.prog 23 (roSum walk_F) := by
  refine roSum_ok (en Try.func23 rfl) ?_ (fun xs css r h => ?_)
  · intro xs css v blks ob h hob hpl hl
    unfold walk_F at h
    split at h
    · rename_i o n c p0 p1 p2 p3 cs
      simp only [Option.some.injEq, Prod.mk.injEq] at h
      obtain ⟨rfl, rfl, rfl⟩ := h
      refine ⟨by simp, by simp, fun j hj => by simp [nms, nm1, nmL, nm0] at hj, ?_⟩
      exact walk_spec cs o n c ⟨p0, p1, p2, p3⟩ (hob _ (List.mem_cons_self ..)) (hpl cs (by simp)) (hob _ (List.mem_cons_of_mem _ (List.mem_cons_self ..))) (hob _ (by simp))
    · simp at h
  · unfold walk_F at h
    split at h <;> simp at h <;> simp

theorem value_spec (cs : List Value) (o n c : Nat) (p : Pt) (hr : eWord.Row cs o n) (hpl : ∀ x ∈ cs, leafG x = true) (hU : ∀ w ∈ eWord.list cs o n, U64 w) (hn : n ≤ 65536) :
    CallSpec Try.prog 27 [.slice (some ⟨0, o, none⟩) n c, .agg ⟨p.cs⟩] (roRows [cs]) 1 (.int .i64 (endV (eWord.list cs o n) p)) (assocN [] []) := by
  refine spec_of_sat Try.func27 rfl fun E hE => ?_
  exact vlP cs o n c p (walkI (eWord.list cs o n) p) (endV (eWord.list cs o n) p) (endL (eWord.list cs o n) p) hE ⟨⟨rfl, rfl⟩, rfl, plain1 hpl, hr, hU, hn, trivial⟩

def value_F : RoF := fun xs css => match xs, css with
  | [.slice (some ⟨0, o, none⟩) n c, .agg ⟨[.int .i64 p0, .int .i64 p1, .int .i64 p2, .int .i64 p3]⟩], [cs] => some (.int .i64 (endV (eWord.list cs o n) ⟨p0, p1, p2, p3⟩), [], [eWord.Row cs o n, ∀ w ∈ eWord.list cs o n, U64 w, n ≤ 65536])
  | _, _ => none
theorem value_sum : SumOK Try.prog 27 (roSum value_F) := by
  refine roSum_ok (en Try.func27 rfl) ?_ (fun xs css r h => ?_)
  · intro xs css v blks ob h hob hpl hl
    unfold value_F at h
    split at h
    · rename_i o n c p0 p1 p2 p3 cs
      simp only [Option.some.injEq, Prod.mk.injEq] at h
      obtain ⟨rfl, rfl, rfl⟩ := h
      refine ⟨by simp, by simp, fun j hj => by simp [nms, nm1, nmL, nm0] at hj, ?_⟩
      exact value_spec cs o n c ⟨p0, p1, p2, p3⟩ (hob _ (List.mem_cons_self ..)) (hpl cs (by simp)) (hob _ (List.mem_cons_of_mem _ (List.mem_cons_self ..))) (hob _ (by simp))
    · simp at h
  · unfold value_F at h
    split at h <;> simp at h <;> simp

end Go.Proofs.Ytnngaedhedbenaa.Tr


set_option linter.unusedVariables false
set_option linter.unusedSimpArgs false
set_option maxRecDepth 100000
namespace Go.Proofs.Ytnngaedhedbenaa.Tr
open Go Go.RowKit Go.Proofs.Ytnngaedhedbenaa.Ev Go.Proofs.Ytnngaedhedbenaa.NodeE

/-- The counts so far, as the program keeps them. -/
def cntL (ws : List Int) (n : Nat) : List Int := (List.range n).map fun (k : Nat) => (Int.ofNat (named ws (k : Int)))
theorem cntL_len (ws : List Int) (n : Nat) : (cntL ws n).length = n := by simp [cntL]
theorem cntL_get {ws : List Int} {n k : Nat} (h : k < n) : (cntL ws n)[k]? = some (named ws (k : Int) : Int) := by
  simp [cntL, h]
theorem named_le (ws : List Int) (k : Int) : named ws k ≤ 2 * ws.length := by
  induction ws with
  | nil => simp [named]
  | cons w ws ih =>
    have h1 : (namesW w).length ≤ 2 := by unfold namesW; cases lfB w <;> simp
    have h2 := List.count_le_length (a := k) (l := namesW w)
    simp only [named, List.flatMap_cons, List.count_append, List.length_cons] at ih ⊢
    omega
theorem cnt_two {ws : List Int} {w : Int} {n : Nat} {X Y : Nat} (hl : lfB w = false) (hx : uX w = X) (hy : uY w = Y) (hne : X ≠ Y) (hX : X < n) (hY : Y < n) :
    ((cntL ws n).set X ((named ws (X : Int) : Int) + 1)).set Y ((named ws (Y : Int) : Int) + 1) = cntL (ws ++ [w]) n := by
  apply List.ext_getElem
  · simp [cntL]
  · intro k h1 h2
    have hk : k < n := by simpa [cntL] using h2
    simp only [List.getElem_set]
    simp only [cntL, List.getElem_map, List.getElem_range, named_snoc, namesW, hl, cond_false, hx, hy, List.count_cons, List.count_nil]
    by_cases e1 : Y = k
    · subst e1
      have : ¬ (X : Int) = (Y : Int) := by omega
      simp [this]
    · by_cases e2 : X = k
      · subst e2
        have : ¬ (Y : Int) = (X : Int) := by omega
        simp [e1, this]
      · have h3 : ¬ (X : Int) = (k : Int) := by omega
        have h4 : ¬ (Y : Int) = (k : Int) := by omega
        simp [e1, e2, h3, h4]
theorem cnt_leaf {ws : List Int} {w : Int} {n : Nat} (hl : lfB w = true) : cntL (ws ++ [w]) n = cntL ws n := by
  unfold cntL
  refine List.map_congr_left fun k _ => ?_
  rw [named_snoc]; simp [namesW, hl]
theorem cnt_zero (n : Nat) : cntL [] n = List.replicate n 0 := by
  apply List.ext_getElem
  · simp [cntL]
  · intro k h1 h2; simp [cntL, named_nil]
theorem rd_int {l : List Int} {k : Nat} {z : Int} (h : l[k]? = some z) : readPart Try.prog 3 (eInt.row l) (0 + k * 1) = some (.int .i64 z) := by
  rw [Nat.mul_one]
  exact (Elt.canon0 (e := eInt) l).1.read1 (P := Try.prog) (ty := 3) (by kernel_rfl) rfl (i := k) (x := z) (by rw [(Elt.canon0 l).2]; exact h) rfl rfl
theorem rd_off {l : List Int} {q j : Nat} {z : Int} (h : l[q + j]? = some z) : readPart Try.prog 3 (eInt.row l) (q + ((j : Nat) : Int).toNat * 1) = some (.int .i64 z) := by
  have := rd_int h
  rw [Nat.mul_one, Nat.zero_add] at this
  rw [Int.toNat_natCast, Nat.mul_one]
  exact this
theorem min_gt {x y i : Int} (h : ¬ minI x y ≤ i) : i < x ∧ i < y := by unfold minI at h; split at h <;> omega
theorem max_lt {x y i : Int} (h : ¬ maxI x y ≥ i) : x < i ∧ y < i := by unfold maxI at h; split at h <;> omega
theorem not_min {x y i : Int} (h1 : i < x) (h2 : i < y) : ¬ minI x y ≤ i := by unfold minI; split <;> omega
theorem not_max {x y i : Int} (h1 : x < i) (h2 : y < i) : ¬ maxI x y ≥ i := by unfold maxI; split <;> omega
theorem right_spec (cs : List Value) (o n c : Nat) (dim : Int) (hr : eWord.Row cs o n) (hpl : ∀ x ∈ cs, leafG x = true) (hU : ∀ w ∈ eWord.list cs o n, U64 w) (hn : n ≤ 65536) :
    CallSpec Try.prog 22 [.slice (some ⟨0, o, none⟩) n c, .int .i64 dim] (roRows [cs]) 1 (.bool (rightI (eWord.list cs o n) dim)) (assocN [] []) := by
  refine spec_of_sat Try.func22 rfl fun E hE => ?_
  have hlen : (eWord.list cs o n).length = n := Elt.list_len _ _ _
  generalize hws : eWord.list cs o n = ws at hU hlen hE
  refine (Classical.em (1 ≤ n)).symm.elim (fun h1 => ?_) (fun h1 => ?_)
  · rw [right_len (by omega)] at hE
    exact rtShort cs o n c dim hE ⟨⟨rfl, rfl⟩, (congrArg _ (decide_eq_true (by omega))), trivial⟩
  have g1 : Value.bool (decide ((n : Int) < 1)) = .bool false := congrArg _ (decide_eq_false (by omega))
  refine (Classical.em (n ≤ 31)).symm.elim (fun h31 => ?_) (fun h31 => ?_)
  · rw [right_len (by omega)] at hE
    exact rtLong cs o n c dim hE ⟨⟨rfl, rfl⟩, (congrArg _ (decide_eq_true (by omega))), g1, trivial⟩
  have g2 : Value.bool (decide ((n : Int) > 31)) = .bool false := congrArg _ (decide_eq_false (by omega))
  let Q : Nat × List Int → Prop := fun s => s.1 ≤ n ∧ (∀ (j : Nat) (w : Int), j < s.1 → ws[j]? = some w → goodW dim n j w = true) ∧ s.2 = cntL (ws.take s.1) n
  have okL := fRt_ok cs o n c dim Q hpl
  have rnr : ∀ f : Nat → Nat, Blk.rnB f (.ro cs) = .ro cs := fun f => Blk.plain.rnB (b := .ro cs) hpl f
  have rni : ∀ (f : Nat → Nat) (l : List Int), Blk.rnB f (.cells (eInt.row l) 3) = .cells (eInt.row l) 3 := fun f l => Blk.plain.rnB (b := .cells (eInt.row l) 3) (Elt.row_pl _) f
  have hz : repl [Value.int .i64 0] n = eInt.row (cntL [] n) := by rw [cnt_zero]; exact repl_row (e := eInt) (x := 0) rfl _
  refine rtIn cs o n c dim Q (cntL [] n) hE okL ⟨rfl, ⟨(0, cntL [] n), ⟨Nat.zero_le _, fun j w hj => absurd hj (Nat.not_lt_zero _), rfl⟩, trivial, rfl, by simp [fRt, rnr, rni]⟩, ⟨rfl, Int.natCast_nonneg _, by show (n : Int) ≤ _; omega, by show (8 : Int) * (n : Int) ≤ _; omega, hz.symm⟩, g2, g1, trivial⟩ fun zz hz _ => by_loop (fRt cs o n c dim Q) (lp Try.f22 0) ?_ 0 zz hz
  rintro b ⟨i, r⟩ hinv J hJ
  have hinv : i ≤ n ∧ (∀ (j : Nat) (w : Int), j < i → ws[j]? = some w → goodW dim n j w = true) ∧ r = cntL (ws.take i) n := hinv
  obtain ⟨k1, k2, k3⟩ := hinv
  show Sat E (inLp (lp Try.f22 0) J) ((fRt cs o n c dim Q).st 0 (i, r))
  have hJ' : ∀ zz, (fRt cs o n c dim Q).inv 0 zz → ltO ((fRt cs o n c dim Q).mu 0 zz) (some (n - i)) → Sat E (mkLp (lp Try.f22 0) J) ((fRt cs o n c dim Q).st 0 zz) := fun zz h1 h2 => hJ 0 zz h1 h2
  by_cases hin : i < n
  · have hlt : decide ((i : Int) < (n : Int)) = true := decide_eq_true (by omega)
    obtain ⟨w, hw⟩ : ∃ w, ws[i]? = some w := ⟨_, List.getElem?_eq_getElem (by rw [hlen]; omega)⟩
    have hrd := hr.read1 (P := Try.prog) (ty := 26) (by kernel_rfl) rfl (i := i) (x := w) (by rw [hws]; exact hw) rfl rfl
    rw [← Nat.mul_one i] at hrd
    have htk : ws.take (i + 1) = ws.take i ++ [w] := by rw [List.take_add_one, hw]; rfl
    have nxt : goodW dim n i w = true → ∀ (j : Nat) (v : Int), j < i + 1 → ws[j]? = some v → goodW dim n j v = true := fun hg j v hj hv => by
      by_cases e : j < i
      · exact k2 j v e hv
      · obtain rfl : j = i := by omega
        rw [hw] at hv; injection hv with hv; subst hv; exact hg
    cases hgd : goodW dim n i w
    · have hbad : rightI ws dim = false := right_bad hw (by rw [hlen]; exact hgd)
      rw [hbad] at hE
      cases ho : okB w
      · exact rtN cs o n c dim Q i r w J hE ⟨⟨rfl, rfl⟩, unp_no ho, hU w (List.mem_of_getElem? hw), hrd, ⟨Int.natCast_nonneg _, Int.ofNat_lt.2 hin⟩, hlt, trivial⟩
      · refine (Bool.eq_false_or_eq_true (lfB w)).elim (fun hl => ?_) (fun hl => ?_)
        · rw [good_leaf ho hl] at hgd; exact absurd hgd (by simp)
        refine (Classical.em (uF w < dim)).symm.elim (fun d1 => ?_) (fun d1 => ?_)
        · exact rtD cs o n c dim Q i r w (uF w) (low32 w) (uX w) (uY w) J hE ⟨⟨rfl, rfl⟩, (congrArg _ (decide_eq_true (by omega))), unp_inner ho hl, hU w (List.mem_of_getElem? hw), hrd, ⟨Int.natCast_nonneg _, Int.ofNat_lt.2 hin⟩, hlt, trivial⟩
        have e1 : Value.bool (decide (uF w ≥ dim)) = .bool false := congrArg _ (decide_eq_false (by omega))
        by_cases d2 : uX w = uY w
        · exact rtE cs o n c dim Q i r w (uF w) (low32 w) (uX w) (uY w) J hE ⟨⟨rfl, rfl⟩, (congrArg _ (beq_iff_eq.2 d2)), e1, unp_inner ho hl, hU w (List.mem_of_getElem? hw), hrd, ⟨Int.natCast_nonneg _, Int.ofNat_lt.2 hin⟩, hlt, trivial⟩
        have e2 : Value.bool (uX w == uY w) = .bool false := congrArg _ (beq_eq_false_iff_ne.2 d2)
        by_cases d3 : minI (uX w) (uY w) ≤ (i : Int)
        · exact rtM cs o n c dim Q i r w (uF w) (low32 w) (uX w) (uY w) J hE ⟨⟨rfl, rfl⟩, (congrArg _ (decide_eq_true d3)), e2, e1, unp_inner ho hl, hU w (List.mem_of_getElem? hw), hrd, ⟨Int.natCast_nonneg _, Int.ofNat_lt.2 hin⟩, hlt, trivial⟩
        have e3 : Value.bool (decide (minI (uX w) (uY w) ≤ (i : Int))) = .bool false := congrArg _ (decide_eq_false d3)
        by_cases d4 : maxI (uX w) (uY w) ≥ (n : Int)
        · exact rtX cs o n c dim Q i r w (uF w) (low32 w) (uX w) (uY w) J hE ⟨⟨rfl, rfl⟩, (congrArg _ (decide_eq_true d4)), e3, e2, e1, unp_inner ho hl, hU w (List.mem_of_getElem? hw), hrd, ⟨Int.natCast_nonneg _, Int.ofNat_lt.2 hin⟩, hlt, trivial⟩
        rw [good_mk hl ho d1 d2 (min_gt d3).1 (min_gt d3).2 (max_lt d4).1 (max_lt d4).2] at hgd
        exact absurd hgd (by simp)
    · cases hl : lfB w
      · obtain ⟨ho, d1, d2, d3, d4, d5, d6⟩ := good_inner hgd hl
        obtain ⟨X, hX⟩ := Int.eq_ofNat_of_zero_le (show 0 ≤ uX w by omega)
        obtain ⟨Y, hY⟩ := Int.eq_ofNat_of_zero_le (show 0 ≤ uY w by omega)
        have e1 : Value.bool (decide (uF w ≥ dim)) = .bool false := congrArg _ (decide_eq_false (by omega))
        have e2 : Value.bool (uX w == uY w) = .bool false := congrArg _ (beq_eq_false_iff_ne.2 d2)
        have e3 : Value.bool (decide (minI (uX w) (uY w) ≤ (i : Int))) = .bool false := congrArg _ (decide_eq_false (not_min d3 d4))
        have e4 : Value.bool (decide (maxI (uX w) (uY w) ≥ (n : Int))) = .bool false := congrArg _ (decide_eq_false (not_max d5 d6))
        have hXn : X < n := by omega
        have hYn : Y < n := by omega
        have hne : X ≠ Y := by omega
        have hlX := named_le (ws.take i) X
        have hlY := named_le (ws.take i) Y
        have htl : (ws.take i).length ≤ 31 := by rw [List.length_take, hlen]; omega
        have r1 := cntL_get (ws := ws.take i) hXn
        have hrd1 := rd_int (l := r) (k := X) (z := (named (ws.take i) (X : Int) : Int)) (by rw [k3]; exact r1)
        have hst1 := lsetE (e := eInt) (l := r) (k := X) (f := 0) (o := 0 + X * 1) (x := (named (ws.take i) (X : Int) : Int) + 1) (vs := [.int .i64 ((named (ws.take i) (X : Int) : Int) + 1)]) (by rw [k3]; exact r1) rfl (by simp [eInt])
        have r2 : (r.set X ((named (ws.take i) (X : Int) : Int) + 1))[Y]? = some (named (ws.take i) (Y : Int) : Int) := by
          rw [List.getElem?_set_ne hne, k3]; exact cntL_get hYn
        have hrd2 := rd_int (l := r.set X ((named (ws.take i) (X : Int) : Int) + 1)) (k := Y) (z := (named (ws.take i) (Y : Int) : Int)) r2
        have hst2 := lsetE (e := eInt) (l := r.set X ((named (ws.take i) (X : Int) : Int) + 1)) (k := Y) (f := 0) (o := 0 + Y * 1) (x := (named (ws.take i) (Y : Int) : Int) + 1) (vs := [.int .i64 ((named (ws.take i) (Y : Int) : Int) + 1)]) r2 rfl (by simp [eInt])
        have hfin : (r.set X ((named (ws.take i) (X : Int) : Int) + 1)).set Y ((named (ws.take i) (Y : Int) : Int) + 1) = cntL (ws.take (i + 1)) n := by rw [k3, htk]; exact cnt_two hl hX hY hne hXn hYn
        rw [hX, hY] at e2 e3 e4
        have hun := unp_inner ho hl
        rw [hX, hY] at hun
        exact rtG cs o n c dim Q i r _ _ w (uF w) (low32 w) X Y _ _ _ _ J hE okL ⟨rfl, ⟨(i + 1, (r.set X ((named (ws.take i) (X : Int) : Int) + 1)).set Y ((named (ws.take i) (Y : Int) : Int) + 1)), ⟨hin, nxt hgd, hfin⟩, (by show n - (i + 1) < n - i; omega), rfl, by simp [fRt, rnr, rni]⟩, i64_succ (by omega), hst2, ⟨Int.natCast_nonneg _, Int.ofNat_lt.2 hYn⟩, (i64_id rfl (by omega) (by omega)), hrd2, ⟨Int.natCast_nonneg _, Int.ofNat_lt.2 hYn⟩, hst1, ⟨Int.natCast_nonneg _, Int.ofNat_lt.2 hXn⟩, (i64_id rfl (by omega) (by omega)), hrd1, ⟨Int.natCast_nonneg _, Int.ofNat_lt.2 hXn⟩, e4, e3, e2, e1, hun, hU w (List.mem_of_getElem? hw), hrd, ⟨Int.natCast_nonneg _, Int.ofNat_lt.2 hin⟩, hlt, trivial⟩ hJ'
      · have ho : okB w = true := by simp [goodW] at hgd; exact hgd.1
        exact rtF cs o n c dim Q i r w (low32 w) J hE okL ⟨rfl, ⟨(i + 1, r), ⟨hin, nxt hgd, by rw [htk, cnt_leaf hl]; exact k3⟩, (by show n - (i + 1) < n - i; omega), rfl, by simp [fRt, rnr, rni]⟩, i64_succ (by omega), unp_leaf ho hl, hU w (List.mem_of_getElem? hw), hrd, ⟨Int.natCast_nonneg _, Int.ofNat_lt.2 hin⟩, hlt, trivial⟩ hJ'
  · have hlt : decide ((i : Int) < (n : Int)) = false := decide_eq_false (by omega)
    obtain rfl : i = n := by omega
    have hall : ∀ (j : Nat) (w : Int), ws[j]? = some w → goodW dim i j w = true := fun j w hw => k2 j w (by have := (List.getElem?_eq_some_iff.1 hw).1; omega) hw
    have hr3 : r = cntL ws i := by rw [k3, List.take_of_length_le (by omega)]
    clear k3 k2 hJ' hJ
    have hrl : r.length = i := by rw [hr3]; exact cntL_len _ _
    let Q2 : Nat → Prop := fun j => j ≤ i - 1 ∧ ∀ k : Nat, 1 ≤ k → k < j + 1 → named ws (k : Int) = 1
    have sl : ∃ q : Nat, (q = 1 ∨ i = 1) ∧ SlOK 1 10 0 i i (some 1) none (some (.cells (eInt.row r) 3)) (.slice (some ⟨10, q, none⟩) (i - 1) (i - 1)) := by
      by_cases h : i = 1
      · refine ⟨0, Or.inr h, 1, i, rfl, rfl, by omega, Nat.le_refl _, Or.inr ⟨by unfold Ev.mark; omega, Nat.le_refl _, Or.inl ⟨by omega, ?_⟩⟩⟩
        simp
      · refine ⟨1, Or.inl rfl, 1, i, rfl, rfl, by omega, Nat.le_refl _, Or.inr ⟨by unfold Ev.mark; omega, Nat.le_refl _, Or.inr ⟨by omega, ?_⟩⟩⟩
        simp
    obtain ⟨q, hq, hsl⟩ := sl
    refine rtZ cs o i c (i - 1) q dim Q Q2 i r J hE (fRn_ok (i - 1) q r Q2) ⟨rfl, ⟨0, ⟨Nat.zero_le _, fun k a b => by omega⟩, trivial, rfl, by simp [fRn, rni]⟩, hsl, hlt, trivial⟩ fun zz hz _ => by_loop (fRn (i - 1) q r Q2) (lp Try.f22 1) ?_ 0 zz hz
    rintro b j hinv J hJ
    have hinv : j ≤ i - 1 ∧ ∀ k : Nat, 1 ≤ k → k < j + 1 → named ws (k : Int) = 1 := hinv
    obtain ⟨m1, m2⟩ := hinv
    show Sat E (inLp (lp Try.f22 1) J) ((fRn (i - 1) q r Q2).st 0 j)
    have hJ' : ∀ zz, (fRn (i - 1) q r Q2).inv 0 zz → ltO ((fRn (i - 1) q r Q2).mu 0 zz) (some (i - 1 - j)) → Sat E (mkLp (lp Try.f22 1) J) ((fRn (i - 1) q r Q2).st 0 zz) := fun zz h1 h2 => hJ 0 zz h1 h2
    by_cases hji : j < i - 1
    · have hlt : decide ((j : Int) < ((i - 1 : Nat) : Int)) = true := decide_eq_true (by omega)
      obtain rfl : q = 1 := by omega
      have hrd := rd_off (l := r) (q := 1) (j := j) (z := (named ws ((1 + j : Nat) : Int) : Int)) (by rw [hr3]; exact cntL_get (by omega))
      by_cases h1' : named ws ((1 + j : Nat) : Int) = 1
      · exact rnY (i - 1) 1 r Q2 j _ J hE (fRn_ok (i - 1) 1 r Q2) ⟨rfl, ⟨j + 1, ⟨by omega, fun k a b => by
            by_cases e : k < j + 1
            · exact m2 k a e
            · obtain rfl : k = 1 + j := by omega
              exact h1'⟩, (by show i - 1 - (j + 1) < i - 1 - j; omega), rfl, by simp [fRn, rni]⟩, i64_succ (by omega), (by rw [h1']; rfl), hrd, ⟨Int.natCast_nonneg _, Int.ofNat_lt.2 hji⟩, hlt, trivial⟩ hJ'
      · rw [right_once (k := 1 + j) (by omega) (by omega) h1'] at hE
        exact rnN (i - 1) 1 r Q2 j _ J hE ⟨⟨rfl, rfl⟩, (by simp only [bne_iff_ne, ne_eq]; omega), hrd, ⟨Int.natCast_nonneg _, Int.ofNat_lt.2 hji⟩, hlt, trivial⟩
    · have hlt : decide ((j : Int) < ((i - 1 : Nat) : Int)) = false := decide_eq_false (by omega)
      have hR : rightI ws dim = true := right_parts.2 ⟨⟨by omega, by omega⟩, fun j w hw => by rw [hlen]; exact hall j w hw, fun k a b => m2 k a (by omega)⟩
      rw [hR] at hE
      exact rnE (i - 1) q r Q2 j J hE ⟨⟨rfl, rfl⟩, hlt, trivial⟩
def right_F : RoF := fun xs css => match xs, css with
  | [.slice (some ⟨0, o, none⟩) n c, .int .i64 dim], [cs] => some (.bool (rightI (eWord.list cs o n) dim), [], [eWord.Row cs o n, ∀ w ∈ eWord.list cs o n, U64 w, n ≤ 65536])
  | [.slice none 0 0, .int .i64 dim], [] => some (.bool false, [], [])
  | _, _ => none
theorem right_sum : SumOK Try.prog 22 (roSum right_F) := by
  refine roSum_ok (en Try.func22 rfl) ?_ (fun xs css r h => ?_)
  · intro xs css v blks ob h hob hpl hl
    unfold right_F at h
    split at h
    · rename_i o n c dim cs
      simp only [Option.some.injEq, Prod.mk.injEq] at h
      obtain ⟨rfl, rfl, rfl⟩ := h
      refine ⟨by simp, by simp, fun j hj => by simp [nms, nm1, nmL, nm0] at hj, ?_⟩
      exact right_spec cs o n c dim (hob _ (List.mem_cons_self ..)) (hpl cs (by simp)) (hob _ (List.mem_cons_of_mem _ (List.mem_cons_self ..))) (hob _ (by simp))
    · rename_i dim
      simp only [Option.some.injEq, Prod.mk.injEq] at h
      obtain ⟨rfl, rfl, rfl⟩ := h
      refine ⟨by simp, by simp, fun j hj => by simp [nms, nm1, nmL, nm0] at hj, ?_⟩
      exact spec_of_sat Try.func22 rfl fun E hE => rtNil dim hE ⟨⟨rfl, rfl⟩, trivial⟩
    · simp at h
  · unfold right_F at h
    split at h <;> simp at h <;> simp
noncomputable def t_right : Sums := upd t_runpack 22 (some (roSum right_F))
theorem t_right_ok : SumsOK Try.prog t_right := sums_cons t_runpack_ok right_sum
end Go.Proofs.Ytnngaedhedbenaa.Tr


set_option linter.unusedVariables false
set_option linter.unusedSimpArgs false
namespace Go.Proofs.Ytnngaedhedbenaa.Ev
open Go Go.RowKit
abbrev kI (z : Int) : Value := .int .i64 z
def keysI (es : List Ent) : Prop := ∀ e ∈ es, ∃ z, e.1 = kI z
theorem keysI_nil : keysI [] := fun e h => by simp at h
theorem keyEq_kI (a b : Int) : keyEq (kI a) (kI b) = (a == b) := rfl
theorem keysI_put {es : List Ent} (h : keysI es) (b : Int) (v : Value) (c : Nat) : keysI (mput (kI b) v c es) := by
  induction es with
  | nil => intro e he; simp [mput] at he; subst he; exact ⟨b, rfl⟩
  | cons e es ih =>
    have hes : keysI es := fun x hx => h x (by simp [hx])
    intro x hx
    simp only [mput] at hx
    cases hk : keyEq (kI b) e.1 <;> rw [hk] at hx
    · simp only [cond_false, List.mem_cons] at hx
      rcases hx with rfl | hx
      · exact h x (by simp)
      · exact ih hes x hx
    · simp only [cond_true, List.mem_cons] at hx
      rcases hx with rfl | hx
      · exact h e (by simp)
      · exact hes x hx
theorem mgetB_put {es : List Ent} (h : keysI es) (a b : Int) (t : Bool) (c : Nat) : mgetB (kI a) (mput (kI b) (.bool t) c es) = bif a == b then t else mgetB (kI a) es := by
  induction es with
  | nil => simp only [mput, mgetB, keyEq_kI, boolV]
  | cons e es ih =>
    have hes : keysI es := fun x hx => h x (by simp [hx])
    obtain ⟨z, hz⟩ := h e (by simp)
    simp only [mput, hz, keyEq_kI]
    cases hb : b == z
    · simp only [cond_false, mgetB, hz, keyEq_kI, ih hes]
      cases ha : a == z
      · rfl
      · have : (a == b) = false := by
          rw [beq_iff_eq] at ha; subst ha
          rw [beq_eq_false_iff_ne] at hb ⊢
          exact fun e => hb e.symm
        rw [this]; rfl
    · rw [beq_iff_eq] at hb; subst hb
      simp only [cond_true, mgetB, hz, keyEq_kI, boolV]
      cases a == b <;> rfl
theorem mgetI_putI {es : List Ent} (h : keysI es) (a b : Int) (n : Int) (c : Nat) : mgetI (kI a) (mput (kI b) (.int .i64 n) c es) = bif a == b then n else mgetI (kI a) es := by
  induction es with
  | nil => simp only [mput, mgetI, keyEq_kI, intV]
  | cons e es ih =>
    have hes : keysI es := fun x hx => h x (by simp [hx])
    obtain ⟨z, hz⟩ := h e (by simp)
    simp only [mput, hz, keyEq_kI]
    cases hb : b == z
    · simp only [cond_false, mgetI, hz, keyEq_kI, ih hes]
      cases ha : a == z
      · rfl
      · have : (a == b) = false := by
          rw [beq_iff_eq] at ha; subst ha
          rw [beq_eq_false_iff_ne] at hb ⊢
          exact fun e => hb e.symm
        rw [this]; rfl
    · rw [beq_iff_eq] at hb; subst hb
      simp only [cond_true, mgetI, hz, keyEq_kI, intV]
      cases a == b <;> rfl
end Go.Proofs.Ytnngaedhedbenaa.Ev


set_option linter.unusedVariables false
set_option linter.unusedSimpArgs false
set_option maxRecDepth 100000
namespace Go.Proofs.Ytnngaedhedbenaa.Tr
open Go Go.RowKit Go.Proofs.Ytnngaedhedbenaa.Ev Go.Proofs.Ytnngaedhedbenaa.NodeE Go.Proofs.Ytnngaedhedbenaa.Tr

structure GT where
  i : Nat
  es : List Ent
  c : Nat
def fGt (cs : List Value) (o n c : Nat) (dim : Int) (Q : GT → Prop) : LoopF GT where
  ts _ := [0, 1, 5, 20, 21, 22]
  hs _ := [0, 10]
  tv _ := fun ⟨i, es, k⟩ => [.slice (some ⟨0, o, none⟩) n c, .int .i64 dim, .map (some 10), .slice (some ⟨0, o, none⟩) n c, .int .i64 (n : Int), .int .i64 (i : Int)]
  hv _ := fun ⟨i, es, k⟩ => [.ro cs, .map [some .i64] false (some .i64) es k]
  inv _ := Q
  mu _ := fun ⟨i, es, k⟩ => n - i
  nx := 12
def fGn (cs : List Value) (o n c : Nat) (es : List Ent) (k : Nat) (Q : Nat → Prop) : LoopF Nat where
  ts _ := [0, 5, 10]
  hs _ := [0, 10]
  tv _ := fun i => [.slice (some ⟨0, o, none⟩) n c, .map (some 10), .int .i64 (i : Int)]
  hv _ := fun i => [.ro cs, .map [some .i64] false (some .i64) es k]
  inv _ := Q
  mu _ := fun i => n - i
  nx := 12

theorem fGt_ok (cs : List Value) (o n c : Nat) (dim : Int) (Q : GT → Prop) (hpl : ∀ x ∈ cs, leafG x = true) : (fGt cs o n c dim Q).OK 1 := by
  refine ⟨(by decide : 1 ≤ 12), fun z i h k hk => ?_, fun z i h v hv k hk => ?_, fun z i h x hx => ?_⟩
  · show k < 12
    simp [fGt] at hk; omega
  · show k < 12
    simp [fGt] at hv
    repeat' (refine Or.elim hv (fun hv => ?_) (fun hv => ?_))
    all_goals (subst hv; simp [nms, nm1, nm0] at hk; try omega)
  · simp [fGt] at hx
    rcases hx with rfl | rfl
    · exact Blk.plain.namesLt (b := .ro cs) hpl _
    · exact trivial

theorem fGn_ok (cs : List Value) (o n c : Nat) (es : List Ent) (k : Nat) (Q : Nat → Prop) (hpl : ∀ x ∈ cs, leafG x = true) : (fGn cs o n c es k Q).OK 1 := by
  refine ⟨(by decide : 1 ≤ 12), fun z i h k hk => ?_, fun z i h v hv k hk => ?_, fun z i h x hx => ?_⟩
  · show k < 12
    simp [fGn] at hk; omega
  · show k < 12
    simp [fGn] at hv
    repeat' (refine Or.elim hv (fun hv => ?_) (fun hv => ?_))
    all_goals (subst hv; simp [nms, nm1, nm0] at hk; try omega)
  · simp [fGn] at hx
    rcases hx with rfl | rfl
    · exact Blk.plain.namesLt (b := .ro cs) hpl _
    · exact trivial

end Go.Proofs.Ytnngaedhedbenaa.Tr


set_option linter.unusedVariables false
set_option linter.unusedSimpArgs false
set_option maxRecDepth 100000
namespace Go.Proofs.Ytnngaedhedbenaa.Tr
open Go Go.RowKit Go.Proofs.Ytnngaedhedbenaa.Ev Go.Proofs.Ytnngaedhedbenaa.NodeE Go.Proofs.Ytnngaedhedbenaa.Tr

theorem gtNil (dim : Int)  {E : Env} (hE : EnvOK E Try.prog Try.f30 2 0 (.bool false) [] []) (hob : all ([Back (Value.bool false) (Value.bool false) [] [] []])) : Sat E [.code (bodyOf Try.f30)] (st0 Try.f30 [.slice none 0 0, .int .i64 dim] (roRows []) 0) :=
  by_ret (T := auto0 t_runpack) (h := hints []) (ws := []) (nx' := 0) hE hm (auto0_ok t_runpack_ok) (by omega) (by simp) (by simp) (by kernel_rfl) hob
theorem gtShort (cs : List Value) (o n c : Nat) (dim : Int)  {E : Env} (hE : EnvOK E Try.prog Try.f30 2 1 (.bool false) [] []) (hob : all ([Back (Value.bool false) (Value.bool false) [] [] [], Value.bool (decide ((↑n : Int) < 1)) = Value.bool true])) : Sat E [.code (bodyOf Try.f30)] (st0 Try.f30 [.slice (some ⟨0, o, none⟩) n c, .int .i64 dim] (roRows [cs]) 1) :=
  by_ret (T := auto0 t_runpack) (h := hints [(1, 2, ht true)]) (ws := []) (nx' := 1) hE hm (auto0_ok t_runpack_ok) (by omega) (by simp) (by simp) (by kernel_rfl) hob
theorem gtLong (cs : List Value) (o n c : Nat) (dim : Int)  {E : Env} (hE : EnvOK E Try.prog Try.f30 2 1 (.bool false) [] []) (hob : all ([Back (Value.bool false) (Value.bool false) [] [] [], Value.bool (decide ((↑n : Int) > 31)) = Value.bool true, Value.bool (decide ((↑n : Int) < 1)) = Value.bool false])) : Sat E [.code (bodyOf Try.f30)] (st0 Try.f30 [.slice (some ⟨0, o, none⟩) n c, .int .i64 dim] (roRows [cs]) 1) :=
  by_ret (T := auto0 t_runpack) (h := hints [(1, 2, ht false), (1, 6, ht true)]) (ws := []) (nx' := 1) hE hm (auto0_ok t_runpack_ok) (by omega) (by simp) (by simp) (by kernel_rfl) hob
theorem gtIn (cs : List Value) (o n c : Nat) (dim : Int) (Q : GT → Prop)  {E : Env} {rv : Value} {rhs : List Nat} {rhv : List Blk} (hE : EnvOK E Try.prog Try.f30 2 1 rv rhs rhv) (hL : (fGt cs o n c dim Q).OK 1) (hob : all ([SameK (atLp (lp Try.f30 0)) (atLp (lp Try.f30 0)), Enter (fGt cs o n c dim Q) 0 none [Value.slice (some (Addr.mk 0 o none)) n c, Value.int IntKind.i64 dim, Value.map (some 37), Value.slice (some (Addr.mk 0 o none)) n c, Value.int IntKind.i64 ((n : Int)), Value.int IntKind.i64 ((0 : Int))] [Blk.ro cs, Blk.map [some IntKind.i64] false (some IntKind.i64) [] 0] [(0, 0), (10, 37), (0, 0)], Value.bool (decide ((↑n : Int) > 31)) = Value.bool false, Value.bool (decide ((↑n : Int) < 1)) = Value.bool false])) (hK : ∀ zz, (fGt cs o n c dim Q).inv 0 zz → ltO ((fGt cs o n c dim Q).mu 0 zz) none → Sat E (atLp (lp Try.f30 0)) ((fGt cs o n c dim Q).st 0 zz)) : Sat E [.code (bodyOf Try.f30)] (st0 Try.f30 [.slice (some ⟨0, o, none⟩) n c, .int .i64 dim] (roRows [cs]) 1) :=
  by_to (T := auto0 t_runpack) (h := hints [(1, 2, ht false), (1, 6, ht false)]) (ws := [.go, .stop]) (i0 := ⟨0, [], 0⟩) hE hm (auto0_ok t_runpack_ok) hL (by kernel_rfl) hob hK
theorem gtN (cs : List Value) (o n c : Nat) (dim : Int) (Q : GT → Prop) (i k : Nat) (es : List Ent) (w : Int) (J : Act → World → Prop) {E : Env} (hE : EnvOK E Try.prog Try.f30 2 1 (.bool false) [] []) (hob : all ([Back (Value.bool false) (Value.bool false) [] [] [], Value.tuple (Array.mk [Value.agg (Array.mk [Value.bool (okB w && lfB w), Value.int IntKind.i64 (sV w), Value.int IntKind.i64 (sF w), Value.int IntKind.i64 (sA w), Value.int IntKind.i64 (sX w), Value.int IntKind.i64 (sY w)]), Value.bool (okB w)]) = Value.tuple (Array.mk [Value.agg (Array.mk [Value.bool false, Value.int IntKind.i64 ((0 : Int)), Value.int IntKind.i64 ((0 : Int)), Value.int IntKind.i64 ((0 : Int)), Value.int IntKind.i64 ((0 : Int)), Value.int IntKind.i64 ((0 : Int))]), Value.bool false]), U64 w, readPart Try.prog 26 cs (o + ((i : Int)).toNat * 1) = some (Value.int IntKind.u64 w), (0 : Int) ≤ (i : Int) ∧ (i : Int) < (n : Int), decide ((↑i : Int) < (↑n : Int)) = true])) : Sat E (inLp (lp Try.f30 0) J) ((fGt cs o n c dim Q).st 0 ⟨i, es, k⟩) :=
  by_ret (T := auto0 t_runpack) (h := hints [(6, 1, {p := true}), (6, 2, {o := some (.int .u64 w)}), (7, 1, {v := some (.tuple ⟨[nd false 0 0 0 0 0, .bool false]⟩)})]) (ws := [.b true]) (nx' := 1) hE hm (auto0_ok t_runpack_ok) (by omega) (by simp) (by simp) (by kernel_rfl) hob
theorem gtF (cs : List Value) (o n c : Nat) (dim : Int) (Q : GT → Prop) (i k : Nat) (es : List Ent) (w v : Int) (J : Act → World → Prop) {E : Env} {rv : Value} {rhs : List Nat} {rhv : List Blk} (hE : EnvOK E Try.prog Try.f30 2 1 rv rhs rhv) (hL : (fGt cs o n c dim Q).OK 1) (hob : all ([SameK (mkLp (lp Try.f30 0) J) (mkLp (lp Try.f30 0) J), Enter (fGt cs o n c dim Q) 0 (some (n - i)) [Value.slice (some (Addr.mk 0 o none)) n c, Value.int IntKind.i64 dim, Value.map (some 10), Value.slice (some (Addr.mk 0 o none)) n c, Value.int IntKind.i64 ((n : Int)), Value.int IntKind.i64 (Int.ofNat i.succ)] [Blk.ro cs, Blk.map [some IntKind.i64] false (some IntKind.i64) es k] [(0, 0), (10, 10), (0, 0)], Value.int IntKind.i64 (IntKind.i64.wrap (Int.ofNat i.succ)) = Value.int IntKind.i64 (Int.ofNat i.succ), Value.tuple (Array.mk [Value.agg (Array.mk [Value.bool (okB w && lfB w), Value.int IntKind.i64 (sV w), Value.int IntKind.i64 (sF w), Value.int IntKind.i64 (sA w), Value.int IntKind.i64 (sX w), Value.int IntKind.i64 (sY w)]), Value.bool (okB w)]) = Value.tuple (Array.mk [Value.agg (Array.mk [Value.bool true, Value.int IntKind.i64 v, Value.int IntKind.i64 ((0 : Int)), Value.int IntKind.i64 ((0 : Int)), Value.int IntKind.i64 ((0 : Int)), Value.int IntKind.i64 ((0 : Int))]), Value.bool true]), U64 w, readPart Try.prog 26 cs (o + ((i : Int)).toNat * 1) = some (Value.int IntKind.u64 w), (0 : Int) ≤ (i : Int) ∧ (i : Int) < (n : Int), decide ((↑i : Int) < (↑n : Int)) = true])) (hK : ∀ zz, (fGt cs o n c dim Q).inv 0 zz → ltO ((fGt cs o n c dim Q).mu 0 zz) (some (n - i)) → Sat E (mkLp (lp Try.f30 0) J) ((fGt cs o n c dim Q).st 0 zz)) : Sat E (inLp (lp Try.f30 0) J) ((fGt cs o n c dim Q).st 0 ⟨i, es, k⟩) :=
  by_to (T := auto0 t_runpack) (h := hints [(6, 1, {p := true}), (6, 2, {o := some (.int .u64 w)}), (7, 1, {v := some (.tuple ⟨[nd true v 0 0 0 0, .bool true]⟩)}), (15, 0, {v := some (.int .i64 ((i + 1 : Nat) : Int))})]) (ws := [.b true]) (i0 := ⟨i + 1, es, k⟩) hE hm (auto0_ok t_runpack_ok) hL (by kernel_rfl) hob hK
theorem gtB0 (cs : List Value) (o n c : Nat) (dim : Int) (Q : GT → Prop) (i k : Nat) (es : List Ent) (w f a x y : Int) (J : Act → World → Prop) {E : Env} (hE : EnvOK E Try.prog Try.f30 2 1 (.bool false) [] []) (hob : all ([Back (Value.bool false) (Value.bool false) [] [] [], Value.bool (decide (f ≥ dim)) = Value.bool true, Value.tuple (Array.mk [Value.agg (Array.mk [Value.bool (okB w && lfB w), Value.int IntKind.i64 (sV w), Value.int IntKind.i64 (sF w), Value.int IntKind.i64 (sA w), Value.int IntKind.i64 (sX w), Value.int IntKind.i64 (sY w)]), Value.bool (okB w)]) = Value.tuple (Array.mk [Value.agg (Array.mk [Value.bool false, Value.int IntKind.i64 ((0 : Int)), Value.int IntKind.i64 f, Value.int IntKind.i64 a, Value.int IntKind.i64 x, Value.int IntKind.i64 y]), Value.bool true]), U64 w, readPart Try.prog 26 cs (o + ((i : Int)).toNat * 1) = some (Value.int IntKind.u64 w), (0 : Int) ≤ (i : Int) ∧ (i : Int) < (n : Int), decide ((↑i : Int) < (↑n : Int)) = true])) : Sat E (inLp (lp Try.f30 0) J) ((fGt cs o n c dim Q).st 0 ⟨i, es, k⟩) :=
  by_ret (T := auto0 t_runpack) (h := hints [(6, 1, {p := true}), (6, 2, {o := some (.int .u64 w)}), (7, 1, {v := some (.tuple ⟨[nd false 0 f a x y, .bool true]⟩)}), (11, 3, ht true)]) (ws := [.b true]) (nx' := 1) hE hm (auto0_ok t_runpack_ok) (by omega) (by simp) (by simp) (by kernel_rfl) hob
theorem gtB1 (cs : List Value) (o n c : Nat) (dim : Int) (Q : GT → Prop) (i k : Nat) (es : List Ent) (w f a x y : Int) (J : Act → World → Prop) {E : Env} (hE : EnvOK E Try.prog Try.f30 2 1 (.bool false) [] []) (hob : all ([Back (Value.bool false) (Value.bool false) [] [] [], Value.bool (decide (x ≤ (↑i : Int))) = Value.bool true, Value.bool (decide (f ≥ dim)) = Value.bool false, Value.tuple (Array.mk [Value.agg (Array.mk [Value.bool (okB w && lfB w), Value.int IntKind.i64 (sV w), Value.int IntKind.i64 (sF w), Value.int IntKind.i64 (sA w), Value.int IntKind.i64 (sX w), Value.int IntKind.i64 (sY w)]), Value.bool (okB w)]) = Value.tuple (Array.mk [Value.agg (Array.mk [Value.bool false, Value.int IntKind.i64 ((0 : Int)), Value.int IntKind.i64 f, Value.int IntKind.i64 a, Value.int IntKind.i64 x, Value.int IntKind.i64 y]), Value.bool true]), U64 w, readPart Try.prog 26 cs (o + ((i : Int)).toNat * 1) = some (Value.int IntKind.u64 w), (0 : Int) ≤ (i : Int) ∧ (i : Int) < (n : Int), decide ((↑i : Int) < (↑n : Int)) = true])) : Sat E (inLp (lp Try.f30 0) J) ((fGt cs o n c dim Q).st 0 ⟨i, es, k⟩) :=
  by_ret (T := auto0 t_runpack) (h := hints [(6, 1, {p := true}), (6, 2, {o := some (.int .u64 w)}), (7, 1, {v := some (.tuple ⟨[nd false 0 f a x y, .bool true]⟩)}), (11, 3, ht false), (11, 8, ht true)]) (ws := [.b true]) (nx' := 1) hE hm (auto0_ok t_runpack_ok) (by omega) (by simp) (by simp) (by kernel_rfl) hob
theorem gtB2 (cs : List Value) (o n c : Nat) (dim : Int) (Q : GT → Prop) (i k : Nat) (es : List Ent) (w f a x y : Int) (J : Act → World → Prop) {E : Env} (hE : EnvOK E Try.prog Try.f30 2 1 (.bool false) [] []) (hob : all ([Back (Value.bool false) (Value.bool false) [] [] [], Value.bool (decide (y ≤ (↑i : Int))) = Value.bool true, Value.bool (decide (x ≤ (↑i : Int))) = Value.bool false, Value.bool (decide (f ≥ dim)) = Value.bool false, Value.tuple (Array.mk [Value.agg (Array.mk [Value.bool (okB w && lfB w), Value.int IntKind.i64 (sV w), Value.int IntKind.i64 (sF w), Value.int IntKind.i64 (sA w), Value.int IntKind.i64 (sX w), Value.int IntKind.i64 (sY w)]), Value.bool (okB w)]) = Value.tuple (Array.mk [Value.agg (Array.mk [Value.bool false, Value.int IntKind.i64 ((0 : Int)), Value.int IntKind.i64 f, Value.int IntKind.i64 a, Value.int IntKind.i64 x, Value.int IntKind.i64 y]), Value.bool true]), U64 w, readPart Try.prog 26 cs (o + ((i : Int)).toNat * 1) = some (Value.int IntKind.u64 w), (0 : Int) ≤ (i : Int) ∧ (i : Int) < (n : Int), decide ((↑i : Int) < (↑n : Int)) = true])) : Sat E (inLp (lp Try.f30 0) J) ((fGt cs o n c dim Q).st 0 ⟨i, es, k⟩) :=
  by_ret (T := auto0 t_runpack) (h := hints [(6, 1, {p := true}), (6, 2, {o := some (.int .u64 w)}), (7, 1, {v := some (.tuple ⟨[nd false 0 f a x y, .bool true]⟩)}), (11, 3, ht false), (11, 8, ht false), (11, 14, ht true)]) (ws := [.b true]) (nx' := 1) hE hm (auto0_ok t_runpack_ok) (by omega) (by simp) (by simp) (by kernel_rfl) hob
theorem gtB3 (cs : List Value) (o n c : Nat) (dim : Int) (Q : GT → Prop) (i k : Nat) (es : List Ent) (w f a x y : Int) (J : Act → World → Prop) {E : Env} (hE : EnvOK E Try.prog Try.f30 2 1 (.bool false) [] []) (hob : all ([Back (Value.bool false) (Value.bool false) [] [] [], Value.bool (decide (x ≥ (↑n : Int))) = Value.bool true, Value.bool (decide (y ≤ (↑i : Int))) = Value.bool false, Value.bool (decide (x ≤ (↑i : Int))) = Value.bool false, Value.bool (decide (f ≥ dim)) = Value.bool false, Value.tuple (Array.mk [Value.agg (Array.mk [Value.bool (okB w && lfB w), Value.int IntKind.i64 (sV w), Value.int IntKind.i64 (sF w), Value.int IntKind.i64 (sA w), Value.int IntKind.i64 (sX w), Value.int IntKind.i64 (sY w)]), Value.bool (okB w)]) = Value.tuple (Array.mk [Value.agg (Array.mk [Value.bool false, Value.int IntKind.i64 ((0 : Int)), Value.int IntKind.i64 f, Value.int IntKind.i64 a, Value.int IntKind.i64 x, Value.int IntKind.i64 y]), Value.bool true]), U64 w, readPart Try.prog 26 cs (o + ((i : Int)).toNat * 1) = some (Value.int IntKind.u64 w), (0 : Int) ≤ (i : Int) ∧ (i : Int) < (n : Int), decide ((↑i : Int) < (↑n : Int)) = true])) : Sat E (inLp (lp Try.f30 0) J) ((fGt cs o n c dim Q).st 0 ⟨i, es, k⟩) :=
  by_ret (T := auto0 t_runpack) (h := hints [(6, 1, {p := true}), (6, 2, {o := some (.int .u64 w)}), (7, 1, {v := some (.tuple ⟨[nd false 0 f a x y, .bool true]⟩)}), (11, 3, ht false), (11, 8, ht false), (11, 14, ht false), (11, 21, ht true)]) (ws := [.b true]) (nx' := 1) hE hm (auto0_ok t_runpack_ok) (by omega) (by simp) (by simp) (by kernel_rfl) hob
theorem gtB4 (cs : List Value) (o n c : Nat) (dim : Int) (Q : GT → Prop) (i k : Nat) (es : List Ent) (w f a x y : Int) (J : Act → World → Prop) {E : Env} (hE : EnvOK E Try.prog Try.f30 2 1 (.bool false) [] []) (hob : all ([Back (Value.bool false) (Value.bool false) [] [] [], Value.bool (decide (y ≥ (↑n : Int))) = Value.bool true, Value.bool (decide (x ≥ (↑n : Int))) = Value.bool false, Value.bool (decide (y ≤ (↑i : Int))) = Value.bool false, Value.bool (decide (x ≤ (↑i : Int))) = Value.bool false, Value.bool (decide (f ≥ dim)) = Value.bool false, Value.tuple (Array.mk [Value.agg (Array.mk [Value.bool (okB w && lfB w), Value.int IntKind.i64 (sV w), Value.int IntKind.i64 (sF w), Value.int IntKind.i64 (sA w), Value.int IntKind.i64 (sX w), Value.int IntKind.i64 (sY w)]), Value.bool (okB w)]) = Value.tuple (Array.mk [Value.agg (Array.mk [Value.bool false, Value.int IntKind.i64 ((0 : Int)), Value.int IntKind.i64 f, Value.int IntKind.i64 a, Value.int IntKind.i64 x, Value.int IntKind.i64 y]), Value.bool true]), U64 w, readPart Try.prog 26 cs (o + ((i : Int)).toNat * 1) = some (Value.int IntKind.u64 w), (0 : Int) ≤ (i : Int) ∧ (i : Int) < (n : Int), decide ((↑i : Int) < (↑n : Int)) = true])) : Sat E (inLp (lp Try.f30 0) J) ((fGt cs o n c dim Q).st 0 ⟨i, es, k⟩) :=
  by_ret (T := auto0 t_runpack) (h := hints [(6, 1, {p := true}), (6, 2, {o := some (.int .u64 w)}), (7, 1, {v := some (.tuple ⟨[nd false 0 f a x y, .bool true]⟩)}), (11, 3, ht false), (11, 8, ht false), (11, 14, ht false), (11, 21, ht false), (11, 28, ht true)]) (ws := [.b true]) (nx' := 1) hE hm (auto0_ok t_runpack_ok) (by omega) (by simp) (by simp) (by kernel_rfl) hob
theorem gtB5 (cs : List Value) (o n c : Nat) (dim : Int) (Q : GT → Prop) (i k : Nat) (es : List Ent) (w f a x y : Int) (J : Act → World → Prop) {E : Env} (hE : EnvOK E Try.prog Try.f30 2 1 (.bool false) [] []) (hob : all ([Back (Value.bool false) (Value.bool false) [] [] [], Value.bool (x == y) = Value.bool true, Value.bool (decide (y ≥ (↑n : Int))) = Value.bool false, Value.bool (decide (x ≥ (↑n : Int))) = Value.bool false, Value.bool (decide (y ≤ (↑i : Int))) = Value.bool false, Value.bool (decide (x ≤ (↑i : Int))) = Value.bool false, Value.bool (decide (f ≥ dim)) = Value.bool false, Value.tuple (Array.mk [Value.agg (Array.mk [Value.bool (okB w && lfB w), Value.int IntKind.i64 (sV w), Value.int IntKind.i64 (sF w), Value.int IntKind.i64 (sA w), Value.int IntKind.i64 (sX w), Value.int IntKind.i64 (sY w)]), Value.bool (okB w)]) = Value.tuple (Array.mk [Value.agg (Array.mk [Value.bool false, Value.int IntKind.i64 ((0 : Int)), Value.int IntKind.i64 f, Value.int IntKind.i64 a, Value.int IntKind.i64 x, Value.int IntKind.i64 y]), Value.bool true]), U64 w, readPart Try.prog 26 cs (o + ((i : Int)).toNat * 1) = some (Value.int IntKind.u64 w), (0 : Int) ≤ (i : Int) ∧ (i : Int) < (n : Int), decide ((↑i : Int) < (↑n : Int)) = true])) : Sat E (inLp (lp Try.f30 0) J) ((fGt cs o n c dim Q).st 0 ⟨i, es, k⟩) :=
  by_ret (T := auto0 t_runpack) (h := hints [(6, 1, {p := true}), (6, 2, {o := some (.int .u64 w)}), (7, 1, {v := some (.tuple ⟨[nd false 0 f a x y, .bool true]⟩)}), (11, 3, ht false), (11, 8, ht false), (11, 14, ht false), (11, 21, ht false), (11, 28, ht false), (11, 35, ht true)]) (ws := [.b true]) (nx' := 1) hE hm (auto0_ok t_runpack_ok) (by omega) (by simp) (by simp) (by kernel_rfl) hob
theorem gtG (cs : List Value) (o n c : Nat) (dim : Int) (Q : GT → Prop) (i k : Nat) (es : List Ent) (k2 : Nat) (es1 es2 : List Ent) (w f a x y g1 g2 h1 h2 : Int) (J : Act → World → Prop) {E : Env} {rv : Value} {rhs : List Nat} {rhv : List Blk} (hE : EnvOK E Try.prog Try.f30 2 1 rv rhs rhv) (hL : (fGt cs o n c dim Q).OK 1) (hob : all ([SameK (mkLp (lp Try.f30 0) J) (mkLp (lp Try.f30 0) J), Enter (fGt cs o n c dim Q) 0 (some (n - i)) [Value.slice (some (Addr.mk 0 o none)) n c, Value.int IntKind.i64 dim, Value.map (some 10), Value.slice (some (Addr.mk 0 o none)) n c, Value.int IntKind.i64 ((n : Int)), Value.int IntKind.i64 (Int.ofNat i.succ)] [Blk.ro cs, Blk.map [some IntKind.i64] false (some IntKind.i64) es2 (bif mhas (Value.int IntKind.i64 y) es1 then bif mhas (Value.int IntKind.i64 x) es then k else k + 1 else (bif mhas (Value.int IntKind.i64 x) es then k else k + 1) + 1)] [(0, 0), (10, 10), (0, 0)], Value.int IntKind.i64 (IntKind.i64.wrap (Int.ofNat i.succ)) = Value.int IntKind.i64 (Int.ofNat i.succ), mput (Value.int IntKind.i64 y) (Value.int IntKind.i64 h2) (bif mhas (Value.int IntKind.i64 x) es then k else k + 1) es1 = es2, Value.int IntKind.i64 (IntKind.i64.wrap (g2 + (1 : Int))) = Value.int IntKind.i64 h2, Value.int IntKind.i64 (mgetI (Value.int IntKind.i64 y) es1) = Value.int IntKind.i64 g2, mput (Value.int IntKind.i64 x) (Value.int IntKind.i64 h1) k es = es1, Value.int IntKind.i64 (IntKind.i64.wrap (g1 + (1 : Int))) = Value.int IntKind.i64 h1, Value.int IntKind.i64 (mgetI (Value.int IntKind.i64 x) es) = Value.int IntKind.i64 g1, Value.bool (x == y) = Value.bool false, Value.bool (decide (y ≥ (↑n : Int))) = Value.bool false, Value.bool (decide (x ≥ (↑n : Int))) = Value.bool false, Value.bool (decide (y ≤ (↑i : Int))) = Value.bool false, Value.bool (decide (x ≤ (↑i : Int))) = Value.bool false, Value.bool (decide (f ≥ dim)) = Value.bool false, Value.tuple (Array.mk [Value.agg (Array.mk [Value.bool (okB w && lfB w), Value.int IntKind.i64 (sV w), Value.int IntKind.i64 (sF w), Value.int IntKind.i64 (sA w), Value.int IntKind.i64 (sX w), Value.int IntKind.i64 (sY w)]), Value.bool (okB w)]) = Value.tuple (Array.mk [Value.agg (Array.mk [Value.bool false, Value.int IntKind.i64 ((0 : Int)), Value.int IntKind.i64 f, Value.int IntKind.i64 a, Value.int IntKind.i64 x, Value.int IntKind.i64 y]), Value.bool true]), U64 w, readPart Try.prog 26 cs (o + ((i : Int)).toNat * 1) = some (Value.int IntKind.u64 w), (0 : Int) ≤ (i : Int) ∧ (i : Int) < (n : Int), decide ((↑i : Int) < (↑n : Int)) = true])) (hK : ∀ zz, (fGt cs o n c dim Q).inv 0 zz → ltO ((fGt cs o n c dim Q).mu 0 zz) (some (n - i)) → Sat E (mkLp (lp Try.f30 0) J) ((fGt cs o n c dim Q).st 0 zz)) : Sat E (inLp (lp Try.f30 0) J) ((fGt cs o n c dim Q).st 0 ⟨i, es, k⟩) :=
  by_to (T := auto0 t_runpack) (h := hints [(6, 1, {p := true}), (6, 2, {o := some (.int .u64 w)}), (7, 1, {v := some (.tuple ⟨[nd false 0 f a x y, .bool true]⟩)}), (11, 3, ht false), (11, 8, ht false), (11, 14, ht false), (11, 21, ht false), (11, 28, ht false), (11, 35, ht false), (13, 3, {v := some (.int .i64 g1)}), (13, 4, {v := some (.int .i64 h1)}), (13, 5, {e := some es1}), (14, 3, {v := some (.int .i64 g2)}), (14, 4, {v := some (.int .i64 h2)}), (14, 5, {e := some es2}), (15, 0, {v := some (.int .i64 ((i + 1 : Nat) : Int))})]) (ws := [.b true]) (i0 := ⟨i + 1, es2, k2⟩) hE hm (auto0_ok t_runpack_ok) hL (by kernel_rfl) hob hK
theorem gtZ (cs : List Value) (o n c : Nat) (dim : Int) (Q : GT → Prop) (i k : Nat) (es : List Ent) (Q2 : Nat → Prop) (J : Act → World → Prop) {E : Env} {rv : Value} {rhs : List Nat} {rhv : List Blk} (hE : EnvOK E Try.prog Try.f30 2 1 rv rhs rhv) (hL : (fGn cs o n c es k Q2).OK 1) (hob : all ([SameK (atLp (lp Try.f30 1)) (atLp (lp Try.f30 1)), Enter (fGn cs o n c es k Q2) 0 none [Value.slice (some (Addr.mk 0 o none)) n c, Value.map (some 10), Value.int IntKind.i64 ((1 : Int))] [Blk.ro cs, Blk.map [some IntKind.i64] false (some IntKind.i64) es k] [(0, 0), (10, 10)], decide ((↑i : Int) < (↑n : Int)) = false])) (hK : ∀ zz, (fGn cs o n c es k Q2).inv 0 zz → ltO ((fGn cs o n c es k Q2).mu 0 zz) none → Sat E (atLp (lp Try.f30 1)) ((fGn cs o n c es k Q2).st 0 zz)) : Sat E (inLp (lp Try.f30 0) J) ((fGt cs o n c dim Q).st 0 ⟨i, es, k⟩) :=
  by_to (T := auto0 t_runpack) (h := hints []) (ws := [.b false, .stop]) (i0 := 1) hE hm (auto0_ok t_runpack_ok) hL (by kernel_rfl) hob hK
theorem gnY (cs : List Value) (o n c : Nat) (Q : Nat → Prop) (i k : Nat) (es : List Ent) (g : Int) (J : Act → World → Prop) {E : Env} {rv : Value} {rhs : List Nat} {rhv : List Blk} (hE : EnvOK E Try.prog Try.f30 2 1 rv rhs rhv) (hL : (fGn cs o n c es k Q).OK 1) (hob : all ([SameK (mkLp (lp Try.f30 1) J) (mkLp (lp Try.f30 1) J), Enter (fGn cs o n c es k Q) 0 (some (n - i)) [Value.slice (some (Addr.mk 0 o none)) n c, Value.map (some 10), Value.int IntKind.i64 (Int.ofNat i.succ)] [Blk.ro cs, Blk.map [some IntKind.i64] false (some IntKind.i64) es k] [(0, 0), (10, 10)], Value.int IntKind.i64 (IntKind.i64.wrap (Int.ofNat i.succ)) = Value.int IntKind.i64 (Int.ofNat i.succ), (g != (1 : Int)) = false, Value.int IntKind.i64 (mgetI (Value.int IntKind.i64 (↑i : Int)) es) = Value.int IntKind.i64 g, decide ((↑i : Int) < (↑n : Int)) = true])) (hK : ∀ zz, (fGn cs o n c es k Q).inv 0 zz → ltO ((fGn cs o n c es k Q).mu 0 zz) (some (n - i)) → Sat E (mkLp (lp Try.f30 1) J) ((fGn cs o n c es k Q).st 0 zz)) : Sat E (inLp (lp Try.f30 1) J) ((fGn cs o n c es k Q).st 0 i) :=
  by_to (T := auto0 t_runpack) (h := hints [(19, 2, {v := some (.int .i64 g)}), (18, 1, {v := some (.int .i64 ((i + 1 : Nat) : Int))})]) (ws := [.b true, .b false]) (i0 := (i + 1)) hE hm (auto0_ok t_runpack_ok) hL (by kernel_rfl) hob hK
theorem gnN (cs : List Value) (o n c : Nat) (Q : Nat → Prop) (i k : Nat) (es : List Ent) (g : Int) (J : Act → World → Prop) {E : Env} (hE : EnvOK E Try.prog Try.f30 2 1 (.bool false) [] []) (hob : all ([Back (Value.bool false) (Value.bool false) [] [] [], (g != (1 : Int)) = true, Value.int IntKind.i64 (mgetI (Value.int IntKind.i64 (↑i : Int)) es) = Value.int IntKind.i64 g, decide ((↑i : Int) < (↑n : Int)) = true])) : Sat E (inLp (lp Try.f30 1) J) ((fGn cs o n c es k Q).st 0 i) :=
  by_ret (T := auto0 t_runpack) (h := hints [(19, 2, {v := some (.int .i64 g)})]) (ws := [.b true, .b true]) (nx' := 1) hE hm (auto0_ok t_runpack_ok) (by omega) (by simp) (by simp) (by kernel_rfl) hob
theorem gnE (cs : List Value) (o n c : Nat) (Q : Nat → Prop) (i k : Nat) (es : List Ent) (J : Act → World → Prop) {E : Env} (hE : EnvOK E Try.prog Try.f30 2 1 (.bool true) [] []) (hob : all ([Back (Value.bool true) (Value.bool true) [] [] [], decide ((↑i : Int) < (↑n : Int)) = false])) : Sat E (inLp (lp Try.f30 1) J) ((fGn cs o n c es k Q).st 0 i) :=
  by_ret (T := auto0 t_runpack) (h := hints []) (ws := [.b false]) (nx' := 1) hE hm (auto0_ok t_runpack_ok) (by omega) (by simp) (by simp) (by kernel_rfl) hob
end Go.Proofs.Ytnngaedhedbenaa.Tr


set_option linter.unusedVariables false
set_option linter.unusedSimpArgs false
set_option maxRecDepth 100000
namespace Go.Proofs.Ytnngaedhedbenaa.Tr
open Go Go.RowKit Go.Proofs.Ytnngaedhedbenaa.Ev Go.Proofs.Ytnngaedhedbenaa.NodeE Go.Proofs.Ytnngaedhedbenaa.Tr

theorem rtree_spec (cs : List Value) (o n c : Nat) (dim : Int) (hr : eWord.Row cs o n) (hpl : ∀ x ∈ cs, leafG x = true) (hU : ∀ w ∈ eWord.list cs o n, U64 w) (hn : n ≤ 65536) :
    CallSpec Try.prog 30 [.slice (some ⟨0, o, none⟩) n c, .int .i64 dim] (roRows [cs]) 1 (.bool (rightI (eWord.list cs o n) dim)) (assocN [] []) := by
  refine spec_of_sat Try.func30 rfl fun E hE => ?_
  have hlen : (eWord.list cs o n).length = n := Elt.list_len _ _ _
  generalize hws : eWord.list cs o n = ws at hU hlen hE
  refine (Classical.em (1 ≤ n)).symm.elim (fun h1 => ?_) (fun h1 => ?_)
  · rw [right_len (by omega)] at hE
    exact gtShort cs o n c dim hE ⟨⟨rfl, rfl⟩, (congrArg _ (decide_eq_true (by omega))), trivial⟩
  have g1 : Value.bool (decide ((n : Int) < 1)) = .bool false := congrArg _ (decide_eq_false (by omega))
  refine (Classical.em (n ≤ 31)).symm.elim (fun h31 => ?_) (fun h31 => ?_)
  · rw [right_len (by omega)] at hE
    exact gtLong cs o n c dim hE ⟨⟨rfl, rfl⟩, (congrArg _ (decide_eq_true (by omega))), g1, trivial⟩
  have g2 : Value.bool (decide ((n : Int) > 31)) = .bool false := congrArg _ (decide_eq_false (by omega))
  let Q : GT → Prop := fun s => s.i ≤ n ∧ (∀ (j : Nat) (w : Int), j < s.i → ws[j]? = some w → goodW dim n j w = true) ∧ keysI s.es ∧ ∀ z, mgetI (kI z) s.es = (named (ws.take s.i) z : Int)
  have okL := fGt_ok cs o n c dim Q hpl
  have rnr : ∀ f : Nat → Nat, Blk.rnB f (.ro cs) = .ro cs := fun f => Blk.plain.rnB (b := .ro cs) hpl f
  have rnm : ∀ (f : Nat → Nat) (es : List Ent) (c : Nat), Blk.rnB f (.map [some .i64] false (some .i64) es c) = .map [some .i64] false (some .i64) es c := fun f es c => rfl
  refine gtIn cs o n c dim Q hE okL ⟨rfl, ⟨⟨0, [], 0⟩, ⟨Nat.zero_le _, fun j w hj => absurd hj (Nat.not_lt_zero _), keysI_nil, fun z => rfl⟩, trivial, rfl, by simp only [fGt, List.map_cons, List.map_nil, rnr, rnm]⟩, g2, g1, trivial⟩ fun zz hz _ => by_loop (fGt cs o n c dim Q) (lp Try.f30 0) ?_ 0 zz hz
  rintro b ⟨i, es, k⟩ hinv J hJ
  have hinv : i ≤ n ∧ (∀ (j : Nat) (w : Int), j < i → ws[j]? = some w → goodW dim n j w = true) ∧ keysI es ∧ ∀ z, mgetI (kI z) es = (named (ws.take i) z : Int) := hinv
  obtain ⟨k1, k2, k3, k4⟩ := hinv
  show Sat E (inLp (lp Try.f30 0) J) ((fGt cs o n c dim Q).st 0 ⟨i, es, k⟩)
  have hJ' : ∀ zz, (fGt cs o n c dim Q).inv 0 zz → ltO ((fGt cs o n c dim Q).mu 0 zz) (some (n - i)) → Sat E (mkLp (lp Try.f30 0) J) ((fGt cs o n c dim Q).st 0 zz) := fun zz h1 h2 => hJ 0 zz h1 h2
  by_cases hin : i < n
  · have hlt : decide ((i : Int) < (n : Int)) = true := decide_eq_true (by omega)
    obtain ⟨w, hw⟩ : ∃ w, ws[i]? = some w := ⟨_, List.getElem?_eq_getElem (by rw [hlen]; omega)⟩
    have hrd := hr.read1 (P := Try.prog) (ty := 26) (by kernel_rfl) rfl (i := i) (x := w) (by rw [hws]; exact hw) rfl rfl
    rw [← Nat.mul_one i] at hrd
    have htk : ws.take (i + 1) = ws.take i ++ [w] := by rw [List.take_add_one, hw]; rfl
    have nxt : goodW dim n i w = true → ∀ (j : Nat) (v : Int), j < i + 1 → ws[j]? = some v → goodW dim n j v = true := fun hg j v hj hv => by
      by_cases e : j < i
      · exact k2 j v e hv
      · obtain rfl : j = i := by omega
        rw [hw] at hv; injection hv with hv; subst hv; exact hg
    cases hgd : goodW dim n i w
    · have hbad : rightI ws dim = false := right_bad hw (by rw [hlen]; exact hgd)
      rw [hbad] at hE
      cases ho : okB w
      · exact gtN cs o n c dim Q i k es w J hE ⟨⟨rfl, rfl⟩, unp_no ho, hU w (List.mem_of_getElem? hw), hrd, ⟨Int.natCast_nonneg _, Int.ofNat_lt.2 hin⟩, hlt, trivial⟩
      · refine (Bool.eq_false_or_eq_true (lfB w)).elim (fun hl => ?_) (fun hl => ?_)
        · rw [good_leaf ho hl] at hgd; exact absurd hgd (by simp)
        refine (Classical.em (uF w < dim)).symm.elim (fun d0 => ?_) (fun d0 => ?_)
        · exact gtB0 cs o n c dim Q i k es w (uF w) (low32 w) (uX w) (uY w) J hE ⟨⟨rfl, rfl⟩, (congrArg _ (decide_eq_true (by omega))), unp_inner ho hl, hU w (List.mem_of_getElem? hw), hrd, ⟨Int.natCast_nonneg _, Int.ofNat_lt.2 hin⟩, hlt, trivial⟩
        have e0 : Value.bool (decide (uF w ≥ dim)) = .bool false := congrArg _ (decide_eq_false (by omega))
        refine (Classical.em (¬ uX w ≤ (i : Int))).symm.elim (fun d1 => ?_) (fun d1 => ?_)
        · exact gtB1 cs o n c dim Q i k es w (uF w) (low32 w) (uX w) (uY w) J hE ⟨⟨rfl, rfl⟩, (congrArg _ (decide_eq_true (by omega))), e0, unp_inner ho hl, hU w (List.mem_of_getElem? hw), hrd, ⟨Int.natCast_nonneg _, Int.ofNat_lt.2 hin⟩, hlt, trivial⟩
        have e1 : Value.bool (decide (uX w ≤ (i : Int))) = .bool false := congrArg _ (decide_eq_false (by omega))
        refine (Classical.em (¬ uY w ≤ (i : Int))).symm.elim (fun d2 => ?_) (fun d2 => ?_)
        · exact gtB2 cs o n c dim Q i k es w (uF w) (low32 w) (uX w) (uY w) J hE ⟨⟨rfl, rfl⟩, (congrArg _ (decide_eq_true (by omega))), e1, e0, unp_inner ho hl, hU w (List.mem_of_getElem? hw), hrd, ⟨Int.natCast_nonneg _, Int.ofNat_lt.2 hin⟩, hlt, trivial⟩
        have e2 : Value.bool (decide (uY w ≤ (i : Int))) = .bool false := congrArg _ (decide_eq_false (by omega))
        refine (Classical.em (¬ uX w ≥ (n : Int))).symm.elim (fun d3 => ?_) (fun d3 => ?_)
        · exact gtB3 cs o n c dim Q i k es w (uF w) (low32 w) (uX w) (uY w) J hE ⟨⟨rfl, rfl⟩, (congrArg _ (decide_eq_true (by omega))), e2, e1, e0, unp_inner ho hl, hU w (List.mem_of_getElem? hw), hrd, ⟨Int.natCast_nonneg _, Int.ofNat_lt.2 hin⟩, hlt, trivial⟩
        have e3 : Value.bool (decide (uX w ≥ (n : Int))) = .bool false := congrArg _ (decide_eq_false (by omega))
        refine (Classical.em (¬ uY w ≥ (n : Int))).symm.elim (fun d4 => ?_) (fun d4 => ?_)
        · exact gtB4 cs o n c dim Q i k es w (uF w) (low32 w) (uX w) (uY w) J hE ⟨⟨rfl, rfl⟩, (congrArg _ (decide_eq_true (by omega))), e3, e2, e1, e0, unp_inner ho hl, hU w (List.mem_of_getElem? hw), hrd, ⟨Int.natCast_nonneg _, Int.ofNat_lt.2 hin⟩, hlt, trivial⟩
        have e4 : Value.bool (decide (uY w ≥ (n : Int))) = .bool false := congrArg _ (decide_eq_false (by omega))
        refine (Classical.em (uX w ≠ uY w)).symm.elim (fun d5 => ?_) (fun d5 => ?_)
        · exact gtB5 cs o n c dim Q i k es w (uF w) (low32 w) (uX w) (uY w) J hE ⟨⟨rfl, rfl⟩, (congrArg _ (beq_iff_eq.2 (Classical.not_not.1 d5))), e4, e3, e2, e1, e0, unp_inner ho hl, hU w (List.mem_of_getElem? hw), hrd, ⟨Int.natCast_nonneg _, Int.ofNat_lt.2 hin⟩, hlt, trivial⟩
        have e5 : Value.bool ((uX w == uY w)) = .bool false := congrArg _ (beq_eq_false_iff_ne.2 d5)
        rw [good_mk hl ho d0 d5 (by omega) (by omega) (by omega) (by omega)] at hgd
        exact absurd hgd (by simp)
    · cases hl : lfB w
      · obtain ⟨ho, d1, d2, d3, d4, d5, d6⟩ := good_inner hgd hl
        have e0 : Value.bool (decide (uF w ≥ dim)) = .bool false := congrArg _ (decide_eq_false (by omega))
        have e1 : Value.bool (decide (uX w ≤ (i : Int))) = .bool false := congrArg _ (decide_eq_false (by omega))
        have e2 : Value.bool (decide (uY w ≤ (i : Int))) = .bool false := congrArg _ (decide_eq_false (by omega))
        have e3 : Value.bool (decide (uX w ≥ (n : Int))) = .bool false := congrArg _ (decide_eq_false (by omega))
        have e4 : Value.bool (decide (uY w ≥ (n : Int))) = .bool false := congrArg _ (decide_eq_false (by omega))
        have e5 : Value.bool ((uX w == uY w)) = .bool false := congrArg _ (beq_eq_false_iff_ne.2 d2)
        have hlX := named_le (ws.take i) (uX w)
        have hlY := named_le (ws.take i) (uY w)
        have htl : (ws.take i).length ≤ 31 := by rw [List.length_take, hlen]; omega
        have m1 : mgetI (kI (uY w)) (mput (kI (uX w)) (kI ((named (ws.take i) (uX w) : Int) + 1)) k es) = (named (ws.take i) (uY w) : Int) := by
          rw [mgetI_putI k3, k4]
          have : (uY w == uX w) = false := beq_eq_false_iff_ne.2 (fun h => d2 h.symm)
          rw [this]; rfl
        have k3a := keysI_put k3 (uX w) (kI ((named (ws.take i) (uX w) : Int) + 1)) k
        have m2 : ∀ (c' : Nat) (z : Int), mgetI (kI z) (mput (kI (uY w)) (kI ((named (ws.take i) (uY w) : Int) + 1)) c' (mput (kI (uX w)) (kI ((named (ws.take i) (uX w) : Int) + 1)) k es)) = (named (ws.take (i + 1)) z : Int) := fun c' z => by
          rw [mgetI_putI k3a, mgetI_putI k3, k4, htk, named_snoc]
          simp only [namesW, hl, cond_false, List.count_cons, List.count_nil]
          by_cases e1 : z = uY w
          · subst e1
            have : (uX w == uY w) = false := beq_eq_false_iff_ne.2 d2
            simp [this]
          · have a1 : (z == uY w) = false := beq_eq_false_iff_ne.2 e1
            have a2 : (uY w == z) = false := beq_eq_false_iff_ne.2 fun h => e1 h.symm
            by_cases e2 : z = uX w
            · subst e2; simp [a1, a2]
            · have b1 : (z == uX w) = false := beq_eq_false_iff_ne.2 e2
              have b2 : (uX w == z) = false := beq_eq_false_iff_ne.2 fun h => e2 h.symm
              simp [a1, a2, b1, b2]
        exact gtG cs o n c dim Q i k es 0 _ _ w (uF w) (low32 w) (uX w) (uY w) (named (ws.take i) (uX w) : Int) (named (ws.take i) (uY w) : Int) ((named (ws.take i) (uX w) : Int) + 1) ((named (ws.take i) (uY w) : Int) + 1) J hE okL ⟨rfl, ⟨⟨i + 1, _, _⟩, ⟨hin, nxt hgd, keysI_put k3a _ _ _, m2 _⟩, (by show n - (i + 1) < n - i; omega), rfl, by simp only [fGt, List.map_cons, List.map_nil, rnr, rnm]; rfl⟩, i64_succ (by omega), rfl, (i64_id rfl (by omega) (by omega)), (congrArg _ m1), rfl, (i64_id rfl (by omega) (by omega)), (congrArg _ (k4 _)), e5, e4, e3, e2, e1, e0, unp_inner ho hl, hU w (List.mem_of_getElem? hw), hrd, ⟨Int.natCast_nonneg _, Int.ofNat_lt.2 hin⟩, hlt, trivial⟩ hJ'
      · have ho : okB w = true := by simp [goodW] at hgd; exact hgd.1
        exact gtF cs o n c dim Q i k es w (low32 w) J hE okL ⟨rfl, ⟨⟨i + 1, es, k⟩, ⟨hin, nxt hgd, k3, fun z => by rw [k4 z, htk, named_snoc]; simp [namesW, hl]⟩, (by show n - (i + 1) < n - i; omega), rfl, by simp only [fGt, List.map_cons, List.map_nil, rnr, rnm]⟩, i64_succ (by omega), unp_leaf ho hl, hU w (List.mem_of_getElem? hw), hrd, ⟨Int.natCast_nonneg _, Int.ofNat_lt.2 hin⟩, hlt, trivial⟩ hJ'
  · have hlt : decide ((i : Int) < (n : Int)) = false := decide_eq_false (by omega)
    obtain rfl : i = n := by omega
    have hall : ∀ (j : Nat) (w : Int), ws[j]? = some w → goodW dim i j w = true := fun j w hw => k2 j w (by have := (List.getElem?_eq_some_iff.1 hw).1; omega) hw
    rw [List.take_of_length_le (by omega)] at k4
    let Q2 : Nat → Prop := fun j => 1 ≤ j ∧ j ≤ i ∧ ∀ m : Nat, 1 ≤ m → m < j → named ws (m : Int) = 1
    refine gtZ cs o i c dim Q i k es Q2 J hE (fGn_ok cs o i c es k Q2 hpl) ⟨rfl, ⟨1, ⟨Nat.le_refl _, h1, fun m a b => by omega⟩, trivial, rfl, by simp only [fGn, List.map_cons, List.map_nil, rnr, rnm]⟩, hlt, trivial⟩ fun zz hz _ => by_loop (fGn cs o i c es k Q2) (lp Try.f30 1) ?_ 0 zz hz
    rintro b j hinv J hJ
    have hinv : 1 ≤ j ∧ j ≤ i ∧ ∀ m : Nat, 1 ≤ m → m < j → named ws (m : Int) = 1 := hinv
    obtain ⟨m0, m1, m2⟩ := hinv
    show Sat E (inLp (lp Try.f30 1) J) ((fGn cs o i c es k Q2).st 0 j)
    have hJ' : ∀ zz, (fGn cs o i c es k Q2).inv 0 zz → ltO ((fGn cs o i c es k Q2).mu 0 zz) (some (i - j)) → Sat E (mkLp (lp Try.f30 1) J) ((fGn cs o i c es k Q2).st 0 zz) := fun zz h1 h2 => hJ 0 zz h1 h2
    by_cases hji : j < i
    · have hlt : decide ((j : Int) < (i : Int)) = true := decide_eq_true (by omega)
      by_cases h1' : named ws (j : Int) = 1
      · exact gnY cs o i c Q2 j k es _ J hE (fGn_ok cs o i c es k Q2 hpl) ⟨rfl, ⟨j + 1, ⟨by omega, by omega, fun m a b => by
            by_cases e : m < j
            · exact m2 m a e
            · obtain rfl : m = j := by omega
              exact h1'⟩, (by show i - (j + 1) < i - j; omega), rfl, by simp only [fGn, List.map_cons, List.map_nil, rnr, rnm]⟩, i64_succ (by omega), (by rw [h1']; rfl), (congrArg _ (k4 _)), hlt, trivial⟩ hJ'
      · rw [right_once (k := j) (by omega) (by omega) h1'] at hE
        exact gnN cs o i c Q2 j k es _ J hE ⟨⟨rfl, rfl⟩, (by simp only [bne_iff_ne, ne_eq]; omega), (congrArg _ (k4 _)), hlt, trivial⟩
    · have hlt : decide ((j : Int) < (i : Int)) = false := decide_eq_false (by omega)
      have hR : rightI ws dim = true := right_parts.2 ⟨⟨by omega, by omega⟩, fun j w hw => by rw [hlen]; exact hall j w hw, fun m a b => m2 m a (by omega)⟩
      rw [hR] at hE
      exact gnE cs o i c Q2 j k es J hE ⟨⟨rfl, rfl⟩, hlt, trivial⟩
theorem rtree_sum : SumOK Try.prog 30 (roSum right_F) := by
  refine roSum_ok (en Try.func30 rfl) ?_ (fun xs css r h => ?_)
  · intro xs css v blks ob h hob hpl hl
    unfold right_F at h
    split at h
    · rename_i o n c dim cs
      simp only [Option.some.injEq, Prod.mk.injEq] at h
      obtain ⟨rfl, rfl, rfl⟩ := h
      refine ⟨by simp, by simp, fun j hj => by simp [nms, nm1, nmL, nm0] at hj, ?_⟩
      exact rtree_spec cs o n c dim (hob _ (List.mem_cons_self ..)) (hpl cs (by simp)) (hob _ (List.mem_cons_of_mem _ (List.mem_cons_self ..))) (hob _ (by simp))
    · rename_i dim
      simp only [Option.some.injEq, Prod.mk.injEq] at h
      obtain ⟨rfl, rfl, rfl⟩ := h
      refine ⟨by simp, by simp, fun j hj => by simp [nms, nm1, nmL, nm0] at hj, ?_⟩
      exact spec_of_sat Try.func30 rfl fun E hE => gtNil dim hE ⟨⟨rfl, rfl⟩, trivial⟩
    · simp at h
  · unfold right_F at h
    split at h <;> simp at h <;> simp
end Go.Proofs.Ytnngaedhedbenaa.Tr


set_option linter.unusedVariables false
set_option linter.unusedSimpArgs false
set_option maxRecDepth 100000
namespace Go.Proofs.Ytnngaedhedbenaa.Tr
open Go Go.RowKit Go.Proofs.Ytnngaedhedbenaa.Ev Go.Proofs.Ytnngaedhedbenaa.NodeE Go.Proofs.Ytnngaedhedbenaa.Tr

theorem rwNil (p : Pt)  {E : Env} (hE : EnvOK E Try.prog Try.f31 2 0 (.int .i64 (-1)) [] []) (hob : all [Back (Value.int IntKind.i64 ((-1 : Int))) (Value.int IntKind.i64 ((-1 : Int))) [] [] []]) : Sat E [.code (bodyOf Try.f31)] (st0 Try.f31 [.slice none 0 0, .agg ⟨p.cs⟩] (roRows []) 0) :=
  by_ret (T := auto0 t_runpack) (h := hints []) (ws := []) (nx' := 0) hE hm (auto0_ok t_runpack_ok) (by omega) (by simp) (by simp) (by kernel_rfl) hob
theorem rwIn (cs : List Value) (o n c : Nat) (p : Pt) (Q : Nat × Nat → Prop)  {E : Env} {rv : Value} {rhs : List Nat} {rhv : List Blk} (hE : EnvOK E Try.prog Try.f31 2 1 rv rhs rhv) (hL : (fRw cs o n c p Q).OK 1) (hob : all [SameK (atLp (lp Try.f31 0)) (atLp (lp Try.f31 0)), Enter (fRw cs o n c p Q) 0 none [Value.slice (some (Addr.mk 0 o none)) n c, Value.pointer (some (Addr.mk 1 0 none)), Value.int IntKind.i64 ((0 : Int)), Value.int IntKind.i64 ((0 : Int))] [Blk.ro cs, Blk.cells [Value.int IntKind.i64 p.p0, Value.int IntKind.i64 p.p1, Value.int IntKind.i64 p.p2, Value.int IntKind.i64 p.p3] 41] [(0, 0), (10, 1)]]) (hK : ∀ zz, (fRw cs o n c p Q).inv 0 zz → ltO ((fRw cs o n c p Q).mu 0 zz) none → Sat E (atLp (lp Try.f31 0)) ((fRw cs o n c p Q).st 0 zz)) : Sat E [.code (bodyOf Try.f31)] (st0 Try.f31 [.slice (some ⟨0, o, none⟩) n c, .agg ⟨p.cs⟩] (roRows [cs]) 1) :=
  by_to (T := auto0 t_runpack) (h := hints []) (ws := [.stop]) (i0 := (0, 0)) hE hm (auto0_ok t_runpack_ok) hL (by kernel_rfl) hob hK
theorem rwK (cs : List Value) (o n c : Nat) (p : Pt) (Q : Nat × Nat → Prop) (k a : Nat) (J : Act → World → Prop) {E : Env} (hE : EnvOK E Try.prog Try.f31 2 1 (.int .i64 (-1)) [] []) (hob : all [Back (Value.int IntKind.i64 ((-1 : Int))) (Value.int IntKind.i64 ((-1 : Int))) [] [] [], decide ((↑k : Int) < 31) = false]) : Sat E (inLp (lp Try.f31 0) J) ((fRw cs o n c p Q).st 0 (k, a)) :=
  by_ret (T := auto0 t_runpack) (h := hints []) (ws := [.b false]) (nx' := 1) hE hm (auto0_ok t_runpack_ok) (by omega) (by simp) (by simp) (by kernel_rfl) hob
theorem rwO (cs : List Value) (o n c : Nat) (p : Pt) (Q : Nat × Nat → Prop) (k a : Nat) (J : Act → World → Prop) {E : Env} (hE : EnvOK E Try.prog Try.f31 2 1 (.int .i64 (-1)) [] []) (hob : all [Back (Value.int IntKind.i64 ((-1 : Int))) (Value.int IntKind.i64 ((-1 : Int))) [] [] [], decide ((↑a : Int) ≥ (↑n : Int)) = true, decide ((↑k : Int) < 31) = true]) : Sat E (inLp (lp Try.f31 0) J) ((fRw cs o n c p Q).st 0 (k, a)) :=
  by_ret (T := auto0 t_runpack) (h := hints []) (ws := [.b true, .b true]) (nx' := 1) hE hm (auto0_ok t_runpack_ok) (by omega) (by simp) (by simp) (by kernel_rfl) hob
theorem rwN (cs : List Value) (o n c : Nat) (p : Pt) (Q : Nat × Nat → Prop) (k a : Nat) (w : Int) (J : Act → World → Prop) {E : Env} (hE : EnvOK E Try.prog Try.f31 2 1 (.int .i64 (-1)) [] []) (hob : all [Back (Value.int IntKind.i64 ((-1 : Int))) (Value.int IntKind.i64 ((-1 : Int))) [] [] [], Value.tuple (Array.mk [Value.agg (Array.mk [Value.bool (okB w && lfB w), Value.int IntKind.i64 (sV w), Value.int IntKind.i64 (sF w), Value.int IntKind.i64 (sA w), Value.int IntKind.i64 (sX w), Value.int IntKind.i64 (sY w)]), Value.bool (okB w)]) = Value.tuple (Array.mk [Value.agg (Array.mk [Value.bool false, Value.int IntKind.i64 ((0 : Int)), Value.int IntKind.i64 ((0 : Int)), Value.int IntKind.i64 ((0 : Int)), Value.int IntKind.i64 ((0 : Int)), Value.int IntKind.i64 ((0 : Int))]), Value.bool false]), U64 w, readPart Try.prog 26 cs (o + ((a : Int)).toNat * 1) = some (Value.int IntKind.u64 w), (0 : Int) ≤ (a : Int) ∧ (a : Int) < (n : Int), decide ((↑a : Int) ≥ (↑n : Int)) = false, decide ((↑k : Int) < 31) = true]) : Sat E (inLp (lp Try.f31 0) J) ((fRw cs o n c p Q).st 0 (k, a)) :=
  by_ret (T := auto0 t_runpack) (h := hints [(6, 2, {p := true}), (6, 3, {o := some (.int .u64 w)}), (6, 4, {v := some (.tuple ⟨[nd false 0 0 0 0 0, .bool false]⟩)})]) (ws := [.b true, .b false]) (nx' := 1) hE hm (auto0_ok t_runpack_ok) (by omega) (by simp) (by simp) (by kernel_rfl) hob
theorem rwF (cs : List Value) (o n c : Nat) (p : Pt) (Q : Nat × Nat → Prop) (k a : Nat) (w v : Int) (J : Act → World → Prop) {E : Env} (hE : EnvOK E Try.prog Try.f31 2 1 (.int .i64 (a : Int)) [] []) (hob : all [Back (Value.int IntKind.i64 ((a : Int))) (Value.int IntKind.i64 ((a : Int))) [] [] [], Value.tuple (Array.mk [Value.agg (Array.mk [Value.bool (okB w && lfB w), Value.int IntKind.i64 (sV w), Value.int IntKind.i64 (sF w), Value.int IntKind.i64 (sA w), Value.int IntKind.i64 (sX w), Value.int IntKind.i64 (sY w)]), Value.bool (okB w)]) = Value.tuple (Array.mk [Value.agg (Array.mk [Value.bool true, Value.int IntKind.i64 v, Value.int IntKind.i64 ((0 : Int)), Value.int IntKind.i64 ((0 : Int)), Value.int IntKind.i64 ((0 : Int)), Value.int IntKind.i64 ((0 : Int))]), Value.bool true]), U64 w, readPart Try.prog 26 cs (o + ((a : Int)).toNat * 1) = some (Value.int IntKind.u64 w), (0 : Int) ≤ (a : Int) ∧ (a : Int) < (n : Int), decide ((↑a : Int) ≥ (↑n : Int)) = false, decide ((↑k : Int) < 31) = true]) : Sat E (inLp (lp Try.f31 0) J) ((fRw cs o n c p Q).st 0 (k, a)) :=
  by_ret (T := auto0 t_runpack) (h := hints [(6, 2, {p := true}), (6, 3, {o := some (.int .u64 w)}), (6, 4, {v := some (.tuple ⟨[nd true v 0 0 0 0, .bool true]⟩)})]) (ws := [.b true, .b false]) (nx' := 1) hE hm (auto0_ok t_runpack_ok) (by omega) (by simp) (by simp) (by kernel_rfl) hob
theorem rwL (cs : List Value) (o n c : Nat) (p : Pt) (Q : Nat × Nat → Prop) (k m b : Nat) (w f a x y g : Int) (J : Act → World → Prop) {E : Env} {rv : Value} {rhs : List Nat} {rhv : List Blk} (hE : EnvOK E Try.prog Try.f31 2 1 rv rhs rhv) (hL : (fRw cs o n c p Q).OK 1) (hob : all [SameK (mkLp (lp Try.f31 0) J) (mkLp (lp Try.f31 0) J), Enter (fRw cs o n c p Q) 0 (some (31 - k)) [Value.slice (some (Addr.mk 0 o none)) n c, Value.pointer (some (Addr.mk 10 0 none)), Value.int IntKind.i64 ((b : Int)), Value.int IntKind.i64 (Int.ofNat k.succ)] [Blk.ro cs, Blk.cells [Value.int IntKind.i64 p.p0, Value.int IntKind.i64 p.p1, Value.int IntKind.i64 p.p2, Value.int IntKind.i64 p.p3] 41] [(0, 0), (10, 10)], Value.int IntKind.i64 (IntKind.i64.wrap (Int.ofNat k.succ)) = Value.int IntKind.i64 (Int.ofNat k.succ), Value.int IntKind.i64 x = Value.int IntKind.i64 ((b : Int)), decide (g ≤ a) = true, readPart Try.prog 3 p.cs (0 + f.toNat * 1) = some (Value.int IntKind.i64 g), (0 : Int) ≤ f ∧ f < (4 : Int), Value.tuple (Array.mk [Value.agg (Array.mk [Value.bool (okB w && lfB w), Value.int IntKind.i64 (sV w), Value.int IntKind.i64 (sF w), Value.int IntKind.i64 (sA w), Value.int IntKind.i64 (sX w), Value.int IntKind.i64 (sY w)]), Value.bool (okB w)]) = Value.tuple (Array.mk [Value.agg (Array.mk [Value.bool false, Value.int IntKind.i64 ((0 : Int)), Value.int IntKind.i64 f, Value.int IntKind.i64 a, Value.int IntKind.i64 x, Value.int IntKind.i64 y]), Value.bool true]), U64 w, readPart Try.prog 26 cs (o + ((m : Int)).toNat * 1) = some (Value.int IntKind.u64 w), (0 : Int) ≤ (m : Int) ∧ (m : Int) < (n : Int), decide ((↑m : Int) ≥ (↑n : Int)) = false, decide ((↑k : Int) < 31) = true]) (hK : ∀ zz, (fRw cs o n c p Q).inv 0 zz → ltO ((fRw cs o n c p Q).mu 0 zz) (some (31 - k)) → Sat E (mkLp (lp Try.f31 0) J) ((fRw cs o n c p Q).st 0 zz)) : Sat E (inLp (lp Try.f31 0) J) ((fRw cs o n c p Q).st 0 (k, m)) :=
  by_to (T := auto0 t_runpack) (h := hints [(6, 2, {p := true}), (6, 3, {o := some (.int .u64 w)}), (6, 4, {v := some (.tuple ⟨[nd false 0 f a x y, .bool true]⟩)}), (12, 2, {p := true}), (12, 3, {o := some (.int .i64 g)}), (13, 1, {v := some (.int .i64 (b : Int))}), (14, 0, {v := some (.int .i64 ((k + 1 : Nat) : Int))})]) (ws := [.b true, .b false, .go, .go, .b true]) (i0 := (k + 1, b)) hE hm (auto0_ok t_runpack_ok) hL (by kernel_rfl) hob hK
theorem rwR (cs : List Value) (o n c : Nat) (p : Pt) (Q : Nat × Nat → Prop) (k m b : Nat) (w f a x y g : Int) (J : Act → World → Prop) {E : Env} {rv : Value} {rhs : List Nat} {rhv : List Blk} (hE : EnvOK E Try.prog Try.f31 2 1 rv rhs rhv) (hL : (fRw cs o n c p Q).OK 1) (hob : all [SameK (mkLp (lp Try.f31 0) J) (mkLp (lp Try.f31 0) J), Enter (fRw cs o n c p Q) 0 (some (31 - k)) [Value.slice (some (Addr.mk 0 o none)) n c, Value.pointer (some (Addr.mk 10 0 none)), Value.int IntKind.i64 ((b : Int)), Value.int IntKind.i64 (Int.ofNat k.succ)] [Blk.ro cs, Blk.cells [Value.int IntKind.i64 p.p0, Value.int IntKind.i64 p.p1, Value.int IntKind.i64 p.p2, Value.int IntKind.i64 p.p3] 41] [(0, 0), (10, 10)], Value.int IntKind.i64 (IntKind.i64.wrap (Int.ofNat k.succ)) = Value.int IntKind.i64 (Int.ofNat k.succ), Value.int IntKind.i64 y = Value.int IntKind.i64 ((b : Int)), decide (g ≤ a) = false, readPart Try.prog 3 p.cs (0 + f.toNat * 1) = some (Value.int IntKind.i64 g), (0 : Int) ≤ f ∧ f < (4 : Int), Value.tuple (Array.mk [Value.agg (Array.mk [Value.bool (okB w && lfB w), Value.int IntKind.i64 (sV w), Value.int IntKind.i64 (sF w), Value.int IntKind.i64 (sA w), Value.int IntKind.i64 (sX w), Value.int IntKind.i64 (sY w)]), Value.bool (okB w)]) = Value.tuple (Array.mk [Value.agg (Array.mk [Value.bool false, Value.int IntKind.i64 ((0 : Int)), Value.int IntKind.i64 f, Value.int IntKind.i64 a, Value.int IntKind.i64 x, Value.int IntKind.i64 y]), Value.bool true]), U64 w, readPart Try.prog 26 cs (o + ((m : Int)).toNat * 1) = some (Value.int IntKind.u64 w), (0 : Int) ≤ (m : Int) ∧ (m : Int) < (n : Int), decide ((↑m : Int) ≥ (↑n : Int)) = false, decide ((↑k : Int) < 31) = true]) (hK : ∀ zz, (fRw cs o n c p Q).inv 0 zz → ltO ((fRw cs o n c p Q).mu 0 zz) (some (31 - k)) → Sat E (mkLp (lp Try.f31 0) J) ((fRw cs o n c p Q).st 0 zz)) : Sat E (inLp (lp Try.f31 0) J) ((fRw cs o n c p Q).st 0 (k, m)) :=
  by_to (T := auto0 t_runpack) (h := hints [(6, 2, {p := true}), (6, 3, {o := some (.int .u64 w)}), (6, 4, {v := some (.tuple ⟨[nd false 0 f a x y, .bool true]⟩)}), (12, 2, {p := true}), (12, 3, {o := some (.int .i64 g)}), (9, 1, {v := some (.int .i64 (b : Int))}), (14, 0, {v := some (.int .i64 ((k + 1 : Nat) : Int))})]) (ws := [.b true, .b false, .go, .go, .b false]) (i0 := (k + 1, b)) hE hm (auto0_ok t_runpack_ok) hL (by kernel_rfl) hob hK
end Go.Proofs.Ytnngaedhedbenaa.Tr


set_option linter.unusedVariables false
set_option linter.unusedSimpArgs false
set_option maxRecDepth 100000
namespace Go.Proofs.Ytnngaedhedbenaa.Tr
open Go Go.RowKit Go.Proofs.Ytnngaedhedbenaa.Ev Go.Proofs.Ytnngaedhedbenaa.NodeE

theorem rwalk_spec (cs : List Value) (o n c : Nat) (p : Pt) (hr : eWord.Row cs o n) (hpl : ∀ x ∈ cs, leafG x = true) (hU : ∀ w ∈ eWord.list cs o n, U64 w) (hn : n ≤ 65536) :
    CallSpec Try.prog 31 [.slice (some ⟨0, o, none⟩) n c, .agg ⟨p.cs⟩] (roRows [cs]) 1 (.int .i64 (walkI (eWord.list cs o n) p)) (assocN [] []) := by
  refine spec_of_sat Try.func31 rfl fun E hE => ?_
  have hlen : (eWord.list cs o n).length = n := Elt.list_len _ _ _
  let Q : Nat × Nat → Prop := fun s => s.1 ≤ 31 ∧ goW (eWord.list cs o n) p (31 - s.1) s.2 = goW (eWord.list cs o n) p 31 0
  have okL := fRw_ok cs o n c p Q hpl
  have rnr : ∀ f : Nat → Nat, Blk.rnB f (.ro cs) = .ro cs := fun f => Blk.plain.rnB (b := .ro cs) hpl f
  have rn0 : ∀ f : Nat → Nat, Blk.rnB f (.cells p.cs 41) = .cells [.int .i64 p.p0, .int .i64 p.p1, .int .i64 p.p2, .int .i64 p.p3] 41 := fun f => rfl
  have rn1 : ∀ f : Nat → Nat, Blk.rnB f (.cells [.int .i64 p.p0, .int .i64 p.p1, .int .i64 p.p2, .int .i64 p.p3] 41) = .cells [.int .i64 p.p0, .int .i64 p.p1, .int .i64 p.p2, .int .i64 p.p3] 41 := fun f => rfl
  refine rwIn cs o n c p Q hE okL ⟨rfl, ⟨(0, 0), ⟨Nat.zero_le _, rfl⟩, trivial, rfl, by simp [fRw, rnr, rn0, rn1]⟩, trivial⟩ fun zz hz _ => by_loop (fRw cs o n c p Q) (lp Try.f31 0) ?_ 0 zz hz
  rintro b ⟨k, a⟩ hinv J hJ
  have hinv : k ≤ 31 ∧ goW (eWord.list cs o n) p (31 - k) a = goW (eWord.list cs o n) p 31 0 := hinv
  obtain ⟨k1, k2⟩ := hinv
  show Sat E (inLp (lp Try.f31 0) J) ((fRw cs o n c p Q).st 0 (k, a))
  have hJ' : ∀ zz, (fRw cs o n c p Q).inv 0 zz → ltO ((fRw cs o n c p Q).mu 0 zz) (some (31 - k)) → Sat E (mkLp (lp Try.f31 0) J) ((fRw cs o n c p Q).st 0 zz) := fun zz h1 h2 => hJ 0 zz h1 h2
  by_cases hk : k < 31
  · have hlt : decide ((k : Int) < 31) = true := decide_eq_true (by omega)
    have hs : 31 - k = (31 - (k + 1)) + 1 := by omega
    by_cases han : a < n
    · have hlt2 : decide ((a : Int) ≥ (n : Int)) = false := decide_eq_false (by omega)
      obtain ⟨w, hw⟩ : ∃ w, (eWord.list cs o n)[a]? = some w := ⟨_, List.getElem?_eq_getElem (by rw [hlen]; omega)⟩
      have hrd := hr.read1 (P := Try.prog) (ty := 26) (by kernel_rfl) rfl (i := a) hw rfl rfl
      rw [← Nat.mul_one a] at hrd
      cases ho : okB w
      · have hg : goW (eWord.list cs o n) p 31 0 = none := by rw [← k2, hs]; exact goW_bad hw ho
        obtain ⟨q1, q2, q3⟩ := end_none hg
        rw [q1] at hE
        exact rwN cs o n c p Q k a w J hE ⟨⟨rfl, rfl⟩, unp_no ho, hU w (List.mem_of_getElem? hw), hrd, ⟨Int.natCast_nonneg _, Int.ofNat_lt.2 han⟩, hlt2, hlt, trivial⟩
      · cases hl : lfB w
        · have hib := inner_bounds ho hl
          have hf := hib.1
          have hgo : goW (eWord.list cs o n) p (31 - (k + 1)) (goes p w).toNat = goW (eWord.list cs o n) p 31 0 := by rw [← k2, hs, goW_step hw ho hl]
          cases hd : decide (p.at (uF w) ≤ low32 w)
          · have hb : goes p w = uY w := by unfold goes; rw [hd]; rfl
            rw [hb] at hgo
            exact rwR cs o n c p Q k a (uY w).toNat w (uF w) (low32 w) (uX w) (uY w) (p.at (uF w)) J hE okL ⟨rfl, ⟨(k + 1, (uY w).toNat), ⟨hk, hgo⟩, (by show 31 - (k + 1) < 31 - k; omega), rfl, by simp [fRw, rnr, rn0, rn1]⟩, i64_succ (by omega), (congrArg _ (Int.toNat_of_nonneg (by omega)).symm), hd, pt_read hf, hf, unp_inner ho hl, hU w (List.mem_of_getElem? hw), hrd, ⟨Int.natCast_nonneg _, Int.ofNat_lt.2 han⟩, hlt2, hlt, trivial⟩ hJ'
          · have hb : goes p w = uX w := by unfold goes; rw [hd]; rfl
            rw [hb] at hgo
            exact rwL cs o n c p Q k a (uX w).toNat w (uF w) (low32 w) (uX w) (uY w) (p.at (uF w)) J hE okL ⟨rfl, ⟨(k + 1, (uX w).toNat), ⟨hk, hgo⟩, (by show 31 - (k + 1) < 31 - k; omega), rfl, by simp [fRw, rnr, rn0, rn1]⟩, i64_succ (by omega), (congrArg _ (Int.toNat_of_nonneg (by omega)).symm), hd, pt_read hf, hf, unp_inner ho hl, hU w (List.mem_of_getElem? hw), hrd, ⟨Int.natCast_nonneg _, Int.ofNat_lt.2 han⟩, hlt2, hlt, trivial⟩ hJ'
        · have hg : goW (eWord.list cs o n) p 31 0 = some a := by rw [← k2, hs]; exact goW_leaf hw ho hl
          obtain ⟨q1, q2, q3⟩ := end_some hg
          have q4 : (eWord.list cs o n).getD a 0 = w := by rw [List.getD_eq_getElem?_getD, hw]; rfl
          rw [q4] at q2
          rw [q1] at hE
          exact rwF cs o n c p Q k a w (low32 w) J hE ⟨⟨rfl, rfl⟩, unp_leaf ho hl, hU w (List.mem_of_getElem? hw), hrd, ⟨Int.natCast_nonneg _, Int.ofNat_lt.2 han⟩, hlt2, hlt, trivial⟩
    · have hlt2 : decide ((a : Int) ≥ (n : Int)) = true := decide_eq_true (by omega)
      have hg : goW (eWord.list cs o n) p 31 0 = none := by rw [← k2, hs]; exact goW_out (by rw [hlen]; omega)
      obtain ⟨q1, q2, q3⟩ := end_none hg
      rw [q1] at hE
      exact rwO cs o n c p Q k a J hE ⟨⟨rfl, rfl⟩, hlt2, hlt, trivial⟩
  · have hlt : decide ((k : Int) < 31) = false := decide_eq_false (by omega)
    have hg : goW (eWord.list cs o n) p 31 0 = none := by rw [← k2, show 31 - k = 0 by omega]; rfl
    obtain ⟨q1, q2, q3⟩ := end_none hg
    rw [q1] at hE
    exact rwK cs o n c p Q k a J hE ⟨⟨rfl, rfl⟩, hlt, trivial⟩

def rwalk_F : RoF := fun xs css => match xs, css with
  | [.slice (some ⟨0, o, none⟩) n c, .agg ⟨[.int .i64 p0, .int .i64 p1, .int .i64 p2, .int .i64 p3]⟩], [cs] => some (.int .i64 (walkI (eWord.list cs o n) ⟨p0, p1, p2, p3⟩), [], [eWord.Row cs o n, ∀ w ∈ eWord.list cs o n, U64 w, n ≤ 65536])
  | [.slice none 0 0, .agg ⟨[.int .i64 p0, .int .i64 p1, .int .i64 p2, .int .i64 p3]⟩], [] => some (.int .i64 (-1), [], [])
  | _, _ => none
theorem rwalk_sum : SumOK Try.prog 31 (roSum rwalk_F) := by
  refine roSum_ok (en Try.func31 rfl) ?_ (fun xs css r h => ?_)
  · intro xs css v blks ob h hob hpl hl
    unfold rwalk_F at h
    split at h
    · rename_i o n c p0 p1 p2 p3 cs
      simp only [Option.some.injEq, Prod.mk.injEq] at h
      obtain ⟨rfl, rfl, rfl⟩ := h
      refine ⟨by simp, by simp, fun j hj => by simp [nms, nm1, nmL, nm0] at hj, ?_⟩
      exact rwalk_spec cs o n c ⟨p0, p1, p2, p3⟩ (hob _ (List.mem_cons_self ..)) (hpl cs (by simp)) (hob _ (List.mem_cons_of_mem _ (List.mem_cons_self ..))) (hob _ (by simp))
    · rename_i p0 p1 p2 p3
      simp only [Option.some.injEq, Prod.mk.injEq] at h
      obtain ⟨rfl, rfl, rfl⟩ := h
      refine ⟨by simp, by simp, fun j hj => by simp [nms, nm1, nmL, nm0] at hj, ?_⟩
      exact spec_of_sat Try.func31 rfl fun E hE => rwNil ⟨p0, p1, p2, p3⟩ hE ⟨⟨rfl, rfl⟩, trivial⟩
    · simp at h
  · unfold rwalk_F at h
    split at h <;> simp at h <;> simp

noncomputable def t_rwalk : Sums := upd t_end 31 (some (roSum rwalk_F))
theorem t_rwalk_ok : SumsOK Try.prog t_rwalk := sums_cons t_end_ok rwalk_sum
end Go.Proofs.Ytnngaedhedbenaa.Tr


set_option linter.unusedVariables false
set_option linter.unusedSimpArgs false
set_option maxRecDepth 100000
namespace Go.Proofs.Ytnngaedhedbenaa.Tr
open Go Go.RowKit Go.Proofs.Ytnngaedhedbenaa.Ev Go.Proofs.Ytnngaedhedbenaa.NodeE Go.Proofs.Ytnngaedhedbenaa.Tr

theorem rvNil (p : Pt)  {E : Env} (hE : EnvOK E Try.prog Try.f32 2 0 (.int .i64 0) [] []) (hob : all [Back (Value.int IntKind.i64 ((0 : Int))) (Value.int IntKind.i64 ((0 : Int))) [] [] [], plainR []]) : Sat E [.code (bodyOf Try.f32)] (st0 Try.f32 [.slice none 0 0, .agg ⟨p.cs⟩] (roRows []) 0) :=
  by_ret (T := auto0 t_rwalk) (h := hints []) (ws := []) (nx' := 0) hE hm (auto0_ok t_rwalk_ok) (by omega) (by simp) (by simp) (by kernel_rfl) hob
theorem rvN (cs : List Value) (o n c : Nat) (p : Pt)  {E : Env} (hE : EnvOK E Try.prog Try.f32 2 1 (.int .i64 0) [] []) (hob : all [Back (Value.int IntKind.i64 ((0 : Int))) (Value.int IntKind.i64 ((0 : Int))) [] [] [], Value.int IntKind.i64 (walkI (eWord.list cs o n) (Pt.mk p.p0 p.p1 p.p2 p.p3)) = Value.int IntKind.i64 ((-1 : Int)), plainR [cs], eWord.Row cs o n, ∀ (w : Int), w ∈ eWord.list cs o n → U64 w, n ≤ 65536]) : Sat E [.code (bodyOf Try.f32)] (st0 Try.f32 [.slice (some ⟨0, o, none⟩) n c, .agg ⟨p.cs⟩] (roRows [cs]) 1) :=
  by_ret (T := auto0 t_rwalk) (h := hints [(1, 2, {v := some (.int .i64 (-1))})]) (ws := []) (nx' := 1) hE hm (auto0_ok t_rwalk_ok) (by omega) (by simp) (by simp) (by kernel_rfl) hob
theorem rvF (cs : List Value) (o n c a : Nat) (p : Pt) (w v : Int)  {E : Env} (hE : EnvOK E Try.prog Try.f32 2 1 (.int .i64 v) [] []) (hob : all [Back (Value.int IntKind.i64 v) (Value.int IntKind.i64 v) [] [] [], Value.tuple (Array.mk [Value.agg (Array.mk [Value.bool (okB w && lfB w), Value.int IntKind.i64 (sV w), Value.int IntKind.i64 (sF w), Value.int IntKind.i64 (sA w), Value.int IntKind.i64 (sX w), Value.int IntKind.i64 (sY w)]), Value.bool (okB w)]) = Value.tuple (Array.mk [Value.agg (Array.mk [Value.bool true, Value.int IntKind.i64 v, Value.int IntKind.i64 ((0 : Int)), Value.int IntKind.i64 ((0 : Int)), Value.int IntKind.i64 ((0 : Int)), Value.int IntKind.i64 ((0 : Int))]), Value.bool true]), U64 w, readPart Try.prog 26 cs (o + ((a : Int)).toNat * 1) = some (Value.int IntKind.u64 w), (0 : Int) ≤ (a : Int) ∧ (a : Int) < (n : Int), false = false, Value.int IntKind.i64 (walkI (eWord.list cs o n) (Pt.mk p.p0 p.p1 p.p2 p.p3)) = Value.int IntKind.i64 ((a : Int)), plainR [cs], eWord.Row cs o n, ∀ (w : Int), w ∈ eWord.list cs o n → U64 w, n ≤ 65536]) : Sat E [.code (bodyOf Try.f32)] (st0 Try.f32 [.slice (some ⟨0, o, none⟩) n c, .agg ⟨p.cs⟩] (roRows [cs]) 1) :=
  by_ret (T := auto0 t_rwalk) (h := hints [(1, 2, {v := some (.int .i64 (a : Int))}), (4, 2, {p := true}), (4, 3, {o := some (.int .u64 w)}), (4, 4, {v := some (.tuple ⟨[nd true v 0 0 0 0, .bool true]⟩)})]) (ws := [.b false]) (nx' := 1) hE hm (auto0_ok t_rwalk_ok) (by omega) (by simp) (by simp) (by kernel_rfl) hob
end Go.Proofs.Ytnngaedhedbenaa.Tr


set_option linter.unusedVariables false
set_option linter.unusedSimpArgs false
set_option maxRecDepth 100000
namespace Go.Proofs.Ytnngaedhedbenaa.Tr
open Go Go.RowKit Go.Proofs.Ytnngaedhedbenaa.Ev Go.Proofs.Ytnngaedhedbenaa.NodeE

/-- Where a point comes to is a leaf. -/
theorem goW_is {ws : List Int} {p : Pt} : ∀ {k b a : Nat}, goW ws p k b = some a → ∃ w, ws[a]? = some w ∧ okB w = true ∧ lfB w = true
  | 0, b, a, h => by simp [goW] at h
  | k + 1, b, a, h => by
    cases hw : ws[b]? with
    | none => simp only [goW, hw] at h; exact absurd h (by simp)
    | some w =>
      cases ho : okB w with
      | false => rw [goW_bad hw ho] at h; exact absurd h (by simp)
      | true =>
        cases hl : lfB w with
        | false => rw [goW_step hw ho hl] at h; exact goW_is h
        | true => rw [goW_leaf hw ho hl] at h; injection h with h; subst h; exact ⟨w, hw, ho, hl⟩
theorem rvalue_spec (cs : List Value) (o n c : Nat) (p : Pt) (hr : eWord.Row cs o n) (hpl : ∀ x ∈ cs, leafG x = true) (hU : ∀ w ∈ eWord.list cs o n, U64 w) (hn : n ≤ 65536) :
    CallSpec Try.prog 32 [.slice (some ⟨0, o, none⟩) n c, .agg ⟨p.cs⟩] (roRows [cs]) 1 (.int .i64 (endV (eWord.list cs o n) p)) (assocN [] []) := by
  refine spec_of_sat Try.func32 rfl fun E hE => ?_
  have hlen : (eWord.list cs o n).length = n := Elt.list_len _ _ _
  cases hg : goW (eWord.list cs o n) p 31 0 with
  | none =>
    obtain ⟨q1, q2, _⟩ := end_none hg
    rw [q2] at hE
    exact rvN cs o n c p hE ⟨⟨rfl, rfl⟩, (congrArg _ q1), plain1 hpl, hr, hU, hn, trivial⟩
  | some a =>
    obtain ⟨q1, q2, _⟩ := end_some hg
    obtain ⟨w, hw, ho, hl⟩ := goW_is hg
    have han : a < n := by have := (List.getElem?_eq_some_iff.1 hw).1; omega
    have q4 : (eWord.list cs o n).getD a 0 = w := by rw [List.getD_eq_getElem?_getD, hw]; rfl
    rw [q4] at q2
    have hrd := hr.read1 (P := Try.prog) (ty := 26) (by kernel_rfl) rfl (i := a) hw rfl rfl
    rw [← Nat.mul_one a] at hrd
    rw [q2] at hE
    exact rvF cs o n c a p w (low32 w) hE ⟨⟨rfl, rfl⟩, unp_leaf ho hl, hU w (List.mem_of_getElem? hw), hrd, ⟨Int.natCast_nonneg _, Int.ofNat_lt.2 han⟩, rfl, (congrArg _ q1), plain1 hpl, hr, hU, hn, trivial⟩

def rvalue_F : RoF := fun xs css => match xs, css with
  | [.slice (some ⟨0, o, none⟩) n c, .agg ⟨[.int .i64 p0, .int .i64 p1, .int .i64 p2, .int .i64 p3]⟩], [cs] => some (.int .i64 (endV (eWord.list cs o n) ⟨p0, p1, p2, p3⟩), [], [eWord.Row cs o n, ∀ w ∈ eWord.list cs o n, U64 w, n ≤ 65536])
  | [.slice none 0 0, .agg ⟨[.int .i64 p0, .int .i64 p1, .int .i64 p2, .int .i64 p3]⟩], [] => some (.int .i64 0, [], [])
  | _, _ => none
theorem rvalue_sum : SumOK Try.prog 32 (roSum rvalue_F) := by
  refine roSum_ok (en Try.func32 rfl) ?_ (fun xs css r h => ?_)
  · intro xs css v blks ob h hob hpl hl
    unfold rvalue_F at h
    split at h
    · rename_i o n c p0 p1 p2 p3 cs
      simp only [Option.some.injEq, Prod.mk.injEq] at h
      obtain ⟨rfl, rfl, rfl⟩ := h
      refine ⟨by simp, by simp, fun j hj => by simp [nms, nm1, nmL, nm0] at hj, ?_⟩
      exact rvalue_spec cs o n c ⟨p0, p1, p2, p3⟩ (hob _ (List.mem_cons_self ..)) (hpl cs (by simp)) (hob _ (List.mem_cons_of_mem _ (List.mem_cons_self ..))) (hob _ (by simp))
    · rename_i p0 p1 p2 p3
      simp only [Option.some.injEq, Prod.mk.injEq] at h
      obtain ⟨rfl, rfl, rfl⟩ := h
      refine ⟨by simp, by simp, fun j hj => by simp [nms, nm1, nmL, nm0] at hj, ?_⟩
      exact spec_of_sat Try.func32 rfl fun E hE => rvNil ⟨p0, p1, p2, p3⟩ hE ⟨⟨rfl, rfl⟩, (fun x hx => by simp at hx), trivial⟩
    · simp at h
  · unfold rvalue_F at h
    split at h <;> simp at h <;> simp

end Go.Proofs.Ytnngaedhedbenaa.Tr


set_option linter.unusedVariables false
set_option linter.unusedSimpArgs false
set_option maxRecDepth 100000
namespace Go.Proofs.Ytnngaedhedbenaa.WkTreeRuns
open Go Go.RowKit Go.Proofs.Ytnngaedhedbenaa.Ev
theorem walk (w : World) : Calls Try.prog 8 #[] w fun e w' => e = .returned (.bool true) ∧ Below w.heap.size w w' :=
  (calls_runO hm (auto1_ok t_none_ok) noHint [] [] (by kernel_rfl) trivial).2.2 w
end Go.Proofs.Ytnngaedhedbenaa.WkTreeRuns


set_option linter.unusedVariables false
set_option linter.unusedSimpArgs false
set_option maxRecDepth 100000
namespace Go.Proofs.Ytnngaedhedbenaa.Tr
open Go Go.RowKit Go.Proofs.Ytnngaedhedbenaa.Ev Go.Proofs.Ytnngaedhedbenaa.NodeE Go.Proofs.Ytnngaedhedbenaa.Within Go.Proofs.Ytnngaedhedbenaa.PickE Go.Proofs.Ytnngaedhedbenaa.Tn Go.Proofs.Ytnngaedhedbenaa.Tr Go.Proofs.Ytnngaedhedbenaa.Rm Go.Proofs.Ytnngaedhedbenaa.SameWord

def truns_F : List Value → Option (Value × List Prop)
  | [] => some (.bool true, [])
  | _ => none
theorem truns_sum : SumOK Try.prog 8 (sumOf truns_F) := by
  refine sumOf_ok (en Try.func8 rfl) fun args v ob h hob => ?_
  unfold truns_F at h
  split at h
  · obtain ⟨rfl, rfl⟩ := Prod.mk.inj (Option.some.inj h)
    exact ⟨rfl, rfl, WkTreeRuns.walk⟩
  · exact absurd h (by simp)
noncomputable def t_truns : Sums := upd t_runpack 8 (some (sumOf truns_F))
theorem t_truns_ok : SumsOK Try.prog t_truns := sums_cons t_runpack_ok truns_sum
noncomputable def tt_walk (NI : List Int → List Int → List Int → List Int → Int → List Nd) : Sums := upd (t_nodes NI) 23 (some (roSum walk_F))
theorem tt_walk_ok (NI : List Int → List Int → List Int → List Int → Int → List Nd) : SumsOK Try.prog (tt_walk NI) := sums_cons (t_nodes_ok NI) walk_sum
noncomputable def tt_value (NI : List Int → List Int → List Int → List Int → Int → List Nd) : Sums := upd (tt_walk NI) 27 (some (roSum value_F))
theorem tt_value_ok (NI : List Int → List Int → List Int → List Int → Int → List Nd) : SumsOK Try.prog (tt_value NI) := sums_cons (tt_walk_ok NI) value_sum
noncomputable def tt_rightt (NI : List Int → List Int → List Int → List Int → Int → List Nd) : Sums := upd (tt_value NI) 22 (some (roSum right_F))
theorem tt_rightt_ok (NI : List Int → List Int → List Int → List Int → Int → List Nd) : SumsOK Try.prog (tt_rightt NI) := sums_cons (tt_value_ok NI) right_sum
noncomputable def tt_rwalkt (NI : List Int → List Int → List Int → List Int → Int → List Nd) : Sums := upd (tt_rightt NI) 31 (some (roSum rwalk_F))
theorem tt_rwalkt_ok (NI : List Int → List Int → List Int → List Int → Int → List Nd) : SumsOK Try.prog (tt_rwalkt NI) := sums_cons (tt_rightt_ok NI) rwalk_sum
noncomputable def tt_rvaluet (NI : List Int → List Int → List Int → List Int → Int → List Nd) : Sums := upd (tt_rwalkt NI) 32 (some (roSum rvalue_F))
theorem tt_rvaluet_ok (NI : List Int → List Int → List Int → List Int → Int → List Nd) : SumsOK Try.prog (tt_rvaluet NI) := sums_cons (tt_rwalkt_ok NI) rvalue_sum
noncomputable def tt_rtreet (NI : List Int → List Int → List Int → List Int → Int → List Nd) : Sums := upd (tt_rvaluet NI) 30 (some (roSum right_F))
theorem tt_rtreet_ok (NI : List Int → List Int → List Int → List Int → Int → List Nd) : SumsOK Try.prog (tt_rtreet NI) := sums_cons (tt_rvaluet_ok NI) rtree_sum
noncomputable def tt_roomt (NI : List Int → List Int → List Int → List Int → Int → List Nd) (N8 : Nat → Nat) : Sums := upd (tt_rtreet NI) 29 (some (roSum (roomy_F N8)))
theorem tt_roomt_ok (NI : List Int → List Int → List Int → List Int → Int → List Nd) (N8 : Nat → Nat) : SumsOK Try.prog (tt_roomt NI N8) := sums_cons (tt_rtreet_ok NI) (roomy_sum N8)
noncomputable def tt_intt (NI : List Int → List Int → List Int → List Int → Int → List Nd) (N8 : Nat → Nat) : Sums := upd (tt_roomt NI N8) 33 (some (roSum intact_F))
theorem tt_intt_ok (NI : List Int → List Int → List Int → List Int → Int → List Nd) (N8 : Nat → Nat) : SumsOK Try.prog (tt_intt NI N8) := sums_cons (tt_roomt_ok NI N8) intact_sum
noncomputable def tt_trunst (NI : List Int → List Int → List Int → List Int → Int → List Nd) (N8 : Nat → Nat) : Sums := upd (tt_intt NI N8) 8 (some (sumOf truns_F))
theorem tt_trunst_ok (NI : List Int → List Int → List Int → List Int → Int → List Nd) (N8 : Nat → Nat) : SumsOK Try.prog (tt_trunst NI N8) := sums_cons (tt_intt_ok NI N8) truns_sum
noncomputable abbrev t_tt (NI : List Int → List Int → List Int → List Int → Int → List Nd) (N8 : Nat → Nat) : Sums := tt_trunst NI N8
theorem t_tt_ok (NI : List Int → List Int → List Int → List Int → Int → List Nd) (N8 : Nat → Nat) : SumsOK Try.prog (t_tt NI N8) := tt_trunst_ok NI N8
/-- Behind the choice of the words: nil, a row that came in, a row of the call's own. -/
def ttL (L : List Int) (m c : Nat) (dim : Int) (p : Pt) : LoopF Unit where
  ts _ := [0, 2, 8]
  hs z := match z with | 0 => [10] | 1 => [10, 0] | _ => [10, 11]
  tv z _ := [match z with | 0 => .slice none 0 0 | 1 => .slice (some ⟨0, 0, none⟩) m c | _ => .slice (some ⟨11, 0, none⟩) m mk, .int .i64 dim, .pointer (some ⟨10, 0, none⟩)]
  hv z _ := match z with | 0 => [.cells p.cs 41] | 1 => [.cells p.cs 41, .ro (eWord.row L)] | _ => [.cells p.cs 41, .vec (eWord.row L) 26 1]
  inv _ _ := True
  mu _ _ := 0
  nx := 14
theorem ttL_ok (L : List Int) (m c : Nat) (dim : Int) (p : Pt) : (ttL L m c dim p).OK 5 := by
  refine ⟨(by decide : 5 ≤ 14), fun z i h k hk => ?_, fun z i h v hv k hk => ?_, fun z i h x hx => ?_⟩
  · show k < 14
    match z with
    | 0 => simp [ttL] at hk; omega
    | 1 => simp [ttL] at hk; omega
    | z + 2 => simp [ttL] at hk; omega
  · show k < 14
    match z with
    | 0 =>
      simp [ttL] at hv
      repeat' (refine Or.elim hv (fun hv => ?_) (fun hv => ?_))
      all_goals (subst hv; simp [nms, nm1, nm0] at hk; try omega)
    | 1 =>
      simp [ttL] at hv
      repeat' (refine Or.elim hv (fun hv => ?_) (fun hv => ?_))
      all_goals (subst hv; simp [nms, nm1, nm0] at hk; try omega)
    | z + 2 =>
      simp [ttL] at hv
      repeat' (refine Or.elim hv (fun hv => ?_) (fun hv => ?_))
      all_goals (subst hv; simp [nms, nm1, nm0] at hk; try omega)
  · match z with
    | 0 =>
      simp [ttL] at hx
      subst hx
      exact Blk.plain.namesLt (b := .cells _ _) (pt_pl p) _
    | 1 =>
      simp [ttL] at hx
      rcases hx with rfl | rfl
      · exact Blk.plain.namesLt (b := .cells _ _) (pt_pl p) _
      · exact Blk.plain.namesLt (b := .ro _) (Elt.row_pl _) _
    | z + 2 =>
      simp [ttL] at hx
      rcases hx with rfl | rfl
      · exact Blk.plain.namesLt (b := .cells _ _) (pt_pl p) _
      · exact Blk.plain.namesLt (b := .vec _ _ _) (Elt.row_pl _) _
end Go.Proofs.Ytnngaedhedbenaa.Tr


set_option linter.unusedVariables false
set_option linter.unusedSimpArgs false
set_option maxRecDepth 100000
namespace Go.Proofs.Ytnngaedhedbenaa.Tr
open Go Go.RowKit Go.Proofs.Ytnngaedhedbenaa.Ev Go.Proofs.Ytnngaedhedbenaa.NodeE Go.Proofs.Ytnngaedhedbenaa.Within Go.Proofs.Ytnngaedhedbenaa.PickE Go.Proofs.Ytnngaedhedbenaa.Tn Go.Proofs.Ytnngaedhedbenaa.Tr

theorem ttN (NI : List Int → List Int → List Int → List Int → Int → List Nd) (N8 : Nat → Nat) (cl dim : Int) (p : Pt) (r0 r1 r2 r3 : Rw)   {E : Env} {rv : Value} {rhs : List Nat} {rhv : List Blk} (hE : EnvOK E Try.prog Try.f9 5 5 rv rhs rhv) (hL : (ttL [] 0 0 dim p).OK 5) (hob : all ([SameK (fromR Try.f9 4) (fromR Try.f9 4), Enter (ttL [] 0 0 dim p) 0 none [Value.slice none 0 0, Value.int IntKind.i64 dim, Value.pointer (some (Addr.mk 9 0 none))] [Blk.cells [Value.int IntKind.i64 p.p0, Value.int IntKind.i64 p.p1, Value.int IntKind.i64 p.p2, Value.int IntKind.i64 p.p3] 41] [(10, 9)]])) (hK : ∀ zz, (ttL [] 0 0 dim p).inv 0 zz → ltO ((ttL [] 0 0 dim p).mu 0 zz) none → Sat E (fromR Try.f9 4) ((ttL [] 0 0 dim p).st 0 zz)) : Sat E [.code (bodyOf Try.f9)] (st0 Try.f9 [.slice none 0 0, .agg ⟨vsP 1 cl r0 r1 r2 r3⟩, .int .i64 dim, .agg ⟨p.cs⟩, .bool false] (rowsL [none, r0.o, r1.o, r2.o, r3.o]) 5) :=
  by
  obtain ⟨z0, cs0, n0, c0⟩ := r0
  obtain ⟨z1, cs1, n1, c1⟩ := r1
  obtain ⟨z2, cs2, n2, c2⟩ := r2
  obtain ⟨z3, cs3, n3, c3⟩ := r3
  cases z0 <;> cases z1 <;> cases z2 <;> cases z3 <;> exact by_to (T := auto0 (t_tt NI N8)) (h := hints []) (ws := [.go, .at 4]) (i0 := ()) hE hm (auto0_ok (t_tt_ok NI N8)) hL (by kernel_rfl) hob hK
theorem ttON (NI : List Int → List Int → List Int → List Int → Int → List Nd) (N8 : Nat → Nat) (cl dim d : Int) (p : Pt) (r0 r1 r2 r3 : Rw) (W : List Int) (k : Nat)   {E : Env} {rv : Value} {rhs : List Nat} {rhv : List Blk} (hE : EnvOK E Try.prog Try.f9 5 5 rv rhs rhv) (hL : (ttL W k 0 dim p).OK 5) (hob : all ([SameK (fromR Try.f9 4) (fromR Try.f9 4), Enter (ttL W k 0 dim p) 2 none [Value.slice (some (Addr.mk 57 0 none)) (NI (Rw.l r0) (Rw.l r1) (Rw.l r2) (Rw.l r3) d).length 1267650600228229401496703205376, Value.int IntKind.i64 dim, Value.pointer (some (Addr.mk 9 0 none))] [Blk.cells [Value.int IntKind.i64 p.p0, Value.int IntKind.i64 p.p1, Value.int IntKind.i64 p.p2, Value.int IntKind.i64 p.p3] 41, Blk.vec (eWord.row (List.map packN (NI (Rw.l r0) (Rw.l r1) (Rw.l r2) (Rw.l r3) d))) 26 1] [(11, 57), (10, 9)], plainR (cssZ r0 r1 r2 r3), NI = nodesI, (1 : Int) ≤ d ∧ d ≤ (1000 : Int)] ++ (Rw.ob2 r0 ++ (Rw.ob2 r1 ++ (Rw.ob2 r2 ++ (Rw.ob2 r3 ++ ([Value.int IntKind.i64 (withinS dim ((1 : Int)) ((4 : Int))) = Value.int IntKind.i64 d, I64 dim, (-2305843009213693952 : Int) ≤ (1 : Int), (1 : Int) ≤ (4 : Int), (4 : Int) ≤ (2305843009213693952 : Int)]))))))) (hK : ∀ zz, (ttL W k 0 dim p).inv 2 zz → ltO ((ttL W k 0 dim p).mu 2 zz) none → Sat E (fromR Try.f9 4) ((ttL W k 0 dim p).st 2 zz)) : Sat E [.code (bodyOf Try.f9)] (st0 Try.f9 [.slice none 0 0, .agg ⟨vsP 1 cl r0 r1 r2 r3⟩, .int .i64 dim, .agg ⟨p.cs⟩, .bool true] (rowsL [none, r0.o, r1.o, r2.o, r3.o]) 5) :=
  by
  obtain ⟨z0, cs0, n0, c0⟩ := r0
  obtain ⟨z1, cs1, n1, c1⟩ := r1
  obtain ⟨z2, cs2, n2, c2⟩ := r2
  obtain ⟨z3, cs3, n3, c3⟩ := r3
  cases z0 <;> cases z1 <;> cases z2 <;> cases z3 <;> exact by_to (T := auto0 (t_tt NI N8)) (h := hints [(3, 2, {v := some (.int .i64 d)})]) (ws := [.go, .at 4]) (i0 := ()) hE hm (auto0_ok (t_tt_ok NI N8)) hL (by kernel_rfl) hob hK
theorem ttS (NI : List Int → List Int → List Int → List Int → Int → List Nd) (N8 : Nat → Nat) (cl dim : Int) (p : Pt) (r0 r1 r2 r3 : Rw) (L : List Int) (n m c : Nat)  {E : Env} {rv : Value} {rhs : List Nat} {rhv : List Blk} (hE : EnvOK E Try.prog Try.f9 5 5 rv rhs rhv) (hL : (ttL L m c dim p).OK 5) (hob : all ([SameK (fromR Try.f9 4) (fromR Try.f9 4), Enter (ttL L m c dim p) 1 none [Value.slice (some (Addr.mk 0 0 none)) m c, Value.int IntKind.i64 dim, Value.pointer (some (Addr.mk 9 0 none))] [Blk.cells [Value.int IntKind.i64 p.p0, Value.int IntKind.i64 p.p1, Value.int IntKind.i64 p.p2, Value.int IntKind.i64 p.p3] 41, Blk.ro (eWord.row L)] [(0, 0), (10, 9)], SlOK 1 0 0 n c none (some ((m : Int))) (some (Blk.ro (eWord.row L))) (Value.slice (some (Addr.mk 0 0 none)) m c), Value.int IntKind.i64 (minI ((n : Int)) ((40 : Int))) = Value.int IntKind.i64 ((m : Int))])) (hK : ∀ zz, (ttL L m c dim p).inv 1 zz → ltO ((ttL L m c dim p).mu 1 zz) none → Sat E (fromR Try.f9 4) ((ttL L m c dim p).st 1 zz)) : Sat E [.code (bodyOf Try.f9)] (st0 Try.f9 [.slice (some ⟨0, 0, none⟩) n c, .agg ⟨vsP 1 cl r0 r1 r2 r3⟩, .int .i64 dim, .agg ⟨p.cs⟩, .bool false] (rowsL [some (eWord.row L), r0.o, r1.o, r2.o, r3.o]) 5) :=
  by
  obtain ⟨z0, cs0, n0, c0⟩ := r0
  obtain ⟨z1, cs1, n1, c1⟩ := r1
  obtain ⟨z2, cs2, n2, c2⟩ := r2
  obtain ⟨z3, cs3, n3, c3⟩ := r3
  cases z0 <;> cases z1 <;> cases z2 <;> cases z3 <;> exact by_to (T := auto0 (t_tt NI N8)) (h := hints [(1, 3, {v := some (.int .i64 (m : Int))}), (1, 4, {o := some (.slice (some ⟨0, 0, none⟩) m c)})]) (ws := [.go, .at 4]) (i0 := ()) hE hm (auto0_ok (t_tt_ok NI N8)) hL (by kernel_rfl) hob hK
theorem ttOS (NI : List Int → List Int → List Int → List Int → Int → List Nd) (N8 : Nat → Nat) (cl dim d : Int) (p : Pt) (r0 r1 r2 r3 : Rw) (W : List Int) (k : Nat) (L : List Int) (n m c : Nat)  {E : Env} {rv : Value} {rhs : List Nat} {rhv : List Blk} (hE : EnvOK E Try.prog Try.f9 5 5 rv rhs rhv) (hL : (ttL W k 0 dim p).OK 5) (hob : all ([SameK (fromR Try.f9 4) (fromR Try.f9 4), Enter (ttL W k 0 dim p) 2 none [Value.slice (some (Addr.mk 57 0 none)) (NI (Rw.l r0) (Rw.l r1) (Rw.l r2) (Rw.l r3) d).length 1267650600228229401496703205376, Value.int IntKind.i64 dim, Value.pointer (some (Addr.mk 9 0 none))] [Blk.cells [Value.int IntKind.i64 p.p0, Value.int IntKind.i64 p.p1, Value.int IntKind.i64 p.p2, Value.int IntKind.i64 p.p3] 41, Blk.vec (eWord.row (List.map packN (NI (Rw.l r0) (Rw.l r1) (Rw.l r2) (Rw.l r3) d))) 26 1] [(11, 57), (10, 9)], plainR (cssZ r0 r1 r2 r3), NI = nodesI, (1 : Int) ≤ d ∧ d ≤ (1000 : Int)] ++ (Rw.ob2 r0 ++ (Rw.ob2 r1 ++ (Rw.ob2 r2 ++ (Rw.ob2 r3 ++ ([Value.int IntKind.i64 (withinS dim ((1 : Int)) ((4 : Int))) = Value.int IntKind.i64 d, I64 dim, (-2305843009213693952 : Int) ≤ (1 : Int), (1 : Int) ≤ (4 : Int), (4 : Int) ≤ (2305843009213693952 : Int), SlOK 1 0 0 n c none (some ((m : Int))) (some (Blk.ro (eWord.row L))) (Value.slice (some (Addr.mk 0 0 none)) m c), Value.int IntKind.i64 (minI ((n : Int)) ((40 : Int))) = Value.int IntKind.i64 ((m : Int))]))))))) (hK : ∀ zz, (ttL W k 0 dim p).inv 2 zz → ltO ((ttL W k 0 dim p).mu 2 zz) none → Sat E (fromR Try.f9 4) ((ttL W k 0 dim p).st 2 zz)) : Sat E [.code (bodyOf Try.f9)] (st0 Try.f9 [.slice (some ⟨0, 0, none⟩) n c, .agg ⟨vsP 1 cl r0 r1 r2 r3⟩, .int .i64 dim, .agg ⟨p.cs⟩, .bool true] (rowsL [some (eWord.row L), r0.o, r1.o, r2.o, r3.o]) 5) :=
  by
  obtain ⟨z0, cs0, n0, c0⟩ := r0
  obtain ⟨z1, cs1, n1, c1⟩ := r1
  obtain ⟨z2, cs2, n2, c2⟩ := r2
  obtain ⟨z3, cs3, n3, c3⟩ := r3
  cases z0 <;> cases z1 <;> cases z2 <;> cases z3 <;> exact by_to (T := auto0 (t_tt NI N8)) (h := hints [(1, 3, {v := some (.int .i64 (m : Int))}), (1, 4, {o := some (.slice (some ⟨0, 0, none⟩) m c)}), (3, 2, {v := some (.int .i64 d)})]) (ws := [.go, .at 4]) (i0 := ()) hE hm (auto0_ok (t_tt_ok NI N8)) hL (by kernel_rfl) hob hK
theorem ttF0 (NI : List Int → List Int → List Int → List Int → Int → List Nd) (N8 : Nat → Nat) (L : List Int) (m c : Nat) (dim : Int) (p : Pt) (rb : Bool) (a e : Int)  {E : Env} (hE : EnvOK E Try.prog Try.f9 5 5 (.bool true) [] []) (hob : all ([Back (Value.bool true) (Value.bool true) [] [] [], plainR [eWord.row (List.replicate (N8 0) 7)], eWord.Row (eWord.row (List.replicate (N8 0) 7)) 0 (N8 0), N8 0 ≤ 65536, N8 0 ≤ N8 0, N8 0 ≤ 16777216, N8 0 = 80, ∀ (z : Int), z ∈ eWord.list (eWord.row (List.replicate (N8 0) 7)) (Addr.mk 100 0 none).off (N8 0) → z = 7, Value.bool (e == e) = Value.bool true, Value.int IntKind.i64 ((0 : Int)) = Value.int IntKind.i64 e, plainR [], Value.int IntKind.i64 ((0 : Int)) = Value.int IntKind.i64 e, plainR [eWord.row (List.replicate (N8 0) 7)], eWord.Row (eWord.row (List.replicate (N8 0) 7)) 0 0, ∀ (w : Int), w ∈ eWord.list (eWord.row (List.replicate (N8 0) 7)) 0 0 → U64 w, 0 ≤ 65536, Value.bool (a == a) = Value.bool true, Value.int IntKind.i64 ((-1 : Int)) = Value.int IntKind.i64 a, plainR [], Value.int IntKind.i64 ((-1 : Int)) = Value.int IntKind.i64 a, plainR [eWord.row (List.replicate (N8 0) 7)], eWord.Row (eWord.row (List.replicate (N8 0) 7)) 0 0, ∀ (w : Int), w ∈ eWord.list (eWord.row (List.replicate (N8 0) 7)) 0 0 → U64 w, 0 ≤ 65536, Value.bool (rb == rb) = Value.bool true, Value.bool false = Value.bool rb, plainR [], Value.bool false = Value.bool rb, plainR [eWord.row (List.replicate (N8 0) 7)], eWord.Row (eWord.row (List.replicate (N8 0) 7)) 0 0, ∀ (w : Int), w ∈ eWord.list (eWord.row (List.replicate (N8 0) 7)) 0 0 → U64 w, 0 ≤ 65536, SlOK 1 18 0 (N8 0) (N8 0) none (some ((0 : Int))) (some (Blk.cells (eWord.row (List.replicate (N8 0) 7)) 26)) (Value.slice (some (Addr.mk 18 0 none)) 0 (N8 0)), plainR [], N8 = fun n => n + 80])) : Sat E (fromR Try.f9 4) ((ttL [] 0 0 dim p).st 0 ()) :=
  by_ret (T := auto0 (t_tt NI N8)) (h := hints [(5, 3, {o := some (.slice (some ⟨18, 0, none⟩) 0 (N8 0))}), (6, 2, {v := some (.bool rb)}), (6, 5, {v := some (.bool rb)}), (6, 6, ht true), (6, 10, {v := some (.int .i64 a)}), (6, 13, {v := some (.int .i64 a)}), (6, 14, ht true), (6, 19, {v := some (.int .i64 e)}), (6, 22, {v := some (.int .i64 e)}), (6, 23, ht true)]) (ws := [.go]) (nx' := 5) hE hm (auto0_ok (t_tt_ok NI N8)) (by omega) (by simp) (by simp) (by kernel_rfl) hob
theorem ttF1 (NI : List Int → List Int → List Int → List Int → Int → List Nd) (N8 : Nat → Nat) (L : List Int) (m c : Nat) (dim : Int) (p : Pt) (rb : Bool) (a e : Int)  {E : Env} (hE : EnvOK E Try.prog Try.f9 5 5 (.bool true) [] []) (hob : all ([Back (Value.bool true) (Value.bool true) [] [] [], plainR [eWord.row (eWord.list (eWord.row L) 0 m ++ List.replicate 80 7), eWord.row L], eWord.Row (eWord.row (eWord.list (eWord.row L) 0 m ++ List.replicate 80 7)) 0 (N8 m), eWord.Row (eWord.row L) 0 m, N8 m ≤ 65536, N8 m ≤ N8 m, N8 m ≤ 16777216, eWord.list (eWord.row (eWord.list (eWord.row L) 0 m ++ List.replicate 80 7)) 0 (N8 m) = eWord.list (eWord.row L) 0 m ++ List.replicate 80 7, Value.bool (e == e) = Value.bool true, Value.int IntKind.i64 (endV (eWord.list (eWord.row L) 0 m) (Pt.mk p.p0 p.p1 p.p2 p.p3)) = Value.int IntKind.i64 e, plainR [eWord.row L], eWord.Row (eWord.row L) 0 m, ∀ (w : Int), w ∈ eWord.list (eWord.row L) 0 m → U64 w, m ≤ 65536, Value.int IntKind.i64 (endV (eWord.list (eWord.row (eWord.list (eWord.row L) 0 m ++ List.replicate 80 7)) 0 m) (Pt.mk p.p0 p.p1 p.p2 p.p3)) = Value.int IntKind.i64 e, plainR [eWord.row (eWord.list (eWord.row L) 0 m ++ List.replicate 80 7)], eWord.Row (eWord.row (eWord.list (eWord.row L) 0 m ++ List.replicate 80 7)) 0 m, ∀ (w : Int), w ∈ eWord.list (eWord.row (eWord.list (eWord.row L) 0 m ++ List.replicate 80 7)) 0 m → U64 w, m ≤ 65536, Value.bool (a == a) = Value.bool true, Value.int IntKind.i64 (walkI (eWord.list (eWord.row L) 0 m) (Pt.mk p.p0 p.p1 p.p2 p.p3)) = Value.int IntKind.i64 a, plainR [eWord.row L], eWord.Row (eWord.row L) 0 m, ∀ (w : Int), w ∈ eWord.list (eWord.row L) 0 m → U64 w, m ≤ 65536, Value.int IntKind.i64 (walkI (eWord.list (eWord.row (eWord.list (eWord.row L) 0 m ++ List.replicate 80 7)) 0 m) (Pt.mk p.p0 p.p1 p.p2 p.p3)) = Value.int IntKind.i64 a, plainR [eWord.row (eWord.list (eWord.row L) 0 m ++ List.replicate 80 7)], eWord.Row (eWord.row (eWord.list (eWord.row L) 0 m ++ List.replicate 80 7)) 0 m, ∀ (w : Int), w ∈ eWord.list (eWord.row (eWord.list (eWord.row L) 0 m ++ List.replicate 80 7)) 0 m → U64 w, m ≤ 65536, Value.bool (rb == rb) = Value.bool true, Value.bool (rightI (eWord.list (eWord.row L) 0 m) dim) = Value.bool rb, plainR [eWord.row L], eWord.Row (eWord.row L) 0 m, ∀ (w : Int), w ∈ eWord.list (eWord.row L) 0 m → U64 w, m ≤ 65536, Value.bool (rightI (eWord.list (eWord.row (eWord.list (eWord.row L) 0 m ++ List.replicate 80 7)) 0 m) dim) = Value.bool rb, plainR [eWord.row (eWord.list (eWord.row L) 0 m ++ List.replicate 80 7)], eWord.Row (eWord.row (eWord.list (eWord.row L) 0 m ++ List.replicate 80 7)) 0 m, ∀ (w : Int), w ∈ eWord.list (eWord.row (eWord.list (eWord.row L) 0 m ++ List.replicate 80 7)) 0 m → U64 w, m ≤ 65536, SlOK 1 18 0 (N8 m) (N8 m) none (some ((m : Int))) (some (Blk.cells (eWord.row (eWord.list (eWord.row L) 0 m ++ List.replicate 80 7)) 26)) (Value.slice (some (Addr.mk 18 0 none)) m (N8 m)), plainR [eWord.row L], eWord.Row (eWord.row L) 0 m, m ≤ 65536, N8 = fun n => n + 80])) : Sat E (fromR Try.f9 4) ((ttL L m c dim p).st 1 ()) :=
  by_ret (T := auto0 (t_tt NI N8)) (h := hints [(5, 3, {o := some (.slice (some ⟨18, 0, none⟩) m (N8 m))}), (6, 2, {v := some (.bool rb)}), (6, 5, {v := some (.bool rb)}), (6, 6, ht true), (6, 10, {v := some (.int .i64 a)}), (6, 13, {v := some (.int .i64 a)}), (6, 14, ht true), (6, 19, {v := some (.int .i64 e)}), (6, 22, {v := some (.int .i64 e)}), (6, 23, ht true)]) (ws := [.go]) (nx' := 5) hE hm (auto0_ok (t_tt_ok NI N8)) (by omega) (by simp) (by simp) (by kernel_rfl) hob
theorem ttF2 (NI : List Int → List Int → List Int → List Int → Int → List Nd) (N8 : Nat → Nat) (L : List Int) (m c : Nat) (dim : Int) (p : Pt) (rb : Bool) (a e : Int)  {E : Env} (hE : EnvOK E Try.prog Try.f9 5 5 (.bool true) [] []) (hob : all ([Back (Value.bool true) (Value.bool true) [] [] [], plainR [eWord.row (eWord.list (eWord.row L) 0 m ++ List.replicate 80 7), eWord.row L], eWord.Row (eWord.row (eWord.list (eWord.row L) 0 m ++ List.replicate 80 7)) 0 (N8 m), eWord.Row (eWord.row L) 0 m, N8 m ≤ 65536, N8 m ≤ N8 m, N8 m ≤ 16777216, eWord.list (eWord.row (eWord.list (eWord.row L) 0 m ++ List.replicate 80 7)) 0 (N8 m) = eWord.list (eWord.row L) 0 m ++ List.replicate 80 7, Value.bool (e == e) = Value.bool true, Value.int IntKind.i64 (endV (eWord.list (eWord.row L) 0 m) (Pt.mk p.p0 p.p1 p.p2 p.p3)) = Value.int IntKind.i64 e, plainR [eWord.row L], eWord.Row (eWord.row L) 0 m, ∀ (w : Int), w ∈ eWord.list (eWord.row L) 0 m → U64 w, m ≤ 65536, Value.int IntKind.i64 (endV (eWord.list (eWord.row (eWord.list (eWord.row L) 0 m ++ List.replicate 80 7)) 0 m) (Pt.mk p.p0 p.p1 p.p2 p.p3)) = Value.int IntKind.i64 e, plainR [eWord.row (eWord.list (eWord.row L) 0 m ++ List.replicate 80 7)], eWord.Row (eWord.row (eWord.list (eWord.row L) 0 m ++ List.replicate 80 7)) 0 m, ∀ (w : Int), w ∈ eWord.list (eWord.row (eWord.list (eWord.row L) 0 m ++ List.replicate 80 7)) 0 m → U64 w, m ≤ 65536, Value.bool (a == a) = Value.bool true, Value.int IntKind.i64 (walkI (eWord.list (eWord.row L) 0 m) (Pt.mk p.p0 p.p1 p.p2 p.p3)) = Value.int IntKind.i64 a, plainR [eWord.row L], eWord.Row (eWord.row L) 0 m, ∀ (w : Int), w ∈ eWord.list (eWord.row L) 0 m → U64 w, m ≤ 65536, Value.int IntKind.i64 (walkI (eWord.list (eWord.row (eWord.list (eWord.row L) 0 m ++ List.replicate 80 7)) 0 m) (Pt.mk p.p0 p.p1 p.p2 p.p3)) = Value.int IntKind.i64 a, plainR [eWord.row (eWord.list (eWord.row L) 0 m ++ List.replicate 80 7)], eWord.Row (eWord.row (eWord.list (eWord.row L) 0 m ++ List.replicate 80 7)) 0 m, ∀ (w : Int), w ∈ eWord.list (eWord.row (eWord.list (eWord.row L) 0 m ++ List.replicate 80 7)) 0 m → U64 w, m ≤ 65536, Value.bool (rb == rb) = Value.bool true, Value.bool (rightI (eWord.list (eWord.row L) 0 m) dim) = Value.bool rb, plainR [eWord.row L], eWord.Row (eWord.row L) 0 m, ∀ (w : Int), w ∈ eWord.list (eWord.row L) 0 m → U64 w, m ≤ 65536, Value.bool (rightI (eWord.list (eWord.row (eWord.list (eWord.row L) 0 m ++ List.replicate 80 7)) 0 m) dim) = Value.bool rb, plainR [eWord.row (eWord.list (eWord.row L) 0 m ++ List.replicate 80 7)], eWord.Row (eWord.row (eWord.list (eWord.row L) 0 m ++ List.replicate 80 7)) 0 m, ∀ (w : Int), w ∈ eWord.list (eWord.row (eWord.list (eWord.row L) 0 m ++ List.replicate 80 7)) 0 m → U64 w, m ≤ 65536, SlOK 1 18 0 (N8 m) (N8 m) none (some ((m : Int))) (some (Blk.cells (eWord.row (eWord.list (eWord.row L) 0 m ++ List.replicate 80 7)) 26)) (Value.slice (some (Addr.mk 18 0 none)) m (N8 m)), plainR [eWord.row L], eWord.Row (eWord.row L) 0 m, m ≤ 65536, N8 = fun n => n + 80])) : Sat E (fromR Try.f9 4) ((ttL L m c dim p).st 2 ()) :=
  by_ret (T := auto0 (t_tt NI N8)) (h := hints [(5, 3, {o := some (.slice (some ⟨18, 0, none⟩) m (N8 m))}), (6, 2, {v := some (.bool rb)}), (6, 5, {v := some (.bool rb)}), (6, 6, ht true), (6, 10, {v := some (.int .i64 a)}), (6, 13, {v := some (.int .i64 a)}), (6, 14, ht true), (6, 19, {v := some (.int .i64 e)}), (6, 22, {v := some (.int .i64 e)}), (6, 23, ht true)]) (ws := [.go]) (nx' := 5) hE hm (auto0_ok (t_tt_ok NI N8)) (by omega) (by simp) (by simp) (by kernel_rfl) hob
end Go.Proofs.Ytnngaedhedbenaa.Tr


set_option linter.unusedVariables false
set_option linter.unusedSimpArgs false
set_option maxRecDepth 100000
namespace Go.Proofs.Ytnngaedhedbenaa.WkTreeTells
open Go Go.RowKit Go.Proofs.Ytnngaedhedbenaa.Ev Go.Proofs.Ytnngaedhedbenaa.NodeE Go.Proofs.Ytnngaedhedbenaa.Within Go.Proofs.Ytnngaedhedbenaa.PickE Go.Proofs.Ytnngaedhedbenaa.Tn Go.Proofs.Ytnngaedhedbenaa.Tr Go.Proofs.Ytnngaedhedbenaa.BitLib Go.Proofs.Ytnngaedhedbenaa.Rm

theorem fin0 {E : Env} (NI : List Int → List Int → List Int → List Int → Int → List Nd) {N8 : Nat → Nat} {dim : Int} {p : Pt} (h8 : N8 = fun n => n + 80) (hE : EnvOK E Try.prog Try.f9 5 5 (.bool true) [] []) (zz : Unit) : Sat E (fromR Try.f9 4) ((ttL [] 0 0 dim p).st 0 zz) := by
  have n0 : N8 0 = 80 := by rw [h8]
  have hrow : eWord.Row (eWord.row (List.replicate (N8 0) 7)) 0 (N8 0) := rowN (by simp)
  have hrow0 : eWord.Row (eWord.row (List.replicate (N8 0) 7)) 0 0 := rowM (Nat.zero_le _)
  have hl : eWord.list (eWord.row (List.replicate (N8 0) 7)) 0 (N8 0) = List.replicate (N8 0) 7 := by rw [listM (by simp), List.take_of_length_le (by simp)]
  have plA : plainR [eWord.row (List.replicate (N8 0) 7)] := plain1 (Elt.row_pl _)
  have pl0 : plainR [] := fun x hx => by simp at hx
  have u0 : ∀ w ∈ eWord.list (eWord.row (List.replicate (N8 0) 7)) 0 0, U64 w := fun w hw => by simp [Elt.list] at hw
  exact ttF0 NI N8 [] 0 0 dim p false (-1) 0 hE ⟨⟨rfl, rfl⟩, plA, hrow, by omega, Nat.le_refl _, by omega, n0, (fun z hz => by rw [hl] at hz; exact List.eq_of_mem_replicate hz), rfl, rfl, pl0, rfl, plA, hrow0, u0, by decide, rfl, rfl, pl0, rfl, plA, hrow0, u0, by decide, rfl, rfl, pl0, rfl, plA, hrow0, u0, by decide,
    ⟨0, 0, rfl, rfl, Nat.le_refl _, Nat.zero_le _, Or.inr ⟨by unfold Ev.mark; omega, Nat.le_refl _, Or.inr ⟨by omega, by simp⟩⟩⟩, pl0, h8, trivial⟩

theorem fin1 {E : Env} (NI : List Int → List Int → List Int → List Int → Int → List Nd) {N8 : Nat → Nat} {L : List Int} {m c : Nat} {dim : Int} {p : Pt} (h8 : N8 = fun n => n + 80) (hm : m ≤ L.length) (h40 : m ≤ 40) (hU : ∀ w ∈ L.take m, U64 w) (hE : EnvOK E Try.prog Try.f9 5 5 (.bool true) [] []) (zz : Unit) : Sat E (fromR Try.f9 4) ((ttL L m c dim p).st 1 zz) := by
  have n0 : N8 m = m + 80 := by rw [h8]
  have hX : eWord.list (eWord.row L) 0 m = L.take m := listM hm
  have hXl : (L.take m).length = m := by rw [List.length_take, Nat.min_eq_left hm]
  have row0 : eWord.Row (eWord.row L) 0 m := rowM hm
  have uX : ∀ w ∈ eWord.list (eWord.row L) 0 m, U64 w := by rw [hX]; exact hU
  have pl0 : plainR [eWord.row L] := plain1 (Elt.row_pl _)
  have m65 : m ≤ 65536 := by omega
  generalize hA : eWord.list (eWord.row L) 0 m ++ List.replicate 80 7 = A
  have hAl : A.length = m + 80 := by rw [← hA, List.length_append, Elt.list_len, List.length_replicate]
  have plA : plainR [eWord.row A] := plain1 (Elt.row_pl _)
  have rowA : eWord.Row (eWord.row A) 0 (N8 m) := rowN (by omega)
  have rowAm : eWord.Row (eWord.row A) 0 m := rowM (by omega)
  have liA : eWord.list (eWord.row A) 0 m = eWord.list (eWord.row L) 0 m := by
    rw [listM (by omega), ← hA, List.take_left' (Elt.list_len _ _ _)]
  have liA8 : eWord.list (eWord.row A) 0 (N8 m) = A := by rw [listM (by omega), List.take_of_length_le (by omega)]
  have uA : ∀ w ∈ eWord.list (eWord.row A) 0 m, U64 w := by rw [liA]; exact uX
  have := ttF1 NI N8 L m c dim p (rightI (eWord.list (eWord.row L) 0 m) dim) (walkI (eWord.list (eWord.row L) 0 m) p) (endV (eWord.list (eWord.row L) 0 m) p) hE
  rw [hA] at this
  exact this ⟨⟨rfl, rfl⟩, plain2 (Elt.row_pl _) (Elt.row_pl _), rowA, row0, by omega, Nat.le_refl _, by omega, liA8, (congrArg _ (beq_self_eq_true _)), rfl, pl0, row0, uX, m65, (by rw [liA]), plA, rowAm, uA, m65, (congrArg _ (beq_self_eq_true _)), rfl, pl0, row0, uX, m65, (by rw [liA]), plA, rowAm, uA, m65, (congrArg _ (beq_self_eq_true _)), rfl, pl0, row0, uX, m65, (by rw [liA]), plA, rowAm, uA, m65,
    ⟨0, m, rfl, rfl, Nat.zero_le _, by omega, Or.inr ⟨by unfold Ev.mark; omega, Nat.le_refl _, Or.inr ⟨by omega, by simp⟩⟩⟩, pl0, row0, m65, h8, trivial⟩

theorem fin2 {E : Env} (NI : List Int → List Int → List Int → List Int → Int → List Nd) {N8 : Nat → Nat} {L : List Int} {m c : Nat} {dim : Int} {p : Pt} (h8 : N8 = fun n => n + 80) (hm : m ≤ L.length) (h40 : m ≤ 40) (hU : ∀ w ∈ L.take m, U64 w) (hE : EnvOK E Try.prog Try.f9 5 5 (.bool true) [] []) (zz : Unit) : Sat E (fromR Try.f9 4) ((ttL L m c dim p).st 2 zz) := by
  have n0 : N8 m = m + 80 := by rw [h8]
  have hX : eWord.list (eWord.row L) 0 m = L.take m := listM hm
  have hXl : (L.take m).length = m := by rw [List.length_take, Nat.min_eq_left hm]
  have row0 : eWord.Row (eWord.row L) 0 m := rowM hm
  have uX : ∀ w ∈ eWord.list (eWord.row L) 0 m, U64 w := by rw [hX]; exact hU
  have pl0 : plainR [eWord.row L] := plain1 (Elt.row_pl _)
  have m65 : m ≤ 65536 := by omega
  generalize hA : eWord.list (eWord.row L) 0 m ++ List.replicate 80 7 = A
  have hAl : A.length = m + 80 := by rw [← hA, List.length_append, Elt.list_len, List.length_replicate]
  have plA : plainR [eWord.row A] := plain1 (Elt.row_pl _)
  have rowA : eWord.Row (eWord.row A) 0 (N8 m) := rowN (by omega)
  have rowAm : eWord.Row (eWord.row A) 0 m := rowM (by omega)
  have liA : eWord.list (eWord.row A) 0 m = eWord.list (eWord.row L) 0 m := by
    rw [listM (by omega), ← hA, List.take_left' (Elt.list_len _ _ _)]
  have liA8 : eWord.list (eWord.row A) 0 (N8 m) = A := by rw [listM (by omega), List.take_of_length_le (by omega)]
  have uA : ∀ w ∈ eWord.list (eWord.row A) 0 m, U64 w := by rw [liA]; exact uX
  have := ttF2 NI N8 L m c dim p (rightI (eWord.list (eWord.row L) 0 m) dim) (walkI (eWord.list (eWord.row L) 0 m) p) (endV (eWord.list (eWord.row L) 0 m) p) hE
  rw [hA] at this
  exact this ⟨⟨rfl, rfl⟩, plain2 (Elt.row_pl _) (Elt.row_pl _), rowA, row0, by omega, Nat.le_refl _, by omega, liA8, (congrArg _ (beq_self_eq_true _)), rfl, pl0, row0, uX, m65, (by rw [liA]), plA, rowAm, uA, m65, (congrArg _ (beq_self_eq_true _)), rfl, pl0, row0, uX, m65, (by rw [liA]), plA, rowAm, uA, m65, (congrArg _ (beq_self_eq_true _)), rfl, pl0, row0, uX, m65, (by rw [liA]), plA, rowAm, uA, m65,
    ⟨0, m, rfl, rfl, Nat.zero_le _, by omega, Or.inr ⟨by unfold Ev.mark; omega, Nat.le_refl _, Or.inr ⟨by omega, by simp⟩⟩⟩, pl0, row0, m65, h8, trivial⟩

theorem spec {cl dim : Int} {p : Pt} {own : Bool} {u0 u1 u2 u3 u4 : Value} {x0 x1 x2 x3 x4 : Option (List Value)} (hd : I64 dim) (c0 : CanAt eWord U64 0 u0 x0) (c1 : CanAt eInt I64 1 u1 x1) (c2 : CanAt eInt I64 2 u2 x2) (c3 : CanAt eInt I64 3 u3 x3) (c4 : CanAt eInt I64 4 u4 x4) :
    CallSpec Try.prog 9 [u0, .agg ⟨[.int .i64 cl, u1, u2, u3, u4]⟩, .int .i64 dim, .agg ⟨p.cs⟩, .bool own] (rowsL [x0, x1, x2, x3, x4]) 5 (.bool true) (assocN [] []) := by
  refine spec_of_sat Try.func9 rfl fun E hE => ?_
  obtain ⟨r0, rfl, rfl, h0⟩ := can_fam c1
  obtain ⟨r1, rfl, rfl, h1⟩ := can_fam c2
  obtain ⟨r2, rfl, rfl, h2⟩ := can_fam c3
  obtain ⟨r3, rfl, rfl, h3⟩ := can_fam c4
  obtain ⟨NI, hNI⟩ : ∃ NI : List Int → List Int → List Int → List Int → Int → List Nd, NI = nodesI := ⟨_, rfl⟩
  obtain ⟨N8, h8⟩ : ∃ N8 : Nat → Nat, N8 = fun n => n + 80 := ⟨_, rfl⟩
  have hw := within_range dim (show (1 : Int) ≤ 4 by decide)
  generalize hdd : withinS dim 1 4 = d at hw
  have hd4 : (1 : Int) ≤ d ∧ d ≤ 1000 := ⟨hw.1, by omega⟩
  obtain ⟨x1, hUn, x3⟩ := nodes_right r0.l r1.l r2.l r3.l (dim := d) hw
  simp only [wordsI, ← hNI] at x1 hUn x3
  have hlen : (NI r0.l r1.l r2.l r3.l d).length ≤ 40 := by rw [List.length_map] at x3; omega
  have rnw : ∀ (ws : List Int) (f : Nat → Nat), Blk.rnB f (.vec (eWord.row ws) 26 1) = .vec (eWord.row ws) 26 1 := fun ws f => Blk.plain.rnB (b := .vec (eWord.row ws) 26 1) (Elt.row_pl _) f
  have rnr : ∀ (ws : List Int) (f : Nat → Nat), Blk.rnB f (.ro (eWord.row ws)) = .ro (eWord.row ws) := fun ws f => Blk.plain.rnB (b := .ro (eWord.row ws)) (Elt.row_pl _) f
  have rnp : ∀ (f : Nat → Nat) (p : Pt), Blk.rnB f (.cells p.cs 41) = .cells [.int .i64 p.p0, .int .i64 p.p1, .int .i64 p.p2, .int .i64 p.p3] 41 := fun f p => rfl
  rcases c0 with ⟨rfl, rfl⟩ | ⟨L, c, rfl, rfl, hlc, hcm, hg⟩
  · cases own
    · exact ttN NI N8 cl dim p r0 r1 r2 r3 hE (ttL_ok _ _ _ _ _) ⟨rfl, ⟨(), trivial, trivial, rfl, by simp only [ttL, List.map_cons, List.map_nil, rnp]⟩, trivial⟩ fun zz _ _ => fin0 NI h8 hE zz
    · exact ttON NI N8 cl dim d p r0 r1 r2 r3 ((NI r0.l r1.l r2.l r3.l d).map packN) (NI r0.l r1.l r2.l r3.l d).length hE (ttL_ok _ _ _ _ _) (all_app ⟨rfl, ⟨(), trivial, trivial, rfl, by simp only [ttL, List.map_cons, List.map_nil, rnw, rnp]⟩, cssZ_pl h0 h1 h2 h3, hNI, hd4, trivial⟩ (all_app h0.ob2 (all_app h1.ob2 (all_app h2.ob2 (all_app h3.ob2 ⟨(congrArg _ hdd), hd, by decide, by decide, by decide, trivial⟩))))) fun zz _ _ => fin2 NI h8 (by simp) hlen (by rw [List.take_of_length_le (by simp)]; exact hUn) hE zz
  · have hmin : Value.int .i64 (minI (L.length : Int) 40) = .int .i64 ((min L.length 40 : Nat) : Int) := congrArg _ (by unfold minI; split <;> omega)
    have hsl : SlOK 1 0 0 L.length c none (some ((min L.length 40 : Nat) : Int)) (some (.ro (eWord.row L))) (.slice (some ⟨0, 0, none⟩) (min L.length 40) c) := slOK_ro (by omega) hlc hcm
    cases own
    · exact ttS NI N8 cl dim p r0 r1 r2 r3 L L.length (min L.length 40) c hE (ttL_ok _ _ _ _ _) ⟨rfl, ⟨(), trivial, trivial, rfl, by simp only [ttL, List.map_cons, List.map_nil, rnp, rnr]⟩, hsl, hmin, trivial⟩ fun zz _ _ => fin1 NI h8 (by omega) (by omega) (fun w hw => hg w (List.mem_of_mem_take hw)) hE zz
    · exact ttOS NI N8 cl dim d p r0 r1 r2 r3 ((NI r0.l r1.l r2.l r3.l d).map packN) (NI r0.l r1.l r2.l r3.l d).length L L.length (min L.length 40) c hE (ttL_ok _ _ _ _ _) (all_app ⟨rfl, ⟨(), trivial, trivial, rfl, by simp only [ttL, List.map_cons, List.map_nil, rnw, rnp]⟩, cssZ_pl h0 h1 h2 h3, hNI, hd4, trivial⟩ (all_app h0.ob2 (all_app h1.ob2 (all_app h2.ob2 (all_app h3.ob2 ⟨(congrArg _ hdd), hd, by decide, by decide, by decide, hsl, hmin, trivial⟩))))) fun zz _ _ => fin2 NI h8 (by simp) hlen (by rw [List.take_of_length_le (by simp)]; exact hUn) hE zz

theorem walk (W : World) (v0 : Value) (o0 : Opened W eWord U64 v0) (cl : Int) (v1 v2 v3 v4 : Value) (o1 : Opened W eInt I64 v1) (o2 : Opened W eInt I64 v2) (o3 : Opened W eInt I64 v3) (o4 : Opened W eInt I64 v4) (dim : Int) (w2 : (Lit.int .i64 dim).wf = true) (p0 p1 p2 p3 : Int) (w3 : (-9223372036854775808 ≤ p0 ∧ p0 ≤ 9223372036854775807) ∧ (-9223372036854775808 ≤ p1 ∧ p1 ≤ 9223372036854775807) ∧ (-9223372036854775808 ≤ p2 ∧ p2 ≤ 9223372036854775807) ∧ (-9223372036854775808 ≤ p3 ∧ p3 ≤ 9223372036854775807)) (own : Bool) :
    Calls Try.prog 9 #[v0, .agg #[.int .i64 cl, v1, v2, v3, v4], .int .i64 dim, .agg #[.int .i64 p0, .int .i64 p1, .int .i64 p2, .int .i64 p3], .bool own] W fun e w' => e = .returned (.bool true) ∧ Below W.heap.size W w' := by
  obtain ⟨u0, x0, ad0, c0, e0, n0, g0⟩ := o0.can 0
  obtain ⟨u1, x1, ad1, c1, e1, n1, g1⟩ := o1.can 1
  obtain ⟨u2, x2, ad2, c2, e2, n2, g2⟩ := o2.can 2
  obtain ⟨u3, x3, ad3, c3, e3, n3, g3⟩ := o3.can 3
  obtain ⟨u4, x4, ad4, c4, e4, n4, g4⟩ := o4.can 4
  have hspec := spec (cl := cl) (p := ⟨p0, p1, p2, p3⟩) (own := own) (wf_i64 w2) c0 c1 c2 c3 c4
  have := calls_rows hspec rfl (Nat.le_refl 5)
    (fun u hu j hj => by
      simp at hu
      rcases hu with rfl | rfl | rfl | rfl | rfl
      · have := c0.nms j hj; omega
      · simp [nms, nm1, nmL, nm0] at hj
        rcases hj with hj | hj | hj | hj
        · have := c1.nm0 j hj; omega
        · have := c2.nm0 j hj; omega
        · have := c3.nm0 j hj; omega
        · have := c4.nm0 j hj; omega
      · simp [nms, nm1, nm0] at hj
      · simp [nms, nm1, nm0, nmL, Pt.cs] at hj
      · simp [nms, nm1, nm0] at hj)
    (W := W) (l := [ad0, ad1, ad2, ad3, ad4]) (fun j r ad hr ha => by
      match j with
      | 0 => simp at hr ha; subst hr; subst ha; exact g0
      | 1 => simp at hr ha; subst hr; subst ha; exact g1
      | 2 => simp at hr ha; subst hr; subst ha; exact g2
      | 3 => simp at hr ha; subst hr; subst ha; exact g3
      | 4 => simp at hr ha; subst hr; subst ha; exact g4
      | j + 5 => simp at hr) (Nat.le_refl 5)
  have hmap : ([u0, .agg ⟨[.int .i64 cl, u1, u2, u3, u4]⟩, .int .i64 dim, .agg ⟨Pt.cs ⟨p0, p1, p2, p3⟩⟩, .bool own].map (ren (Nm.at [ad0, ad1, ad2, ad3, ad4]))).toArray = #[v0, .agg #[.int .i64 cl, v1, v2, v3, v4], .int .i64 dim, .agg #[.int .i64 p0, .int .i64 p1, .int .i64 p2, .int .i64 p3], .bool own] := by
    have g0 := e0 [ad0, ad1, ad2, ad3, ad4] rfl
    have g1 := e1 [ad0, ad1, ad2, ad3, ad4] rfl
    have g2 := e2 [ad0, ad1, ad2, ad3, ad4] rfl
    have g3 := e3 [ad0, ad1, ad2, ad3, ad4] rfl
    have g4 := e4 [ad0, ad1, ad2, ad3, ad4] rfl
    simp only [List.map_cons, List.map_nil]
    simp only [c0.ren, ren_agg, List.map_toArray, List.map_cons, List.map_nil, g0, g1, g2, g3, g4]
    rfl
  rw [hmap] at this
  exact this
end Go.Proofs.Ytnngaedhedbenaa.WkTreeTells


set_option linter.unusedVariables false
set_option linter.unusedSimpArgs false
namespace Go.Proofs.Ytnngaedhedbenaa.OpenPt
open Go Go.RowKit Go.ChangeShapes Go.WideShapes

theorem cell_int {w : World} {r : Reach} {b : Nat} {v : Value} (h : Cell.okWide Try.prog w r b 3 v) : ∃ n : Int, v = .int .i64 n ∧ (-9223372036854775808 ≤ n ∧ n ≤ 9223372036854775807) := by
  simp only [Cell.okWide, Try.underlying3] at h
  simp only [Cell.ok, Try.underlying3] at h
  split at h <;> first | (rename_i e; cases e; done) | skip
  all_goals first | exact h.elim | skip
  all_goals first
    | (rename_i e1; injection e1 with e1; injection e1 with e1; subst e1; obtain ⟨rfl, hh⟩ := h; exact ⟨_, rfl, by simpa [IntKind.has, IntKind.min, IntKind.max, IntKind.signed, IntKind.bits] using hh⟩)
    | (rename_i e1; cases e1)
/-- The cells of a value whose cells are all numbers. -/
theorem cells_int {t : TypeId} {n : Nat} {w : World} {r : Reach} {b : Nat} {cs : Array Value} (hct : Try.prog.cellTypes Try.prog.depth t = some (List.replicate n 3)) (hn : 0 < n) (h : Row.okWide Try.prog w r b t cs) :
    ∀ (i : Nat) (v : Value), cs[i]? = some v → ∃ m : Int, v = .int .i64 m ∧ (-9223372036854775808 ≤ m ∧ m ≤ 9223372036854775807) := by
  obtain ⟨ts, h1, _, h2⟩ := h
  rw [hct] at h1
  injection h1 with h1
  subst h1
  intro i v hv
  obtain ⟨u, hu, hc⟩ := h2 i v hv
  rw [List.length_replicate, List.getElem?_replicate] at hu
  rw [if_pos (Nat.mod_lt _ hn)] at hu
  injection hu with hu
  subst hu
  exact cell_int hc
theorem open_point {w : World} {b : Nat} {v : Value} (hv : Value.okWide Try.prog w .any b 41 v) :
    ∃ x0 x1 x2 x3 : Int, v = .agg #[.int .i64 x0, .int .i64 x1, .int .i64 x2, .int .i64 x3] ∧ (-9223372036854775808 ≤ x0 ∧ x0 ≤ 9223372036854775807) ∧ (-9223372036854775808 ≤ x1 ∧ x1 ≤ 9223372036854775807) ∧ (-9223372036854775808 ≤ x2 ∧ x2 ≤ 9223372036854775807) ∧ (-9223372036854775808 ≤ x3 ∧ x3 ≤ 9223372036854775807) := by
  simp only [Value.okWide, Try.underlying41] at hv
  obtain ⟨cs, rfl, hs, hr⟩ := hv
  have hC : Try.prog.cellsOf 41 = 4 := by kernel_rfl
  have hc := cells_int (n := 4) (t := 41) (by kernel_rfl) (by decide) hr
  rw [hC] at hs
  obtain ⟨l⟩ := cs
  have hl : l.length = 4 := by simpa using hs
  obtain ⟨x0, e0, r0⟩ := hc 0 (l[0]'(by omega)) (by simp)
  obtain ⟨x1, e1, r1⟩ := hc 1 (l[1]'(by omega)) (by simp)
  obtain ⟨x2, e2, r2⟩ := hc 2 (l[2]'(by omega)) (by simp)
  obtain ⟨x3, e3, r3⟩ := hc 3 (l[3]'(by omega)) (by simp)
  refine ⟨x0, x1, x2, x3, ?_, r0, r1, r2, r3⟩
  congr 1
  apply Array.ext'
  apply List.ext_getElem (by simpa using hl)
  intro i h1 h2
  have h3 : i < 4 := by simpa [hl] using h1
  by_cases c0 : i = 0
  · subst c0; simpa using e0
  by_cases c1 : i = 1
  · subst c1; simpa using e1
  by_cases c2 : i = 2
  · subst c2; simpa using e2
  by_cases c3 : i = 3
  · subst c3; simpa using e3
  omega
end Go.Proofs.Ytnngaedhedbenaa.OpenPt


set_option linter.unusedVariables false
set_option linter.unusedSimpArgs false
set_option maxRecDepth 100000
namespace Go.Proofs.Ytnngaedhedbenaa.Ev
open Go Go.RowKit Go.ChangeShapes Go.WideShapes Go.Proofs.Ytnngaedhedbenaa.NodeE
theorem elem_u64 {H : Type} {enc : TypeId × Value → H} {W : World} {base : Nat} {spare : Nat → Bool} {held : Bool} (n : Nat) (cs : List Value) (z : DataW H × List MemPlace) (h : DataW.trod enc Try.prog W base spare held n 26 cs = some z) : ∃ x : Int, cs = eWord.cells x ∧ U64 x := by
  obtain ⟨x, h1, h2⟩ := elem_int (P := Try.prog) (k := .u64) (by kernel_rfl) n cs z h
  exact ⟨x, h1, BitLib.wf_u64 h2⟩
theorem open_words {H : Type} {enc : TypeId × Value → H} {W : World} {base : Nat} {spare : Nat → Bool} {held : Bool} {r : Reach} {b0 : Nat} {v : Value} {d : DataW H} {ps : List MemPlace} (hv : Value.okWide Try.prog W r b0 37 v) (h : DataW.Trod enc Try.prog W base spare held 37 v d ps) : Opened W eWord U64 v := by
  have hu : Try.prog.underlying 37 = some (.slice 26) := by kernel_rfl
  obtain ⟨fuel, hf⟩ := h
  simp only [Value.okWide, hu] at hv
  have hcs : v.cells.toList = [v] := by
    obtain ⟨a, l, c, rfl⟩ : ∃ a l c, v = .slice a l c := by
      simp only [Cell.okWide, hu, Cell.ok] at hv
      cases v <;> simp_all
    rfl
  rw [hcs] at hf
  exact open_row hu (by kernel_rfl) elem_u64 hv hf
end Go.Proofs.Ytnngaedhedbenaa.Ev


set_option linter.unusedVariables false
set_option linter.unusedSimpArgs false
set_option maxRecDepth 100000
namespace Go.Proofs.Ytnngaedhedbenaa.Ev
open Go Go.RowKit Go.ChangeShapes Go.WideShapes
theorem elem_i64 {H : Type} {enc : TypeId × Value → H} {W : World} {base : Nat} {spare : Nat → Bool} {held : Bool} (n : Nat) (cs : List Value) (z : DataW H × List MemPlace) (h : DataW.trod enc Try.prog W base spare held n 3 cs = some z) : ∃ x : Int, cs = eInt.cells x ∧ I64 x := by
  obtain ⟨x, h1, h2⟩ := elem_int (P := Try.prog) (k := .i64) (by kernel_rfl) n cs z h
  exact ⟨x, h1, wf64 h2⟩
theorem open_ints64 {H : Type} {enc : TypeId × Value → H} {W : World} {base : Nat} {spare : Nat → Bool} {held : Bool} {r : Reach} {b0 : Nat} {v : Value} {d : DataW H} {ps : List MemPlace} (hv : Value.okWide Try.prog W r b0 43 v) (h : DataW.Trod enc Try.prog W base spare held 43 v d ps) : Opened W eInt I64 v := by
  have hu : Try.prog.underlying 43 = some (.slice 3) := by kernel_rfl
  obtain ⟨fuel, hf⟩ := h
  simp only [Value.okWide, hu] at hv
  have hcs : v.cells.toList = [v] := by
    obtain ⟨a, l, c, rfl⟩ : ∃ a l c, v = .slice a l c := by
      simp only [Cell.okWide, hu, Cell.ok] at hv
      cases v <;> simp_all
    rfl
  rw [hcs] at hf
  exact open_row hu (by kernel_rfl) elem_i64 hv hf
end Go.Proofs.Ytnngaedhedbenaa.Ev


set_option linter.unusedVariables false
set_option linter.unusedSimpArgs false
set_option maxRecDepth 100000
namespace Go.Proofs.Ytnngaedhedbenaa.Ev
open Go Go.RowKit Go.ChangeShapes Go.WideShapes
def fieldsOf (P : Program) (t : TypeId) : Array Field := match P.underlying t with
  | some (.struct fs) => fs
  | _ => #[]
section
variable {H : Type} {enc : TypeId × Value → H} {P : Program} {W : World} {base : Nat} {spare : Nat → Bool} {held : Bool}
theorem field_of {fs : Array Field} {i o c : Nat} {d : TypeDesc} (h : (fs[i]?).map (fun f => (f.offset, P.cellsOf f.type)) = some (o, c)) (hd : (fs[i]?).bind (fun f => P.underlying f.type) = some d) :
    ∃ f, fs[i]? = some f ∧ f.offset = o ∧ P.cellsOf f.type = c ∧ P.underlying f.type = some d := by
  cases hf : fs[i]? with
  | none => rw [hf] at h; simp at h
  | some f =>
    rw [hf] at h hd
    simp at h hd
    exact ⟨f, rfl, h.1, h.2, hd⟩
theorem xs_get {α : Type} {xs : List α} {i : Nat} (h : i < xs.length) : ∃ y, xs[i]? = some y := ⟨xs[i], List.getElem?_eq_getElem h⟩
end
/-- A struct of a number and four slices of numbers. -/
theorem open_tree {H : Type} {enc : TypeId × Value → H} {W : World} {base : Nat} {spare : Nat → Bool} {held : Bool} {r : Reach} {b0 : Nat} {v : Value} {d : DataW H} {ps : List MemPlace} (hv : Value.okWide Try.prog W r b0 47 v) (h : DataW.Trod enc Try.prog W base spare held 47 v d ps) :
    ∃ (cl : Int) (a1 a2 a3 a4 : Value), v = .agg #[.int .i64 cl, a1, a2, a3, a4] ∧ Opened W eInt I64 a1 ∧ Opened W eInt I64 a2 ∧ Opened W eInt I64 a3 ∧ Opened W eInt I64 a4 := by
  have hu : Try.prog.underlying 47 = some (.struct (fieldsOf Try.prog 47)) := by kernel_rfl
  obtain ⟨fuel, hf⟩ := h
  simp only [Value.okWide, hu] at hv
  obtain ⟨⟨l⟩, rfl, hs, ts, ht1, _, ht2⟩ := hv
  have hl5 : l.length = 5 := by
    have : Try.prog.cellsOf 47 = 5 := by kernel_rfl
    rw [this] at hs
    simpa using hs
  have hct : Try.prog.cellTypes Try.prog.depth 47 = some [3, 43, 43, 43, 43] := by kernel_rfl
  rw [hct] at ht1
  injection ht1 with ht1
  subst ht1
  obtain ⟨xs, k, _, _, hl, hlen, hf⟩ := DataW.trod_struct (P := Try.prog) hu hf
  have hx5 : xs.length = 5 := by rw [hlen]; kernel_rfl
  have hsl : Try.prog.underlying 43 = some (.slice 3) := by kernel_rfl
  obtain ⟨f0, e0, o0, c0, u0⟩ := field_of (P := Try.prog) (fs := fieldsOf Try.prog 47) (i := 0) (o := 0) (c := 1) (d := .int .i64) (by kernel_rfl) (by kernel_rfl)
  obtain ⟨f1, e1, o1, c1, u1⟩ := field_of (P := Try.prog) (fs := fieldsOf Try.prog 47) (i := 1) (o := 1) (c := 1) (d := .slice 3) (by kernel_rfl) (by kernel_rfl)
  obtain ⟨f2, e2, o2, c2, u2⟩ := field_of (P := Try.prog) (fs := fieldsOf Try.prog 47) (i := 2) (o := 2) (c := 1) (d := .slice 3) (by kernel_rfl) (by kernel_rfl)
  obtain ⟨f3, e3, o3, c3, u3⟩ := field_of (P := Try.prog) (fs := fieldsOf Try.prog 47) (i := 3) (o := 3) (c := 1) (d := .slice 3) (by kernel_rfl) (by kernel_rfl)
  obtain ⟨f4, e4, o4, c4, u4⟩ := field_of (P := Try.prog) (fs := fieldsOf Try.prog 47) (i := 4) (o := 4) (c := 1) (d := .slice 3) (by kernel_rfl) (by kernel_rfl)
  have g0 := hf 0 f0 e0
  have g1 := hf 1 f1 e1
  have g2 := hf 2 f2 e2
  have g3 := hf 3 f3 e3
  have g4 := hf 4 f4 e4
  obtain ⟨y0, hy0⟩ := xs_get (xs := xs) (i := 0) (by omega)
  obtain ⟨y1, hy1⟩ := xs_get (xs := xs) (i := 1) (by omega)
  obtain ⟨y2, hy2⟩ := xs_get (xs := xs) (i := 2) (by omega)
  obtain ⟨y3, hy3⟩ := xs_get (xs := xs) (i := 3) (by omega)
  obtain ⟨y4, hy4⟩ := xs_get (xs := xs) (i := 4) (by omega)
  rw [o0, c0, hy0] at g0
  rw [o1, c1, hy1] at g1
  rw [o2, c2, hy2] at g2
  rw [o3, c3, hy3] at g3
  rw [o4, c4, hy4] at g4
  match l, hl5 with
  | [p0, p1, p2, p3, p4], _ =>
    obtain ⟨cl, q0, _, _⟩ := DataW.trod_int u0 g0
    have q1 : [p0] = [Value.int .i64 cl] := q0
    injection q1 with q1 _
    subst q1
    obtain ⟨t1, hq1, w1⟩ := ht2 1 p1 rfl
    simp at hq1
    subst hq1
    obtain ⟨t2, hq2, w2⟩ := ht2 2 p2 rfl
    simp at hq2
    subst hq2
    obtain ⟨t3, hq3, w3⟩ := ht2 3 p3 rfl
    simp at hq3
    subst hq3
    obtain ⟨t4, hq4, w4⟩ := ht2 4 p4 rfl
    simp at hq4
    subst hq4
    have hcell : ∀ (x : Value) (ft : TypeId), Try.prog.underlying ft = some (.slice 3) → Cell.okWide Try.prog W r b0 43 x → Cell.okWide Try.prog W r b0 ft x := by
      intro x ft hft hx
      simp only [Cell.okWide, hsl, hft, Cell.ok] at hx ⊢
      exact hx
    exact ⟨cl, p1, p2, p3, p4, rfl, open_row u1 (by kernel_rfl) elem_i64 (hcell p1 _ u1 w1) g1, open_row u2 (by kernel_rfl) elem_i64 (hcell p2 _ u2 w2) g2, open_row u3 (by kernel_rfl) elem_i64 (hcell p3 _ u3 w3) g3, open_row u4 (by kernel_rfl) elem_i64 (hcell p4 _ u4 w4) g4⟩
end Go.Proofs.Ytnngaedhedbenaa.Ev


namespace Go.Proofs.Ytnngaedhedbenaa.treeTellsRow
open Go.ChangeShapes Go.WideShapes Go.ChangeAt Go.RowKit
open Go.ChangeMaps (open_string shut_string)
set_option linter.unusedVariables false
theorem own : ownKnob Try.prog.godebug = none := by kernel_rfl
theorem laidOut : laidOutB Try.prog = true := by kernel_rfl
set_option maxHeartbeats 4000000 in
set_option maxRecDepth 100000 in
theorem lifted (os : Os) (started : os.Started) (H : Type) (enc : TypeId × Value → H) :
    ReturnsInHanded {} Try.checked os 9 .any (Rows.treeTellsSpec.pre6 enc Try.prog Try.f9 Rows.treeTellsRow.domain false) (Rows.treeTellsSpec.post enc Try.prog Try.f9 false true false false) := by
  refine returnsInHanded_of_change_sized (C := Try.checked) own started (by kernel_rfl) Try.func9
    (ChangeSpec.witness6 (enc := enc) (C := Try.checked) false ⟨#[], #[.slice none 0 0, .agg #[.int .i64 0, .slice none 0 0, .slice none 0 0, .slice none 0 0, .slice none 0 0], .int .i64 0, .agg #[.int .i64 0, .int .i64 0, .int .i64 0, .int .i64 0], .bool false], []⟩ 8 (by kernel_rfl) (by kernel_rfl) (by kernel_rfl) (by kernel_rfl)) ?_
  intro W base args ds gs before hval0 hW hcnd hsz0 _
  have hsz : (DataW.weightsEach Try.prog (Try.f9.params.toList ++ Rows.treeTellsSpec.plain.varTypes Try.prog) (ds ++ gs)).all (· ≤ reachBytes) = true := hsz0
  have hval : ∀ (j : Nat) t v, Try.f9.params[j]? = some t → args[j]? = some v → Value.okWide Try.prog W .any base t v := hval0
  have hW' := hW
  obtain ⟨p, q, hA0, hV, rfl, hfz, hnd⟩ := hW
  have hA : DataW.TrodAll enc Try.prog W 0 (fun _ => true) true Try.f9.params.toList args.toList ds p := hA0
  rw [Try.params9] at hA hval hsz
  obtain ⟨v0, vs0, d0, ds0, p0, q0, hargs, rfl, rfl, h0, r0⟩ := trodAll_cons hA
  obtain ⟨v1, vs1, d1, ds1, p1, q1, rfl, rfl, rfl, h1, r1⟩ := trodAll_cons r0
  obtain ⟨v2, vs2, d2, ds2, p2, q2, rfl, rfl, rfl, h2, r2⟩ := trodAll_cons r1
  obtain ⟨v3, vs3, d3, ds3, p3, q3, rfl, rfl, rfl, h3, r3⟩ := trodAll_cons r2
  obtain ⟨v4, vs4, d4, ds4, p4, q4, rfl, rfl, rfl, h4, r4⟩ := trodAll_cons r3
  obtain ⟨rfl, rfl, rfl⟩ := trodAll_nil r4
  obtain rfl : args = #[v0, v1, v2, v3, v4] := by cases args; simp_all
  obtain ⟨rfl, rfl⟩ := trodVars_none hV
  have k0 := h0
  have lt0 : ∀ x ∈ p0, x.block < W.heap.size := by obtain ⟨m, hm⟩ := k0; exact DataW.trod_lt m _ _ _ hm
  have w0 := Ev.open_words (hval 0 37 v0 rfl rfl) h0
  have k1 := h1
  have lt1 : ∀ x ∈ p1, x.block < W.heap.size := by obtain ⟨m, hm⟩ := k1; exact DataW.trod_lt m _ _ _ hm
  obtain ⟨t1y0, t1y1, t1y2, t1y3, t1y4, rfl, w1y1, w1y2, w1y3, w1y4⟩ := Ev.open_tree (hval 1 47 v1 rfl rfl) h1
  obtain ⟨a2, rfl, rfl, rfl, w2⟩ := open_int Try.underlying3 (hval 2 3 v2 rfl rfl) h2
  have k3 := h3
  have lt3 : ∀ x ∈ p3, x.block < W.heap.size := by obtain ⟨m, hm⟩ := k3; exact DataW.trod_lt m _ _ _ hm
  obtain ⟨x3y0, x3y1, x3y2, x3y3, rfl, w3⟩ := OpenPt.open_point (hval 3 41 v3 rfl rfl)
  obtain ⟨a4, rfl, rfl, rfl⟩ := open_bool Try.underlying4 (hval 4 4 v4 rfl rfl) h4
  clear hA0 hval0 hsz0 hsz
  refine (WkTreeTells.walk W v0 w0 t1y0 t1y1 t1y2 t1y3 t1y4 w1y1 w1y2 w1y3 w1y4 a2 w2 x3y0 x3y1 x3y2 x3y3 w3 a4).mono fun e W' ⟨he, bel⟩ => ?_
  subst he
  exact ⟨_, rfl, _, _, _, [], _, [], hW', trodAll_mk1 (shut_bool Try.underlying4 _), (trodAll_cons_mk (Below.trod laidOut (by kernel_rfl) (of_decide_eq_true (by kernel_rfl)) k0 bel lt0) (trodAll_cons_mk (Below.trod laidOut (by kernel_rfl) (of_decide_eq_true (by kernel_rfl)) k1 bel lt1) (trodAll_cons_mk (shut_int Try.underlying3 w2) (trodAll_cons_mk (Below.trod laidOut (by kernel_rfl) (of_decide_eq_true (by kernel_rfl)) k3 bel lt3) (trodAll_cons_mk (shut_bool Try.underlying4 _) trodAll_mk0))))), rfl, bel.frame _, fun h => by cases h⟩
theorem over : Rows.treeTellsRow.holds Try.pinned (OpenSpec.ofChange Rows.treeTellsSpec) :=
  OpenClaim.holds_of_wide 9 Try.f9 rfl rfl rfl rfl rfl rfl rfl ⟨rfl, rfl, rfl, rfl, rfl⟩ rfl rfl rfl rfl rfl (by kernel_rfl) Try.func9 (by kernel_rfl)
    (of_decide_eq_true (by kernel_rfl)) (by unfold Func.isWrapper; first | (rw [if_pos (by decide +kernel)]; kernel_rfl) | (rw [if_neg (by decide +kernel)]; exact ⟨rfl, rfl⟩))
    (fun os started H enc _ => lifted os started H enc)
end Go.Proofs.Ytnngaedhedbenaa.treeTellsRow
namespace Go.Proofs.Ytnngaedhedbenaa
theorem treeTells_holds : Rows.TreeTellsSaid := treeTellsRow.over
#print axioms treeTells_holds
end Go.Proofs.Ytnngaedhedbenaa
