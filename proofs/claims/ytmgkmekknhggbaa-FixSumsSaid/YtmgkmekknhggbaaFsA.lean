/-
  Summaries of Add, Sub, Within, FixRuns; the frames of the loops of Sum, Roomy, Intact. No condition.
-/
import Derived.Test.YtmgkmekknhggbaaSameIntC
import Derived.Test.YtmgkmekknhggbaaFixD
import Derived.Test.YtmgkmekknhggbaaWithin
set_option linter.unusedVariables false
set_option linter.unusedSimpArgs false
set_option maxRecDepth 100000
namespace Go.Proofs.Ytmgkmekknhggbaa.Fs
open Go Go.RowKit Go.Proofs.Ytmgkmekknhggbaa.Ev Go.Proofs.Ytmgkmekknhggbaa.Within Go.Proofs.Ytmgkmekknhggbaa.FixA
def add_F : List Value → Option (Value × List Prop)
  | [.int .i64 a, .int .i64 b] => some (.tuple ⟨[.int .i64 (told (a + b)), .bool (fits (a + b))]⟩, [I64 a, I64 b])
  | _ => none
theorem add_sum : SumOK Try.prog 14 (sumOf add_F) := by
  refine sumOf_ok (en Try.func14 rfl) fun args v ob h hob => ?_
  unfold add_F at h
  split at h
  · rename_i a b
    obtain ⟨rfl, rfl⟩ := Prod.mk.inj (Option.some.inj h)
    clear h
    have h1 := hob (I64 a) (by simp)
    have h2 := hob (I64 b) (by simp)
    exact ⟨rfl, rfl, fun w => (add_calls a b h1.1 h1.2 h2.1 h2.2 w).mono fun e w' ⟨he, hw⟩ => ⟨he, hw ▸ Below.refl _ _⟩⟩
  · exact absurd h (by simp)
noncomputable def t_add : Sums := upd t_none 14 (some (sumOf add_F))
theorem t_add_ok : SumsOK Try.prog t_add := sums_cons t_none_ok add_sum
def sub_F : List Value → Option (Value × List Prop)
  | [.int .i64 a, .int .i64 b] => some (.tuple ⟨[.int .i64 (told (a - b)), .bool (fits (a - b))]⟩, [I64 a, I64 b])
  | _ => none
theorem sub_sum : SumOK Try.prog 25 (sumOf sub_F) := by
  refine sumOf_ok (en Try.func25 rfl) fun args v ob h hob => ?_
  unfold sub_F at h
  split at h
  · rename_i a b
    obtain ⟨rfl, rfl⟩ := Prod.mk.inj (Option.some.inj h)
    clear h
    have h1 := hob (I64 a) (by simp)
    have h2 := hob (I64 b) (by simp)
    exact ⟨rfl, rfl, fun w => (sub_calls a b h1.1 h1.2 h2.1 h2.2 w).mono fun e w' ⟨he, hw⟩ => ⟨he, hw ▸ Below.refl _ _⟩⟩
  · exact absurd h (by simp)
noncomputable def t_sub : Sums := upd t_add 25 (some (sumOf sub_F))
theorem t_sub_ok : SumsOK Try.prog t_sub := sums_cons t_add_ok sub_sum
def bring_F : List Value → Option (Value × List Prop)
  | [.int .i64 n, .int .i64 lo, .int .i64 hi] => some (.int .i64 (withinS n lo hi), [I64 n, -2305843009213693952 ≤ lo, lo ≤ hi, hi ≤ 2305843009213693952])
  | _ => none
theorem bring_sum : SumOK Try.prog 17 (sumOf bring_F) := by
  refine sumOf_ok (en Try.func17 rfl) fun args v ob h hob => ?_
  unfold bring_F at h
  split at h
  · rename_i n lo hi
    obtain ⟨rfl, rfl⟩ := Prod.mk.inj (Option.some.inj h)
    clear h
    have h1 := hob (I64 n) (by simp)
    have h2 := hob (-2305843009213693952 ≤ lo) (by simp)
    have h3 := hob (lo ≤ hi) (by simp)
    have h4 := hob (hi ≤ 2305843009213693952) (by simp)
    exact ⟨rfl, rfl, fun w => (within_calls n lo hi h1.1 h1.2 h2 h3 h4 w).mono fun e w' ⟨he, hw⟩ => ⟨he, hw ▸ Below.refl _ _⟩⟩
  · exact absurd h (by simp)
noncomputable def t_bring : Sums := upd t_sub 17 (some (sumOf bring_F))
theorem t_bring_ok : SumsOK Try.prog t_bring := sums_cons t_sub_ok bring_sum
def runs_F : List Value → Option (Value × List Prop)
  | [] => some (.bool true, [])
  | _ => none
theorem runs_sum : SumOK Try.prog 3 (sumOf runs_F) := by
  refine sumOf_ok (en Try.func3 rfl) fun args v ob h hob => ?_
  unfold runs_F at h
  split at h
  · obtain ⟨rfl, rfl⟩ := Prod.mk.inj (Option.some.inj h)
    exact ⟨rfl, rfl, fun w => FixD.runs_calls w⟩
  · exact absurd h (by simp)
noncomputable def t_runs : Sums := upd t_bring 3 (some (sumOf runs_F))
theorem t_runs_ok : SumsOK Try.prog t_runs := sums_cons t_bring_ok runs_sum
noncomputable def t_base : Sums := upd t_runs 37 (some (roSum SameInt.same_F))
theorem t_base_ok : SumsOK Try.prog t_base := sums_cons t_runs_ok SameInt.same_sum
def tot : List Int → Int
  | [] => 0
  | x :: l => x + tot l
theorem tot_app (l m : List Int) : tot (l ++ m) = tot l + tot m := by
  induction l with
  | nil => simp [tot]
  | cons x l ih => simp only [List.cons_append, tot, ih]; omega
/-! ### Frames -/
structure SmF where
  i : Nat
  hi : Int
  lo : Int
def smL (cs : List Value) (o n c : Nat) : LoopF SmF where
  ts _ := [4, 5, 8, 9, 10]
  hs _ := [0]
  tv _ := fun ⟨i, hi, lo⟩ => [.int .i64 hi, .int .i64 lo, .slice (some ⟨0, o, none⟩) n c, .int .i64 (n : Int), .int .i64 (i : Int)]
  hv _ _ := [.ro cs]
  inv _ := fun ⟨i, hi, lo⟩ => i ≤ n ∧ hi * 4294967296 + lo = tot ((eInt.list cs o n).take i) ∧ (-(i * 2147483648 : Int) ≤ hi ∧ hi ≤ i * 2147483648) ∧ 0 ≤ lo ∧ lo ≤ i * 4294967296
  mu _ := fun ⟨i, hi, lo⟩ => n - i
  nx := 1
theorem smL_ok (cs : List Value) (o n c : Nat) (h1 : ∀ x ∈ cs, leafG x = true) : (smL cs o n c).OK 1 := by
  refine ⟨Nat.le_refl _, fun z i h k hk => ?_, fun z i h v hv k hk => ?_, fun z i h x hx => ?_⟩
  · show k < 1
    simp [smL] at hk; omega
  · show k < 1
    simp [smL] at hv
    rcases hv with rfl | rfl | rfl | rfl | rfl <;> simp [nms, nm1, nm0] at hk <;> omega
  · simp [smL] at hx
    subst hx
    exact Blk.plain.namesLt (b := .ro cs) h1 _
def rmL (N : Nat) (k : Int) (Q : Nat → List Value → Prop) : LoopF (Nat × List Value) where
  ts _ := [1, 5, 6]
  hs _ := [10]
  tv _ := fun ⟨i, r⟩ => [.int .i64 k, .slice (some ⟨10, 0, none⟩) N N, .int .i64 (i : Int)]
  hv _ := fun ⟨i, r⟩ => [.cells r 3]
  inv _ := fun ⟨i, r⟩ => Q i r
  mu _ := fun ⟨i, r⟩ => N - i
  nx := 11
theorem rmL_ok (N : Nat) (k : Int) (Q : Nat → List Value → Prop) (hQ : ∀ i r, Q i r → ∀ x ∈ r, leafG x = true) : (rmL N k Q).OK 1 := by
  refine ⟨(by decide : 1 ≤ 11), fun z i h k hk => ?_, fun z i h v hv k hk => ?_, fun z i h x hx => ?_⟩
  · show k < 11
    simp [rmL] at hk; omega
  · show k < 11
    simp [rmL] at hv
    rcases hv with rfl | rfl | rfl <;> simp [nms, nm1, nm0] at hk <;> omega
  · obtain ⟨i, r⟩ := i
    simp [rmL] at hx
    subst hx
    exact Blk.plain.namesLt (b := .cells r _) (hQ i r h) _
def itL (cs : List Value) (o n c : Nat) (k : Int) (m : Nat) : LoopF Nat where
  ts _ := [0, 2, 7]
  hs _ := [0]
  tv _ := fun i => [.slice (some ⟨0, o, none⟩) n c, .int .i64 k, .int .i64 (i : Int)]
  hv _ _ := [.ro cs]
  inv _ := fun i => m ≤ i ∧ i ≤ n
  mu _ := fun i => n - i
  nx := 2
theorem itL_ok (cs : List Value) (o n c : Nat) (k : Int) (m : Nat) (h1 : ∀ x ∈ cs, leafG x = true) : (itL cs o n c k m).OK 2 := by
  refine ⟨Nat.le_refl _, fun z i h k hk => ?_, fun z i h v hv k hk => ?_, fun z i h x hx => ?_⟩
  · show k < 2
    simp [itL] at hk; omega
  · show k < 2
    simp [itL] at hv
    rcases hv with rfl | rfl | rfl <;> simp [nms, nm1, nm0] at hk <;> omega
  · simp [itL] at hx
    subst hx
    exact Blk.plain.namesLt (b := .ro cs) h1 _
end Go.Proofs.Ytmgkmekknhggbaa.Fs

