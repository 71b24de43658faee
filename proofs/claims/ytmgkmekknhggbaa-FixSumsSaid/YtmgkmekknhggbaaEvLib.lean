/-
  How a contract of a function is had from the evaluator's run of it. No condition.
-/
import Derived.Test.YtmgkmekknhggbaaEvRun
set_option linter.unusedVariables false
set_option linter.unusedSimpArgs false
namespace Go.Proofs.Ytmgkmekknhggbaa.Ev
open Go Go.RowKit
def obOf : Option Res → List Prop
  | some r => r.ob
  | none => [False]
def vOf : Option Res → Option Value
  | some r => some r.v
  | none => none
def all : List Prop → Prop
  | [] => True
  | p :: ps => p ∧ all ps
theorem all_iff : ∀ {l : List Prop}, all l ↔ ∀ p ∈ l, p
  | [] => by simp [all]
  | p :: ps => by
    simp only [all, all_iff (l := ps)]
    exact ⟨fun h q hq => by rcases List.mem_cons.1 hq with rfl | hq; exact h.1; exact h.2 q hq, fun h => ⟨h p (List.mem_cons_self ..), fun q hq => h q (List.mem_cons_of_mem _ hq)⟩⟩
/-- A pure summary: a value, and what is owed. -/
def sumOf (F : List Value → Option (Value × List Prop)) : List Value → Heap → Nat → Option Res := fun args _ _ =>
  match F args with
  | some (v, ob) => some ⟨v, [], [], ob⟩
  | none => none
section
variable {P : Program} {sums : Sums} {hint : Nat → Nat → Nat → Hint} {ws : List W} {f : FuncId} {args : List Value} {v : Value}
theorem calls_run (hm : P.follows .mixedOrders = true) (hS : SumsOK P sums) (hint : Nat → Nat → Nat → Hint) (ws : List W) (h : vOf (callRun P sums hint ws f args) = some v) (hob : ∀ p ∈ obOf (callRun P sums hint ws f args), p) :
    gnd v = true ∧ allB gnd args = true ∧ ∀ w, Calls P f args.toArray w fun e w' => e = .returned v ∧ Below w.heap.size w w' := by
  cases hr : callRun P sums hint ws f args with
  | none => rw [hr] at h; simp [vOf] at h
  | some r =>
    rw [hr] at h hob
    simp only [vOf, Option.some.injEq] at h
    subst h
    obtain ⟨_, _, h3, h4, h5⟩ := callRun_calls hm hS hr hob
    exact ⟨h3, h4, h5⟩
theorem calls_run0 (hm : P.follows .mixedOrders = true) (hS : SumsOK P sums) (hint : Nat → Nat → Nat → Hint) (ws : List W) (h : callRun P sums hint ws f args = some ⟨v, [], [], []⟩) :
    gnd v = true ∧ allB gnd args = true ∧ ∀ w, Calls P f args.toArray w fun e w' => e = .returned v ∧ Below w.heap.size w w' :=
  calls_run hm hS hint ws (by rw [h]; rfl) (by rw [h]; simp [obOf])
theorem calls_runO (hm : P.follows .mixedOrders = true) (hS : SumsOK P sums) (hint : Nat → Nat → Nat → Hint) (ws : List W) (ob : List Prop) (h : callRun P sums hint ws f args = some ⟨v, [], [], ob⟩) (hob : all ob) :
    gnd v = true ∧ allB gnd args = true ∧ ∀ w, Calls P f args.toArray w fun e w' => e = .returned v ∧ Below w.heap.size w w' :=
  calls_run hm hS hint ws (by rw [h]; rfl) (by rw [h]; exact all_iff.1 hob)
theorem sumOf_ok (he : Enters P f) {F : List Value → Option (Value × List Prop)}
    (h : ∀ args v ob, F args = some (v, ob) → (∀ p ∈ ob, p) → gnd v = true ∧ allB gnd args = true ∧ ∀ w, Calls P f args.toArray w fun e w' => e = .returned v ∧ Below w.heap.size w w') : SumOK P f (sumOf F) := by
  refine sum_of_pure he fun args r hr hob => ?_
  cases hF : F args with
  | none => simp [hF] at hr
  | some x =>
    obtain ⟨v, ob⟩ := x
    simp only [hF, Option.some.injEq] at hr
    subst hr
    obtain ⟨h1, h2, h3⟩ := h args v ob hF hob
    exact ⟨rfl, h1, h2, h3⟩
end
/-- Hints for some operations: region, place, hint. -/
def hints (l : List (Nat × Nat × Hint)) : Nat → Nat → Nat → Hint := fun _ r i => go l r i
where go : List (Nat × Nat × Hint) → Nat → Nat → Hint
  | [], _, _ => {}
  | (a, b, h) :: l, r, i => bif Nat.beq a r then bif Nat.beq b i then h else go l r i else go l r i
/-- Hints for some operations at some count of regions gone through. -/
def hintsC (l : List (Nat × Nat × Nat × Hint)) (f : Nat → Nat → Nat → Hint) : Nat → Nat → Nat → Hint := fun c r i => go l c r i
where go : List (Nat × Nat × Nat × Hint) → Nat → Nat → Nat → Hint
  | [], c, r, i => f c r i
  | (d, a, b, h) :: l, c, r, i => bif Nat.beq d c then bif Nat.beq a r then bif Nat.beq b i then h else go l c r i else go l c r i else go l c r i
end Go.Proofs.Ytmgkmekknhggbaa.Ev
