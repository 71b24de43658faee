/-
  Slices that come in, as rows of a list. No condition.
-/
import Derived.Test.YtmgkmekknhggbaaOpenCan
set_option linter.unusedVariables false
set_option linter.unusedSimpArgs false
namespace Go.Proofs.Ytmgkmekknhggbaa.Ev
open Go Go.RowKit
def rowsL (rs : List (Option (List Value))) : Heap := fun k => match rs[k]? with
  | some (some x) => some (.ro x)
  | _ => none
/-- What a slice that comes in tells, under its name. -/
def CanQ (W : World) (k : Nat) (r : Option (List Value)) (ad : Nat × Nat) : Prop :=
  ∀ cs, r = some cs → (∀ c ∈ cs, leafG c = true) ∧ ∀ l : List (Nat × Nat), l[k]? = some ad → (Blk.ro cs).Holds (Nm.at l) k W.heap[(Nm.at l).blk k]?
/-- What a call does that only reads rows. -/
theorem calls_rows {P : Program} {f : FuncId} {args : List Value} {rs : List (Option (List Value))} {nx : Nat} {v : Value} (hs : CallSpec P f args (rowsL rs) nx v (assocN [] [])) (hv : gnd v = true) (hlen : rs.length ≤ nx)
    (hnm : ∀ u ∈ args, ∀ j ∈ nms u, j < nx) {W : World} {l : List (Nat × Nat)} (hq : ∀ j r ad, rs[j]? = some r → l[j]? = some ad → CanQ W j r ad) (hl : rs.length ≤ l.length) :
    Calls P f (args.map (ren (Nm.at l))).toArray W fun e w' => e = .returned v ∧ Below W.heap.size W w' := by
  have key : ∀ j b, rowsL rs j = some b → j < rs.length ∧ ∃ cs, b = .ro cs ∧ rs[j]? = some (some cs) := by
    intro j b h
    unfold rowsL at h
    split at h
    · rename_i x hx
      simp at h
      exact ⟨(List.getElem?_eq_some_iff.1 hx).1, x, h.symm, hx⟩
    · simp at h
  refine calls_ro hs hv (fun j b hb => ?_) hnm (fun j cs hj => ?_)
  · obtain ⟨h1, cs, h2, h3⟩ := key j b hb
    exact ⟨by omega, cs, h2, (hq j _ (l[j]'(by omega)) h3 (List.getElem?_eq_getElem (by omega)) cs rfl).1⟩
  · obtain ⟨h1, cs', h2, h3⟩ := key j _ hj
    injection h2 with h2
    subst h2
    exact (hq j _ (l[j]'(by omega)) h3 (List.getElem?_eq_getElem (by omega)) _ rfl).2 l (List.getElem?_eq_getElem (by omega))
theorem canQ_none (W : World) (k : Nat) (ad : Nat × Nat) : CanQ W k none ad := fun _ h => by simp at h
end Go.Proofs.Ytmgkmekknhggbaa.Ev

