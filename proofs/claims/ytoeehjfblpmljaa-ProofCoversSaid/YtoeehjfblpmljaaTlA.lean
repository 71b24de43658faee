/-
  The loop of ProofTells: what it reckons, its frames; the run of ProofRuns as a summary. No condition.
-/
import Derived.Test.YtoeehjfblpmljaaStC
set_option linter.unusedVariables false
set_option linter.unusedSimpArgs false
set_option maxRecDepth 100000
namespace Go.Proofs.Ytoeehjfblpmljaa.PrA
open Go Go.RowKit Go.Proofs.Ytoeehjfblpmljaa.Ev Go.Proofs.Ytoeehjfblpmljaa.PickE Go.Proofs.Ytoeehjfblpmljaa.BoxF Go.Proofs.Ytoeehjfblpmljaa.Within Go.Proofs.Ytoeehjfblpmljaa.PrA
/-- Rows by their names. -/
def rows3 (a b c : Option (List Value)) : Heap := fun k => match k with
  | 0 => match a with | some x => some (.ro x) | none => none
  | 1 => match b with | some x => some (.ro x) | none => none
  | 2 => match c with | some x => some (.ro x) | none => none
  | _ => none
def runs_F : List Value → Option (Value × List Prop)
  | [] => some (.bool true, [])
  | _ => none
theorem runs_sum : SumOK Try.prog 3 (sumOf runs_F) := by
  refine sumOf_ok (en Try.func3 rfl) fun args v ob h hob => ?_
  unfold runs_F at h
  split at h
  · obtain ⟨rfl, rfl⟩ := Prod.mk.inj (Option.some.inj h)
    exact calls_runO hm (auto1_ok t_none_ok) noHint [] [] (by kernel_rfl) trivial
  · exact absurd h (by simp)
noncomputable def t_law (SI : SIT) (R : Option (List Bx)) : Sums := upd (t_steps SI R) 3 (some (sumOf runs_F))
theorem t_law_ok (SI : SIT) (R : Option (List Bx)) : SumsOK Try.prog (t_law SI R) := sums_cons (t_steps_ok SI R) runs_sum
noncomputable abbrev t_lawN : Sums := t_law stepsI none
theorem t_lawN_ok : SumsOK Try.prog t_lawN := t_law_ok stepsI none
def tellGo : List Stp → Int → Int → Bool → Int × Int × Bool
  | [], l, d, r => (l, d, r)
  | s :: rest, l, d, r => if l = 0 ∨ rightS s = false then (l, d, false) else
    if s.sum = true then tellGo rest (l - 1) (max d (l - 1)) (decide (0 < rest.length ∨ l - 1 = 0)) else tellGo rest (l + 1) (max d (l + 1)) (decide (0 < rest.length ∨ l + 1 = 0))
structure LF where
  i : Nat
  l : Int
  d : Int
  r : Bool
def tlL (cs : List Value) (o m c : Nat) (st : List Stp) : LoopF LF where
  ts _ := [0, 7, 8, 9, 31, 32, 33]
  hs z := match z with | 0 => [0] | _ => [20]
  tv z := fun ⟨i, l, d, r⟩ => match z with
    | 0 => [.slice (some ⟨0, o, none⟩) m c, .int .i64 l, .int .i64 d, .bool r, .slice (some ⟨0, o, none⟩) m c, .int .i64 (m : Int), .int .i64 (i : Int)]
    | _ => [.slice (some ⟨20, 0, none⟩) st.length mk, .int .i64 l, .int .i64 d, .bool r, .slice (some ⟨20, 0, none⟩) st.length mk, .int .i64 (st.length : Int), .int .i64 (i : Int)]
  hv z := fun ⟨i, l, d, r⟩ => match z with
    | 0 => [.ro cs]
    | _ => [.vec (eStp.row st) 23 3]
  inv z := fun ⟨i, l, d, r⟩ => match (match z with | 0 => eStp.list cs o m | _ => st) with
    | L => i ≤ L.length ∧ tellGo (L.drop i) l d r = tellGo L 1 1 (decide (0 < L.length)) ∧ 0 ≤ l ∧ l ≤ i + 1 ∧ 0 ≤ d ∧ d ≤ i + 1
  mu z := fun ⟨i, l, d, r⟩ => match z with | 0 => m - i | _ => st.length - i
  nx := 21
theorem tlL_ok (cs : List Value) (o m c : Nat) (st : List Stp) (h1 : ∀ x ∈ cs, leafG x = true) : (tlL cs o m c st).OK 3 := by
  refine ⟨(by decide : 3 ≤ 21), fun z i h k hk => ?_, fun z i h v hv k hk => ?_, fun z i h x hx => ?_⟩
  · show k < 21
    match z with
    | 0 => simp [tlL] at hk; omega
    | z + 1 => simp [tlL] at hk; omega
  · show k < 21
    match z with
    | 0 =>
      simp [tlL] at hv
      rcases hv with rfl | rfl | rfl | rfl | rfl | rfl | rfl <;> simp [nms, nm1, nm0] at hk <;> omega
    | z + 1 =>
      simp [tlL] at hv
      rcases hv with rfl | rfl | rfl | rfl | rfl | rfl | rfl <;> simp [nms, nm1, nm0] at hk <;> omega
  · match z with
    | 0 =>
      simp [tlL] at hx
      subst hx
      exact Blk.plain.namesLt (b := .ro cs) h1 _
    | z + 1 =>
      simp [tlL] at hx
      subst hx
      exact Blk.plain.namesLt (b := .vec _ _ _) (Elt.row_pl _) _
end Go.Proofs.Ytoeehjfblpmljaa.PrA

