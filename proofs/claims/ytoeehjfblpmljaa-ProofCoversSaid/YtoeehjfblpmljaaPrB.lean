/-
  What proof.right and proof.deep reckon; the frames of deep's loop. No condition.
-/
import Derived.Test.YtoeehjfblpmljaaPrA
set_option linter.unusedVariables false
set_option linter.unusedSimpArgs false
set_option maxRecDepth 100000
namespace Go.Proofs.Ytoeehjfblpmljaa.PrA
open Go Go.RowKit Go.Proofs.Ytoeehjfblpmljaa.Ev Go.Proofs.Ytoeehjfblpmljaa.PickE Go.Proofs.Ytoeehjfblpmljaa.BoxF
/-- P19.1: may a step be? -/
def rightS (s : Stp) : Bool := if s.sum then decide (s.place = 0) && decide (s.at_ = 0) else decide (0 ≤ s.place) && decide (s.place ≤ 4)
theorem right_sum : SumOK Try.prog 25 (roSum fun xs css => match xs, css with
  | [.agg ⟨[.bool s, .int .i64 p, .int .i64 a]⟩], [] => some (.bool (rightS ⟨s, p, a⟩), [], [])
  | _, _ => none) := by
  refine roSum_ok (en Try.func25 rfl) ?_ (fun xs css r h => ?_)
  · intro xs css v blks ob h hob hpl hl
    split at h
    · rename_i s p a
      simp only [Option.some.injEq, Prod.mk.injEq] at h
      obtain ⟨rfl, rfl, rfl⟩ := h
      refine ⟨by simp, by simp, fun j hj => by simp [nms, nm1, nm0] at hj, ?_⟩
      refine spec_of_sat Try.func25 rfl fun E hE => ?_
      cases s with
      | true =>
        have e : rightS ⟨true, p, a⟩ = keyEq (.agg ⟨[.bool true, .int .i64 p, .int .i64 a]⟩) (.agg ⟨[.bool true, .int .i64 0, .int .i64 0]⟩) := by
          simp [rightS, keyEq, cellsEq, leafEq, Bool.beq_eq_decide_eq]
        rw [e] at hE
        exact r1 p a hE ⟨⟨rfl, rfl⟩, trivial⟩
      | false =>
        by_cases h0 : 0 ≤ p
        · have e : rightS ⟨false, p, a⟩ = decide (p ≤ 4) := by simp [rightS, h0]
          rw [e] at hE
          have h1 : decide (p ≥ 0) = true := by simpa using h0
          exact r2 p a hE ⟨⟨rfl, rfl⟩, h1, by rw [h1]; rfl, by rw [h1]; rfl, by rw [h1]; rfl, trivial⟩
        · have e : rightS ⟨false, p, a⟩ = false := by simp [rightS, h0]
          rw [e] at hE
          have h1 : decide (p ≥ 0) = false := by simpa using h0
          exact r3 p a hE ⟨⟨rfl, rfl⟩, h1, by rw [h1]; rfl, by rw [h1]; rfl, by rw [h1]; rfl, trivial⟩
    · simp at h
  · split at h <;> simp at h <;> simp
noncomputable def t_right : Sums := upd t_bcut 25 (some (roSum fun xs css => match xs, css with
  | [.agg ⟨[.bool s, .int .i64 p, .int .i64 a]⟩], [] => some (.bool (rightS ⟨s, p, a⟩), [], [])
  | _, _ => none))
theorem t_right_ok : SumsOK Try.prog t_right := sums_cons t_bcut_ok right_sum
def deepGo : List Stp → Int → Int → Option (Int × Int)
  | [], l, m => some (l, m)
  | s :: r, l, m => if l = 0 ∨ rightS s = false then none else if s.sum = true then deepGo r (l - 1) m else deepGo r (l + 1) (max m (l + 1))
def deepR : Option (Int × Int) → Int
  | none => 0
  | some (left, most) => if left = 0 ∧ most ≤ 200 then most else 0
/-- P19.1: the greatest number of boxes that were left at once. -/
def deepI (l : List Stp) : Int := if 65536 < l.length then 0 else deepR (deepGo l 1 1)
def deepL (cs : List Value) (off n c : Nat) : LoopF (Nat × Int × Int) where
  ts _ := [3, 4, 10, 11, 12]
  hs _ := [0]
  tv _ := fun (i, l, m) => [.int .i64 l, .int .i64 m, .slice (some ⟨0, off, none⟩) n c, .int .i64 (n : Int), .int .i64 (i : Int)]
  hv _ _ := [.ro cs]
  inv _ := fun (i, l, m) => i ≤ n ∧ n ≤ 65536 ∧ deepGo ((eStp.list cs off n).drop i) l m = deepGo (eStp.list cs off n) 1 1 ∧ 0 ≤ l ∧ l ≤ i + 1 ∧ 0 ≤ m ∧ m ≤ i + 1
  mu _ := fun (i, l, m) => n - i
  nx := 1
theorem deepL_ok (cs : List Value) (off n c : Nat) (hpl : ∀ x ∈ cs, leafG x = true) : (deepL cs off n c).OK 1 := by
  refine ⟨Nat.le_refl _, fun b i h k hk => ?_, fun b i h v hv k hk => ?_, fun b i h x hx => ?_⟩
  · simp [deepL] at hk; subst hk; exact Nat.one_pos
  · simp [deepL] at hv
    rcases hv with rfl | rfl | rfl | rfl | rfl <;> simp [nms, nm1, nm0] at hk
    subst hk; exact Nat.one_pos
  · simp [deepL] at hx; subst hx
    exact Blk.plain.namesLt (b := .ro cs) hpl _
end Go.Proofs.Ytoeehjfblpmljaa.PrA

