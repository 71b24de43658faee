/-
  The frames of the loop of Same over Int. No condition.
-/
import Derived.Test.YtmgkmekknhggbaaElt
set_option linter.unusedVariables false
set_option linter.unusedSimpArgs false
set_option maxRecDepth 100000
namespace Go.Proofs.Ytmgkmekknhggbaa.SameInt
open Go Go.RowKit Go.Proofs.Ytmgkmekknhggbaa.Ev Go.Proofs.Ytmgkmekknhggbaa.Ev
def sL (cs ds : List Value) (o n c p m d : Nat) : LoopF Nat where
  ts _ := [0, 1, 5]
  hs _ := [0, 1]
  tv _ i := [.slice (some ⟨0, o, none⟩) n c, .slice (some ⟨1, p, none⟩) m d, .int .i64 (i : Int)]
  hv _ _ := [.ro cs, .ro ds]
  inv _ i := i ≤ n ∧ n = m ∧ n ≤ 9223372036854775806 ∧ ((eInt.list cs o n).take i = (eInt.list ds p m).take i)
  mu _ i := n - i
  nx := 2
theorem sL_ok (cs ds : List Value) (o n c p m d : Nat) (h1 : ∀ x ∈ cs, leafG x = true) (h2 : ∀ x ∈ ds, leafG x = true) : (sL cs ds o n c p m d).OK 2 := by
  refine ⟨Nat.le_refl _, fun b i h k hk => ?_, fun b i h v hv k hk => ?_, fun b i h x hx => ?_⟩
  · simp [sL] at hk
    show k < 2
    omega
  · simp [sL] at hv
    show k < 2
    rcases hv with rfl | rfl | rfl <;> simp [nms, nm1, nm0] at hk <;> omega
  · simp [sL] at hx
    rcases hx with rfl | rfl
    · exact Blk.plain.namesLt (b := .ro cs) h1 _
    · exact Blk.plain.namesLt (b := .ro ds) h2 _
end Go.Proofs.Ytmgkmekknhggbaa.SameInt

