/-
  The frame of ProofTurned behind its cutting. No condition.
-/
import Derived.Test.YtoeehjfblpmljaaTlA
import Derived.Test.YtoeehjfblpmljaaCanLib
set_option linter.unusedVariables false
set_option linter.unusedSimpArgs false
set_option maxRecDepth 100000
namespace Go.Proofs.Ytoeehjfblpmljaa.PrA
open Go Go.RowKit Go.Proofs.Ytoeehjfblpmljaa.Ev Go.Proofs.Ytoeehjfblpmljaa.PickE Go.Proofs.Ytoeehjfblpmljaa.BoxF Go.Proofs.Ytoeehjfblpmljaa.Within Go.Proofs.Ytoeehjfblpmljaa.PrA
abbrev bxW : Bx := ⟨0, 9, -3, 4, 0, 0, 0, 0, 0, 9⟩
def tuL (w a : Int) (st : List Stp) : LoopF Unit where
  ts _ := [1, 2, 7, 9]
  hs _ := [10, 20]
  tv _ _ := [.int .i64 w, .int .i64 a, .pointer (some ⟨10, 0, none⟩), .slice (some ⟨20, 0, none⟩) st.length mk]
  hv _ _ := [.cells bxW.cs 31, .vec (eStp.row st) 23 3]
  inv _ _ := True
  mu _ _ := 0
  nx := 21
theorem tuL_ok (w a : Int) (st : List Stp) : (tuL w a st).OK 3 := by
  refine ⟨(by decide : 3 ≤ 21), fun z i h k hk => ?_, fun z i h v hv k hk => ?_, fun z i h x hx => ?_⟩
  · show k < 21
    simp [tuL] at hk; omega
  · show k < 21
    simp [tuL] at hv
    rcases hv with rfl | rfl | rfl | rfl <;> simp [nms, nm1, nm0] at hk <;> omega
  · simp [tuL] at hx
    rcases hx with rfl | rfl
    · exact Blk.plain.namesLt (b := .cells _ _) (eBox.pl bxW) _
    · exact Blk.plain.namesLt (b := .vec _ _ _) (Elt.row_pl _) _
end Go.Proofs.Ytoeehjfblpmljaa.PrA

