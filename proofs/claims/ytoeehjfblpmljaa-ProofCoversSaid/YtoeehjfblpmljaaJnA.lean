/-
  The frame of ProofJoin behind its cuttings. No condition.
-/
import Derived.Test.YtoeehjfblpmljaaTuC
import Derived.Test.YtoeehjfblpmljaaSameBoxC
set_option linter.unusedVariables false
set_option linter.unusedSimpArgs false
set_option maxRecDepth 100000
namespace Go.Proofs.Ytoeehjfblpmljaa.PrA
open Go Go.RowKit Go.Proofs.Ytoeehjfblpmljaa.Ev Go.Proofs.Ytoeehjfblpmljaa.PickE Go.Proofs.Ytoeehjfblpmljaa.BoxF Go.Proofs.Ytoeehjfblpmljaa.Within Go.Proofs.Ytoeehjfblpmljaa.PrA
noncomputable def t_lawS (SI : SIT) (R : Option (List Bx)) : Sums := upd (t_law SI R) 11 (some (roSum SameBox.same_F))
theorem t_lawS_ok (SI : SIT) (R : Option (List Bx)) : SumsOK Try.prog (t_lawS SI R) := sums_cons (t_law_ok SI R) SameBox.same_sum
noncomputable abbrev t_joinN : Sums := t_lawS stepsI none
theorem t_joinN_ok : SumsOK Try.prog t_joinN := t_lawS_ok stepsI none
noncomputable abbrev t_joinS (O : List Bx) : Sums := t_lawS stepsI (some O)
theorem t_joinS_ok (O : List Bx) : SumsOK Try.prog (t_joinS O) := t_lawS_ok stepsI (some O)
def joL (k c : Int) (P : List Bx) (L : List Stp) (Q : List Bx) (R : List Stp) : LoopF Unit where
  ts _ := [9, 10, 11, 14, 15, 16, 17]
  hs _ := [10, 20, 21, 22, 23]
  tv _ _ := [.pointer (some ⟨10, 0, none⟩), .int .i64 k, .int .i64 c, .slice (some ⟨20, 0, none⟩) P.length mk, .slice (some ⟨21, 0, none⟩) L.length mk, .slice (some ⟨22, 0, none⟩) Q.length mk, .slice (some ⟨23, 0, none⟩) R.length mk]
  hv _ _ := [.cells bxW.cs 31, .vec (eBox.row P) 31 10, .vec (eStp.row L) 23 3, .vec (eBox.row Q) 31 10, .vec (eStp.row R) 23 3]
  inv _ _ := True
  mu _ _ := 0
  nx := 24
theorem joL_ok (k c : Int) (P : List Bx) (L : List Stp) (Q : List Bx) (R : List Stp) : (joL k c P L Q R).OK 4 := by
  refine ⟨(by decide : 4 ≤ 24), fun z i h k hk => ?_, fun z i h v hv k hk => ?_, fun z i h x hx => ?_⟩
  · show k < 24
    simp [joL] at hk; omega
  · show k < 24
    simp [joL] at hv
    rcases hv with rfl | rfl | rfl | rfl | rfl | rfl | rfl <;> simp [nms, nm1, nm0] at hk <;> omega
  · simp [joL] at hx
    rcases hx with rfl | rfl | rfl | rfl | rfl
    · exact Blk.plain.namesLt (b := .cells _ _) (eBox.pl bxW) _
    · exact Blk.plain.namesLt (b := .vec _ _ _) (Elt.row_pl _) _
    · exact Blk.plain.namesLt (b := .vec _ _ _) (Elt.row_pl _) _
    · exact Blk.plain.namesLt (b := .vec _ _ _) (Elt.row_pl _) _
    · exact Blk.plain.namesLt (b := .vec _ _ _) (Elt.row_pl _) _
end Go.Proofs.Ytoeehjfblpmljaa.PrA

