/-
  The walk of the law copselaw1.BitsSpread: the printed walk over the pure statement. No condition beside the reach.
-/
import Derived.Test.YtmgkmekknhggbaaPureBitsSpread
import Derived.Test.YtmgkmekknhggbaaRowLib
namespace Go.Proofs.Ytmgkmekknhggbaa.WkBitsSpread
open Go Go.RowKit Go.Proofs.YtmgkmekknhggbaaW.PrintWords Go.Proofs.YtmgkmekknhggbaaW.PrintLast
theorem walk (w : World) (a0 : Option Addr) (n0 c0 : Nat) (l0 : List Int) (h0 : ReadsInts w a0 n0 c0 l0) (w0 : ∀ x ∈ l0, (Lit.int .i64 x).wf = true) (y0 : n0 * 8 ≤ 140737488351232) (a1 : Option Addr) (n1 c1 : Nat) (l1 : List Int) (h1 : ReadsInts w a1 n1 c1 l1) (w1 : ∀ x ∈ l1, (Lit.int .i64 x).wf = true) (y1 : n1 * 8 ≤ 140737488351232) (b : Bool) :
    Calls Try.prog 8 #[.slice a0 n0 c0, .slice a1 n1 c1, .bool b] w fun e w' => e = .returned (.bool true) ∧ Below w.heap.size w w' := by
  obtain ⟨⟨rfl, hm0, hr0⟩, hc0⟩ := h0
  obtain ⟨⟨rfl, hm1, hr1⟩, hc1⟩ := h1
  obtain ⟨k, h⟩ := Pure.BitsSpread l0 l1 b (by unfold maxLen; omega) y0 w0 (by unfold maxLen; omega) y1 w1
  refine (PBitsSpread.copselaw1_BitsSpread.calls k _ _ l0 _ _ l1 b true w (Kd.C_of_reads (d := (0 : Int)) (h1 := fun _ => rfl) ⟨rfl, hm0, hr0⟩) hc0 (Kd.C_of_reads (d := (0 : Int)) (h1 := fun _ => rfl) ⟨rfl, hm1, hr1⟩) hc1 h).mono ?_
  rintro e w' ⟨rfl, hd⟩
  exact ⟨rfl, hd⟩
end Go.Proofs.Ytmgkmekknhggbaa.WkBitsSpread
