/-
  No cell of these rows narrows 'for every input' (looked for: loops, veiled, ifaces, maps, wideKeys, modest, calm, conditions, laid).
  DERIVED. THE GIVEN ROWS OF THIS SEAT. 11 by the template 'for every input the law returns true; each argument reads behind the call as it read before'; 0 by the template 'total and deterministic' (their statements: YtdeedabhgfmgjaaTotals.lean).
  GIVEN WITH THE SEED: the statements are not yours to turn. If you find one false, say at which input.
  Laid BY PROGRAM, IN A SANDBOX (cutbox-rows.mjs): the forced cells as the released guide's own fill.sh prints them over the translation 73126e8acd69c252… (all of the seat's roots in one cut). By AI agents, Wed Nov 11 2026. No macro, syntax, notation, axiom, sorry.
-/
import Derived.Test.YtdeedabhgfmgjaaChecked
import GoSem.Claim
import GoSem.ClaimJoined
import GoSem.ClaimMapViews
import Derived.JoinedTies
import Derived.KernelRfl
namespace Go.Proofs.Ytdeedabhgfmgjaa
/- THE CELL 'sum', in the pinned program and in every row, IS THE sha256 OF THE DUMP (.gsa) THAT YtdeedabhgfmgjaaProg.lean LOADS. Nothing in Lean hashes anything: it is a label: what it is worth is what the hold of that sum in a sandbox is worth. -/
noncomputable def Try.pinned : Pinned := { name := "ytdeedabhgfmgjaa", sum := "73126e8acd69c25246e74626c97a1dc75cdb514e4d2020e050e6d5a73b99c02e", checked := Try.checked }
namespace Rows
def none {H : Type} : Left H := { results := [], args := [] }

/-- 'copselaw5.BoxRuns': WHATEVER THE INPUT: true; the input reads as it did. -/
def boxRunsSpec : ChangeSpec := { name := "boxRuns", fn := fun _ => fun
  | [] => { results := [.lit (.bool true)], args := [] }
  | _ => none }
def boxRunsRow : OpenClaim := { program := "ytdeedabhgfmgjaa", sum := "73126e8acd69c25246e74626c97a1dc75cdb514e4d2020e050e6d5a73b99c02e", func := "copse/copselaw5.BoxRuns", spec := "boxRuns", plainKeys := false, apart := false }
def BoxRunsSaid : Prop := boxRunsRow.holds Try.pinned (OpenSpec.ofChange boxRunsSpec)

/-- ITS FALSE NEIGHBOUR: 'it returns false'. Refute it at one input. -/
def boxRunsWrong : ChangeSpec := { name := "boxRuns", fn := fun _ => fun
  | [] => { results := [.lit (.bool false)], args := [] }
  | _ => none }
def BoxRunsWrongFalsely : Prop := boxRunsRow.holds Try.pinned (OpenSpec.ofChange boxRunsWrong)

/-- 'copselaw5.BoxWhole': WHATEVER THE INPUT: true; the input reads as it did. -/
def boxWholeSpec : ChangeSpec := { name := "boxWhole", fn := fun _ => fun
  | [d1, d2] => { results := [.lit (.bool true)], args := [d1, d2] }
  | _ => none }
def boxWholeRow : OpenClaim := { program := "ytdeedabhgfmgjaa", sum := "73126e8acd69c25246e74626c97a1dc75cdb514e4d2020e050e6d5a73b99c02e", func := "copse/copselaw5.BoxWhole", spec := "boxWhole", plainKeys := false, apart := false }
def BoxWholeSaid : Prop := boxWholeRow.holds Try.pinned (OpenSpec.ofChange boxWholeSpec)

/-- ITS FALSE NEIGHBOUR: 'it returns false'. Refute it at one input. -/
def boxWholeWrong : ChangeSpec := { name := "boxWhole", fn := fun _ => fun
  | [d1, d2] => { results := [.lit (.bool false)], args := [d1, d2] }
  | _ => none }
def BoxWholeWrongFalsely : Prop := boxWholeRow.holds Try.pinned (OpenSpec.ofChange boxWholeWrong)

/-- 'copselaw4.SpanRuns': WHATEVER THE INPUT: true; the input reads as it did. -/
def spanRunsSpec : ChangeSpec := { name := "spanRuns", fn := fun _ => fun
  | [] => { results := [.lit (.bool true)], args := [] }
  | _ => none }
def spanRunsRow : OpenClaim := { program := "ytdeedabhgfmgjaa", sum := "73126e8acd69c25246e74626c97a1dc75cdb514e4d2020e050e6d5a73b99c02e", func := "copse/copselaw4.SpanRuns", spec := "spanRuns", plainKeys := false, apart := false }
def SpanRunsSaid : Prop := spanRunsRow.holds Try.pinned (OpenSpec.ofChange spanRunsSpec)

/-- ITS FALSE NEIGHBOUR: 'it returns false'. Refute it at one input. -/
def spanRunsWrong : ChangeSpec := { name := "spanRuns", fn := fun _ => fun
  | [] => { results := [.lit (.bool false)], args := [] }
  | _ => none }
def SpanRunsWrongFalsely : Prop := spanRunsRow.holds Try.pinned (OpenSpec.ofChange spanRunsWrong)

/-- 'copselaw4.SpanSize': WHATEVER THE INPUT: true; the input reads as it did. -/
def spanSizeSpec : ChangeSpec := { name := "spanSize", fn := fun _ => fun
  | [d1, d2, d3] => { results := [.lit (.bool true)], args := [d1, d2, d3] }
  | _ => none }
def spanSizeRow : OpenClaim := { program := "ytdeedabhgfmgjaa", sum := "73126e8acd69c25246e74626c97a1dc75cdb514e4d2020e050e6d5a73b99c02e", func := "copse/copselaw4.SpanSize", spec := "spanSize", plainKeys := false, apart := false }
def SpanSizeSaid : Prop := spanSizeRow.holds Try.pinned (OpenSpec.ofChange spanSizeSpec)

/-- ITS FALSE NEIGHBOUR: 'it returns false'. Refute it at one input. -/
def spanSizeWrong : ChangeSpec := { name := "spanSize", fn := fun _ => fun
  | [d1, d2, d3] => { results := [.lit (.bool false)], args := [d1, d2, d3] }
  | _ => none }
def SpanSizeWrongFalsely : Prop := spanSizeRow.holds Try.pinned (OpenSpec.ofChange spanSizeWrong)

/-- 'copselaw5.BoxCuts': WHATEVER THE INPUT: true; the input reads as it did. -/
def boxCutsSpec : ChangeSpec := { name := "boxCuts", fn := fun _ => fun
  | [d1, d2, d3, d4, d5, d6, d7] => { results := [.lit (.bool true)], args := [d1, d2, d3, d4, d5, d6, d7] }
  | _ => none }
def boxCutsRow : OpenClaim := { program := "ytdeedabhgfmgjaa", sum := "73126e8acd69c25246e74626c97a1dc75cdb514e4d2020e050e6d5a73b99c02e", func := "copse/copselaw5.BoxCuts", spec := "boxCuts", plainKeys := false, apart := false }
def BoxCutsSaid : Prop := boxCutsRow.holds Try.pinned (OpenSpec.ofChange boxCutsSpec)

/-- ITS FALSE NEIGHBOUR: 'it returns false'. Refute it at one input. -/
def boxCutsWrong : ChangeSpec := { name := "boxCuts", fn := fun _ => fun
  | [d1, d2, d3, d4, d5, d6, d7] => { results := [.lit (.bool false)], args := [d1, d2, d3, d4, d5, d6, d7] }
  | _ => none }
def BoxCutsWrongFalsely : Prop := boxCutsRow.holds Try.pinned (OpenSpec.ofChange boxCutsWrong)

/-- 'copselaw4.SpanTwice': WHATEVER THE INPUT: true; the input reads as it did. -/
def spanTwiceSpec : ChangeSpec := { name := "spanTwice", fn := fun _ => fun
  | [d1, d2, d3] => { results := [.lit (.bool true)], args := [d1, d2, d3] }
  | _ => none }
def spanTwiceRow : OpenClaim := { program := "ytdeedabhgfmgjaa", sum := "73126e8acd69c25246e74626c97a1dc75cdb514e4d2020e050e6d5a73b99c02e", func := "copse/copselaw4.SpanTwice", spec := "spanTwice", plainKeys := false, apart := false }
def SpanTwiceSaid : Prop := spanTwiceRow.holds Try.pinned (OpenSpec.ofChange spanTwiceSpec)

/-- ITS FALSE NEIGHBOUR: 'it returns false'. Refute it at one input. -/
def spanTwiceWrong : ChangeSpec := { name := "spanTwice", fn := fun _ => fun
  | [d1, d2, d3] => { results := [.lit (.bool false)], args := [d1, d2, d3] }
  | _ => none }
def SpanTwiceWrongFalsely : Prop := spanTwiceRow.holds Try.pinned (OpenSpec.ofChange spanTwiceWrong)

/-- 'copselaw4.SpanParts': WHATEVER THE INPUT: true; the input reads as it did. -/
def spanPartsSpec : ChangeSpec := { name := "spanParts", fn := fun _ => fun
  | [d1, d2, d3] => { results := [.lit (.bool true)], args := [d1, d2, d3] }
  | _ => none }
def spanPartsRow : OpenClaim := { program := "ytdeedabhgfmgjaa", sum := "73126e8acd69c25246e74626c97a1dc75cdb514e4d2020e050e6d5a73b99c02e", func := "copse/copselaw4.SpanParts", spec := "spanParts", plainKeys := false, apart := false }
def SpanPartsSaid : Prop := spanPartsRow.holds Try.pinned (OpenSpec.ofChange spanPartsSpec)

/-- ITS FALSE NEIGHBOUR: 'it returns false'. Refute it at one input. -/
def spanPartsWrong : ChangeSpec := { name := "spanParts", fn := fun _ => fun
  | [d1, d2, d3] => { results := [.lit (.bool false)], args := [d1, d2, d3] }
  | _ => none }
def SpanPartsWrongFalsely : Prop := spanPartsRow.holds Try.pinned (OpenSpec.ofChange spanPartsWrong)

/-- 'copselaw4.SpanMeets': WHATEVER THE INPUT: true; the input reads as it did. -/
def spanMeetsSpec : ChangeSpec := { name := "spanMeets", fn := fun _ => fun
  | [d1, d2, d3, d4] => { results := [.lit (.bool true)], args := [d1, d2, d3, d4] }
  | _ => none }
def spanMeetsRow : OpenClaim := { program := "ytdeedabhgfmgjaa", sum := "73126e8acd69c25246e74626c97a1dc75cdb514e4d2020e050e6d5a73b99c02e", func := "copse/copselaw4.SpanMeets", spec := "spanMeets", plainKeys := false, apart := false }
def SpanMeetsSaid : Prop := spanMeetsRow.holds Try.pinned (OpenSpec.ofChange spanMeetsSpec)

/-- ITS FALSE NEIGHBOUR: 'it returns false'. Refute it at one input. -/
def spanMeetsWrong : ChangeSpec := { name := "spanMeets", fn := fun _ => fun
  | [d1, d2, d3, d4] => { results := [.lit (.bool false)], args := [d1, d2, d3, d4] }
  | _ => none }
def SpanMeetsWrongFalsely : Prop := spanMeetsRow.holds Try.pinned (OpenSpec.ofChange spanMeetsWrong)

/-- 'copselaw5.BoxParts': WHATEVER THE INPUT: true; the input reads as it did. -/
def boxPartsSpec : ChangeSpec := { name := "boxParts", fn := fun _ => fun
  | [d1, d2, d3, d4, d5] => { results := [.lit (.bool true)], args := [d1, d2, d3, d4, d5] }
  | _ => none }
def boxPartsRow : OpenClaim := { program := "ytdeedabhgfmgjaa", sum := "73126e8acd69c25246e74626c97a1dc75cdb514e4d2020e050e6d5a73b99c02e", func := "copse/copselaw5.BoxParts", spec := "boxParts", plainKeys := false, apart := false }
def BoxPartsSaid : Prop := boxPartsRow.holds Try.pinned (OpenSpec.ofChange boxPartsSpec)

/-- ITS FALSE NEIGHBOUR: 'it returns false'. Refute it at one input. -/
def boxPartsWrong : ChangeSpec := { name := "boxParts", fn := fun _ => fun
  | [d1, d2, d3, d4, d5] => { results := [.lit (.bool false)], args := [d1, d2, d3, d4, d5] }
  | _ => none }
def BoxPartsWrongFalsely : Prop := boxPartsRow.holds Try.pinned (OpenSpec.ofChange boxPartsWrong)

/-- 'copselaw5.BoxMeets': WHATEVER THE INPUT: true; the input reads as it did. -/
def boxMeetsSpec : ChangeSpec := { name := "boxMeets", fn := fun _ => fun
  | [d1, d2, d3, d4, d5] => { results := [.lit (.bool true)], args := [d1, d2, d3, d4, d5] }
  | _ => none }
def boxMeetsRow : OpenClaim := { program := "ytdeedabhgfmgjaa", sum := "73126e8acd69c25246e74626c97a1dc75cdb514e4d2020e050e6d5a73b99c02e", func := "copse/copselaw5.BoxMeets", spec := "boxMeets", plainKeys := false, apart := false }
def BoxMeetsSaid : Prop := boxMeetsRow.holds Try.pinned (OpenSpec.ofChange boxMeetsSpec)

/-- ITS FALSE NEIGHBOUR: 'it returns false'. Refute it at one input. -/
def boxMeetsWrong : ChangeSpec := { name := "boxMeets", fn := fun _ => fun
  | [d1, d2, d3, d4, d5] => { results := [.lit (.bool false)], args := [d1, d2, d3, d4, d5] }
  | _ => none }
def BoxMeetsWrongFalsely : Prop := boxMeetsRow.holds Try.pinned (OpenSpec.ofChange boxMeetsWrong)

/-- 'copselaw5.BoxSet': WHATEVER THE INPUT: true; the input reads as it did. -/
def boxSetSpec : ChangeSpec := { name := "boxSet", fn := fun _ => fun
  | [d1, d2] => { results := [.lit (.bool true)], args := [d1, d2] }
  | _ => none }
def boxSetRow : OpenClaim := { program := "ytdeedabhgfmgjaa", sum := "73126e8acd69c25246e74626c97a1dc75cdb514e4d2020e050e6d5a73b99c02e", func := "copse/copselaw5.BoxSet", spec := "boxSet", plainKeys := false, apart := false }
def BoxSetSaid : Prop := boxSetRow.holds Try.pinned (OpenSpec.ofChange boxSetSpec)

/-- ITS FALSE NEIGHBOUR: 'it returns false'. Refute it at one input. -/
def boxSetWrong : ChangeSpec := { name := "boxSet", fn := fun _ => fun
  | [d1, d2] => { results := [.lit (.bool false)], args := [d1, d2] }
  | _ => none }
def BoxSetWrongFalsely : Prop := boxSetRow.holds Try.pinned (OpenSpec.ofChange boxSetWrong)

/- THE SECOND FORM. 'bulk': how many values and letters a reading holds, each counted each time it is reached (what is shared counts as often as it is met; a slice's spare places count too). A statement '..UptoSaid' is the law's where the arguments, and the package variables that the reading takes, are together of bulk at most 1048576: NARROWER than '..Said'. Prove '..Said' where nothing that the law and all that it calls make is longer than what came in: it says more and counts as full. Else prove '..UptoSaid'. A law counts once. -/
mutual
def uptoBulk {H : Type} : DataW H → Nat
  | .lit (.string bytes) => bytes.length + 1
  | .lit _ => 1
  | .nil => 1
  | .ptr d => uptoBulk d + 1
  | .slice elems spare => uptoBulkAll elems + uptoBulkAll spare + 1
  | .agg parts => uptoBulkAll parts + 1
  | .iface _ d => uptoBulk d + 1
  | .map entries => uptoBulkEntries entries + 1
  | .held _ => 1
def uptoBulkAll {H : Type} : List (DataW H) → Nat
  | [] => 0
  | d :: r => uptoBulk d + uptoBulkAll r
def uptoBulkEntries {H : Type} : List (Lit × DataW H) → Nat
  | [] => 0
  | x :: r => uptoBulkEntry x + uptoBulkEntries r
def uptoBulkEntry {H : Type} : Lit × DataW H → Nat
  | (.string bytes, d) => bytes.length + uptoBulk d + 1
  | (_, d) => uptoBulk d + 1
 end
def uptoSmall : (H : Type) → List (DataW H) → Bool := fun _ ds => decide (uptoBulkAll ds ≤ 1048576)
def OpenSpec.upto (s : _root_.Go.ChangeSpec) : _root_.Go.OpenSpec := { _root_.Go.OpenSpec.ofChange s with cond := some uptoSmall }

/-- 'copselaw5.BoxRuns', WHERE WHAT IT READS IS OF BULK AT MOST 1048576: true; the input reads as it did. -/
def boxRunsUptoRow : OpenClaim := { program := "ytdeedabhgfmgjaa", sum := "73126e8acd69c25246e74626c97a1dc75cdb514e4d2020e050e6d5a73b99c02e", func := "copse/copselaw5.BoxRuns", spec := "boxRuns", plainKeys := false, apart := false, narrowed := true }
def BoxRunsUptoSaid : Prop := boxRunsUptoRow.holds Try.pinned (OpenSpec.upto boxRunsSpec)

/-- 'copselaw5.BoxWhole', WHERE WHAT IT READS IS OF BULK AT MOST 1048576: true; the input reads as it did. -/
def boxWholeUptoRow : OpenClaim := { program := "ytdeedabhgfmgjaa", sum := "73126e8acd69c25246e74626c97a1dc75cdb514e4d2020e050e6d5a73b99c02e", func := "copse/copselaw5.BoxWhole", spec := "boxWhole", plainKeys := false, apart := false, narrowed := true }
def BoxWholeUptoSaid : Prop := boxWholeUptoRow.holds Try.pinned (OpenSpec.upto boxWholeSpec)

/-- 'copselaw4.SpanRuns', WHERE WHAT IT READS IS OF BULK AT MOST 1048576: true; the input reads as it did. -/
def spanRunsUptoRow : OpenClaim := { program := "ytdeedabhgfmgjaa", sum := "73126e8acd69c25246e74626c97a1dc75cdb514e4d2020e050e6d5a73b99c02e", func := "copse/copselaw4.SpanRuns", spec := "spanRuns", plainKeys := false, apart := false, narrowed := true }
def SpanRunsUptoSaid : Prop := spanRunsUptoRow.holds Try.pinned (OpenSpec.upto spanRunsSpec)

/-- 'copselaw4.SpanSize', WHERE WHAT IT READS IS OF BULK AT MOST 1048576: true; the input reads as it did. -/
def spanSizeUptoRow : OpenClaim := { program := "ytdeedabhgfmgjaa", sum := "73126e8acd69c25246e74626c97a1dc75cdb514e4d2020e050e6d5a73b99c02e", func := "copse/copselaw4.SpanSize", spec := "spanSize", plainKeys := false, apart := false, narrowed := true }
def SpanSizeUptoSaid : Prop := spanSizeUptoRow.holds Try.pinned (OpenSpec.upto spanSizeSpec)

/-- 'copselaw5.BoxCuts', WHERE WHAT IT READS IS OF BULK AT MOST 1048576: true; the input reads as it did. -/
def boxCutsUptoRow : OpenClaim := { program := "ytdeedabhgfmgjaa", sum := "73126e8acd69c25246e74626c97a1dc75cdb514e4d2020e050e6d5a73b99c02e", func := "copse/copselaw5.BoxCuts", spec := "boxCuts", plainKeys := false, apart := false, narrowed := true }
def BoxCutsUptoSaid : Prop := boxCutsUptoRow.holds Try.pinned (OpenSpec.upto boxCutsSpec)

/-- 'copselaw4.SpanTwice', WHERE WHAT IT READS IS OF BULK AT MOST 1048576: true; the input reads as it did. -/
def spanTwiceUptoRow : OpenClaim := { program := "ytdeedabhgfmgjaa", sum := "73126e8acd69c25246e74626c97a1dc75cdb514e4d2020e050e6d5a73b99c02e", func := "copse/copselaw4.SpanTwice", spec := "spanTwice", plainKeys := false, apart := false, narrowed := true }
def SpanTwiceUptoSaid : Prop := spanTwiceUptoRow.holds Try.pinned (OpenSpec.upto spanTwiceSpec)

/-- 'copselaw4.SpanParts', WHERE WHAT IT READS IS OF BULK AT MOST 1048576: true; the input reads as it did. -/
def spanPartsUptoRow : OpenClaim := { program := "ytdeedabhgfmgjaa", sum := "73126e8acd69c25246e74626c97a1dc75cdb514e4d2020e050e6d5a73b99c02e", func := "copse/copselaw4.SpanParts", spec := "spanParts", plainKeys := false, apart := false, narrowed := true }
def SpanPartsUptoSaid : Prop := spanPartsUptoRow.holds Try.pinned (OpenSpec.upto spanPartsSpec)

/-- 'copselaw4.SpanMeets', WHERE WHAT IT READS IS OF BULK AT MOST 1048576: true; the input reads as it did. -/
def spanMeetsUptoRow : OpenClaim := { program := "ytdeedabhgfmgjaa", sum := "73126e8acd69c25246e74626c97a1dc75cdb514e4d2020e050e6d5a73b99c02e", func := "copse/copselaw4.SpanMeets", spec := "spanMeets", plainKeys := false, apart := false, narrowed := true }
def SpanMeetsUptoSaid : Prop := spanMeetsUptoRow.holds Try.pinned (OpenSpec.upto spanMeetsSpec)

/-- 'copselaw5.BoxParts', WHERE WHAT IT READS IS OF BULK AT MOST 1048576: true; the input reads as it did. -/
def boxPartsUptoRow : OpenClaim := { program := "ytdeedabhgfmgjaa", sum := "73126e8acd69c25246e74626c97a1dc75cdb514e4d2020e050e6d5a73b99c02e", func := "copse/copselaw5.BoxParts", spec := "boxParts", plainKeys := false, apart := false, narrowed := true }
def BoxPartsUptoSaid : Prop := boxPartsUptoRow.holds Try.pinned (OpenSpec.upto boxPartsSpec)

/-- 'copselaw5.BoxMeets', WHERE WHAT IT READS IS OF BULK AT MOST 1048576: true; the input reads as it did. -/
def boxMeetsUptoRow : OpenClaim := { program := "ytdeedabhgfmgjaa", sum := "73126e8acd69c25246e74626c97a1dc75cdb514e4d2020e050e6d5a73b99c02e", func := "copse/copselaw5.BoxMeets", spec := "boxMeets", plainKeys := false, apart := false, narrowed := true }
def BoxMeetsUptoSaid : Prop := boxMeetsUptoRow.holds Try.pinned (OpenSpec.upto boxMeetsSpec)

/-- 'copselaw5.BoxSet', WHERE WHAT IT READS IS OF BULK AT MOST 1048576: true; the input reads as it did. -/
def boxSetUptoRow : OpenClaim := { program := "ytdeedabhgfmgjaa", sum := "73126e8acd69c25246e74626c97a1dc75cdb514e4d2020e050e6d5a73b99c02e", func := "copse/copselaw5.BoxSet", spec := "boxSet", plainKeys := false, apart := false, narrowed := true }
def BoxSetUptoSaid : Prop := boxSetUptoRow.holds Try.pinned (OpenSpec.upto boxSetSpec)

end Rows
end Go.Proofs.Ytdeedabhgfmgjaa
