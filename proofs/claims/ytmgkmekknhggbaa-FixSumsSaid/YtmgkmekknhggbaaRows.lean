/-
  No cell of these rows narrows 'for every input' (looked for: loops, veiled, ifaces, maps, wideKeys, modest, calm, conditions, laid).
  DERIVED. THE GIVEN ROWS OF THIS SEAT. 11 by the template 'for every input the law returns true; each argument reads behind the call as it read before'; 0 by the template 'total and deterministic' (their statements: YtmgkmekknhggbaaTotals.lean).
  GIVEN WITH THE SEED: the statements are not yours to turn. If you find one false, say at which input.
  Laid BY PROGRAM, IN A SANDBOX (cutbox-rows.mjs): the forced cells as the released guide's own fill.sh prints them over the translation ba2f6c2dc5c0bfab… (all of the seat's roots in one cut). By AI agents, Wed Nov 11 2026. No macro, syntax, notation, axiom, sorry.
-/
import Derived.Test.YtmgkmekknhggbaaChecked
import GoSem.Claim
import GoSem.ClaimJoined
import GoSem.ClaimMapViews
import Derived.JoinedTies
import Derived.KernelRfl
namespace Go.Proofs.Ytmgkmekknhggbaa
/- THE CELL 'sum', in the pinned program and in every row, IS THE sha256 OF THE DUMP (.gsa) THAT YtmgkmekknhggbaaProg.lean LOADS. Nothing in Lean hashes anything: it is a label: what it is worth is what the hold of that sum in a sandbox is worth. -/
noncomputable def Try.pinned : Pinned := { name := "ytmgkmekknhggbaa", sum := "ba2f6c2dc5c0bfabc7fcf177faeeaa23324ca32d4ba1cf8cc5287efdac490368", checked := Try.checked }
namespace Rows
def none {H : Type} : Left H := { results := [], args := [] }

/-- 'copselaw2.FixRuns': WHATEVER THE INPUT: true; the input reads as it did. -/
def fixRunsSpec : ChangeSpec := { name := "fixRuns", fn := fun _ => fun
  | [] => { results := [.lit (.bool true)], args := [] }
  | _ => none }
def fixRunsRow : OpenClaim := { program := "ytmgkmekknhggbaa", sum := "ba2f6c2dc5c0bfabc7fcf177faeeaa23324ca32d4ba1cf8cc5287efdac490368", func := "copse/copselaw2.FixRuns", spec := "fixRuns", apart := false }
def FixRunsSaid : Prop := fixRunsRow.holds Try.pinned (OpenSpec.ofChange fixRunsSpec)

/-- ITS FALSE NEIGHBOUR: 'it returns false'. Refute it at one input. -/
def fixRunsWrong : ChangeSpec := { name := "fixRuns", fn := fun _ => fun
  | [] => { results := [.lit (.bool false)], args := [] }
  | _ => none }
def FixRunsWrongFalsely : Prop := fixRunsRow.holds Try.pinned (OpenSpec.ofChange fixRunsWrong)

/-- 'copselaw2.FixShifts': WHATEVER THE INPUT: true; the input reads as it did. -/
def fixShiftsSpec : ChangeSpec := { name := "fixShifts", fn := fun _ => fun
  | [d1, d2] => { results := [.lit (.bool true)], args := [d1, d2] }
  | _ => none }
def fixShiftsRow : OpenClaim := { program := "ytmgkmekknhggbaa", sum := "ba2f6c2dc5c0bfabc7fcf177faeeaa23324ca32d4ba1cf8cc5287efdac490368", func := "copse/copselaw2.FixShifts", spec := "fixShifts", apart := false }
def FixShiftsSaid : Prop := fixShiftsRow.holds Try.pinned (OpenSpec.ofChange fixShiftsSpec)

/-- ITS FALSE NEIGHBOUR: 'it returns false'. Refute it at one input. -/
def fixShiftsWrong : ChangeSpec := { name := "fixShifts", fn := fun _ => fun
  | [d1, d2] => { results := [.lit (.bool false)], args := [d1, d2] }
  | _ => none }
def FixShiftsWrongFalsely : Prop := fixShiftsRow.holds Try.pinned (OpenSpec.ofChange fixShiftsWrong)

/-- 'copselaw1.BitsRuns': WHATEVER THE INPUT: true; the input reads as it did. -/
def bitsRunsSpec : ChangeSpec := { name := "bitsRuns", fn := fun _ => fun
  | [] => { results := [.lit (.bool true)], args := [] }
  | _ => none }
def bitsRunsRow : OpenClaim := { program := "ytmgkmekknhggbaa", sum := "ba2f6c2dc5c0bfabc7fcf177faeeaa23324ca32d4ba1cf8cc5287efdac490368", func := "copse/copselaw1.BitsRuns", spec := "bitsRuns", apart := false }
def BitsRunsSaid : Prop := bitsRunsRow.holds Try.pinned (OpenSpec.ofChange bitsRunsSpec)

/-- ITS FALSE NEIGHBOUR: 'it returns false'. Refute it at one input. -/
def bitsRunsWrong : ChangeSpec := { name := "bitsRuns", fn := fun _ => fun
  | [] => { results := [.lit (.bool false)], args := [] }
  | _ => none }
def BitsRunsWrongFalsely : Prop := bitsRunsRow.holds Try.pinned (OpenSpec.ofChange bitsRunsWrong)

/-- 'copselaw1.BitsFields': WHATEVER THE INPUT: true; the input reads as it did. -/
def bitsFieldsSpec : ChangeSpec := { name := "bitsFields", fn := fun _ => fun
  | [d1, d2, d3, d4, d5, d6] => { results := [.lit (.bool true)], args := [d1, d2, d3, d4, d5, d6] }
  | _ => none }
def bitsFieldsRow : OpenClaim := { program := "ytmgkmekknhggbaa", sum := "ba2f6c2dc5c0bfabc7fcf177faeeaa23324ca32d4ba1cf8cc5287efdac490368", func := "copse/copselaw1.BitsFields", spec := "bitsFields", apart := false }
def BitsFieldsSaid : Prop := bitsFieldsRow.holds Try.pinned (OpenSpec.ofChange bitsFieldsSpec)

/-- ITS FALSE NEIGHBOUR: 'it returns false'. Refute it at one input. -/
def bitsFieldsWrong : ChangeSpec := { name := "bitsFields", fn := fun _ => fun
  | [d1, d2, d3, d4, d5, d6] => { results := [.lit (.bool false)], args := [d1, d2, d3, d4, d5, d6] }
  | _ => none }
def BitsFieldsWrongFalsely : Prop := bitsFieldsRow.holds Try.pinned (OpenSpec.ofChange bitsFieldsWrong)

/-- 'copselaw1.BitsNearest': WHATEVER THE INPUT: true; the input reads as it did. -/
def bitsNearestSpec : ChangeSpec := { name := "bitsNearest", fn := fun _ => fun
  | [d1, d2] => { results := [.lit (.bool true)], args := [d1, d2] }
  | _ => none }
def bitsNearestRow : OpenClaim := { program := "ytmgkmekknhggbaa", sum := "ba2f6c2dc5c0bfabc7fcf177faeeaa23324ca32d4ba1cf8cc5287efdac490368", func := "copse/copselaw1.BitsNearest", spec := "bitsNearest", apart := false }
def BitsNearestSaid : Prop := bitsNearestRow.holds Try.pinned (OpenSpec.ofChange bitsNearestSpec)

/-- ITS FALSE NEIGHBOUR: 'it returns false'. Refute it at one input. -/
def bitsNearestWrong : ChangeSpec := { name := "bitsNearest", fn := fun _ => fun
  | [d1, d2] => { results := [.lit (.bool false)], args := [d1, d2] }
  | _ => none }
def BitsNearestWrongFalsely : Prop := bitsNearestRow.holds Try.pinned (OpenSpec.ofChange bitsNearestWrong)

/-- 'copselaw1.BitsSpread': WHATEVER THE INPUT: true; the input reads as it did. -/
def bitsSpreadSpec : ChangeSpec := { name := "bitsSpread", fn := fun _ => fun
  | [d1, d2, d3] => { results := [.lit (.bool true)], args := [d1, d2, d3] }
  | _ => none }
def bitsSpreadRow : OpenClaim := { program := "ytmgkmekknhggbaa", sum := "ba2f6c2dc5c0bfabc7fcf177faeeaa23324ca32d4ba1cf8cc5287efdac490368", func := "copse/copselaw1.BitsSpread", spec := "bitsSpread", apart := false }
def BitsSpreadSaid : Prop := bitsSpreadRow.holds Try.pinned (OpenSpec.ofChange bitsSpreadSpec)

/-- ITS FALSE NEIGHBOUR: 'it returns false'. Refute it at one input. -/
def bitsSpreadWrong : ChangeSpec := { name := "bitsSpread", fn := fun _ => fun
  | [d1, d2, d3] => { results := [.lit (.bool false)], args := [d1, d2, d3] }
  | _ => none }
def BitsSpreadWrongFalsely : Prop := bitsSpreadRow.holds Try.pinned (OpenSpec.ofChange bitsSpreadWrong)

/-- 'copselaw2.FixTells': WHATEVER THE INPUT: true; the input reads as it did. -/
def fixTellsSpec : ChangeSpec := { name := "fixTells", fn := fun _ => fun
  | [d1, d2, d3] => { results := [.lit (.bool true)], args := [d1, d2, d3] }
  | _ => none }
def fixTellsRow : OpenClaim := { program := "ytmgkmekknhggbaa", sum := "ba2f6c2dc5c0bfabc7fcf177faeeaa23324ca32d4ba1cf8cc5287efdac490368", func := "copse/copselaw2.FixTells", spec := "fixTells", apart := false }
def FixTellsSaid : Prop := fixTellsRow.holds Try.pinned (OpenSpec.ofChange fixTellsSpec)

/-- ITS FALSE NEIGHBOUR: 'it returns false'. Refute it at one input. -/
def fixTellsWrong : ChangeSpec := { name := "fixTells", fn := fun _ => fun
  | [d1, d2, d3] => { results := [.lit (.bool false)], args := [d1, d2, d3] }
  | _ => none }
def FixTellsWrongFalsely : Prop := fixTellsRow.holds Try.pinned (OpenSpec.ofChange fixTellsWrong)

/-- 'copselaw2.FixSums': WHATEVER THE INPUT: true; the input reads as it did. -/
def fixSumsSpec : ChangeSpec := { name := "fixSums", fn := fun _ => fun
  | [d1, d2, d3, d4] => { results := [.lit (.bool true)], args := [d1, d2, d3, d4] }
  | _ => none }
def fixSumsRow : OpenClaim := { program := "ytmgkmekknhggbaa", sum := "ba2f6c2dc5c0bfabc7fcf177faeeaa23324ca32d4ba1cf8cc5287efdac490368", func := "copse/copselaw2.FixSums", spec := "fixSums", apart := false }
def FixSumsSaid : Prop := fixSumsRow.holds Try.pinned (OpenSpec.ofChange fixSumsSpec)

/-- ITS FALSE NEIGHBOUR: 'it returns false'. Refute it at one input. -/
def fixSumsWrong : ChangeSpec := { name := "fixSums", fn := fun _ => fun
  | [d1, d2, d3, d4] => { results := [.lit (.bool false)], args := [d1, d2, d3, d4] }
  | _ => none }
def FixSumsWrongFalsely : Prop := fixSumsRow.holds Try.pinned (OpenSpec.ofChange fixSumsWrong)

/-- 'copselaw2.FixOrder': WHATEVER THE INPUT: true; the input reads as it did. -/
def fixOrderSpec : ChangeSpec := { name := "fixOrder", fn := fun _ => fun
  | [d1, d2, d3] => { results := [.lit (.bool true)], args := [d1, d2, d3] }
  | _ => none }
def fixOrderRow : OpenClaim := { program := "ytmgkmekknhggbaa", sum := "ba2f6c2dc5c0bfabc7fcf177faeeaa23324ca32d4ba1cf8cc5287efdac490368", func := "copse/copselaw2.FixOrder", spec := "fixOrder", apart := false }
def FixOrderSaid : Prop := fixOrderRow.holds Try.pinned (OpenSpec.ofChange fixOrderSpec)

/-- ITS FALSE NEIGHBOUR: 'it returns false'. Refute it at one input. -/
def fixOrderWrong : ChangeSpec := { name := "fixOrder", fn := fun _ => fun
  | [d1, d2, d3] => { results := [.lit (.bool false)], args := [d1, d2, d3] }
  | _ => none }
def FixOrderWrongFalsely : Prop := fixOrderRow.holds Try.pinned (OpenSpec.ofChange fixOrderWrong)

/-- 'copselaw1.BitsTells': WHATEVER THE INPUT: true; the input reads as it did. -/
def bitsTellsSpec : ChangeSpec := { name := "bitsTells", fn := fun _ => fun
  | [d1, d2, d3, d4, d5, d6] => { results := [.lit (.bool true)], args := [d1, d2, d3, d4, d5, d6] }
  | _ => none }
def bitsTellsRow : OpenClaim := { program := "ytmgkmekknhggbaa", sum := "ba2f6c2dc5c0bfabc7fcf177faeeaa23324ca32d4ba1cf8cc5287efdac490368", func := "copse/copselaw1.BitsTells", spec := "bitsTells", apart := false }
def BitsTellsSaid : Prop := bitsTellsRow.holds Try.pinned (OpenSpec.ofChange bitsTellsSpec)

/-- ITS FALSE NEIGHBOUR: 'it returns false'. Refute it at one input. -/
def bitsTellsWrong : ChangeSpec := { name := "bitsTells", fn := fun _ => fun
  | [d1, d2, d3, d4, d5, d6] => { results := [.lit (.bool false)], args := [d1, d2, d3, d4, d5, d6] }
  | _ => none }
def BitsTellsWrongFalsely : Prop := bitsTellsRow.holds Try.pinned (OpenSpec.ofChange bitsTellsWrong)

/-- 'copselaw1.BitsWraps': WHATEVER THE INPUT: true; the input reads as it did. -/
def bitsWrapsSpec : ChangeSpec := { name := "bitsWraps", fn := fun _ => fun
  | [d1, d2, d3] => { results := [.lit (.bool true)], args := [d1, d2, d3] }
  | _ => none }
def bitsWrapsRow : OpenClaim := { program := "ytmgkmekknhggbaa", sum := "ba2f6c2dc5c0bfabc7fcf177faeeaa23324ca32d4ba1cf8cc5287efdac490368", func := "copse/copselaw1.BitsWraps", spec := "bitsWraps", apart := false }
def BitsWrapsSaid : Prop := bitsWrapsRow.holds Try.pinned (OpenSpec.ofChange bitsWrapsSpec)

/-- ITS FALSE NEIGHBOUR: 'it returns false'. Refute it at one input. -/
def bitsWrapsWrong : ChangeSpec := { name := "bitsWraps", fn := fun _ => fun
  | [d1, d2, d3] => { results := [.lit (.bool false)], args := [d1, d2, d3] }
  | _ => none }
def BitsWrapsWrongFalsely : Prop := bitsWrapsRow.holds Try.pinned (OpenSpec.ofChange bitsWrapsWrong)

/- THE SECOND FORM. 'bulk': how many values and letters a reading holds, each counted each time it is reached (what is shared counts as often as it is met; a slice's spare places count too). A statement '..UptoSaid' is the law's where the arguments, and the package variables that the reading takes, are together of bulk at most 1048576: NARROWER than '..Said'. Prove '..Said' where nothing that the law and all that it calls make is longer than what came in: it says more and counts as full. Else prove '..UptoSaid'. A law counts once. -/
mutual
def uptoBulk {H : Type} : DataW H → Nat
  | .lit (.string bytes) => bytes.length + 1
  | .lit _ => 1
  | .nil => 1
  | .ptr d => uptoBulk d + 1
  | .slice elems spare => uptoBulkAll elems + uptoBulkAll spare + 1
  | .agg parts => uptoBulkAll parts + 1
  | .iface _ d => uptoBulk d + 1
  | .map entries => uptoBulkEntries entries + 1
  | .held _ => 1
def uptoBulkAll {H : Type} : List (DataW H) → Nat
  | [] => 0
  | d :: r => uptoBulk d + uptoBulkAll r
def uptoBulkEntries {H : Type} : List (Lit × DataW H) → Nat
  | [] => 0
  | x :: r => uptoBulkEntry x + uptoBulkEntries r
def uptoBulkEntry {H : Type} : Lit × DataW H → Nat
  | (.string bytes, d) => bytes.length + uptoBulk d + 1
  | (_, d) => uptoBulk d + 1
 end
def uptoSmall : (H : Type) → List (DataW H) → Bool := fun _ ds => decide (uptoBulkAll ds ≤ 1048576)
def OpenSpec.upto (s : _root_.Go.ChangeSpec) : _root_.Go.OpenSpec := { _root_.Go.OpenSpec.ofChange s with cond := some uptoSmall }

/-- 'copselaw2.FixRuns', WHERE WHAT IT READS IS OF BULK AT MOST 1048576: true; the input reads as it did. -/
def fixRunsUptoRow : OpenClaim := { program := "ytmgkmekknhggbaa", sum := "ba2f6c2dc5c0bfabc7fcf177faeeaa23324ca32d4ba1cf8cc5287efdac490368", func := "copse/copselaw2.FixRuns", spec := "fixRuns", apart := false, narrowed := true }
def FixRunsUptoSaid : Prop := fixRunsUptoRow.holds Try.pinned (OpenSpec.upto fixRunsSpec)

/-- 'copselaw2.FixShifts', WHERE WHAT IT READS IS OF BULK AT MOST 1048576: true; the input reads as it did. -/
def fixShiftsUptoRow : OpenClaim := { program := "ytmgkmekknhggbaa", sum := "ba2f6c2dc5c0bfabc7fcf177faeeaa23324ca32d4ba1cf8cc5287efdac490368", func := "copse/copselaw2.FixShifts", spec := "fixShifts", apart := false, narrowed := true }
def FixShiftsUptoSaid : Prop := fixShiftsUptoRow.holds Try.pinned (OpenSpec.upto fixShiftsSpec)

/-- 'copselaw1.BitsRuns', WHERE WHAT IT READS IS OF BULK AT MOST 1048576: true; the input reads as it did. -/
def bitsRunsUptoRow : OpenClaim := { program := "ytmgkmekknhggbaa", sum := "ba2f6c2dc5c0bfabc7fcf177faeeaa23324ca32d4ba1cf8cc5287efdac490368", func := "copse/copselaw1.BitsRuns", spec := "bitsRuns", apart := false, narrowed := true }
def BitsRunsUptoSaid : Prop := bitsRunsUptoRow.holds Try.pinned (OpenSpec.upto bitsRunsSpec)

/-- 'copselaw1.BitsFields', WHERE WHAT IT READS IS OF BULK AT MOST 1048576: true; the input reads as it did. -/
def bitsFieldsUptoRow : OpenClaim := { program := "ytmgkmekknhggbaa", sum := "ba2f6c2dc5c0bfabc7fcf177faeeaa23324ca32d4ba1cf8cc5287efdac490368", func := "copse/copselaw1.BitsFields", spec := "bitsFields", apart := false, narrowed := true }
def BitsFieldsUptoSaid : Prop := bitsFieldsUptoRow.holds Try.pinned (OpenSpec.upto bitsFieldsSpec)

/-- 'copselaw1.BitsNearest', WHERE WHAT IT READS IS OF BULK AT MOST 1048576: true; the input reads as it did. -/
def bitsNearestUptoRow : OpenClaim := { program := "ytmgkmekknhggbaa", sum := "ba2f6c2dc5c0bfabc7fcf177faeeaa23324ca32d4ba1cf8cc5287efdac490368", func := "copse/copselaw1.BitsNearest", spec := "bitsNearest", apart := false, narrowed := true }
def BitsNearestUptoSaid : Prop := bitsNearestUptoRow.holds Try.pinned (OpenSpec.upto bitsNearestSpec)

/-- 'copselaw1.BitsSpread', WHERE WHAT IT READS IS OF BULK AT MOST 1048576: true; the input reads as it did. -/
def bitsSpreadUptoRow : OpenClaim := { program := "ytmgkmekknhggbaa", sum := "ba2f6c2dc5c0bfabc7fcf177faeeaa23324ca32d4ba1cf8cc5287efdac490368", func := "copse/copselaw1.BitsSpread", spec := "bitsSpread", apart := false, narrowed := true }
def BitsSpreadUptoSaid : Prop := bitsSpreadUptoRow.holds Try.pinned (OpenSpec.upto bitsSpreadSpec)

/-- 'copselaw2.FixTells', WHERE WHAT IT READS IS OF BULK AT MOST 1048576: true; the input reads as it did. -/
def fixTellsUptoRow : OpenClaim := { program := "ytmgkmekknhggbaa", sum := "ba2f6c2dc5c0bfabc7fcf177faeeaa23324ca32d4ba1cf8cc5287efdac490368", func := "copse/copselaw2.FixTells", spec := "fixTells", apart := false, narrowed := true }
def FixTellsUptoSaid : Prop := fixTellsUptoRow.holds Try.pinned (OpenSpec.upto fixTellsSpec)

/-- 'copselaw2.FixSums', WHERE WHAT IT READS IS OF BULK AT MOST 1048576: true; the input reads as it did. -/
def fixSumsUptoRow : OpenClaim := { program := "ytmgkmekknhggbaa", sum := "ba2f6c2dc5c0bfabc7fcf177faeeaa23324ca32d4ba1cf8cc5287efdac490368", func := "copse/copselaw2.FixSums", spec := "fixSums", apart := false, narrowed := true }
def FixSumsUptoSaid : Prop := fixSumsUptoRow.holds Try.pinned (OpenSpec.upto fixSumsSpec)

/-- 'copselaw2.FixOrder', WHERE WHAT IT READS IS OF BULK AT MOST 1048576: true; the input reads as it did. -/
def fixOrderUptoRow : OpenClaim := { program := "ytmgkmekknhggbaa", sum := "ba2f6c2dc5c0bfabc7fcf177faeeaa23324ca32d4ba1cf8cc5287efdac490368", func := "copse/copselaw2.FixOrder", spec := "fixOrder", apart := false, narrowed := true }
def FixOrderUptoSaid : Prop := fixOrderUptoRow.holds Try.pinned (OpenSpec.upto fixOrderSpec)

/-- 'copselaw1.BitsTells', WHERE WHAT IT READS IS OF BULK AT MOST 1048576: true; the input reads as it did. -/
def bitsTellsUptoRow : OpenClaim := { program := "ytmgkmekknhggbaa", sum := "ba2f6c2dc5c0bfabc7fcf177faeeaa23324ca32d4ba1cf8cc5287efdac490368", func := "copse/copselaw1.BitsTells", spec := "bitsTells", apart := false, narrowed := true }
def BitsTellsUptoSaid : Prop := bitsTellsUptoRow.holds Try.pinned (OpenSpec.upto bitsTellsSpec)

/-- 'copselaw1.BitsWraps', WHERE WHAT IT READS IS OF BULK AT MOST 1048576: true; the input reads as it did. -/
def bitsWrapsUptoRow : OpenClaim := { program := "ytmgkmekknhggbaa", sum := "ba2f6c2dc5c0bfabc7fcf177faeeaa23324ca32d4ba1cf8cc5287efdac490368", func := "copse/copselaw1.BitsWraps", spec := "bitsWraps", apart := false, narrowed := true }
def BitsWrapsUptoSaid : Prop := bitsWrapsUptoRow.holds Try.pinned (OpenSpec.upto bitsWrapsSpec)

end Rows
end Go.Proofs.Ytmgkmekknhggbaa
