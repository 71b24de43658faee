/-
  No cell of these rows narrows 'for every input' (looked for: loops, veiled, ifaces, maps, wideKeys, modest, calm, conditions, laid).
  DERIVED. THE GIVEN ROWS OF THIS SEAT. 5 by the template 'for every input the law returns true; each argument reads behind the call as it read before'; 0 by the template 'total and deterministic' (their statements: YtoeehjfblpmljaaTotals.lean).
  GIVEN WITH THE SEED: the statements are not yours to turn. If you find one false, say at which input.
  Laid BY PROGRAM, IN A SANDBOX (cutbox-rows.mjs): the forced cells as the released guide's own fill.sh prints them over the translation 58dd539042f04d21… (all of the seat's roots in one cut). By AI agents, Wed Nov 11 2026. No macro, syntax, notation, axiom, sorry.
-/
import Derived.Test.YtoeehjfblpmljaaChecked
import GoSem.Claim
import GoSem.ClaimJoined
import GoSem.ClaimMapViews
import Derived.JoinedTies
import Derived.KernelRfl
namespace Go.Proofs.Ytoeehjfblpmljaa
/- THE CELL 'sum', in the pinned program and in every row, IS THE sha256 OF THE DUMP (.gsa) THAT YtoeehjfblpmljaaProg.lean LOADS. Nothing in Lean hashes anything: it is a label: what it is worth is what the hold of that sum in a sandbox is worth. -/
noncomputable def Try.pinned : Pinned := { name := "ytoeehjfblpmljaa", sum := "58dd539042f04d2102b64e9a462c9675846f7f0ce9c91d4c138f45b6ef081a5f", checked := Try.checked }
namespace Rows
def none {H : Type} : Left H := { results := [], args := [] }

/-- 'copselaw19.ProofRuns': WHATEVER THE INPUT: true; the input reads as it did. -/
def proofRunsSpec : ChangeSpec := { name := "proofRuns", fn := fun _ => fun
  | [] => { results := [.lit (.bool true)], args := [] }
  | _ => none }
def proofRunsRow : OpenClaim := { program := "ytoeehjfblpmljaa", sum := "58dd539042f04d2102b64e9a462c9675846f7f0ce9c91d4c138f45b6ef081a5f", func := "copse/copselaw19.ProofRuns", spec := "proofRuns", apart := false }
def ProofRunsSaid : Prop := proofRunsRow.holds Try.pinned (OpenSpec.ofChange proofRunsSpec)

/-- ITS FALSE NEIGHBOUR: 'it returns false'. Refute it at one input. -/
def proofRunsWrong : ChangeSpec := { name := "proofRuns", fn := fun _ => fun
  | [] => { results := [.lit (.bool false)], args := [] }
  | _ => none }
def ProofRunsWrongFalsely : Prop := proofRunsRow.holds Try.pinned (OpenSpec.ofChange proofRunsWrong)

/-- 'copselaw19.ProofTells': WHATEVER THE INPUT: true; the input reads as it did. -/
def proofTellsSpec : ChangeSpec := { name := "proofTells", fn := fun _ => fun
  | [d1, d2, d3] => { results := [.lit (.bool true)], args := [d1, d2, d3] }
  | _ => none }
def proofTellsRow : OpenClaim := { program := "ytoeehjfblpmljaa", sum := "58dd539042f04d2102b64e9a462c9675846f7f0ce9c91d4c138f45b6ef081a5f", func := "copse/copselaw19.ProofTells", spec := "proofTells", apart := false }
def ProofTellsSaid : Prop := proofTellsRow.holds Try.pinned (OpenSpec.ofChange proofTellsSpec)

/-- ITS FALSE NEIGHBOUR: 'it returns false'. Refute it at one input. -/
def proofTellsWrong : ChangeSpec := { name := "proofTells", fn := fun _ => fun
  | [d1, d2, d3] => { results := [.lit (.bool false)], args := [d1, d2, d3] }
  | _ => none }
def ProofTellsWrongFalsely : Prop := proofTellsRow.holds Try.pinned (OpenSpec.ofChange proofTellsWrong)

/-- 'copselaw19.ProofTurned': WHATEVER THE INPUT: true; the input reads as it did. -/
def proofTurnedSpec : ChangeSpec := { name := "proofTurned", fn := fun _ => fun
  | [d1, d2, d3] => { results := [.lit (.bool true)], args := [d1, d2, d3] }
  | _ => none }
def proofTurnedRow : OpenClaim := { program := "ytoeehjfblpmljaa", sum := "58dd539042f04d2102b64e9a462c9675846f7f0ce9c91d4c138f45b6ef081a5f", func := "copse/copselaw19.ProofTurned", spec := "proofTurned", apart := false }
def ProofTurnedSaid : Prop := proofTurnedRow.holds Try.pinned (OpenSpec.ofChange proofTurnedSpec)

/-- ITS FALSE NEIGHBOUR: 'it returns false'. Refute it at one input. -/
def proofTurnedWrong : ChangeSpec := { name := "proofTurned", fn := fun _ => fun
  | [d1, d2, d3] => { results := [.lit (.bool false)], args := [d1, d2, d3] }
  | _ => none }
def ProofTurnedWrongFalsely : Prop := proofTurnedRow.holds Try.pinned (OpenSpec.ofChange proofTurnedWrong)

/-- 'copselaw19.ProofJoin': WHATEVER THE INPUT: true; the input reads as it did. -/
def proofJoinSpec : ChangeSpec := { name := "proofJoin", fn := fun _ => fun
  | [d1, d2, d3, d4] => { results := [.lit (.bool true)], args := [d1, d2, d3, d4] }
  | _ => none }
def proofJoinRow : OpenClaim := { program := "ytoeehjfblpmljaa", sum := "58dd539042f04d2102b64e9a462c9675846f7f0ce9c91d4c138f45b6ef081a5f", func := "copse/copselaw19.ProofJoin", spec := "proofJoin", apart := false }
def ProofJoinSaid : Prop := proofJoinRow.holds Try.pinned (OpenSpec.ofChange proofJoinSpec)

/-- ITS FALSE NEIGHBOUR: 'it returns false'. Refute it at one input. -/
def proofJoinWrong : ChangeSpec := { name := "proofJoin", fn := fun _ => fun
  | [d1, d2, d3, d4] => { results := [.lit (.bool false)], args := [d1, d2, d3, d4] }
  | _ => none }
def ProofJoinWrongFalsely : Prop := proofJoinRow.holds Try.pinned (OpenSpec.ofChange proofJoinWrong)

/-- 'copselaw19.ProofCovers': WHATEVER THE INPUT: true; the input reads as it did. -/
def proofCoversSpec : ChangeSpec := { name := "proofCovers", fn := fun _ => fun
  | [d1, d2, d3] => { results := [.lit (.bool true)], args := [d1, d2, d3] }
  | _ => none }
def proofCoversRow : OpenClaim := { program := "ytoeehjfblpmljaa", sum := "58dd539042f04d2102b64e9a462c9675846f7f0ce9c91d4c138f45b6ef081a5f", func := "copse/copselaw19.ProofCovers", spec := "proofCovers", apart := false }
def ProofCoversSaid : Prop := proofCoversRow.holds Try.pinned (OpenSpec.ofChange proofCoversSpec)

/-- ITS FALSE NEIGHBOUR: 'it returns false'. Refute it at one input. -/
def proofCoversWrong : ChangeSpec := { name := "proofCovers", fn := fun _ => fun
  | [d1, d2, d3] => { results := [.lit (.bool false)], args := [d1, d2, d3] }
  | _ => none }
def ProofCoversWrongFalsely : Prop := proofCoversRow.holds Try.pinned (OpenSpec.ofChange proofCoversWrong)

/- THE SECOND FORM. 'bulk': how many values and letters a reading holds, each counted each time it is reached (what is shared counts as often as it is met; a slice's spare places count too). A statement '..UptoSaid' is the law's where the arguments, and the package variables that the reading takes, are together of bulk at most 1048576: NARROWER than '..Said'. Prove '..Said' where nothing that the law and all that it calls make is longer than what came in: it says more and counts as full. Else prove '..UptoSaid'. A law counts once. -/
mutual
def uptoBulk {H : Type} : DataW H → Nat
  | .lit (.string bytes) => bytes.length + 1
  | .lit _ => 1
  | .nil => 1
  | .ptr d => uptoBulk d + 1
  | .slice elems spare => uptoBulkAll elems + uptoBulkAll spare + 1
  | .agg parts => uptoBulkAll parts + 1
  | .iface _ d => uptoBulk d + 1
  | .map entries => uptoBulkEntries entries + 1
  | .held _ => 1
def uptoBulkAll {H : Type} : List (DataW H) → Nat
  | [] => 0
  | d :: r => uptoBulk d + uptoBulkAll r
def uptoBulkEntries {H : Type} : List (Lit × DataW H) → Nat
  | [] => 0
  | x :: r => uptoBulkEntry x + uptoBulkEntries r
def uptoBulkEntry {H : Type} : Lit × DataW H → Nat
  | (.string bytes, d) => bytes.length + uptoBulk d + 1
  | (_, d) => uptoBulk d + 1
 end
def uptoSmall : (H : Type) → List (DataW H) → Bool := fun _ ds => decide (uptoBulkAll ds ≤ 1048576)
def OpenSpec.upto (s : _root_.Go.ChangeSpec) : _root_.Go.OpenSpec := { _root_.Go.OpenSpec.ofChange s with cond := some uptoSmall }

/-- 'copselaw19.ProofRuns', WHERE WHAT IT READS IS OF BULK AT MOST 1048576: true; the input reads as it did. -/
def proofRunsUptoRow : OpenClaim := { program := "ytoeehjfblpmljaa", sum := "58dd539042f04d2102b64e9a462c9675846f7f0ce9c91d4c138f45b6ef081a5f", func := "copse/copselaw19.ProofRuns", spec := "proofRuns", apart := false, narrowed := true }
def ProofRunsUptoSaid : Prop := proofRunsUptoRow.holds Try.pinned (OpenSpec.upto proofRunsSpec)

/-- 'copselaw19.ProofTells', WHERE WHAT IT READS IS OF BULK AT MOST 1048576: true; the input reads as it did. -/
def proofTellsUptoRow : OpenClaim := { program := "ytoeehjfblpmljaa", sum := "58dd539042f04d2102b64e9a462c9675846f7f0ce9c91d4c138f45b6ef081a5f", func := "copse/copselaw19.ProofTells", spec := "proofTells", apart := false, narrowed := true }
def ProofTellsUptoSaid : Prop := proofTellsUptoRow.holds Try.pinned (OpenSpec.upto proofTellsSpec)

/-- 'copselaw19.ProofTurned', WHERE WHAT IT READS IS OF BULK AT MOST 1048576: true; the input reads as it did. -/
def proofTurnedUptoRow : OpenClaim := { program := "ytoeehjfblpmljaa", sum := "58dd539042f04d2102b64e9a462c9675846f7f0ce9c91d4c138f45b6ef081a5f", func := "copse/copselaw19.ProofTurned", spec := "proofTurned", apart := false, narrowed := true }
def ProofTurnedUptoSaid : Prop := proofTurnedUptoRow.holds Try.pinned (OpenSpec.upto proofTurnedSpec)

/-- 'copselaw19.ProofJoin', WHERE WHAT IT READS IS OF BULK AT MOST 1048576: true; the input reads as it did. -/
def proofJoinUptoRow : OpenClaim := { program := "ytoeehjfblpmljaa", sum := "58dd539042f04d2102b64e9a462c9675846f7f0ce9c91d4c138f45b6ef081a5f", func := "copse/copselaw19.ProofJoin", spec := "proofJoin", apart := false, narrowed := true }
def ProofJoinUptoSaid : Prop := proofJoinUptoRow.holds Try.pinned (OpenSpec.upto proofJoinSpec)

/-- 'copselaw19.ProofCovers', WHERE WHAT IT READS IS OF BULK AT MOST 1048576: true; the input reads as it did. -/
def proofCoversUptoRow : OpenClaim := { program := "ytoeehjfblpmljaa", sum := "58dd539042f04d2102b64e9a462c9675846f7f0ce9c91d4c138f45b6ef081a5f", func := "copse/copselaw19.ProofCovers", spec := "proofCovers", apart := false, narrowed := true }
def ProofCoversUptoSaid : Prop := proofCoversUptoRow.holds Try.pinned (OpenSpec.upto proofCoversSpec)

end Rows
end Go.Proofs.Ytoeehjfblpmljaa
