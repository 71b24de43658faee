/-
  No cell of these rows narrows 'for every input' (looked for: loops, veiled, ifaces, maps, wideKeys, modest, calm, conditions, laid).
  DERIVED. THE GIVEN ROWS OF THIS SEAT. 10 by the template 'for every input the law returns true; each argument reads behind the call as it read before'; 0 by the template 'total and deterministic' (their statements: YtnngaedhedbenaaTotals.lean).
  GIVEN WITH THE SEED: the statements are not yours to turn. If you find one false, say at which input.
  Laid BY PROGRAM, IN A SANDBOX (cutbox-rows.mjs): the forced cells as the released guide's own fill.sh prints them over the translation 57c454dbede94173… (all of the seat's roots in one cut). By AI agents, Wed Nov 11 2026. No macro, syntax, notation, axiom, sorry.
-/
import Derived.Test.YtnngaedhedbenaaChecked
import GoSem.Claim
import GoSem.ClaimJoined
import GoSem.ClaimMapViews
import Derived.JoinedTies
import Derived.KernelRfl
namespace Go.Proofs.Ytnngaedhedbenaa
/- THE CELL 'sum', in the pinned program and in every row, IS THE sha256 OF THE DUMP (.gsa) THAT YtnngaedhedbenaaProg.lean LOADS. Nothing in Lean hashes anything: it is a label: what it is worth is what the hold of that sum in a sandbox is worth. -/
noncomputable def Try.pinned : Pinned := { name := "ytnngaedhedbenaa", sum := "57c454dbede94173a6f1d749ed12f0524fbcf7327cc1dfb68f2ce0ca3b9e4402", checked := Try.checked }
namespace Rows
def none {H : Type} : Left H := { results := [], args := [] }

/-- 'copselaw6.NodeRuns': WHATEVER THE INPUT: true; the input reads as it did. -/
def nodeRunsSpec : ChangeSpec := { name := "nodeRuns", fn := fun _ => fun
  | [] => { results := [.lit (.bool true)], args := [] }
  | _ => none }
def nodeRunsRow : OpenClaim := { program := "ytnngaedhedbenaa", sum := "57c454dbede94173a6f1d749ed12f0524fbcf7327cc1dfb68f2ce0ca3b9e4402", func := "copse/copselaw6.NodeRuns", spec := "nodeRuns", unfollowed := true, recurses := true, apart := false }
def NodeRunsSaid : Prop := nodeRunsRow.holds Try.pinned (OpenSpec.ofChange nodeRunsSpec)

/-- ITS FALSE NEIGHBOUR: 'it returns false'. Refute it at one input. -/
def nodeRunsWrong : ChangeSpec := { name := "nodeRuns", fn := fun _ => fun
  | [] => { results := [.lit (.bool false)], args := [] }
  | _ => none }
def NodeRunsWrongFalsely : Prop := nodeRunsRow.holds Try.pinned (OpenSpec.ofChange nodeRunsWrong)

/-- 'copselaw6.NodeTells': WHATEVER THE INPUT: true; the input reads as it did. -/
def nodeTellsSpec : ChangeSpec := { name := "nodeTells", fn := fun _ => fun
  | [d1, d2] => { results := [.lit (.bool true)], args := [d1, d2] }
  | _ => none }
def nodeTellsRow : OpenClaim := { program := "ytnngaedhedbenaa", sum := "57c454dbede94173a6f1d749ed12f0524fbcf7327cc1dfb68f2ce0ca3b9e4402", func := "copse/copselaw6.NodeTells", spec := "nodeTells", unfollowed := true, recurses := true, apart := false }
def NodeTellsSaid : Prop := nodeTellsRow.holds Try.pinned (OpenSpec.ofChange nodeTellsSpec)

/-- ITS FALSE NEIGHBOUR: 'it returns false'. Refute it at one input. -/
def nodeTellsWrong : ChangeSpec := { name := "nodeTells", fn := fun _ => fun
  | [d1, d2] => { results := [.lit (.bool false)], args := [d1, d2] }
  | _ => none }
def NodeTellsWrongFalsely : Prop := nodeTellsRow.holds Try.pinned (OpenSpec.ofChange nodeTellsWrong)

/-- 'copselaw6.NodeBack': WHATEVER THE INPUT: true; the input reads as it did. -/
def nodeBackSpec : ChangeSpec := { name := "nodeBack", fn := fun _ => fun
  | [d1, d2, d3, d4] => { results := [.lit (.bool true)], args := [d1, d2, d3, d4] }
  | _ => none }
def nodeBackRow : OpenClaim := { program := "ytnngaedhedbenaa", sum := "57c454dbede94173a6f1d749ed12f0524fbcf7327cc1dfb68f2ce0ca3b9e4402", func := "copse/copselaw6.NodeBack", spec := "nodeBack", unfollowed := true, recurses := true, apart := false }
def NodeBackSaid : Prop := nodeBackRow.holds Try.pinned (OpenSpec.ofChange nodeBackSpec)

/-- ITS FALSE NEIGHBOUR: 'it returns false'. Refute it at one input. -/
def nodeBackWrong : ChangeSpec := { name := "nodeBack", fn := fun _ => fun
  | [d1, d2, d3, d4] => { results := [.lit (.bool false)], args := [d1, d2, d3, d4] }
  | _ => none }
def NodeBackWrongFalsely : Prop := nodeBackRow.holds Try.pinned (OpenSpec.ofChange nodeBackWrong)

/-- 'copselaw6.NodeEdges': WHATEVER THE INPUT: true; the input reads as it did. -/
def nodeEdgesSpec : ChangeSpec := { name := "nodeEdges", fn := fun _ => fun
  | [d1, d2] => { results := [.lit (.bool true)], args := [d1, d2] }
  | _ => none }
def nodeEdgesRow : OpenClaim := { program := "ytnngaedhedbenaa", sum := "57c454dbede94173a6f1d749ed12f0524fbcf7327cc1dfb68f2ce0ca3b9e4402", func := "copse/copselaw6.NodeEdges", spec := "nodeEdges", unfollowed := true, recurses := true, apart := false }
def NodeEdgesSaid : Prop := nodeEdgesRow.holds Try.pinned (OpenSpec.ofChange nodeEdgesSpec)

/-- ITS FALSE NEIGHBOUR: 'it returns false'. Refute it at one input. -/
def nodeEdgesWrong : ChangeSpec := { name := "nodeEdges", fn := fun _ => fun
  | [d1, d2] => { results := [.lit (.bool false)], args := [d1, d2] }
  | _ => none }
def NodeEdgesWrongFalsely : Prop := nodeEdgesRow.holds Try.pinned (OpenSpec.ofChange nodeEdgesWrong)

/-- 'copselaw6.NodeFields': WHATEVER THE INPUT: true; the input reads as it did. -/
def nodeFieldsSpec : ChangeSpec := { name := "nodeFields", fn := fun _ => fun
  | [d1, d2, d3, d4, d5, d6] => { results := [.lit (.bool true)], args := [d1, d2, d3, d4, d5, d6] }
  | _ => none }
def nodeFieldsRow : OpenClaim := { program := "ytnngaedhedbenaa", sum := "57c454dbede94173a6f1d749ed12f0524fbcf7327cc1dfb68f2ce0ca3b9e4402", func := "copse/copselaw6.NodeFields", spec := "nodeFields", unfollowed := true, recurses := true, apart := false }
def NodeFieldsSaid : Prop := nodeFieldsRow.holds Try.pinned (OpenSpec.ofChange nodeFieldsSpec)

/-- ITS FALSE NEIGHBOUR: 'it returns false'. Refute it at one input. -/
def nodeFieldsWrong : ChangeSpec := { name := "nodeFields", fn := fun _ => fun
  | [d1, d2, d3, d4, d5, d6] => { results := [.lit (.bool false)], args := [d1, d2, d3, d4, d5, d6] }
  | _ => none }
def NodeFieldsWrongFalsely : Prop := nodeFieldsRow.holds Try.pinned (OpenSpec.ofChange nodeFieldsWrong)

/-- 'copselaw7.TreeRuns': WHATEVER THE INPUT: true; the input reads as it did. -/
def treeRunsSpec : ChangeSpec := { name := "treeRuns", fn := fun _ => fun
  | [] => { results := [.lit (.bool true)], args := [] }
  | _ => none }
def treeRunsRow : OpenClaim := { program := "ytnngaedhedbenaa", sum := "57c454dbede94173a6f1d749ed12f0524fbcf7327cc1dfb68f2ce0ca3b9e4402", func := "copse/copselaw7.TreeRuns", spec := "treeRuns", unfollowed := true, recurses := true, apart := false }
def TreeRunsSaid : Prop := treeRunsRow.holds Try.pinned (OpenSpec.ofChange treeRunsSpec)

/-- ITS FALSE NEIGHBOUR: 'it returns false'. Refute it at one input. -/
def treeRunsWrong : ChangeSpec := { name := "treeRuns", fn := fun _ => fun
  | [] => { results := [.lit (.bool false)], args := [] }
  | _ => none }
def TreeRunsWrongFalsely : Prop := treeRunsRow.holds Try.pinned (OpenSpec.ofChange treeRunsWrong)

/-- 'copselaw7.TreeTells': WHATEVER THE INPUT: true; the input reads as it did. -/
def treeTellsSpec : ChangeSpec := { name := "treeTells", fn := fun _ => fun
  | [d1, d2, d3, d4, d5] => { results := [.lit (.bool true)], args := [d1, d2, d3, d4, d5] }
  | _ => none }
def treeTellsRow : OpenClaim := { program := "ytnngaedhedbenaa", sum := "57c454dbede94173a6f1d749ed12f0524fbcf7327cc1dfb68f2ce0ca3b9e4402", func := "copse/copselaw7.TreeTells", spec := "treeTells", unfollowed := true, recurses := true, apart := false }
def TreeTellsSaid : Prop := treeTellsRow.holds Try.pinned (OpenSpec.ofChange treeTellsSpec)

/-- ITS FALSE NEIGHBOUR: 'it returns false'. Refute it at one input. -/
def treeTellsWrong : ChangeSpec := { name := "treeTells", fn := fun _ => fun
  | [d1, d2, d3, d4, d5] => { results := [.lit (.bool false)], args := [d1, d2, d3, d4, d5] }
  | _ => none }
def TreeTellsWrongFalsely : Prop := treeTellsRow.holds Try.pinned (OpenSpec.ofChange treeTellsWrong)

/-- 'copselaw7.TreeLeaves': WHATEVER THE INPUT: true; the input reads as it did. -/
def treeLeavesSpec : ChangeSpec := { name := "treeLeaves", fn := fun _ => fun
  | [d1, d2] => { results := [.lit (.bool true)], args := [d1, d2] }
  | _ => none }
def treeLeavesRow : OpenClaim := { program := "ytnngaedhedbenaa", sum := "57c454dbede94173a6f1d749ed12f0524fbcf7327cc1dfb68f2ce0ca3b9e4402", func := "copse/copselaw7.TreeLeaves", spec := "treeLeaves", unfollowed := true, recurses := true, apart := false }
def TreeLeavesSaid : Prop := treeLeavesRow.holds Try.pinned (OpenSpec.ofChange treeLeavesSpec)

/-- ITS FALSE NEIGHBOUR: 'it returns false'. Refute it at one input. -/
def treeLeavesWrong : ChangeSpec := { name := "treeLeaves", fn := fun _ => fun
  | [d1, d2] => { results := [.lit (.bool false)], args := [d1, d2] }
  | _ => none }
def TreeLeavesWrongFalsely : Prop := treeLeavesRow.holds Try.pinned (OpenSpec.ofChange treeLeavesWrong)

/-- 'copselaw7.TreeTurned': WHATEVER THE INPUT: true; the input reads as it did. -/
def treeTurnedSpec : ChangeSpec := { name := "treeTurned", fn := fun _ => fun
  | [d1, d2, d3] => { results := [.lit (.bool true)], args := [d1, d2, d3] }
  | _ => none }
def treeTurnedRow : OpenClaim := { program := "ytnngaedhedbenaa", sum := "57c454dbede94173a6f1d749ed12f0524fbcf7327cc1dfb68f2ce0ca3b9e4402", func := "copse/copselaw7.TreeTurned", spec := "treeTurned", unfollowed := true, recurses := true, apart := false }
def TreeTurnedSaid : Prop := treeTurnedRow.holds Try.pinned (OpenSpec.ofChange treeTurnedSpec)

/-- ITS FALSE NEIGHBOUR: 'it returns false'. Refute it at one input. -/
def treeTurnedWrong : ChangeSpec := { name := "treeTurned", fn := fun _ => fun
  | [d1, d2, d3] => { results := [.lit (.bool false)], args := [d1, d2, d3] }
  | _ => none }
def TreeTurnedWrongFalsely : Prop := treeTurnedRow.holds Try.pinned (OpenSpec.ofChange treeTurnedWrong)

/-- 'copselaw7.TreeMoves': WHATEVER THE INPUT: true; the input reads as it did. -/
def treeMovesSpec : ChangeSpec := { name := "treeMoves", fn := fun _ => fun
  | [d1, d2, d3, d4] => { results := [.lit (.bool true)], args := [d1, d2, d3, d4] }
  | _ => none }
def treeMovesRow : OpenClaim := { program := "ytnngaedhedbenaa", sum := "57c454dbede94173a6f1d749ed12f0524fbcf7327cc1dfb68f2ce0ca3b9e4402", func := "copse/copselaw7.TreeMoves", spec := "treeMoves", unfollowed := true, recurses := true, apart := false }
def TreeMovesSaid : Prop := treeMovesRow.holds Try.pinned (OpenSpec.ofChange treeMovesSpec)

/-- ITS FALSE NEIGHBOUR: 'it returns false'. Refute it at one input. -/
def treeMovesWrong : ChangeSpec := { name := "treeMoves", fn := fun _ => fun
  | [d1, d2, d3, d4] => { results := [.lit (.bool false)], args := [d1, d2, d3, d4] }
  | _ => none }
def TreeMovesWrongFalsely : Prop := treeMovesRow.holds Try.pinned (OpenSpec.ofChange treeMovesWrong)

/- THE SECOND FORM. 'bulk': how many values and letters a reading holds, each counted each time it is reached (what is shared counts as often as it is met; a slice's spare places count too). A statement '..UptoSaid' is the law's where the arguments, and the package variables that the reading takes, are together of bulk at most 1048576: NARROWER than '..Said'. Prove '..Said' where nothing that the law and all that it calls make is longer than what came in: it says more and counts as full. Else prove '..UptoSaid'. A law counts once. -/
mutual
def uptoBulk {H : Type} : DataW H → Nat
  | .lit (.string bytes) => bytes.length + 1
  | .lit _ => 1
  | .nil => 1
  | .ptr d => uptoBulk d + 1
  | .slice elems spare => uptoBulkAll elems + uptoBulkAll spare + 1
  | .agg parts => uptoBulkAll parts + 1
  | .iface _ d => uptoBulk d + 1
  | .map entries => uptoBulkEntries entries + 1
  | .held _ => 1
def uptoBulkAll {H : Type} : List (DataW H) → Nat
  | [] => 0
  | d :: r => uptoBulk d + uptoBulkAll r
def uptoBulkEntries {H : Type} : List (Lit × DataW H) → Nat
  | [] => 0
  | x :: r => uptoBulkEntry x + uptoBulkEntries r
def uptoBulkEntry {H : Type} : Lit × DataW H → Nat
  | (.string bytes, d) => bytes.length + uptoBulk d + 1
  | (_, d) => uptoBulk d + 1
 end
def uptoSmall : (H : Type) → List (DataW H) → Bool := fun _ ds => decide (uptoBulkAll ds ≤ 1048576)
def OpenSpec.upto (s : _root_.Go.ChangeSpec) : _root_.Go.OpenSpec := { _root_.Go.OpenSpec.ofChange s with cond := some uptoSmall }

/-- 'copselaw6.NodeRuns', WHERE WHAT IT READS IS OF BULK AT MOST 1048576: true; the input reads as it did. -/
def nodeRunsUptoRow : OpenClaim := { program := "ytnngaedhedbenaa", sum := "57c454dbede94173a6f1d749ed12f0524fbcf7327cc1dfb68f2ce0ca3b9e4402", func := "copse/copselaw6.NodeRuns", spec := "nodeRuns", unfollowed := true, recurses := true, apart := false, narrowed := true }
def NodeRunsUptoSaid : Prop := nodeRunsUptoRow.holds Try.pinned (OpenSpec.upto nodeRunsSpec)

/-- 'copselaw6.NodeTells', WHERE WHAT IT READS IS OF BULK AT MOST 1048576: true; the input reads as it did. -/
def nodeTellsUptoRow : OpenClaim := { program := "ytnngaedhedbenaa", sum := "57c454dbede94173a6f1d749ed12f0524fbcf7327cc1dfb68f2ce0ca3b9e4402", func := "copse/copselaw6.NodeTells", spec := "nodeTells", unfollowed := true, recurses := true, apart := false, narrowed := true }
def NodeTellsUptoSaid : Prop := nodeTellsUptoRow.holds Try.pinned (OpenSpec.upto nodeTellsSpec)

/-- 'copselaw6.NodeBack', WHERE WHAT IT READS IS OF BULK AT MOST 1048576: true; the input reads as it did. -/
def nodeBackUptoRow : OpenClaim := { program := "ytnngaedhedbenaa", sum := "57c454dbede94173a6f1d749ed12f0524fbcf7327cc1dfb68f2ce0ca3b9e4402", func := "copse/copselaw6.NodeBack", spec := "nodeBack", unfollowed := true, recurses := true, apart := false, narrowed := true }
def NodeBackUptoSaid : Prop := nodeBackUptoRow.holds Try.pinned (OpenSpec.upto nodeBackSpec)

/-- 'copselaw6.NodeEdges', WHERE WHAT IT READS IS OF BULK AT MOST 1048576: true; the input reads as it did. -/
def nodeEdgesUptoRow : OpenClaim := { program := "ytnngaedhedbenaa", sum := "57c454dbede94173a6f1d749ed12f0524fbcf7327cc1dfb68f2ce0ca3b9e4402", func := "copse/copselaw6.NodeEdges", spec := "nodeEdges", unfollowed := true, recurses := true, apart := false, narrowed := true }
def NodeEdgesUptoSaid : Prop := nodeEdgesUptoRow.holds Try.pinned (OpenSpec.upto nodeEdgesSpec)

/-- 'copselaw6.NodeFields', WHERE WHAT IT READS IS OF BULK AT MOST 1048576: true; the input reads as it did. -/
def nodeFieldsUptoRow : OpenClaim := { program := "ytnngaedhedbenaa", sum := "57c454dbede94173a6f1d749ed12f0524fbcf7327cc1dfb68f2ce0ca3b9e4402", func := "copse/copselaw6.NodeFields", spec := "nodeFields", unfollowed := true, recurses := true, apart := false, narrowed := true }
def NodeFieldsUptoSaid : Prop := nodeFieldsUptoRow.holds Try.pinned (OpenSpec.upto nodeFieldsSpec)

/-- 'copselaw7.TreeRuns', WHERE WHAT IT READS IS OF BULK AT MOST 1048576: true; the input reads as it did. -/
def treeRunsUptoRow : OpenClaim := { program := "ytnngaedhedbenaa", sum := "57c454dbede94173a6f1d749ed12f0524fbcf7327cc1dfb68f2ce0ca3b9e4402", func := "copse/copselaw7.TreeRuns", spec := "treeRuns", unfollowed := true, recurses := true, apart := false, narrowed := true }
def TreeRunsUptoSaid : Prop := treeRunsUptoRow.holds Try.pinned (OpenSpec.upto treeRunsSpec)

/-- 'copselaw7.TreeTells', WHERE WHAT IT READS IS OF BULK AT MOST 1048576: true; the input reads as it did. -/
def treeTellsUptoRow : OpenClaim := { program := "ytnngaedhedbenaa", sum := "57c454dbede94173a6f1d749ed12f0524fbcf7327cc1dfb68f2ce0ca3b9e4402", func := "copse/copselaw7.TreeTells", spec := "treeTells", unfollowed := true, recurses := true, apart := false, narrowed := true }
def TreeTellsUptoSaid : Prop := treeTellsUptoRow.holds Try.pinned (OpenSpec.upto treeTellsSpec)

/-- 'copselaw7.TreeLeaves', WHERE WHAT IT READS IS OF BULK AT MOST 1048576: true; the input reads as it did. -/
def treeLeavesUptoRow : OpenClaim := { program := "ytnngaedhedbenaa", sum := "57c454dbede94173a6f1d749ed12f0524fbcf7327cc1dfb68f2ce0ca3b9e4402", func := "copse/copselaw7.TreeLeaves", spec := "treeLeaves", unfollowed := true, recurses := true, apart := false, narrowed := true }
def TreeLeavesUptoSaid : Prop := treeLeavesUptoRow.holds Try.pinned (OpenSpec.upto treeLeavesSpec)

/-- 'copselaw7.TreeTurned', WHERE WHAT IT READS IS OF BULK AT MOST 1048576: true; the input reads as it did. -/
def treeTurnedUptoRow : OpenClaim := { program := "ytnngaedhedbenaa", sum := "57c454dbede94173a6f1d749ed12f0524fbcf7327cc1dfb68f2ce0ca3b9e4402", func := "copse/copselaw7.TreeTurned", spec := "treeTurned", unfollowed := true, recurses := true, apart := false, narrowed := true }
def TreeTurnedUptoSaid : Prop := treeTurnedUptoRow.holds Try.pinned (OpenSpec.upto treeTurnedSpec)

/-- 'copselaw7.TreeMoves', WHERE WHAT IT READS IS OF BULK AT MOST 1048576: true; the input reads as it did. -/
def treeMovesUptoRow : OpenClaim := { program := "ytnngaedhedbenaa", sum := "57c454dbede94173a6f1d749ed12f0524fbcf7327cc1dfb68f2ce0ca3b9e4402", func := "copse/copselaw7.TreeMoves", spec := "treeMoves", unfollowed := true, recurses := true, apart := false, narrowed := true }
def TreeMovesUptoSaid : Prop := treeMovesUptoRow.holds Try.pinned (OpenSpec.upto treeMovesSpec)

end Rows
end Go.Proofs.Ytnngaedhedbenaa
