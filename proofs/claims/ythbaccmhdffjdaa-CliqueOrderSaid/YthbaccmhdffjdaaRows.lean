/-
  No cell of these rows narrows 'for every input' (looked for: loops, veiled, ifaces, maps, wideKeys, modest, calm, conditions, laid).
  DERIVED. THE GIVEN ROWS OF THIS SEAT. 10 by the template 'for every input the law returns true; each argument reads behind the call as it read before'; 0 by the template 'total and deterministic' (their statements: YthbaccmhdffjdaaTotals.lean).
  GIVEN WITH THE SEED: the statements are not yours to turn. If you find one false, say at which input.
  Laid BY PROGRAM, IN A SANDBOX (cutbox-rows.mjs): the forced cells as the released guide's own fill.sh prints them over the translation e03740517170ca48… (all of the seat's roots in one cut). By AI agents, Wed Nov 11 2026. No macro, syntax, notation, axiom, sorry.
-/
import Derived.Test.YthbaccmhdffjdaaChecked
import GoSem.Claim
import GoSem.ClaimJoined
import GoSem.ClaimMapViews
import Derived.JoinedTies
import Derived.KernelRfl
namespace Go.Proofs.Ythbaccmhdffjdaa
/- THE CELL 'sum', in the pinned program and in every row, IS THE sha256 OF THE DUMP (.gsa) THAT YthbaccmhdffjdaaProg.lean LOADS. Nothing in Lean hashes anything: it is a label: what it is worth is what the hold of that sum in a sandbox is worth. -/
noncomputable def Try.pinned : Pinned := { name := "ythbaccmhdffjdaa", sum := "e03740517170ca4869a4d2b2d8c3d642a9938901cc419b99b234443b35f1c450", checked := Try.checked }
namespace Rows
def none {H : Type} : Left H := { results := [], args := [] }

/-- 'copselaw15.CliqueRuns': WHATEVER THE INPUT: true; the input reads as it did. -/
def cliqueRunsSpec : ChangeSpec := { name := "cliqueRuns", fn := fun _ => fun
  | [] => { results := [.lit (.bool true)], args := [] }
  | _ => none }
def cliqueRunsRow : OpenClaim := { program := "ythbaccmhdffjdaa", sum := "e03740517170ca4869a4d2b2d8c3d642a9938901cc419b99b234443b35f1c450", func := "copse/copselaw15.CliqueRuns", spec := "cliqueRuns", plainKeys := false, apart := false }
def CliqueRunsSaid : Prop := cliqueRunsRow.holds Try.pinned (OpenSpec.ofChange cliqueRunsSpec)

/-- ITS FALSE NEIGHBOUR: 'it returns false'. Refute it at one input. -/
def cliqueRunsWrong : ChangeSpec := { name := "cliqueRuns", fn := fun _ => fun
  | [] => { results := [.lit (.bool false)], args := [] }
  | _ => none }
def CliqueRunsWrongFalsely : Prop := cliqueRunsRow.holds Try.pinned (OpenSpec.ofChange cliqueRunsWrong)

/-- 'copselaw15.CliqueTells': WHATEVER THE INPUT: true; the input reads as it did. -/
def cliqueTellsSpec : ChangeSpec := { name := "cliqueTells", fn := fun _ => fun
  | [d1, d2, d3] => { results := [.lit (.bool true)], args := [d1, d2, d3] }
  | _ => none }
def cliqueTellsRow : OpenClaim := { program := "ythbaccmhdffjdaa", sum := "e03740517170ca4869a4d2b2d8c3d642a9938901cc419b99b234443b35f1c450", func := "copse/copselaw15.CliqueTells", spec := "cliqueTells", plainKeys := false, apart := false }
def CliqueTellsSaid : Prop := cliqueTellsRow.holds Try.pinned (OpenSpec.ofChange cliqueTellsSpec)

/-- ITS FALSE NEIGHBOUR: 'it returns false'. Refute it at one input. -/
def cliqueTellsWrong : ChangeSpec := { name := "cliqueTells", fn := fun _ => fun
  | [d1, d2, d3] => { results := [.lit (.bool false)], args := [d1, d2, d3] }
  | _ => none }
def CliqueTellsWrongFalsely : Prop := cliqueTellsRow.holds Try.pinned (OpenSpec.ofChange cliqueTellsWrong)

/-- 'copselaw15.CliqueMerge': WHATEVER THE INPUT: true; the input reads as it did. -/
def cliqueMergeSpec : ChangeSpec := { name := "cliqueMerge", fn := fun _ => fun
  | [d1, d2] => { results := [.lit (.bool true)], args := [d1, d2] }
  | _ => none }
def cliqueMergeRow : OpenClaim := { program := "ythbaccmhdffjdaa", sum := "e03740517170ca4869a4d2b2d8c3d642a9938901cc419b99b234443b35f1c450", func := "copse/copselaw15.CliqueMerge", spec := "cliqueMerge", plainKeys := false, apart := false }
def CliqueMergeSaid : Prop := cliqueMergeRow.holds Try.pinned (OpenSpec.ofChange cliqueMergeSpec)

/-- ITS FALSE NEIGHBOUR: 'it returns false'. Refute it at one input. -/
def cliqueMergeWrong : ChangeSpec := { name := "cliqueMerge", fn := fun _ => fun
  | [d1, d2] => { results := [.lit (.bool false)], args := [d1, d2] }
  | _ => none }
def CliqueMergeWrongFalsely : Prop := cliqueMergeRow.holds Try.pinned (OpenSpec.ofChange cliqueMergeWrong)

/-- 'copselaw13.LeavesRuns': WHATEVER THE INPUT: true; the input reads as it did. -/
def leavesRunsSpec : ChangeSpec := { name := "leavesRuns", fn := fun _ => fun
  | [] => { results := [.lit (.bool true)], args := [] }
  | _ => none }
def leavesRunsRow : OpenClaim := { program := "ythbaccmhdffjdaa", sum := "e03740517170ca4869a4d2b2d8c3d642a9938901cc419b99b234443b35f1c450", func := "copse/copselaw13.LeavesRuns", spec := "leavesRuns", unfollowed := true, recurses := true, plainKeys := false, apart := false }
def LeavesRunsSaid : Prop := leavesRunsRow.holds Try.pinned (OpenSpec.ofChange leavesRunsSpec)

/-- ITS FALSE NEIGHBOUR: 'it returns false'. Refute it at one input. -/
def leavesRunsWrong : ChangeSpec := { name := "leavesRuns", fn := fun _ => fun
  | [] => { results := [.lit (.bool false)], args := [] }
  | _ => none }
def LeavesRunsWrongFalsely : Prop := leavesRunsRow.holds Try.pinned (OpenSpec.ofChange leavesRunsWrong)

/-- 'copselaw13.LeavesTell': WHATEVER THE INPUT: true; the input reads as it did. -/
def leavesTellSpec : ChangeSpec := { name := "leavesTell", fn := fun _ => fun
  | [d1, d2, d3, d4] => { results := [.lit (.bool true)], args := [d1, d2, d3, d4] }
  | _ => none }
def leavesTellRow : OpenClaim := { program := "ythbaccmhdffjdaa", sum := "e03740517170ca4869a4d2b2d8c3d642a9938901cc419b99b234443b35f1c450", func := "copse/copselaw13.LeavesTell", spec := "leavesTell", unfollowed := true, recurses := true, plainKeys := false, apart := false }
def LeavesTellSaid : Prop := leavesTellRow.holds Try.pinned (OpenSpec.ofChange leavesTellSpec)

/-- ITS FALSE NEIGHBOUR: 'it returns false'. Refute it at one input. -/
def leavesTellWrong : ChangeSpec := { name := "leavesTell", fn := fun _ => fun
  | [d1, d2, d3, d4] => { results := [.lit (.bool false)], args := [d1, d2, d3, d4] }
  | _ => none }
def LeavesTellWrongFalsely : Prop := leavesTellRow.holds Try.pinned (OpenSpec.ofChange leavesTellWrong)

/-- 'copselaw13.LeavesLess': WHATEVER THE INPUT: true; the input reads as it did. -/
def leavesLessSpec : ChangeSpec := { name := "leavesLess", fn := fun _ => fun
  | [d1, d2, d3, d4, d5] => { results := [.lit (.bool true)], args := [d1, d2, d3, d4, d5] }
  | _ => none }
def leavesLessRow : OpenClaim := { program := "ythbaccmhdffjdaa", sum := "e03740517170ca4869a4d2b2d8c3d642a9938901cc419b99b234443b35f1c450", func := "copse/copselaw13.LeavesLess", spec := "leavesLess", unfollowed := true, recurses := true, plainKeys := false, apart := false }
def LeavesLessSaid : Prop := leavesLessRow.holds Try.pinned (OpenSpec.ofChange leavesLessSpec)

/-- ITS FALSE NEIGHBOUR: 'it returns false'. Refute it at one input. -/
def leavesLessWrong : ChangeSpec := { name := "leavesLess", fn := fun _ => fun
  | [d1, d2, d3, d4, d5] => { results := [.lit (.bool false)], args := [d1, d2, d3, d4, d5] }
  | _ => none }
def LeavesLessWrongFalsely : Prop := leavesLessRow.holds Try.pinned (OpenSpec.ofChange leavesLessWrong)

/-- 'copselaw15.CliqueOrder': WHATEVER THE INPUT: true; the input reads as it did. -/
def cliqueOrderSpec : ChangeSpec := { name := "cliqueOrder", fn := fun _ => fun
  | [d1, d2, d3] => { results := [.lit (.bool true)], args := [d1, d2, d3] }
  | _ => none }
def cliqueOrderRow : OpenClaim := { program := "ythbaccmhdffjdaa", sum := "e03740517170ca4869a4d2b2d8c3d642a9938901cc419b99b234443b35f1c450", func := "copse/copselaw15.CliqueOrder", spec := "cliqueOrder", unfollowed := true, recurses := true, plainKeys := false, apart := false }
def CliqueOrderSaid : Prop := cliqueOrderRow.holds Try.pinned (OpenSpec.ofChange cliqueOrderSpec)

/-- ITS FALSE NEIGHBOUR: 'it returns false'. Refute it at one input. -/
def cliqueOrderWrong : ChangeSpec := { name := "cliqueOrder", fn := fun _ => fun
  | [d1, d2, d3] => { results := [.lit (.bool false)], args := [d1, d2, d3] }
  | _ => none }
def CliqueOrderWrongFalsely : Prop := cliqueOrderRow.holds Try.pinned (OpenSpec.ofChange cliqueOrderWrong)

/-- 'copselaw13.LeavesPart': WHATEVER THE INPUT: true; the input reads as it did. -/
def leavesPartSpec : ChangeSpec := { name := "leavesPart", fn := fun _ => fun
  | [d1, d2, d3, d4] => { results := [.lit (.bool true)], args := [d1, d2, d3, d4] }
  | _ => none }
def leavesPartRow : OpenClaim := { program := "ythbaccmhdffjdaa", sum := "e03740517170ca4869a4d2b2d8c3d642a9938901cc419b99b234443b35f1c450", func := "copse/copselaw13.LeavesPart", spec := "leavesPart", unfollowed := true, recurses := true, plainKeys := false, apart := false }
def LeavesPartSaid : Prop := leavesPartRow.holds Try.pinned (OpenSpec.ofChange leavesPartSpec)

/-- ITS FALSE NEIGHBOUR: 'it returns false'. Refute it at one input. -/
def leavesPartWrong : ChangeSpec := { name := "leavesPart", fn := fun _ => fun
  | [d1, d2, d3, d4] => { results := [.lit (.bool false)], args := [d1, d2, d3, d4] }
  | _ => none }
def LeavesPartWrongFalsely : Prop := leavesPartRow.holds Try.pinned (OpenSpec.ofChange leavesPartWrong)

/-- 'copselaw13.LeavesAll': WHATEVER THE INPUT: true; the input reads as it did. -/
def leavesAllSpec : ChangeSpec := { name := "leavesAll", fn := fun _ => fun
  | [d1, d2] => { results := [.lit (.bool true)], args := [d1, d2] }
  | _ => none }
def leavesAllRow : OpenClaim := { program := "ythbaccmhdffjdaa", sum := "e03740517170ca4869a4d2b2d8c3d642a9938901cc419b99b234443b35f1c450", func := "copse/copselaw13.LeavesAll", spec := "leavesAll", unfollowed := true, recurses := true, plainKeys := false, apart := false }
def LeavesAllSaid : Prop := leavesAllRow.holds Try.pinned (OpenSpec.ofChange leavesAllSpec)

/-- ITS FALSE NEIGHBOUR: 'it returns false'. Refute it at one input. -/
def leavesAllWrong : ChangeSpec := { name := "leavesAll", fn := fun _ => fun
  | [d1, d2] => { results := [.lit (.bool false)], args := [d1, d2] }
  | _ => none }
def LeavesAllWrongFalsely : Prop := leavesAllRow.holds Try.pinned (OpenSpec.ofChange leavesAllWrong)

/-- 'copselaw15.CliqueTrees': WHATEVER THE INPUT: true; the input reads as it did. -/
def cliqueTreesSpec : ChangeSpec := { name := "cliqueTrees", fn := fun _ => fun
  | [d1, d2, d3] => { results := [.lit (.bool true)], args := [d1, d2, d3] }
  | _ => none }
def cliqueTreesRow : OpenClaim := { program := "ythbaccmhdffjdaa", sum := "e03740517170ca4869a4d2b2d8c3d642a9938901cc419b99b234443b35f1c450", func := "copse/copselaw15.CliqueTrees", spec := "cliqueTrees", unfollowed := true, recurses := true, plainKeys := false, apart := false }
def CliqueTreesSaid : Prop := cliqueTreesRow.holds Try.pinned (OpenSpec.ofChange cliqueTreesSpec)

/-- ITS FALSE NEIGHBOUR: 'it returns false'. Refute it at one input. -/
def cliqueTreesWrong : ChangeSpec := { name := "cliqueTrees", fn := fun _ => fun
  | [d1, d2, d3] => { results := [.lit (.bool false)], args := [d1, d2, d3] }
  | _ => none }
def CliqueTreesWrongFalsely : Prop := cliqueTreesRow.holds Try.pinned (OpenSpec.ofChange cliqueTreesWrong)

/- THE SECOND FORM. 'bulk': how many values and letters a reading holds, each counted each time it is reached (what is shared counts as often as it is met; a slice's spare places count too). A statement '..UptoSaid' is the law's where the arguments, and the package variables that the reading takes, are together of bulk at most 1048576: NARROWER than '..Said'. Prove '..Said' where nothing that the law and all that it calls make is longer than what came in: it says more and counts as full. Else prove '..UptoSaid'. A law counts once. -/
mutual
def uptoBulk {H : Type} : DataW H → Nat
  | .lit (.string bytes) => bytes.length + 1
  | .lit _ => 1
  | .nil => 1
  | .ptr d => uptoBulk d + 1
  | .slice elems spare => uptoBulkAll elems + uptoBulkAll spare + 1
  | .agg parts => uptoBulkAll parts + 1
  | .iface _ d => uptoBulk d + 1
  | .map entries => uptoBulkEntries entries + 1
  | .held _ => 1
def uptoBulkAll {H : Type} : List (DataW H) → Nat
  | [] => 0
  | d :: r => uptoBulk d + uptoBulkAll r
def uptoBulkEntries {H : Type} : List (Lit × DataW H) → Nat
  | [] => 0
  | x :: r => uptoBulkEntry x + uptoBulkEntries r
def uptoBulkEntry {H : Type} : Lit × DataW H → Nat
  | (.string bytes, d) => bytes.length + uptoBulk d + 1
  | (_, d) => uptoBulk d + 1
 end
def uptoSmall : (H : Type) → List (DataW H) → Bool := fun _ ds => decide (uptoBulkAll ds ≤ 1048576)
def OpenSpec.upto (s : _root_.Go.ChangeSpec) : _root_.Go.OpenSpec := { _root_.Go.OpenSpec.ofChange s with cond := some uptoSmall }

/-- 'copselaw15.CliqueRuns', WHERE WHAT IT READS IS OF BULK AT MOST 1048576: true; the input reads as it did. -/
def cliqueRunsUptoRow : OpenClaim := { program := "ythbaccmhdffjdaa", sum := "e03740517170ca4869a4d2b2d8c3d642a9938901cc419b99b234443b35f1c450", func := "copse/copselaw15.CliqueRuns", spec := "cliqueRuns", plainKeys := false, apart := false, narrowed := true }
def CliqueRunsUptoSaid : Prop := cliqueRunsUptoRow.holds Try.pinned (OpenSpec.upto cliqueRunsSpec)

/-- 'copselaw15.CliqueTells', WHERE WHAT IT READS IS OF BULK AT MOST 1048576: true; the input reads as it did. -/
def cliqueTellsUptoRow : OpenClaim := { program := "ythbaccmhdffjdaa", sum := "e03740517170ca4869a4d2b2d8c3d642a9938901cc419b99b234443b35f1c450", func := "copse/copselaw15.CliqueTells", spec := "cliqueTells", plainKeys := false, apart := false, narrowed := true }
def CliqueTellsUptoSaid : Prop := cliqueTellsUptoRow.holds Try.pinned (OpenSpec.upto cliqueTellsSpec)

/-- 'copselaw15.CliqueMerge', WHERE WHAT IT READS IS OF BULK AT MOST 1048576: true; the input reads as it did. -/
def cliqueMergeUptoRow : OpenClaim := { program := "ythbaccmhdffjdaa", sum := "e03740517170ca4869a4d2b2d8c3d642a9938901cc419b99b234443b35f1c450", func := "copse/copselaw15.CliqueMerge", spec := "cliqueMerge", plainKeys := false, apart := false, narrowed := true }
def CliqueMergeUptoSaid : Prop := cliqueMergeUptoRow.holds Try.pinned (OpenSpec.upto cliqueMergeSpec)

/-- 'copselaw13.LeavesRuns', WHERE WHAT IT READS IS OF BULK AT MOST 1048576: true; the input reads as it did. -/
def leavesRunsUptoRow : OpenClaim := { program := "ythbaccmhdffjdaa", sum := "e03740517170ca4869a4d2b2d8c3d642a9938901cc419b99b234443b35f1c450", func := "copse/copselaw13.LeavesRuns", spec := "leavesRuns", unfollowed := true, recurses := true, plainKeys := false, apart := false, narrowed := true }
def LeavesRunsUptoSaid : Prop := leavesRunsUptoRow.holds Try.pinned (OpenSpec.upto leavesRunsSpec)

/-- 'copselaw13.LeavesTell', WHERE WHAT IT READS IS OF BULK AT MOST 1048576: true; the input reads as it did. -/
def leavesTellUptoRow : OpenClaim := { program := "ythbaccmhdffjdaa", sum := "e03740517170ca4869a4d2b2d8c3d642a9938901cc419b99b234443b35f1c450", func := "copse/copselaw13.LeavesTell", spec := "leavesTell", unfollowed := true, recurses := true, plainKeys := false, apart := false, narrowed := true }
def LeavesTellUptoSaid : Prop := leavesTellUptoRow.holds Try.pinned (OpenSpec.upto leavesTellSpec)

/-- 'copselaw13.LeavesLess', WHERE WHAT IT READS IS OF BULK AT MOST 1048576: true; the input reads as it did. -/
def leavesLessUptoRow : OpenClaim := { program := "ythbaccmhdffjdaa", sum := "e03740517170ca4869a4d2b2d8c3d642a9938901cc419b99b234443b35f1c450", func := "copse/copselaw13.LeavesLess", spec := "leavesLess", unfollowed := true, recurses := true, plainKeys := false, apart := false, narrowed := true }
def LeavesLessUptoSaid : Prop := leavesLessUptoRow.holds Try.pinned (OpenSpec.upto leavesLessSpec)

/-- 'copselaw15.CliqueOrder', WHERE WHAT IT READS IS OF BULK AT MOST 1048576: true; the input reads as it did. -/
def cliqueOrderUptoRow : OpenClaim := { program := "ythbaccmhdffjdaa", sum := "e03740517170ca4869a4d2b2d8c3d642a9938901cc419b99b234443b35f1c450", func := "copse/copselaw15.CliqueOrder", spec := "cliqueOrder", unfollowed := true, recurses := true, plainKeys := false, apart := false, narrowed := true }
def CliqueOrderUptoSaid : Prop := cliqueOrderUptoRow.holds Try.pinned (OpenSpec.upto cliqueOrderSpec)

/-- 'copselaw13.LeavesPart', WHERE WHAT IT READS IS OF BULK AT MOST 1048576: true; the input reads as it did. -/
def leavesPartUptoRow : OpenClaim := { program := "ythbaccmhdffjdaa", sum := "e03740517170ca4869a4d2b2d8c3d642a9938901cc419b99b234443b35f1c450", func := "copse/copselaw13.LeavesPart", spec := "leavesPart", unfollowed := true, recurses := true, plainKeys := false, apart := false, narrowed := true }
def LeavesPartUptoSaid : Prop := leavesPartUptoRow.holds Try.pinned (OpenSpec.upto leavesPartSpec)

/-- 'copselaw13.LeavesAll', WHERE WHAT IT READS IS OF BULK AT MOST 1048576: true; the input reads as it did. -/
def leavesAllUptoRow : OpenClaim := { program := "ythbaccmhdffjdaa", sum := "e03740517170ca4869a4d2b2d8c3d642a9938901cc419b99b234443b35f1c450", func := "copse/copselaw13.LeavesAll", spec := "leavesAll", unfollowed := true, recurses := true, plainKeys := false, apart := false, narrowed := true }
def LeavesAllUptoSaid : Prop := leavesAllUptoRow.holds Try.pinned (OpenSpec.upto leavesAllSpec)

/-- 'copselaw15.CliqueTrees', WHERE WHAT IT READS IS OF BULK AT MOST 1048576: true; the input reads as it did. -/
def cliqueTreesUptoRow : OpenClaim := { program := "ythbaccmhdffjdaa", sum := "e03740517170ca4869a4d2b2d8c3d642a9938901cc419b99b234443b35f1c450", func := "copse/copselaw15.CliqueTrees", spec := "cliqueTrees", unfollowed := true, recurses := true, plainKeys := false, apart := false, narrowed := true }
def CliqueTreesUptoSaid : Prop := cliqueTreesUptoRow.holds Try.pinned (OpenSpec.upto cliqueTreesSpec)

end Rows
end Go.Proofs.Ythbaccmhdffjdaa
