/-
  No cell of these rows narrows 'for every input' (looked for: loops, veiled, ifaces, maps, wideKeys, modest, calm, conditions, laid).
  DERIVED. THE GIVEN ROWS OF THIS SEAT. 6 by the template 'for every input the law returns true; each argument reads behind the call as it read before'; 0 by the template 'total and deterministic' (their statements: YtbjcennoneepiaaTotals.lean).
  GIVEN WITH THE SEED: the statements are not yours to turn. If you find one false, say at which input.
  Laid BY PROGRAM, IN A SANDBOX (cutbox-rows.mjs): the forced cells as the released guide's own fill.sh prints them over the translation 286e4f3d5295e4fd… (all of the seat's roots in one cut). By AI agents, Wed Nov 11 2026. No macro, syntax, notation, axiom, sorry.
-/
import Derived.Test.YtbjcennoneepiaaChecked
import GoSem.Claim
import GoSem.ClaimJoined
import GoSem.ClaimMapViews
import Derived.JoinedTies
import Derived.KernelRfl
namespace Go.Proofs.Ytbjcennoneepiaa
/- THE CELL 'sum', in the pinned program and in every row, IS THE sha256 OF THE DUMP (.gsa) THAT YtbjcennoneepiaaProg.lean LOADS. Nothing in Lean hashes anything: it is a label: what it is worth is what the hold of that sum in a sandbox is worth. -/
noncomputable def Try.pinned : Pinned := { name := "ytbjcennoneepiaa", sum := "286e4f3d5295e4fd100186cadad7630463c20ed75923fc704f15c206883ea0b0", checked := Try.checked }
namespace Rows
def none {H : Type} : Left H := { results := [], args := [] }

/-- 'coterielaw11.TreeChecks': WHATEVER THE INPUT: true; the input reads as it did. -/
def treeChecksSpec : ChangeSpec := { name := "treeChecks", fn := fun _ => fun
  | [d] => { results := [.lit (.bool true)], args := [d] }
  | _ => none }
def treeChecksRow : OpenClaim := { program := "ytbjcennoneepiaa", sum := "286e4f3d5295e4fd100186cadad7630463c20ed75923fc704f15c206883ea0b0", func := "coterie/coterielaw11.TreeChecks", spec := "treeChecks", apart := false }
def TreeChecksSaid : Prop := treeChecksRow.holds Try.pinned (OpenSpec.ofChange treeChecksSpec)

/-- ITS FALSE NEIGHBOUR: 'it returns false'. Refute it at one input. -/
def treeChecksWrong : ChangeSpec := { name := "treeChecks", fn := fun _ => fun
  | [d] => { results := [.lit (.bool false)], args := [d] }
  | _ => none }
def TreeChecksWrongFalsely : Prop := treeChecksRow.holds Try.pinned (OpenSpec.ofChange treeChecksWrong)

/-- 'coterielaw11.TreeNames': WHATEVER THE INPUT: true; the input reads as it did. -/
def treeNamesSpec : ChangeSpec := { name := "treeNames", fn := fun _ => fun
  | [d] => { results := [.lit (.bool true)], args := [d] }
  | _ => none }
def treeNamesRow : OpenClaim := { program := "ytbjcennoneepiaa", sum := "286e4f3d5295e4fd100186cadad7630463c20ed75923fc704f15c206883ea0b0", func := "coterie/coterielaw11.TreeNames", spec := "treeNames", apart := false }
def TreeNamesSaid : Prop := treeNamesRow.holds Try.pinned (OpenSpec.ofChange treeNamesSpec)

/-- ITS FALSE NEIGHBOUR: 'it returns false'. Refute it at one input. -/
def treeNamesWrong : ChangeSpec := { name := "treeNames", fn := fun _ => fun
  | [d] => { results := [.lit (.bool false)], args := [d] }
  | _ => none }
def TreeNamesWrongFalsely : Prop := treeNamesRow.holds Try.pinned (OpenSpec.ofChange treeNamesWrong)

/-- 'coterielaw11.TreeHeld': WHATEVER THE INPUT: true; the input reads as it did. -/
def treeHeldSpec : ChangeSpec := { name := "treeHeld", fn := fun _ => fun
  | [d] => { results := [.lit (.bool true)], args := [d] }
  | _ => none }
def treeHeldRow : OpenClaim := { program := "ytbjcennoneepiaa", sum := "286e4f3d5295e4fd100186cadad7630463c20ed75923fc704f15c206883ea0b0", func := "coterie/coterielaw11.TreeHeld", spec := "treeHeld", apart := false }
def TreeHeldSaid : Prop := treeHeldRow.holds Try.pinned (OpenSpec.ofChange treeHeldSpec)

/-- ITS FALSE NEIGHBOUR: 'it returns false'. Refute it at one input. -/
def treeHeldWrong : ChangeSpec := { name := "treeHeld", fn := fun _ => fun
  | [d] => { results := [.lit (.bool false)], args := [d] }
  | _ => none }
def TreeHeldWrongFalsely : Prop := treeHeldRow.holds Try.pinned (OpenSpec.ofChange treeHeldWrong)

/-- 'coterielaw11.TreeKeys': WHATEVER THE INPUT: true; the input reads as it did. -/
def treeKeysSpec : ChangeSpec := { name := "treeKeys", fn := fun _ => fun
  | [d1, d2, d3] => { results := [.lit (.bool true)], args := [d1, d2, d3] }
  | _ => none }
def treeKeysRow : OpenClaim := { program := "ytbjcennoneepiaa", sum := "286e4f3d5295e4fd100186cadad7630463c20ed75923fc704f15c206883ea0b0", func := "coterie/coterielaw11.TreeKeys", spec := "treeKeys", apart := false }
def TreeKeysSaid : Prop := treeKeysRow.holds Try.pinned (OpenSpec.ofChange treeKeysSpec)

/-- ITS FALSE NEIGHBOUR: 'it returns false'. Refute it at one input. -/
def treeKeysWrong : ChangeSpec := { name := "treeKeys", fn := fun _ => fun
  | [d1, d2, d3] => { results := [.lit (.bool false)], args := [d1, d2, d3] }
  | _ => none }
def TreeKeysWrongFalsely : Prop := treeKeysRow.holds Try.pinned (OpenSpec.ofChange treeKeysWrong)

/-- 'coterielaw11.TreeStands': WHATEVER THE INPUT: true; the input reads as it did. -/
def treeStandsSpec : ChangeSpec := { name := "treeStands", fn := fun _ => fun
  | [d1, d2, d3] => { results := [.lit (.bool true)], args := [d1, d2, d3] }
  | _ => none }
def treeStandsRow : OpenClaim := { program := "ytbjcennoneepiaa", sum := "286e4f3d5295e4fd100186cadad7630463c20ed75923fc704f15c206883ea0b0", func := "coterie/coterielaw11.TreeStands", spec := "treeStands", unfollowed := true, recurses := true, apart := false }
def TreeStandsSaid : Prop := treeStandsRow.holds Try.pinned (OpenSpec.ofChange treeStandsSpec)

/-- ITS FALSE NEIGHBOUR: 'it returns false'. Refute it at one input. -/
def treeStandsWrong : ChangeSpec := { name := "treeStands", fn := fun _ => fun
  | [d1, d2, d3] => { results := [.lit (.bool false)], args := [d1, d2, d3] }
  | _ => none }
def TreeStandsWrongFalsely : Prop := treeStandsRow.holds Try.pinned (OpenSpec.ofChange treeStandsWrong)

/-- 'coterielaw11.TreePaths': WHATEVER THE INPUT: true; the input reads as it did. -/
def treePathsSpec : ChangeSpec := { name := "treePaths", fn := fun _ => fun
  | [d1, d2] => { results := [.lit (.bool true)], args := [d1, d2] }
  | _ => none }
def treePathsRow : OpenClaim := { program := "ytbjcennoneepiaa", sum := "286e4f3d5295e4fd100186cadad7630463c20ed75923fc704f15c206883ea0b0", func := "coterie/coterielaw11.TreePaths", spec := "treePaths", unfollowed := true, recurses := true, apart := false }
def TreePathsSaid : Prop := treePathsRow.holds Try.pinned (OpenSpec.ofChange treePathsSpec)

/-- ITS FALSE NEIGHBOUR: 'it returns false'. Refute it at one input. -/
def treePathsWrong : ChangeSpec := { name := "treePaths", fn := fun _ => fun
  | [d1, d2] => { results := [.lit (.bool false)], args := [d1, d2] }
  | _ => none }
def TreePathsWrongFalsely : Prop := treePathsRow.holds Try.pinned (OpenSpec.ofChange treePathsWrong)

/- THE SECOND FORM. 'bulk': how many values and letters a reading holds, each counted each time it is reached (what is shared counts as often as it is met; a slice's spare places count too). A statement '..UptoSaid' is the law's where the arguments, and the package variables that the reading takes, are together of bulk at most 1048576: NARROWER than '..Said'. Prove '..Said' where nothing that the law and all that it calls make is longer than what came in: it says more and counts as full. Else prove '..UptoSaid'. A law counts once. -/
mutual
def uptoBulk {H : Type} : DataW H → Nat
  | .lit (.string bytes) => bytes.length + 1
  | .lit _ => 1
  | .nil => 1
  | .ptr d => uptoBulk d + 1
  | .slice elems spare => uptoBulkAll elems + uptoBulkAll spare + 1
  | .agg parts => uptoBulkAll parts + 1
  | .iface _ d => uptoBulk d + 1
  | .map entries => uptoBulkEntries entries + 1
  | .held _ => 1
def uptoBulkAll {H : Type} : List (DataW H) → Nat
  | [] => 0
  | d :: r => uptoBulk d + uptoBulkAll r
def uptoBulkEntries {H : Type} : List (Lit × DataW H) → Nat
  | [] => 0
  | x :: r => uptoBulkEntry x + uptoBulkEntries r
def uptoBulkEntry {H : Type} : Lit × DataW H → Nat
  | (.string bytes, d) => bytes.length + uptoBulk d + 1
  | (_, d) => uptoBulk d + 1
 end
def uptoSmall : (H : Type) → List (DataW H) → Bool := fun _ ds => decide (uptoBulkAll ds ≤ 1048576)
def OpenSpec.upto (s : _root_.Go.ChangeSpec) : _root_.Go.OpenSpec := { _root_.Go.OpenSpec.ofChange s with cond := some uptoSmall }

/-- 'coterielaw11.TreeChecks', WHERE WHAT IT READS IS OF BULK AT MOST 1048576: true; the input reads as it did. -/
def treeChecksUptoRow : OpenClaim := { program := "ytbjcennoneepiaa", sum := "286e4f3d5295e4fd100186cadad7630463c20ed75923fc704f15c206883ea0b0", func := "coterie/coterielaw11.TreeChecks", spec := "treeChecks", apart := false, narrowed := true }
def TreeChecksUptoSaid : Prop := treeChecksUptoRow.holds Try.pinned (OpenSpec.upto treeChecksSpec)

/-- 'coterielaw11.TreeNames', WHERE WHAT IT READS IS OF BULK AT MOST 1048576: true; the input reads as it did. -/
def treeNamesUptoRow : OpenClaim := { program := "ytbjcennoneepiaa", sum := "286e4f3d5295e4fd100186cadad7630463c20ed75923fc704f15c206883ea0b0", func := "coterie/coterielaw11.TreeNames", spec := "treeNames", apart := false, narrowed := true }
def TreeNamesUptoSaid : Prop := treeNamesUptoRow.holds Try.pinned (OpenSpec.upto treeNamesSpec)

/-- 'coterielaw11.TreeHeld', WHERE WHAT IT READS IS OF BULK AT MOST 1048576: true; the input reads as it did. -/
def treeHeldUptoRow : OpenClaim := { program := "ytbjcennoneepiaa", sum := "286e4f3d5295e4fd100186cadad7630463c20ed75923fc704f15c206883ea0b0", func := "coterie/coterielaw11.TreeHeld", spec := "treeHeld", apart := false, narrowed := true }
def TreeHeldUptoSaid : Prop := treeHeldUptoRow.holds Try.pinned (OpenSpec.upto treeHeldSpec)

/-- 'coterielaw11.TreeKeys', WHERE WHAT IT READS IS OF BULK AT MOST 1048576: true; the input reads as it did. -/
def treeKeysUptoRow : OpenClaim := { program := "ytbjcennoneepiaa", sum := "286e4f3d5295e4fd100186cadad7630463c20ed75923fc704f15c206883ea0b0", func := "coterie/coterielaw11.TreeKeys", spec := "treeKeys", apart := false, narrowed := true }
def TreeKeysUptoSaid : Prop := treeKeysUptoRow.holds Try.pinned (OpenSpec.upto treeKeysSpec)

/-- 'coterielaw11.TreeStands', WHERE WHAT IT READS IS OF BULK AT MOST 1048576: true; the input reads as it did. -/
def treeStandsUptoRow : OpenClaim := { program := "ytbjcennoneepiaa", sum := "286e4f3d5295e4fd100186cadad7630463c20ed75923fc704f15c206883ea0b0", func := "coterie/coterielaw11.TreeStands", spec := "treeStands", unfollowed := true, recurses := true, apart := false, narrowed := true }
def TreeStandsUptoSaid : Prop := treeStandsUptoRow.holds Try.pinned (OpenSpec.upto treeStandsSpec)

/-- 'coterielaw11.TreePaths', WHERE WHAT IT READS IS OF BULK AT MOST 1048576: true; the input reads as it did. -/
def treePathsUptoRow : OpenClaim := { program := "ytbjcennoneepiaa", sum := "286e4f3d5295e4fd100186cadad7630463c20ed75923fc704f15c206883ea0b0", func := "coterie/coterielaw11.TreePaths", spec := "treePaths", unfollowed := true, recurses := true, apart := false, narrowed := true }
def TreePathsUptoSaid : Prop := treePathsUptoRow.holds Try.pinned (OpenSpec.upto treePathsSpec)

end Rows
end Go.Proofs.Ytbjcennoneepiaa
