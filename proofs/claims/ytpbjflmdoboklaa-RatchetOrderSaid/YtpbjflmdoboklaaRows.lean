/-
  No cell of these rows narrows 'for every input' (looked for: loops, veiled, ifaces, maps, wideKeys, modest, calm, conditions, laid).
  DERIVED. THE GIVEN ROWS OF THIS SEAT. 6 by the template 'for every input the law returns true; each argument reads behind the call as it read before'; 0 by the template 'total and deterministic' (their statements: YtpbjflmdoboklaaTotals.lean).
  GIVEN WITH THE SEED: the statements are not yours to turn. If you find one false, say at which input.
  Laid BY PROGRAM, IN A SANDBOX (cutbox-rows.mjs): the forced cells as the released guide's own fill.sh prints them over the translation a284b51758cbf7bb… (all of the seat's roots in one cut). By AI agents, Wed Nov 11 2026. No macro, syntax, notation, axiom, sorry.
-/
import Derived.Test.YtpbjflmdoboklaaChecked
import GoSem.Claim
import GoSem.ClaimJoined
import GoSem.ClaimMapViews
import Derived.JoinedTies
import Derived.KernelRfl
namespace Go.Proofs.Ytpbjflmdoboklaa
/- THE CELL 'sum', in the pinned program and in every row, IS THE sha256 OF THE DUMP (.gsa) THAT YtpbjflmdoboklaaProg.lean LOADS. Nothing in Lean hashes anything: it is a label: what it is worth is what the hold of that sum in a sandbox is worth. -/
noncomputable def Try.pinned : Pinned := { name := "ytpbjflmdoboklaa", sum := "a284b51758cbf7bb4431098f06378bc5bed8f00643eb06c5fe8ce91accec8c26", checked := Try.checked }
namespace Rows
def none {H : Type} : Left H := { results := [], args := [] }

/-- 'coterielaw10.RatchetTurns': WHATEVER THE INPUT: true; the input reads as it did. -/
def ratchetTurnsSpec : ChangeSpec := { name := "ratchetTurns", fn := fun _ => fun
  | [d1, d2, d3] => { results := [.lit (.bool true)], args := [d1, d2, d3] }
  | _ => none }
def ratchetTurnsRow : OpenClaim := { program := "ytpbjflmdoboklaa", sum := "a284b51758cbf7bb4431098f06378bc5bed8f00643eb06c5fe8ce91accec8c26", func := "coterie/coterielaw10.RatchetTurns", spec := "ratchetTurns", apart := false }
def RatchetTurnsSaid : Prop := ratchetTurnsRow.holds Try.pinned (OpenSpec.ofChange ratchetTurnsSpec)

/-- ITS FALSE NEIGHBOUR: 'it returns false'. Refute it at one input. -/
def ratchetTurnsWrong : ChangeSpec := { name := "ratchetTurns", fn := fun _ => fun
  | [d1, d2, d3] => { results := [.lit (.bool false)], args := [d1, d2, d3] }
  | _ => none }
def RatchetTurnsWrongFalsely : Prop := ratchetTurnsRow.holds Try.pinned (OpenSpec.ofChange ratchetTurnsWrong)

/-- 'coterielaw10.RatchetOneWay': WHATEVER THE INPUT: true; the input reads as it did. -/
def ratchetOneWaySpec : ChangeSpec := { name := "ratchetOneWay", fn := fun _ => fun
  | [d1, d2, d3] => { results := [.lit (.bool true)], args := [d1, d2, d3] }
  | _ => none }
def ratchetOneWayRow : OpenClaim := { program := "ytpbjflmdoboklaa", sum := "a284b51758cbf7bb4431098f06378bc5bed8f00643eb06c5fe8ce91accec8c26", func := "coterie/coterielaw10.RatchetOneWay", spec := "ratchetOneWay", apart := false }
def RatchetOneWaySaid : Prop := ratchetOneWayRow.holds Try.pinned (OpenSpec.ofChange ratchetOneWaySpec)

/-- ITS FALSE NEIGHBOUR: 'it returns false'. Refute it at one input. -/
def ratchetOneWayWrong : ChangeSpec := { name := "ratchetOneWay", fn := fun _ => fun
  | [d1, d2, d3] => { results := [.lit (.bool false)], args := [d1, d2, d3] }
  | _ => none }
def RatchetOneWayWrongFalsely : Prop := ratchetOneWayRow.holds Try.pinned (OpenSpec.ofChange ratchetOneWayWrong)

/-- 'coterielaw10.RatchetOrder': WHATEVER THE INPUT: true; the input reads as it did. -/
def ratchetOrderSpec : ChangeSpec := { name := "ratchetOrder", fn := fun _ => fun
  | [d1, d2, d3] => { results := [.lit (.bool true)], args := [d1, d2, d3] }
  | _ => none }
def ratchetOrderRow : OpenClaim := { program := "ytpbjflmdoboklaa", sum := "a284b51758cbf7bb4431098f06378bc5bed8f00643eb06c5fe8ce91accec8c26", func := "coterie/coterielaw10.RatchetOrder", spec := "ratchetOrder", apart := false }
def RatchetOrderSaid : Prop := ratchetOrderRow.holds Try.pinned (OpenSpec.ofChange ratchetOrderSpec)

/-- ITS FALSE NEIGHBOUR: 'it returns false'. Refute it at one input. -/
def ratchetOrderWrong : ChangeSpec := { name := "ratchetOrder", fn := fun _ => fun
  | [d1, d2, d3] => { results := [.lit (.bool false)], args := [d1, d2, d3] }
  | _ => none }
def RatchetOrderWrongFalsely : Prop := ratchetOrderRow.holds Try.pinned (OpenSpec.ofChange ratchetOrderWrong)

/-- 'coterielaw10.RatchetLeaves': WHATEVER THE INPUT: true; the input reads as it did. -/
def ratchetLeavesSpec : ChangeSpec := { name := "ratchetLeaves", fn := fun _ => fun
  | [d1, d2] => { results := [.lit (.bool true)], args := [d1, d2] }
  | _ => none }
def ratchetLeavesRow : OpenClaim := { program := "ytpbjflmdoboklaa", sum := "a284b51758cbf7bb4431098f06378bc5bed8f00643eb06c5fe8ce91accec8c26", func := "coterie/coterielaw10.RatchetLeaves", spec := "ratchetLeaves", apart := false }
def RatchetLeavesSaid : Prop := ratchetLeavesRow.holds Try.pinned (OpenSpec.ofChange ratchetLeavesSpec)

/-- ITS FALSE NEIGHBOUR: 'it returns false'. Refute it at one input. -/
def ratchetLeavesWrong : ChangeSpec := { name := "ratchetLeaves", fn := fun _ => fun
  | [d1, d2] => { results := [.lit (.bool false)], args := [d1, d2] }
  | _ => none }
def RatchetLeavesWrongFalsely : Prop := ratchetLeavesRow.holds Try.pinned (OpenSpec.ofChange ratchetLeavesWrong)

/-- 'coterielaw10.RatchetFollows': WHATEVER THE INPUT: true; the input reads as it did. -/
def ratchetFollowsSpec : ChangeSpec := { name := "ratchetFollows", fn := fun _ => fun
  | [d1, d2] => { results := [.lit (.bool true)], args := [d1, d2] }
  | _ => none }
def ratchetFollowsRow : OpenClaim := { program := "ytpbjflmdoboklaa", sum := "a284b51758cbf7bb4431098f06378bc5bed8f00643eb06c5fe8ce91accec8c26", func := "coterie/coterielaw10.RatchetFollows", spec := "ratchetFollows", apart := false }
def RatchetFollowsSaid : Prop := ratchetFollowsRow.holds Try.pinned (OpenSpec.ofChange ratchetFollowsSpec)

/-- ITS FALSE NEIGHBOUR: 'it returns false'. Refute it at one input. -/
def ratchetFollowsWrong : ChangeSpec := { name := "ratchetFollows", fn := fun _ => fun
  | [d1, d2] => { results := [.lit (.bool false)], args := [d1, d2] }
  | _ => none }
def RatchetFollowsWrongFalsely : Prop := ratchetFollowsRow.holds Try.pinned (OpenSpec.ofChange ratchetFollowsWrong)

/-- 'coterielaw10.RatchetRuns': WHATEVER THE INPUT: true; the input reads as it did. -/
def ratchetRunsSpec : ChangeSpec := { name := "ratchetRuns", fn := fun _ => fun
  | [d1, d2, d3] => { results := [.lit (.bool true)], args := [d1, d2, d3] }
  | _ => none }
def ratchetRunsRow : OpenClaim := { program := "ytpbjflmdoboklaa", sum := "a284b51758cbf7bb4431098f06378bc5bed8f00643eb06c5fe8ce91accec8c26", func := "coterie/coterielaw10.RatchetRuns", spec := "ratchetRuns", apart := false }
def RatchetRunsSaid : Prop := ratchetRunsRow.holds Try.pinned (OpenSpec.ofChange ratchetRunsSpec)

/-- ITS FALSE NEIGHBOUR: 'it returns false'. Refute it at one input. -/
def ratchetRunsWrong : ChangeSpec := { name := "ratchetRuns", fn := fun _ => fun
  | [d1, d2, d3] => { results := [.lit (.bool false)], args := [d1, d2, d3] }
  | _ => none }
def RatchetRunsWrongFalsely : Prop := ratchetRunsRow.holds Try.pinned (OpenSpec.ofChange ratchetRunsWrong)

/- THE SECOND FORM. 'bulk': how many values and letters a reading holds, each counted each time it is reached (what is shared counts as often as it is met; a slice's spare places count too). A statement '..UptoSaid' is the law's where the arguments, and the package variables that the reading takes, are together of bulk at most 1048576: NARROWER than '..Said'. Prove '..Said' where nothing that the law and all that it calls make is longer than what came in: it says more and counts as full. Else prove '..UptoSaid'. A law counts once. -/
mutual
def uptoBulk {H : Type} : DataW H → Nat
  | .lit (.string bytes) => bytes.length + 1
  | .lit _ => 1
  | .nil => 1
  | .ptr d => uptoBulk d + 1
  | .slice elems spare => uptoBulkAll elems + uptoBulkAll spare + 1
  | .agg parts => uptoBulkAll parts + 1
  | .iface _ d => uptoBulk d + 1
  | .map entries => uptoBulkEntries entries + 1
  | .held _ => 1
def uptoBulkAll {H : Type} : List (DataW H) → Nat
  | [] => 0
  | d :: r => uptoBulk d + uptoBulkAll r
def uptoBulkEntries {H : Type} : List (Lit × DataW H) → Nat
  | [] => 0
  | x :: r => uptoBulkEntry x + uptoBulkEntries r
def uptoBulkEntry {H : Type} : Lit × DataW H → Nat
  | (.string bytes, d) => bytes.length + uptoBulk d + 1
  | (_, d) => uptoBulk d + 1
 end
def uptoSmall : (H : Type) → List (DataW H) → Bool := fun _ ds => decide (uptoBulkAll ds ≤ 1048576)
def OpenSpec.upto (s : _root_.Go.ChangeSpec) : _root_.Go.OpenSpec := { _root_.Go.OpenSpec.ofChange s with cond := some uptoSmall }

/-- 'coterielaw10.RatchetTurns', WHERE WHAT IT READS IS OF BULK AT MOST 1048576: true; the input reads as it did. -/
def ratchetTurnsUptoRow : OpenClaim := { program := "ytpbjflmdoboklaa", sum := "a284b51758cbf7bb4431098f06378bc5bed8f00643eb06c5fe8ce91accec8c26", func := "coterie/coterielaw10.RatchetTurns", spec := "ratchetTurns", apart := false, narrowed := true }
def RatchetTurnsUptoSaid : Prop := ratchetTurnsUptoRow.holds Try.pinned (OpenSpec.upto ratchetTurnsSpec)

/-- 'coterielaw10.RatchetOneWay', WHERE WHAT IT READS IS OF BULK AT MOST 1048576: true; the input reads as it did. -/
def ratchetOneWayUptoRow : OpenClaim := { program := "ytpbjflmdoboklaa", sum := "a284b51758cbf7bb4431098f06378bc5bed8f00643eb06c5fe8ce91accec8c26", func := "coterie/coterielaw10.RatchetOneWay", spec := "ratchetOneWay", apart := false, narrowed := true }
def RatchetOneWayUptoSaid : Prop := ratchetOneWayUptoRow.holds Try.pinned (OpenSpec.upto ratchetOneWaySpec)

/-- 'coterielaw10.RatchetOrder', WHERE WHAT IT READS IS OF BULK AT MOST 1048576: true; the input reads as it did. -/
def ratchetOrderUptoRow : OpenClaim := { program := "ytpbjflmdoboklaa", sum := "a284b51758cbf7bb4431098f06378bc5bed8f00643eb06c5fe8ce91accec8c26", func := "coterie/coterielaw10.RatchetOrder", spec := "ratchetOrder", apart := false, narrowed := true }
def RatchetOrderUptoSaid : Prop := ratchetOrderUptoRow.holds Try.pinned (OpenSpec.upto ratchetOrderSpec)

/-- 'coterielaw10.RatchetLeaves', WHERE WHAT IT READS IS OF BULK AT MOST 1048576: true; the input reads as it did. -/
def ratchetLeavesUptoRow : OpenClaim := { program := "ytpbjflmdoboklaa", sum := "a284b51758cbf7bb4431098f06378bc5bed8f00643eb06c5fe8ce91accec8c26", func := "coterie/coterielaw10.RatchetLeaves", spec := "ratchetLeaves", apart := false, narrowed := true }
def RatchetLeavesUptoSaid : Prop := ratchetLeavesUptoRow.holds Try.pinned (OpenSpec.upto ratchetLeavesSpec)

/-- 'coterielaw10.RatchetFollows', WHERE WHAT IT READS IS OF BULK AT MOST 1048576: true; the input reads as it did. -/
def ratchetFollowsUptoRow : OpenClaim := { program := "ytpbjflmdoboklaa", sum := "a284b51758cbf7bb4431098f06378bc5bed8f00643eb06c5fe8ce91accec8c26", func := "coterie/coterielaw10.RatchetFollows", spec := "ratchetFollows", apart := false, narrowed := true }
def RatchetFollowsUptoSaid : Prop := ratchetFollowsUptoRow.holds Try.pinned (OpenSpec.upto ratchetFollowsSpec)

/-- 'coterielaw10.RatchetRuns', WHERE WHAT IT READS IS OF BULK AT MOST 1048576: true; the input reads as it did. -/
def ratchetRunsUptoRow : OpenClaim := { program := "ytpbjflmdoboklaa", sum := "a284b51758cbf7bb4431098f06378bc5bed8f00643eb06c5fe8ce91accec8c26", func := "coterie/coterielaw10.RatchetRuns", spec := "ratchetRuns", apart := false, narrowed := true }
def RatchetRunsUptoSaid : Prop := ratchetRunsUptoRow.holds Try.pinned (OpenSpec.upto ratchetRunsSpec)

end Rows
end Go.Proofs.Ytpbjflmdoboklaa
