/-
  No cell of these rows narrows 'for every input' (looked for: loops, veiled, ifaces, maps, wideKeys, modest, calm, conditions, laid).
  DERIVED. THE GIVEN ROWS OF THIS SEAT. 5 by the template 'for every input the law returns true; each argument reads behind the call as it read before'; 0 by the template 'total and deterministic' (their statements: YtghmcodjbkmlnaaTotals.lean).
  GIVEN WITH THE SEED: the statements are not yours to turn. If you find one false, say at which input.
  Laid BY PROGRAM, IN A SANDBOX (cutbox-rows.mjs): the forced cells as the released guide's own fill.sh prints them over the translation d783582a635e3bf2… (all of the seat's roots in one cut). By AI agents, Wed Nov 11 2026. No macro, syntax, notation, axiom, sorry.
-/
import Derived.Test.YtghmcodjbkmlnaaChecked
import GoSem.Claim
import GoSem.ClaimJoined
import GoSem.ClaimMapViews
import Derived.JoinedTies
import Derived.KernelRfl
namespace Go.Proofs.Ytghmcodjbkmlnaa
/- THE CELL 'sum', in the pinned program and in every row, IS THE sha256 OF THE DUMP (.gsa) THAT YtghmcodjbkmlnaaProg.lean LOADS. Nothing in Lean hashes anything: it is a label: what it is worth is what the hold of that sum in a sandbox is worth. -/
noncomputable def Try.pinned : Pinned := { name := "ytghmcodjbkmlnaa", sum := "d783582a635e3bf2fcff4c54710f5c551bdb3b4adda64c756c0fb6d424ee6d71", checked := Try.checked }
namespace Rows
def none {H : Type} : Left H := { results := [], args := [] }

/-- 'coterielaw15.MemberRuns': WHATEVER THE INPUT: true; the input reads as it did. -/
def memberRunsSpec : ChangeSpec := { name := "memberRuns", fn := fun _ => fun
  | [d1, d2, d3] => { results := [.lit (.bool true)], args := [d1, d2, d3] }
  | _ => none }
def memberRunsRow : OpenClaim := { program := "ytghmcodjbkmlnaa", sum := "d783582a635e3bf2fcff4c54710f5c551bdb3b4adda64c756c0fb6d424ee6d71", func := "coterie/coterielaw15.MemberRuns", spec := "memberRuns", unfollowed := true, recurses := true, apart := false }
def MemberRunsSaid : Prop := memberRunsRow.holds Try.pinned (OpenSpec.ofChange memberRunsSpec)

/-- ITS FALSE NEIGHBOUR: 'it returns false'. Refute it at one input. -/
def memberRunsWrong : ChangeSpec := { name := "memberRuns", fn := fun _ => fun
  | [d1, d2, d3] => { results := [.lit (.bool false)], args := [d1, d2, d3] }
  | _ => none }
def MemberRunsWrongFalsely : Prop := memberRunsRow.holds Try.pinned (OpenSpec.ofChange memberRunsWrong)

/-- 'coterielaw15.MemberKeeps': WHATEVER THE INPUT: true; the input reads as it did. -/
def memberKeepsSpec : ChangeSpec := { name := "memberKeeps", fn := fun _ => fun
  | [d1, d2] => { results := [.lit (.bool true)], args := [d1, d2] }
  | _ => none }
def memberKeepsRow : OpenClaim := { program := "ytghmcodjbkmlnaa", sum := "d783582a635e3bf2fcff4c54710f5c551bdb3b4adda64c756c0fb6d424ee6d71", func := "coterie/coterielaw15.MemberKeeps", spec := "memberKeeps", unfollowed := true, recurses := true, apart := false }
def MemberKeepsSaid : Prop := memberKeepsRow.holds Try.pinned (OpenSpec.ofChange memberKeepsSpec)

/-- ITS FALSE NEIGHBOUR: 'it returns false'. Refute it at one input. -/
def memberKeepsWrong : ChangeSpec := { name := "memberKeeps", fn := fun _ => fun
  | [d1, d2] => { results := [.lit (.bool false)], args := [d1, d2] }
  | _ => none }
def MemberKeepsWrongFalsely : Prop := memberKeepsRow.holds Try.pinned (OpenSpec.ofChange memberKeepsWrong)

/-- 'coterielaw15.MemberOneWay': WHATEVER THE INPUT: true; the input reads as it did. -/
def memberOneWaySpec : ChangeSpec := { name := "memberOneWay", fn := fun _ => fun
  | [d1, d2] => { results := [.lit (.bool true)], args := [d1, d2] }
  | _ => none }
def memberOneWayRow : OpenClaim := { program := "ytghmcodjbkmlnaa", sum := "d783582a635e3bf2fcff4c54710f5c551bdb3b4adda64c756c0fb6d424ee6d71", func := "coterie/coterielaw15.MemberOneWay", spec := "memberOneWay", unfollowed := true, recurses := true, apart := false }
def MemberOneWaySaid : Prop := memberOneWayRow.holds Try.pinned (OpenSpec.ofChange memberOneWaySpec)

/-- ITS FALSE NEIGHBOUR: 'it returns false'. Refute it at one input. -/
def memberOneWayWrong : ChangeSpec := { name := "memberOneWay", fn := fun _ => fun
  | [d1, d2] => { results := [.lit (.bool false)], args := [d1, d2] }
  | _ => none }
def MemberOneWayWrongFalsely : Prop := memberOneWayRow.holds Try.pinned (OpenSpec.ofChange memberOneWayWrong)

/-- 'coterielaw15.MemberInStep': WHATEVER THE INPUT: true; the input reads as it did. -/
def memberInStepSpec : ChangeSpec := { name := "memberInStep", fn := fun _ => fun
  | [d1, d2] => { results := [.lit (.bool true)], args := [d1, d2] }
  | _ => none }
def memberInStepRow : OpenClaim := { program := "ytghmcodjbkmlnaa", sum := "d783582a635e3bf2fcff4c54710f5c551bdb3b4adda64c756c0fb6d424ee6d71", func := "coterie/coterielaw15.MemberInStep", spec := "memberInStep", unfollowed := true, recurses := true, apart := false }
def MemberInStepSaid : Prop := memberInStepRow.holds Try.pinned (OpenSpec.ofChange memberInStepSpec)

/-- ITS FALSE NEIGHBOUR: 'it returns false'. Refute it at one input. -/
def memberInStepWrong : ChangeSpec := { name := "memberInStep", fn := fun _ => fun
  | [d1, d2] => { results := [.lit (.bool false)], args := [d1, d2] }
  | _ => none }
def MemberInStepWrongFalsely : Prop := memberInStepRow.holds Try.pinned (OpenSpec.ofChange memberInStepWrong)

/-- 'coterielaw15.MemberKinds': WHATEVER THE INPUT: true; the input reads as it did. -/
def memberKindsSpec : ChangeSpec := { name := "memberKinds", fn := fun _ => fun
  | [d1, d2] => { results := [.lit (.bool true)], args := [d1, d2] }
  | _ => none }
def memberKindsRow : OpenClaim := { program := "ytghmcodjbkmlnaa", sum := "d783582a635e3bf2fcff4c54710f5c551bdb3b4adda64c756c0fb6d424ee6d71", func := "coterie/coterielaw15.MemberKinds", spec := "memberKinds", unfollowed := true, recurses := true, apart := false }
def MemberKindsSaid : Prop := memberKindsRow.holds Try.pinned (OpenSpec.ofChange memberKindsSpec)

/-- ITS FALSE NEIGHBOUR: 'it returns false'. Refute it at one input. -/
def memberKindsWrong : ChangeSpec := { name := "memberKinds", fn := fun _ => fun
  | [d1, d2] => { results := [.lit (.bool false)], args := [d1, d2] }
  | _ => none }
def MemberKindsWrongFalsely : Prop := memberKindsRow.holds Try.pinned (OpenSpec.ofChange memberKindsWrong)

/- THE SECOND FORM. 'bulk': how many values and letters a reading holds, each counted each time it is reached (what is shared counts as often as it is met; a slice's spare places count too). A statement '..UptoSaid' is the law's where the arguments, and the package variables that the reading takes, are together of bulk at most 1048576: NARROWER than '..Said'. Prove '..Said' where nothing that the law and all that it calls make is longer than what came in: it says more and counts as full. Else prove '..UptoSaid'. A law counts once. -/
mutual
def uptoBulk {H : Type} : DataW H → Nat
  | .lit (.string bytes) => bytes.length + 1
  | .lit _ => 1
  | .nil => 1
  | .ptr d => uptoBulk d + 1
  | .slice elems spare => uptoBulkAll elems + uptoBulkAll spare + 1
  | .agg parts => uptoBulkAll parts + 1
  | .iface _ d => uptoBulk d + 1
  | .map entries => uptoBulkEntries entries + 1
  | .held _ => 1
def uptoBulkAll {H : Type} : List (DataW H) → Nat
  | [] => 0
  | d :: r => uptoBulk d + uptoBulkAll r
def uptoBulkEntries {H : Type} : List (Lit × DataW H) → Nat
  | [] => 0
  | x :: r => uptoBulkEntry x + uptoBulkEntries r
def uptoBulkEntry {H : Type} : Lit × DataW H → Nat
  | (.string bytes, d) => bytes.length + uptoBulk d + 1
  | (_, d) => uptoBulk d + 1
 end
def uptoSmall : (H : Type) → List (DataW H) → Bool := fun _ ds => decide (uptoBulkAll ds ≤ 1048576)
def OpenSpec.upto (s : _root_.Go.ChangeSpec) : _root_.Go.OpenSpec := { _root_.Go.OpenSpec.ofChange s with cond := some uptoSmall }

/-- 'coterielaw15.MemberRuns', WHERE WHAT IT READS IS OF BULK AT MOST 1048576: true; the input reads as it did. -/
def memberRunsUptoRow : OpenClaim := { program := "ytghmcodjbkmlnaa", sum := "d783582a635e3bf2fcff4c54710f5c551bdb3b4adda64c756c0fb6d424ee6d71", func := "coterie/coterielaw15.MemberRuns", spec := "memberRuns", unfollowed := true, recurses := true, apart := false, narrowed := true }
def MemberRunsUptoSaid : Prop := memberRunsUptoRow.holds Try.pinned (OpenSpec.upto memberRunsSpec)

/-- 'coterielaw15.MemberKeeps', WHERE WHAT IT READS IS OF BULK AT MOST 1048576: true; the input reads as it did. -/
def memberKeepsUptoRow : OpenClaim := { program := "ytghmcodjbkmlnaa", sum := "d783582a635e3bf2fcff4c54710f5c551bdb3b4adda64c756c0fb6d424ee6d71", func := "coterie/coterielaw15.MemberKeeps", spec := "memberKeeps", unfollowed := true, recurses := true, apart := false, narrowed := true }
def MemberKeepsUptoSaid : Prop := memberKeepsUptoRow.holds Try.pinned (OpenSpec.upto memberKeepsSpec)

/-- 'coterielaw15.MemberOneWay', WHERE WHAT IT READS IS OF BULK AT MOST 1048576: true; the input reads as it did. -/
def memberOneWayUptoRow : OpenClaim := { program := "ytghmcodjbkmlnaa", sum := "d783582a635e3bf2fcff4c54710f5c551bdb3b4adda64c756c0fb6d424ee6d71", func := "coterie/coterielaw15.MemberOneWay", spec := "memberOneWay", unfollowed := true, recurses := true, apart := false, narrowed := true }
def MemberOneWayUptoSaid : Prop := memberOneWayUptoRow.holds Try.pinned (OpenSpec.upto memberOneWaySpec)

/-- 'coterielaw15.MemberInStep', WHERE WHAT IT READS IS OF BULK AT MOST 1048576: true; the input reads as it did. -/
def memberInStepUptoRow : OpenClaim := { program := "ytghmcodjbkmlnaa", sum := "d783582a635e3bf2fcff4c54710f5c551bdb3b4adda64c756c0fb6d424ee6d71", func := "coterie/coterielaw15.MemberInStep", spec := "memberInStep", unfollowed := true, recurses := true, apart := false, narrowed := true }
def MemberInStepUptoSaid : Prop := memberInStepUptoRow.holds Try.pinned (OpenSpec.upto memberInStepSpec)

/-- 'coterielaw15.MemberKinds', WHERE WHAT IT READS IS OF BULK AT MOST 1048576: true; the input reads as it did. -/
def memberKindsUptoRow : OpenClaim := { program := "ytghmcodjbkmlnaa", sum := "d783582a635e3bf2fcff4c54710f5c551bdb3b4adda64c756c0fb6d424ee6d71", func := "coterie/coterielaw15.MemberKinds", spec := "memberKinds", unfollowed := true, recurses := true, apart := false, narrowed := true }
def MemberKindsUptoSaid : Prop := memberKindsUptoRow.holds Try.pinned (OpenSpec.upto memberKindsSpec)

end Rows
end Go.Proofs.Ytghmcodjbkmlnaa
