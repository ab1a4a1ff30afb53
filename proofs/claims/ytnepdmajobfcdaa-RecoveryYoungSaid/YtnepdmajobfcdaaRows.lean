/-
  No cell of these rows narrows 'for every input' (looked for: loops, veiled, ifaces, maps, wideKeys, modest, calm, conditions, laid).
  DERIVED. THE GIVEN ROWS OF THIS SEAT. 6 by the template 'for every input the law returns true; each argument reads behind the call as it read before'; 0 by the template 'total and deterministic' (their statements: YtnepdmajobfcdaaTotals.lean).
  GIVEN WITH THE SEED: the statements are not yours to turn. If you find one false, say at which input.
  Laid BY PROGRAM, IN A SANDBOX (cutbox-rows.mjs): the forced cells as the released guide's own fill.sh prints them over the translation d865a21df62fd40e… (all of the seat's roots in one cut). By AI agents, Wed Nov 11 2026. No macro, syntax, notation, axiom, sorry.
-/
import Derived.Test.YtnepdmajobfcdaaChecked
import GoSem.Claim
import GoSem.ClaimJoined
import GoSem.ClaimMapViews
import Derived.JoinedTies
import Derived.KernelRfl
namespace Go.Proofs.Ytnepdmajobfcdaa
/- THE CELL 'sum', in the pinned program and in every row, IS THE sha256 OF THE DUMP (.gsa) THAT YtnepdmajobfcdaaProg.lean LOADS. Nothing in Lean hashes anything: it is a label: what it is worth is what the hold of that sum in a sandbox is worth. -/
noncomputable def Try.pinned : Pinned := { name := "ytnepdmajobfcdaa", sum := "d865a21df62fd40e647dcce3b7c46ccf3f7e8683722dbaee6f72679285d6e639", checked := Try.checked }
namespace Rows
def none {H : Type} : Left H := { results := [], args := [] }

/-- 'coterielaw16.RecoveryAnswers': WHATEVER THE INPUT: true; the input reads as it did. -/
def recoveryAnswersSpec : ChangeSpec := { name := "recoveryAnswers", fn := fun _ => fun
  | [d1, d2] => { results := [.lit (.bool true)], args := [d1, d2] }
  | _ => none }
def recoveryAnswersRow : OpenClaim := { program := "ytnepdmajobfcdaa", sum := "d865a21df62fd40e647dcce3b7c46ccf3f7e8683722dbaee6f72679285d6e639", func := "coterie/coterielaw16.RecoveryAnswers", spec := "recoveryAnswers", unfollowed := true, recurses := true, apart := false }
def RecoveryAnswersSaid : Prop := recoveryAnswersRow.holds Try.pinned (OpenSpec.ofChange recoveryAnswersSpec)

/-- ITS FALSE NEIGHBOUR: 'it returns false'. Refute it at one input. -/
def recoveryAnswersWrong : ChangeSpec := { name := "recoveryAnswers", fn := fun _ => fun
  | [d1, d2] => { results := [.lit (.bool false)], args := [d1, d2] }
  | _ => none }
def RecoveryAnswersWrongFalsely : Prop := recoveryAnswersRow.holds Try.pinned (OpenSpec.ofChange recoveryAnswersWrong)

/-- 'coterielaw16.RecoveryTakes': WHATEVER THE INPUT: true; the input reads as it did. -/
def recoveryTakesSpec : ChangeSpec := { name := "recoveryTakes", fn := fun _ => fun
  | [d1, d2] => { results := [.lit (.bool true)], args := [d1, d2] }
  | _ => none }
def recoveryTakesRow : OpenClaim := { program := "ytnepdmajobfcdaa", sum := "d865a21df62fd40e647dcce3b7c46ccf3f7e8683722dbaee6f72679285d6e639", func := "coterie/coterielaw16.RecoveryTakes", spec := "recoveryTakes", unfollowed := true, recurses := true, apart := false }
def RecoveryTakesSaid : Prop := recoveryTakesRow.holds Try.pinned (OpenSpec.ofChange recoveryTakesSpec)

/-- ITS FALSE NEIGHBOUR: 'it returns false'. Refute it at one input. -/
def recoveryTakesWrong : ChangeSpec := { name := "recoveryTakes", fn := fun _ => fun
  | [d1, d2] => { results := [.lit (.bool false)], args := [d1, d2] }
  | _ => none }
def RecoveryTakesWrongFalsely : Prop := recoveryTakesRow.holds Try.pinned (OpenSpec.ofChange recoveryTakesWrong)

/-- 'coterielaw16.RecoveryStrange': WHATEVER THE INPUT: true; the input reads as it did. -/
def recoveryStrangeSpec : ChangeSpec := { name := "recoveryStrange", fn := fun _ => fun
  | [d1, d2, d3] => { results := [.lit (.bool true)], args := [d1, d2, d3] }
  | _ => none }
def recoveryStrangeRow : OpenClaim := { program := "ytnepdmajobfcdaa", sum := "d865a21df62fd40e647dcce3b7c46ccf3f7e8683722dbaee6f72679285d6e639", func := "coterie/coterielaw16.RecoveryStrange", spec := "recoveryStrange", unfollowed := true, recurses := true, apart := false }
def RecoveryStrangeSaid : Prop := recoveryStrangeRow.holds Try.pinned (OpenSpec.ofChange recoveryStrangeSpec)

/-- ITS FALSE NEIGHBOUR: 'it returns false'. Refute it at one input. -/
def recoveryStrangeWrong : ChangeSpec := { name := "recoveryStrange", fn := fun _ => fun
  | [d1, d2, d3] => { results := [.lit (.bool false)], args := [d1, d2, d3] }
  | _ => none }
def RecoveryStrangeWrongFalsely : Prop := recoveryStrangeRow.holds Try.pinned (OpenSpec.ofChange recoveryStrangeWrong)

/-- 'coterielaw16.RecoveryYoung': WHATEVER THE INPUT: true; the input reads as it did. -/
def recoveryYoungSpec : ChangeSpec := { name := "recoveryYoung", fn := fun _ => fun
  | [d] => { results := [.lit (.bool true)], args := [d] }
  | _ => none }
def recoveryYoungRow : OpenClaim := { program := "ytnepdmajobfcdaa", sum := "d865a21df62fd40e647dcce3b7c46ccf3f7e8683722dbaee6f72679285d6e639", func := "coterie/coterielaw16.RecoveryYoung", spec := "recoveryYoung", unfollowed := true, recurses := true, apart := false }
def RecoveryYoungSaid : Prop := recoveryYoungRow.holds Try.pinned (OpenSpec.ofChange recoveryYoungSpec)

/-- ITS FALSE NEIGHBOUR: 'it returns false'. Refute it at one input. -/
def recoveryYoungWrong : ChangeSpec := { name := "recoveryYoung", fn := fun _ => fun
  | [d] => { results := [.lit (.bool false)], args := [d] }
  | _ => none }
def RecoveryYoungWrongFalsely : Prop := recoveryYoungRow.holds Try.pinned (OpenSpec.ofChange recoveryYoungWrong)

/-- 'coterielaw16.RecoveryBrings': WHATEVER THE INPUT: true; the input reads as it did. -/
def recoveryBringsSpec : ChangeSpec := { name := "recoveryBrings", fn := fun _ => fun
  | [d] => { results := [.lit (.bool true)], args := [d] }
  | _ => none }
def recoveryBringsRow : OpenClaim := { program := "ytnepdmajobfcdaa", sum := "d865a21df62fd40e647dcce3b7c46ccf3f7e8683722dbaee6f72679285d6e639", func := "coterie/coterielaw16.RecoveryBrings", spec := "recoveryBrings", unfollowed := true, recurses := true, apart := false }
def RecoveryBringsSaid : Prop := recoveryBringsRow.holds Try.pinned (OpenSpec.ofChange recoveryBringsSpec)

/-- ITS FALSE NEIGHBOUR: 'it returns false'. Refute it at one input. -/
def recoveryBringsWrong : ChangeSpec := { name := "recoveryBrings", fn := fun _ => fun
  | [d] => { results := [.lit (.bool false)], args := [d] }
  | _ => none }
def RecoveryBringsWrongFalsely : Prop := recoveryBringsRow.holds Try.pinned (OpenSpec.ofChange recoveryBringsWrong)

/-- 'coterielaw16.RecoveryAsks': WHATEVER THE INPUT: true; the input reads as it did. -/
def recoveryAsksSpec : ChangeSpec := { name := "recoveryAsks", fn := fun _ => fun
  | [d] => { results := [.lit (.bool true)], args := [d] }
  | _ => none }
def recoveryAsksRow : OpenClaim := { program := "ytnepdmajobfcdaa", sum := "d865a21df62fd40e647dcce3b7c46ccf3f7e8683722dbaee6f72679285d6e639", func := "coterie/coterielaw16.RecoveryAsks", spec := "recoveryAsks", unfollowed := true, recurses := true, apart := false }
def RecoveryAsksSaid : Prop := recoveryAsksRow.holds Try.pinned (OpenSpec.ofChange recoveryAsksSpec)

/-- ITS FALSE NEIGHBOUR: 'it returns false'. Refute it at one input. -/
def recoveryAsksWrong : ChangeSpec := { name := "recoveryAsks", fn := fun _ => fun
  | [d] => { results := [.lit (.bool false)], args := [d] }
  | _ => none }
def RecoveryAsksWrongFalsely : Prop := recoveryAsksRow.holds Try.pinned (OpenSpec.ofChange recoveryAsksWrong)

/- THE SECOND FORM. 'bulk': how many values and letters a reading holds, each counted each time it is reached (what is shared counts as often as it is met; a slice's spare places count too). A statement '..UptoSaid' is the law's where the arguments, and the package variables that the reading takes, are together of bulk at most 1048576: NARROWER than '..Said'. Prove '..Said' where nothing that the law and all that it calls make is longer than what came in: it says more and counts as full. Else prove '..UptoSaid'. A law counts once. -/
mutual
def uptoBulk {H : Type} : DataW H → Nat
  | .lit (.string bytes) => bytes.length + 1
  | .lit _ => 1
  | .nil => 1
  | .ptr d => uptoBulk d + 1
  | .slice elems spare => uptoBulkAll elems + uptoBulkAll spare + 1
  | .agg parts => uptoBulkAll parts + 1
  | .iface _ d => uptoBulk d + 1
  | .map entries => uptoBulkEntries entries + 1
  | .held _ => 1
def uptoBulkAll {H : Type} : List (DataW H) → Nat
  | [] => 0
  | d :: r => uptoBulk d + uptoBulkAll r
def uptoBulkEntries {H : Type} : List (Lit × DataW H) → Nat
  | [] => 0
  | x :: r => uptoBulkEntry x + uptoBulkEntries r
def uptoBulkEntry {H : Type} : Lit × DataW H → Nat
  | (.string bytes, d) => bytes.length + uptoBulk d + 1
  | (_, d) => uptoBulk d + 1
 end
def uptoSmall : (H : Type) → List (DataW H) → Bool := fun _ ds => decide (uptoBulkAll ds ≤ 1048576)
def OpenSpec.upto (s : _root_.Go.ChangeSpec) : _root_.Go.OpenSpec := { _root_.Go.OpenSpec.ofChange s with cond := some uptoSmall }

/-- 'coterielaw16.RecoveryAnswers', WHERE WHAT IT READS IS OF BULK AT MOST 1048576: true; the input reads as it did. -/
def recoveryAnswersUptoRow : OpenClaim := { program := "ytnepdmajobfcdaa", sum := "d865a21df62fd40e647dcce3b7c46ccf3f7e8683722dbaee6f72679285d6e639", func := "coterie/coterielaw16.RecoveryAnswers", spec := "recoveryAnswers", unfollowed := true, recurses := true, apart := false, narrowed := true }
def RecoveryAnswersUptoSaid : Prop := recoveryAnswersUptoRow.holds Try.pinned (OpenSpec.upto recoveryAnswersSpec)

/-- 'coterielaw16.RecoveryTakes', WHERE WHAT IT READS IS OF BULK AT MOST 1048576: true; the input reads as it did. -/
def recoveryTakesUptoRow : OpenClaim := { program := "ytnepdmajobfcdaa", sum := "d865a21df62fd40e647dcce3b7c46ccf3f7e8683722dbaee6f72679285d6e639", func := "coterie/coterielaw16.RecoveryTakes", spec := "recoveryTakes", unfollowed := true, recurses := true, apart := false, narrowed := true }
def RecoveryTakesUptoSaid : Prop := recoveryTakesUptoRow.holds Try.pinned (OpenSpec.upto recoveryTakesSpec)

/-- 'coterielaw16.RecoveryStrange', WHERE WHAT IT READS IS OF BULK AT MOST 1048576: true; the input reads as it did. -/
def recoveryStrangeUptoRow : OpenClaim := { program := "ytnepdmajobfcdaa", sum := "d865a21df62fd40e647dcce3b7c46ccf3f7e8683722dbaee6f72679285d6e639", func := "coterie/coterielaw16.RecoveryStrange", spec := "recoveryStrange", unfollowed := true, recurses := true, apart := false, narrowed := true }
def RecoveryStrangeUptoSaid : Prop := recoveryStrangeUptoRow.holds Try.pinned (OpenSpec.upto recoveryStrangeSpec)

/-- 'coterielaw16.RecoveryYoung', WHERE WHAT IT READS IS OF BULK AT MOST 1048576: true; the input reads as it did. -/
def recoveryYoungUptoRow : OpenClaim := { program := "ytnepdmajobfcdaa", sum := "d865a21df62fd40e647dcce3b7c46ccf3f7e8683722dbaee6f72679285d6e639", func := "coterie/coterielaw16.RecoveryYoung", spec := "recoveryYoung", unfollowed := true, recurses := true, apart := false, narrowed := true }
def RecoveryYoungUptoSaid : Prop := recoveryYoungUptoRow.holds Try.pinned (OpenSpec.upto recoveryYoungSpec)

/-- 'coterielaw16.RecoveryBrings', WHERE WHAT IT READS IS OF BULK AT MOST 1048576: true; the input reads as it did. -/
def recoveryBringsUptoRow : OpenClaim := { program := "ytnepdmajobfcdaa", sum := "d865a21df62fd40e647dcce3b7c46ccf3f7e8683722dbaee6f72679285d6e639", func := "coterie/coterielaw16.RecoveryBrings", spec := "recoveryBrings", unfollowed := true, recurses := true, apart := false, narrowed := true }
def RecoveryBringsUptoSaid : Prop := recoveryBringsUptoRow.holds Try.pinned (OpenSpec.upto recoveryBringsSpec)

/-- 'coterielaw16.RecoveryAsks', WHERE WHAT IT READS IS OF BULK AT MOST 1048576: true; the input reads as it did. -/
def recoveryAsksUptoRow : OpenClaim := { program := "ytnepdmajobfcdaa", sum := "d865a21df62fd40e647dcce3b7c46ccf3f7e8683722dbaee6f72679285d6e639", func := "coterie/coterielaw16.RecoveryAsks", spec := "recoveryAsks", unfollowed := true, recurses := true, apart := false, narrowed := true }
def RecoveryAsksUptoSaid : Prop := recoveryAsksUptoRow.holds Try.pinned (OpenSpec.upto recoveryAsksSpec)

end Rows
end Go.Proofs.Ytnepdmajobfcdaa
