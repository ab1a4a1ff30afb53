/-
  NARROWER THAN 'FOR EVERY INPUT', by the rows' own cells (each row's printed sentence says how): HistoryPlays: laid · HistoryRights: laid · HistoryAsks: laid · HistoryExcuses: laid · HistoryReplaced: laid.
  DERIVED. THE GIVEN ROWS OF THIS SEAT. 5 by the template 'for every input the law returns true; each argument reads behind the call as it read before'; 0 by the template 'total and deterministic' (their statements: YtghlolinkmlkeaaGreatDoorTotals.lean).
  GIVEN WITH THE SEED: the statements are not yours to turn. If you find one false, say at which input.
  Laid BY PROGRAM, IN A SANDBOX (cutbox-rows.mjs): the forced cells as the released guide's own fill.sh prints them over the translation dc73b04b8fcec887… (all of the seat's roots in one cut). By AI agents, Wed Nov 11 2026. No macro, syntax, notation, axiom, sorry.
-/
import Derived.Test.YtghlolinkmlkeaaGreatDoorChecked
import GoSem.Claim
import GoSem.ClaimJoined
import GoSem.ClaimMapViews
import Derived.JoinedTies
import Derived.KernelRfl
namespace Go.Proofs.YtghlolinkmlkeaaGreatDoor
/- THE CELL 'sum', in the pinned program and in every row, IS THE sha256 OF THE DUMP (.gsa) THAT YtghlolinkmlkeaaGreatDoorProg.lean LOADS. Nothing in Lean hashes anything: it is a label: what it is worth is what the hold of that sum in a sandbox is worth. -/
noncomputable def Tryz.pinned : Pinned := { name := "ytghlolinkmlkeaagreatdoor", sum := "dc73b04b8fcec88763c88f085e5c250cb531340f2e1d885c2f18353c54cf7022", checked := Tryz.checked }
namespace Rows
def none {H : Type} : Left H := { results := [], args := [] }

/- WHAT THE LISTED PACKAGE-LEVEL VARIABLES READ AS WHEN THE CALL BEGINS. Each datum BY PROGRAM (the guide's laid-datum.mjs) off the statement by which the dump's own 'gosem.cut.vars' lays the variable. In a bare row this is a premise. The card (YtghlolinkmlkeaaGreatDoorCards.lean) ties it to the program's text. -/
def laid_math_bits_deBruijn64tab {H : Type} : DataW H := .agg [.lit (.int .u8 0), .lit (.int .u8 1), .lit (.int .u8 56), .lit (.int .u8 2), .lit (.int .u8 57), .lit (.int .u8 49), .lit (.int .u8 28), .lit (.int .u8 3), .lit (.int .u8 61), .lit (.int .u8 58), .lit (.int .u8 42), .lit (.int .u8 50), .lit (.int .u8 38), .lit (.int .u8 29), .lit (.int .u8 17), .lit (.int .u8 4), .lit (.int .u8 62), .lit (.int .u8 47), .lit (.int .u8 59), .lit (.int .u8 36), .lit (.int .u8 45), .lit (.int .u8 43), .lit (.int .u8 51), .lit (.int .u8 22), .lit (.int .u8 53), .lit (.int .u8 39), .lit (.int .u8 33), .lit (.int .u8 30), .lit (.int .u8 24), .lit (.int .u8 18), .lit (.int .u8 12), .lit (.int .u8 5), .lit (.int .u8 63), .lit (.int .u8 55), .lit (.int .u8 48), .lit (.int .u8 27), .lit (.int .u8 60), .lit (.int .u8 41), .lit (.int .u8 37), .lit (.int .u8 16), .lit (.int .u8 46), .lit (.int .u8 35), .lit (.int .u8 44), .lit (.int .u8 21), .lit (.int .u8 52), .lit (.int .u8 32), .lit (.int .u8 23), .lit (.int .u8 11), .lit (.int .u8 54), .lit (.int .u8 26), .lit (.int .u8 40), .lit (.int .u8 15), .lit (.int .u8 34), .lit (.int .u8 20), .lit (.int .u8 31), .lit (.int .u8 10), .lit (.int .u8 25), .lit (.int .u8 14), .lit (.int .u8 19), .lit (.int .u8 9), .lit (.int .u8 13), .lit (.int .u8 8), .lit (.int .u8 7), .lit (.int .u8 6)]

/-- 'coterielaw22.HistoryPlays': WHATEVER THE INPUT: true; the input reads as it did. -/
def historyPlaysSpec : ChangeSpec := { name := "historyPlays", fn := fun _ => fun
  | [d] => { results := [.lit (.bool true)], args := [d] }
  | _ => none }
def historyPlaysRow : OpenClaim := { program := "ytghlolinkmlkeaagreatdoor", sum := "dc73b04b8fcec88763c88f085e5c250cb531340f2e1d885c2f18353c54cf7022", func := "coterie/coterielaw22.HistoryPlays", spec := "historyPlays", unfollowed := true, recurses := true, named := ["math/bits.deBruijn64tab"], apart := false, laid := [("math/bits.deBruijn64tab", laid_math_bits_deBruijn64tab)] }
def HistoryPlaysSaid : Prop := historyPlaysRow.holds Tryz.pinned (OpenSpec.ofChange historyPlaysSpec)

/-- ITS FALSE NEIGHBOUR: 'it returns false'. Refute it at one input. -/
def historyPlaysWrong : ChangeSpec := { name := "historyPlays", fn := fun _ => fun
  | [d] => { results := [.lit (.bool false)], args := [d] }
  | _ => none }
def HistoryPlaysWrongFalsely : Prop := historyPlaysRow.holds Tryz.pinned (OpenSpec.ofChange historyPlaysWrong)

/-- 'coterielaw22.HistoryRights': WHATEVER THE INPUT: true; the input reads as it did. -/
def historyRightsSpec : ChangeSpec := { name := "historyRights", fn := fun _ => fun
  | [d] => { results := [.lit (.bool true)], args := [d] }
  | _ => none }
def historyRightsRow : OpenClaim := { program := "ytghlolinkmlkeaagreatdoor", sum := "dc73b04b8fcec88763c88f085e5c250cb531340f2e1d885c2f18353c54cf7022", func := "coterie/coterielaw22.HistoryRights", spec := "historyRights", unfollowed := true, recurses := true, named := ["math/bits.deBruijn64tab"], apart := false, laid := [("math/bits.deBruijn64tab", laid_math_bits_deBruijn64tab)] }
def HistoryRightsSaid : Prop := historyRightsRow.holds Tryz.pinned (OpenSpec.ofChange historyRightsSpec)

/-- ITS FALSE NEIGHBOUR: 'it returns false'. Refute it at one input. -/
def historyRightsWrong : ChangeSpec := { name := "historyRights", fn := fun _ => fun
  | [d] => { results := [.lit (.bool false)], args := [d] }
  | _ => none }
def HistoryRightsWrongFalsely : Prop := historyRightsRow.holds Tryz.pinned (OpenSpec.ofChange historyRightsWrong)

/-- 'coterielaw22.HistoryAsks': WHATEVER THE INPUT: true; the input reads as it did. -/
def historyAsksSpec : ChangeSpec := { name := "historyAsks", fn := fun _ => fun
  | [d] => { results := [.lit (.bool true)], args := [d] }
  | _ => none }
def historyAsksRow : OpenClaim := { program := "ytghlolinkmlkeaagreatdoor", sum := "dc73b04b8fcec88763c88f085e5c250cb531340f2e1d885c2f18353c54cf7022", func := "coterie/coterielaw22.HistoryAsks", spec := "historyAsks", unfollowed := true, recurses := true, named := ["math/bits.deBruijn64tab"], apart := false, laid := [("math/bits.deBruijn64tab", laid_math_bits_deBruijn64tab)] }
def HistoryAsksSaid : Prop := historyAsksRow.holds Tryz.pinned (OpenSpec.ofChange historyAsksSpec)

/-- ITS FALSE NEIGHBOUR: 'it returns false'. Refute it at one input. -/
def historyAsksWrong : ChangeSpec := { name := "historyAsks", fn := fun _ => fun
  | [d] => { results := [.lit (.bool false)], args := [d] }
  | _ => none }
def HistoryAsksWrongFalsely : Prop := historyAsksRow.holds Tryz.pinned (OpenSpec.ofChange historyAsksWrong)

/-- 'coterielaw22.HistoryExcuses': WHATEVER THE INPUT: true; the input reads as it did. -/
def historyExcusesSpec : ChangeSpec := { name := "historyExcuses", fn := fun _ => fun
  | [d1, d2] => { results := [.lit (.bool true)], args := [d1, d2] }
  | _ => none }
def historyExcusesRow : OpenClaim := { program := "ytghlolinkmlkeaagreatdoor", sum := "dc73b04b8fcec88763c88f085e5c250cb531340f2e1d885c2f18353c54cf7022", func := "coterie/coterielaw22.HistoryExcuses", spec := "historyExcuses", unfollowed := true, recurses := true, named := ["math/bits.deBruijn64tab"], apart := false, laid := [("math/bits.deBruijn64tab", laid_math_bits_deBruijn64tab)] }
def HistoryExcusesSaid : Prop := historyExcusesRow.holds Tryz.pinned (OpenSpec.ofChange historyExcusesSpec)

/-- ITS FALSE NEIGHBOUR: 'it returns false'. Refute it at one input. -/
def historyExcusesWrong : ChangeSpec := { name := "historyExcuses", fn := fun _ => fun
  | [d1, d2] => { results := [.lit (.bool false)], args := [d1, d2] }
  | _ => none }
def HistoryExcusesWrongFalsely : Prop := historyExcusesRow.holds Tryz.pinned (OpenSpec.ofChange historyExcusesWrong)

/-- 'coterielaw22.HistoryReplaced': WHATEVER THE INPUT: true; the input reads as it did. -/
def historyReplacedSpec : ChangeSpec := { name := "historyReplaced", fn := fun _ => fun
  | [d] => { results := [.lit (.bool true)], args := [d] }
  | _ => none }
def historyReplacedRow : OpenClaim := { program := "ytghlolinkmlkeaagreatdoor", sum := "dc73b04b8fcec88763c88f085e5c250cb531340f2e1d885c2f18353c54cf7022", func := "coterie/coterielaw22.HistoryReplaced", spec := "historyReplaced", unfollowed := true, recurses := true, named := ["math/bits.deBruijn64tab"], apart := false, laid := [("math/bits.deBruijn64tab", laid_math_bits_deBruijn64tab)] }
def HistoryReplacedSaid : Prop := historyReplacedRow.holds Tryz.pinned (OpenSpec.ofChange historyReplacedSpec)

/-- ITS FALSE NEIGHBOUR: 'it returns false'. Refute it at one input. -/
def historyReplacedWrong : ChangeSpec := { name := "historyReplaced", fn := fun _ => fun
  | [d] => { results := [.lit (.bool false)], args := [d] }
  | _ => none }
def HistoryReplacedWrongFalsely : Prop := historyReplacedRow.holds Tryz.pinned (OpenSpec.ofChange historyReplacedWrong)

/- THE SECOND FORM. 'bulk': how many values and letters a reading holds, each counted each time it is reached (what is shared counts as often as it is met; a slice's spare places count too). A statement '..UptoSaid' is the law's where the arguments, and the package variables that the reading takes, are together of bulk at most 1048576: NARROWER than '..Said'. Prove '..Said' where nothing that the law and all that it calls make is longer than what came in: it says more and counts as full. Else prove '..UptoSaid'. A law counts once. -/
mutual
def uptoBulk {H : Type} : DataW H → Nat
  | .lit (.string bytes) => bytes.length + 1
  | .lit _ => 1
  | .nil => 1
  | .ptr d => uptoBulk d + 1
  | .slice elems spare => uptoBulkAll elems + uptoBulkAll spare + 1
  | .agg parts => uptoBulkAll parts + 1
  | .iface _ d => uptoBulk d + 1
  | .map entries => uptoBulkEntries entries + 1
  | .held _ => 1
def uptoBulkAll {H : Type} : List (DataW H) → Nat
  | [] => 0
  | d :: r => uptoBulk d + uptoBulkAll r
def uptoBulkEntries {H : Type} : List (Lit × DataW H) → Nat
  | [] => 0
  | x :: r => uptoBulkEntry x + uptoBulkEntries r
def uptoBulkEntry {H : Type} : Lit × DataW H → Nat
  | (.string bytes, d) => bytes.length + uptoBulk d + 1
  | (_, d) => uptoBulk d + 1
 end
def uptoSmall : (H : Type) → List (DataW H) → Bool := fun _ ds => decide (uptoBulkAll ds ≤ 1048576)
def OpenSpec.upto (s : _root_.Go.ChangeSpec) : _root_.Go.OpenSpec := { _root_.Go.OpenSpec.ofChange s with cond := some uptoSmall }

/-- 'coterielaw22.HistoryPlays', WHERE WHAT IT READS IS OF BULK AT MOST 1048576: true; the input reads as it did. -/
def historyPlaysUptoRow : OpenClaim := { program := "ytghlolinkmlkeaagreatdoor", sum := "dc73b04b8fcec88763c88f085e5c250cb531340f2e1d885c2f18353c54cf7022", func := "coterie/coterielaw22.HistoryPlays", spec := "historyPlays", unfollowed := true, recurses := true, named := ["math/bits.deBruijn64tab"], apart := false, laid := [("math/bits.deBruijn64tab", laid_math_bits_deBruijn64tab)], narrowed := true }
def HistoryPlaysUptoSaid : Prop := historyPlaysUptoRow.holds Tryz.pinned (OpenSpec.upto historyPlaysSpec)

/-- 'coterielaw22.HistoryRights', WHERE WHAT IT READS IS OF BULK AT MOST 1048576: true; the input reads as it did. -/
def historyRightsUptoRow : OpenClaim := { program := "ytghlolinkmlkeaagreatdoor", sum := "dc73b04b8fcec88763c88f085e5c250cb531340f2e1d885c2f18353c54cf7022", func := "coterie/coterielaw22.HistoryRights", spec := "historyRights", unfollowed := true, recurses := true, named := ["math/bits.deBruijn64tab"], apart := false, laid := [("math/bits.deBruijn64tab", laid_math_bits_deBruijn64tab)], narrowed := true }
def HistoryRightsUptoSaid : Prop := historyRightsUptoRow.holds Tryz.pinned (OpenSpec.upto historyRightsSpec)

/-- 'coterielaw22.HistoryAsks', WHERE WHAT IT READS IS OF BULK AT MOST 1048576: true; the input reads as it did. -/
def historyAsksUptoRow : OpenClaim := { program := "ytghlolinkmlkeaagreatdoor", sum := "dc73b04b8fcec88763c88f085e5c250cb531340f2e1d885c2f18353c54cf7022", func := "coterie/coterielaw22.HistoryAsks", spec := "historyAsks", unfollowed := true, recurses := true, named := ["math/bits.deBruijn64tab"], apart := false, laid := [("math/bits.deBruijn64tab", laid_math_bits_deBruijn64tab)], narrowed := true }
def HistoryAsksUptoSaid : Prop := historyAsksUptoRow.holds Tryz.pinned (OpenSpec.upto historyAsksSpec)

/-- 'coterielaw22.HistoryExcuses', WHERE WHAT IT READS IS OF BULK AT MOST 1048576: true; the input reads as it did. -/
def historyExcusesUptoRow : OpenClaim := { program := "ytghlolinkmlkeaagreatdoor", sum := "dc73b04b8fcec88763c88f085e5c250cb531340f2e1d885c2f18353c54cf7022", func := "coterie/coterielaw22.HistoryExcuses", spec := "historyExcuses", unfollowed := true, recurses := true, named := ["math/bits.deBruijn64tab"], apart := false, laid := [("math/bits.deBruijn64tab", laid_math_bits_deBruijn64tab)], narrowed := true }
def HistoryExcusesUptoSaid : Prop := historyExcusesUptoRow.holds Tryz.pinned (OpenSpec.upto historyExcusesSpec)

/-- 'coterielaw22.HistoryReplaced', WHERE WHAT IT READS IS OF BULK AT MOST 1048576: true; the input reads as it did. -/
def historyReplacedUptoRow : OpenClaim := { program := "ytghlolinkmlkeaagreatdoor", sum := "dc73b04b8fcec88763c88f085e5c250cb531340f2e1d885c2f18353c54cf7022", func := "coterie/coterielaw22.HistoryReplaced", spec := "historyReplaced", unfollowed := true, recurses := true, named := ["math/bits.deBruijn64tab"], apart := false, laid := [("math/bits.deBruijn64tab", laid_math_bits_deBruijn64tab)], narrowed := true }
def HistoryReplacedUptoSaid : Prop := historyReplacedUptoRow.holds Tryz.pinned (OpenSpec.upto historyReplacedSpec)

end Rows
end Go.Proofs.YtghlolinkmlkeaaGreatDoor
