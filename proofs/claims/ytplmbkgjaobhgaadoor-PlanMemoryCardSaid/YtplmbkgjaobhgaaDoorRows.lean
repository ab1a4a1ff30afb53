/-
  NARROWER THAN 'FOR EVERY INPUT', by the rows' own cells (each row's printed sentence says how): PlanReplaced: laid · PlanCosts: laid · PlanHeard: laid · PlanForward: laid · PlanBackward: laid · PlanFresh: laid · PlanRefusals: laid · PlanMemory: laid · PlanSteps: laid.
  DERIVED. THE GIVEN ROWS OF THIS SEAT. 9 by the template 'for every input the law returns true; each argument reads behind the call as it read before'; 0 by the template 'total and deterministic' (their statements: YtplmbkgjaobhgaaDoorTotals.lean).
  GIVEN WITH THE SEED: the statements are not yours to turn. If you find one false, say at which input.
  Laid BY PROGRAM, IN A SANDBOX (cutbox-rows.mjs): the forced cells as the released guide's own fill.sh prints them over the translation 8e0dbd66a9bd7524… (all of the seat's roots in one cut). By AI agents, Wed Nov 11 2026. No macro, syntax, notation, axiom, sorry.
-/
import Derived.Test.YtplmbkgjaobhgaaDoorChecked
import GoSem.Claim
import GoSem.ClaimJoined
import GoSem.ClaimMapViews
import Derived.JoinedTies
import Derived.KernelRfl
namespace Go.Proofs.YtplmbkgjaobhgaaDoor
/- THE CELL 'sum', in the pinned program and in every row, IS THE sha256 OF THE DUMP (.gsa) THAT YtplmbkgjaobhgaaDoorProg.lean LOADS. Nothing in Lean hashes anything: it is a label: what it is worth is what the hold of that sum in a sandbox is worth. -/
noncomputable def Tryd.pinned : Pinned := { name := "ytplmbkgjaobhgaadoor", sum := "8e0dbd66a9bd7524e5dae652526851e590823d497803a989cf4af36048291a68", checked := Tryd.checked }
namespace Rows
def none {H : Type} : Left H := { results := [], args := [] }

/- WHAT THE LISTED PACKAGE-LEVEL VARIABLES READ AS WHEN THE CALL BEGINS. Each datum BY PROGRAM (the guide's laid-datum.mjs) off the statement by which the dump's own 'gosem.cut.vars' lays the variable. In a bare row this is a premise. The card (YtplmbkgjaobhgaaDoorCards.lean) ties it to the program's text. -/
def laid_math_bits_deBruijn64tab {H : Type} : DataW H := .agg [.lit (.int .u8 0), .lit (.int .u8 1), .lit (.int .u8 56), .lit (.int .u8 2), .lit (.int .u8 57), .lit (.int .u8 49), .lit (.int .u8 28), .lit (.int .u8 3), .lit (.int .u8 61), .lit (.int .u8 58), .lit (.int .u8 42), .lit (.int .u8 50), .lit (.int .u8 38), .lit (.int .u8 29), .lit (.int .u8 17), .lit (.int .u8 4), .lit (.int .u8 62), .lit (.int .u8 47), .lit (.int .u8 59), .lit (.int .u8 36), .lit (.int .u8 45), .lit (.int .u8 43), .lit (.int .u8 51), .lit (.int .u8 22), .lit (.int .u8 53), .lit (.int .u8 39), .lit (.int .u8 33), .lit (.int .u8 30), .lit (.int .u8 24), .lit (.int .u8 18), .lit (.int .u8 12), .lit (.int .u8 5), .lit (.int .u8 63), .lit (.int .u8 55), .lit (.int .u8 48), .lit (.int .u8 27), .lit (.int .u8 60), .lit (.int .u8 41), .lit (.int .u8 37), .lit (.int .u8 16), .lit (.int .u8 46), .lit (.int .u8 35), .lit (.int .u8 44), .lit (.int .u8 21), .lit (.int .u8 52), .lit (.int .u8 32), .lit (.int .u8 23), .lit (.int .u8 11), .lit (.int .u8 54), .lit (.int .u8 26), .lit (.int .u8 40), .lit (.int .u8 15), .lit (.int .u8 34), .lit (.int .u8 20), .lit (.int .u8 31), .lit (.int .u8 10), .lit (.int .u8 25), .lit (.int .u8 14), .lit (.int .u8 19), .lit (.int .u8 9), .lit (.int .u8 13), .lit (.int .u8 8), .lit (.int .u8 7), .lit (.int .u8 6)]

/-- 'coterielaw12.PlanReplaced': WHATEVER THE INPUT: true; the input reads as it did. -/
def planReplacedSpec : ChangeSpec := { name := "planReplaced", fn := fun _ => fun
  | [d] => { results := [.lit (.bool true)], args := [d] }
  | _ => none }
def planReplacedRow : OpenClaim := { program := "ytplmbkgjaobhgaadoor", sum := "8e0dbd66a9bd7524e5dae652526851e590823d497803a989cf4af36048291a68", func := "coterie/coterielaw12.PlanReplaced", spec := "planReplaced", unfollowed := true, recurses := true, named := ["math/bits.deBruijn64tab"], apart := false, laid := [("math/bits.deBruijn64tab", laid_math_bits_deBruijn64tab)] }
def PlanReplacedSaid : Prop := planReplacedRow.holds Tryd.pinned (OpenSpec.ofChange planReplacedSpec)

/-- ITS FALSE NEIGHBOUR: 'it returns false'. Refute it at one input. -/
def planReplacedWrong : ChangeSpec := { name := "planReplaced", fn := fun _ => fun
  | [d] => { results := [.lit (.bool false)], args := [d] }
  | _ => none }
def PlanReplacedWrongFalsely : Prop := planReplacedRow.holds Tryd.pinned (OpenSpec.ofChange planReplacedWrong)

/-- 'coterielaw12.PlanCosts': WHATEVER THE INPUT: true; the input reads as it did. -/
def planCostsSpec : ChangeSpec := { name := "planCosts", fn := fun _ => fun
  | [d1, d2] => { results := [.lit (.bool true)], args := [d1, d2] }
  | _ => none }
def planCostsRow : OpenClaim := { program := "ytplmbkgjaobhgaadoor", sum := "8e0dbd66a9bd7524e5dae652526851e590823d497803a989cf4af36048291a68", func := "coterie/coterielaw12.PlanCosts", spec := "planCosts", unfollowed := true, recurses := true, named := ["math/bits.deBruijn64tab"], apart := false, laid := [("math/bits.deBruijn64tab", laid_math_bits_deBruijn64tab)] }
def PlanCostsSaid : Prop := planCostsRow.holds Tryd.pinned (OpenSpec.ofChange planCostsSpec)

/-- ITS FALSE NEIGHBOUR: 'it returns false'. Refute it at one input. -/
def planCostsWrong : ChangeSpec := { name := "planCosts", fn := fun _ => fun
  | [d1, d2] => { results := [.lit (.bool false)], args := [d1, d2] }
  | _ => none }
def PlanCostsWrongFalsely : Prop := planCostsRow.holds Tryd.pinned (OpenSpec.ofChange planCostsWrong)

/-- 'coterielaw12.PlanHeard': WHATEVER THE INPUT: true; the input reads as it did. -/
def planHeardSpec : ChangeSpec := { name := "planHeard", fn := fun _ => fun
  | [d1, d2] => { results := [.lit (.bool true)], args := [d1, d2] }
  | _ => none }
def planHeardRow : OpenClaim := { program := "ytplmbkgjaobhgaadoor", sum := "8e0dbd66a9bd7524e5dae652526851e590823d497803a989cf4af36048291a68", func := "coterie/coterielaw12.PlanHeard", spec := "planHeard", unfollowed := true, recurses := true, named := ["math/bits.deBruijn64tab"], apart := false, laid := [("math/bits.deBruijn64tab", laid_math_bits_deBruijn64tab)] }
def PlanHeardSaid : Prop := planHeardRow.holds Tryd.pinned (OpenSpec.ofChange planHeardSpec)

/-- ITS FALSE NEIGHBOUR: 'it returns false'. Refute it at one input. -/
def planHeardWrong : ChangeSpec := { name := "planHeard", fn := fun _ => fun
  | [d1, d2] => { results := [.lit (.bool false)], args := [d1, d2] }
  | _ => none }
def PlanHeardWrongFalsely : Prop := planHeardRow.holds Tryd.pinned (OpenSpec.ofChange planHeardWrong)

/-- 'coterielaw12.PlanForward': WHATEVER THE INPUT: true; the input reads as it did. -/
def planForwardSpec : ChangeSpec := { name := "planForward", fn := fun _ => fun
  | [d1, d2] => { results := [.lit (.bool true)], args := [d1, d2] }
  | _ => none }
def planForwardRow : OpenClaim := { program := "ytplmbkgjaobhgaadoor", sum := "8e0dbd66a9bd7524e5dae652526851e590823d497803a989cf4af36048291a68", func := "coterie/coterielaw12.PlanForward", spec := "planForward", unfollowed := true, recurses := true, named := ["math/bits.deBruijn64tab"], apart := false, laid := [("math/bits.deBruijn64tab", laid_math_bits_deBruijn64tab)] }
def PlanForwardSaid : Prop := planForwardRow.holds Tryd.pinned (OpenSpec.ofChange planForwardSpec)

/-- ITS FALSE NEIGHBOUR: 'it returns false'. Refute it at one input. -/
def planForwardWrong : ChangeSpec := { name := "planForward", fn := fun _ => fun
  | [d1, d2] => { results := [.lit (.bool false)], args := [d1, d2] }
  | _ => none }
def PlanForwardWrongFalsely : Prop := planForwardRow.holds Tryd.pinned (OpenSpec.ofChange planForwardWrong)

/-- 'coterielaw12.PlanBackward': WHATEVER THE INPUT: true; the input reads as it did. -/
def planBackwardSpec : ChangeSpec := { name := "planBackward", fn := fun _ => fun
  | [d1, d2] => { results := [.lit (.bool true)], args := [d1, d2] }
  | _ => none }
def planBackwardRow : OpenClaim := { program := "ytplmbkgjaobhgaadoor", sum := "8e0dbd66a9bd7524e5dae652526851e590823d497803a989cf4af36048291a68", func := "coterie/coterielaw12.PlanBackward", spec := "planBackward", unfollowed := true, recurses := true, named := ["math/bits.deBruijn64tab"], apart := false, laid := [("math/bits.deBruijn64tab", laid_math_bits_deBruijn64tab)] }
def PlanBackwardSaid : Prop := planBackwardRow.holds Tryd.pinned (OpenSpec.ofChange planBackwardSpec)

/-- ITS FALSE NEIGHBOUR: 'it returns false'. Refute it at one input. -/
def planBackwardWrong : ChangeSpec := { name := "planBackward", fn := fun _ => fun
  | [d1, d2] => { results := [.lit (.bool false)], args := [d1, d2] }
  | _ => none }
def PlanBackwardWrongFalsely : Prop := planBackwardRow.holds Tryd.pinned (OpenSpec.ofChange planBackwardWrong)

/-- 'coterielaw12.PlanFresh': WHATEVER THE INPUT: true; the input reads as it did. -/
def planFreshSpec : ChangeSpec := { name := "planFresh", fn := fun _ => fun
  | [d1, d2] => { results := [.lit (.bool true)], args := [d1, d2] }
  | _ => none }
def planFreshRow : OpenClaim := { program := "ytplmbkgjaobhgaadoor", sum := "8e0dbd66a9bd7524e5dae652526851e590823d497803a989cf4af36048291a68", func := "coterie/coterielaw12.PlanFresh", spec := "planFresh", unfollowed := true, recurses := true, named := ["math/bits.deBruijn64tab"], apart := false, laid := [("math/bits.deBruijn64tab", laid_math_bits_deBruijn64tab)] }
def PlanFreshSaid : Prop := planFreshRow.holds Tryd.pinned (OpenSpec.ofChange planFreshSpec)

/-- ITS FALSE NEIGHBOUR: 'it returns false'. Refute it at one input. -/
def planFreshWrong : ChangeSpec := { name := "planFresh", fn := fun _ => fun
  | [d1, d2] => { results := [.lit (.bool false)], args := [d1, d2] }
  | _ => none }
def PlanFreshWrongFalsely : Prop := planFreshRow.holds Tryd.pinned (OpenSpec.ofChange planFreshWrong)

/-- 'coterielaw12.PlanRefusals': WHATEVER THE INPUT: true; the input reads as it did. -/
def planRefusalsSpec : ChangeSpec := { name := "planRefusals", fn := fun _ => fun
  | [d1, d2, d3] => { results := [.lit (.bool true)], args := [d1, d2, d3] }
  | _ => none }
def planRefusalsRow : OpenClaim := { program := "ytplmbkgjaobhgaadoor", sum := "8e0dbd66a9bd7524e5dae652526851e590823d497803a989cf4af36048291a68", func := "coterie/coterielaw12.PlanRefusals", spec := "planRefusals", unfollowed := true, recurses := true, named := ["math/bits.deBruijn64tab"], apart := false, laid := [("math/bits.deBruijn64tab", laid_math_bits_deBruijn64tab)] }
def PlanRefusalsSaid : Prop := planRefusalsRow.holds Tryd.pinned (OpenSpec.ofChange planRefusalsSpec)

/-- ITS FALSE NEIGHBOUR: 'it returns false'. Refute it at one input. -/
def planRefusalsWrong : ChangeSpec := { name := "planRefusals", fn := fun _ => fun
  | [d1, d2, d3] => { results := [.lit (.bool false)], args := [d1, d2, d3] }
  | _ => none }
def PlanRefusalsWrongFalsely : Prop := planRefusalsRow.holds Tryd.pinned (OpenSpec.ofChange planRefusalsWrong)

/-- 'coterielaw12.PlanMemory': WHATEVER THE INPUT: true; the input reads as it did. -/
def planMemorySpec : ChangeSpec := { name := "planMemory", fn := fun _ => fun
  | [d1, d2] => { results := [.lit (.bool true)], args := [d1, d2] }
  | _ => none }
def planMemoryRow : OpenClaim := { program := "ytplmbkgjaobhgaadoor", sum := "8e0dbd66a9bd7524e5dae652526851e590823d497803a989cf4af36048291a68", func := "coterie/coterielaw12.PlanMemory", spec := "planMemory", unfollowed := true, recurses := true, named := ["math/bits.deBruijn64tab"], apart := false, laid := [("math/bits.deBruijn64tab", laid_math_bits_deBruijn64tab)] }
def PlanMemorySaid : Prop := planMemoryRow.holds Tryd.pinned (OpenSpec.ofChange planMemorySpec)

/-- ITS FALSE NEIGHBOUR: 'it returns false'. Refute it at one input. -/
def planMemoryWrong : ChangeSpec := { name := "planMemory", fn := fun _ => fun
  | [d1, d2] => { results := [.lit (.bool false)], args := [d1, d2] }
  | _ => none }
def PlanMemoryWrongFalsely : Prop := planMemoryRow.holds Tryd.pinned (OpenSpec.ofChange planMemoryWrong)

/-- 'coterielaw12.PlanSteps': WHATEVER THE INPUT: true; the input reads as it did. -/
def planStepsSpec : ChangeSpec := { name := "planSteps", fn := fun _ => fun
  | [d1, d2] => { results := [.lit (.bool true)], args := [d1, d2] }
  | _ => none }
def planStepsRow : OpenClaim := { program := "ytplmbkgjaobhgaadoor", sum := "8e0dbd66a9bd7524e5dae652526851e590823d497803a989cf4af36048291a68", func := "coterie/coterielaw12.PlanSteps", spec := "planSteps", unfollowed := true, recurses := true, named := ["math/bits.deBruijn64tab"], apart := false, laid := [("math/bits.deBruijn64tab", laid_math_bits_deBruijn64tab)] }
def PlanStepsSaid : Prop := planStepsRow.holds Tryd.pinned (OpenSpec.ofChange planStepsSpec)

/-- ITS FALSE NEIGHBOUR: 'it returns false'. Refute it at one input. -/
def planStepsWrong : ChangeSpec := { name := "planSteps", fn := fun _ => fun
  | [d1, d2] => { results := [.lit (.bool false)], args := [d1, d2] }
  | _ => none }
def PlanStepsWrongFalsely : Prop := planStepsRow.holds Tryd.pinned (OpenSpec.ofChange planStepsWrong)

/- THE SECOND FORM. 'bulk': how many values and letters a reading holds, each counted each time it is reached (what is shared counts as often as it is met; a slice's spare places count too). A statement '..UptoSaid' is the law's where the arguments, and the package variables that the reading takes, are together of bulk at most 1048576: NARROWER than '..Said'. Prove '..Said' where nothing that the law and all that it calls make is longer than what came in: it says more and counts as full. Else prove '..UptoSaid'. A law counts once. -/
mutual
def uptoBulk {H : Type} : DataW H → Nat
  | .lit (.string bytes) => bytes.length + 1
  | .lit _ => 1
  | .nil => 1
  | .ptr d => uptoBulk d + 1
  | .slice elems spare => uptoBulkAll elems + uptoBulkAll spare + 1
  | .agg parts => uptoBulkAll parts + 1
  | .iface _ d => uptoBulk d + 1
  | .map entries => uptoBulkEntries entries + 1
  | .held _ => 1
def uptoBulkAll {H : Type} : List (DataW H) → Nat
  | [] => 0
  | d :: r => uptoBulk d + uptoBulkAll r
def uptoBulkEntries {H : Type} : List (Lit × DataW H) → Nat
  | [] => 0
  | x :: r => uptoBulkEntry x + uptoBulkEntries r
def uptoBulkEntry {H : Type} : Lit × DataW H → Nat
  | (.string bytes, d) => bytes.length + uptoBulk d + 1
  | (_, d) => uptoBulk d + 1
 end
def uptoSmall : (H : Type) → List (DataW H) → Bool := fun _ ds => decide (uptoBulkAll ds ≤ 1048576)
def OpenSpec.upto (s : _root_.Go.ChangeSpec) : _root_.Go.OpenSpec := { _root_.Go.OpenSpec.ofChange s with cond := some uptoSmall }

/-- 'coterielaw12.PlanReplaced', WHERE WHAT IT READS IS OF BULK AT MOST 1048576: true; the input reads as it did. -/
def planReplacedUptoRow : OpenClaim := { program := "ytplmbkgjaobhgaadoor", sum := "8e0dbd66a9bd7524e5dae652526851e590823d497803a989cf4af36048291a68", func := "coterie/coterielaw12.PlanReplaced", spec := "planReplaced", unfollowed := true, recurses := true, named := ["math/bits.deBruijn64tab"], apart := false, laid := [("math/bits.deBruijn64tab", laid_math_bits_deBruijn64tab)], narrowed := true }
def PlanReplacedUptoSaid : Prop := planReplacedUptoRow.holds Tryd.pinned (OpenSpec.upto planReplacedSpec)

/-- 'coterielaw12.PlanCosts', WHERE WHAT IT READS IS OF BULK AT MOST 1048576: true; the input reads as it did. -/
def planCostsUptoRow : OpenClaim := { program := "ytplmbkgjaobhgaadoor", sum := "8e0dbd66a9bd7524e5dae652526851e590823d497803a989cf4af36048291a68", func := "coterie/coterielaw12.PlanCosts", spec := "planCosts", unfollowed := true, recurses := true, named := ["math/bits.deBruijn64tab"], apart := false, laid := [("math/bits.deBruijn64tab", laid_math_bits_deBruijn64tab)], narrowed := true }
def PlanCostsUptoSaid : Prop := planCostsUptoRow.holds Tryd.pinned (OpenSpec.upto planCostsSpec)

/-- 'coterielaw12.PlanHeard', WHERE WHAT IT READS IS OF BULK AT MOST 1048576: true; the input reads as it did. -/
def planHeardUptoRow : OpenClaim := { program := "ytplmbkgjaobhgaadoor", sum := "8e0dbd66a9bd7524e5dae652526851e590823d497803a989cf4af36048291a68", func := "coterie/coterielaw12.PlanHeard", spec := "planHeard", unfollowed := true, recurses := true, named := ["math/bits.deBruijn64tab"], apart := false, laid := [("math/bits.deBruijn64tab", laid_math_bits_deBruijn64tab)], narrowed := true }
def PlanHeardUptoSaid : Prop := planHeardUptoRow.holds Tryd.pinned (OpenSpec.upto planHeardSpec)

/-- 'coterielaw12.PlanForward', WHERE WHAT IT READS IS OF BULK AT MOST 1048576: true; the input reads as it did. -/
def planForwardUptoRow : OpenClaim := { program := "ytplmbkgjaobhgaadoor", sum := "8e0dbd66a9bd7524e5dae652526851e590823d497803a989cf4af36048291a68", func := "coterie/coterielaw12.PlanForward", spec := "planForward", unfollowed := true, recurses := true, named := ["math/bits.deBruijn64tab"], apart := false, laid := [("math/bits.deBruijn64tab", laid_math_bits_deBruijn64tab)], narrowed := true }
def PlanForwardUptoSaid : Prop := planForwardUptoRow.holds Tryd.pinned (OpenSpec.upto planForwardSpec)

/-- 'coterielaw12.PlanBackward', WHERE WHAT IT READS IS OF BULK AT MOST 1048576: true; the input reads as it did. -/
def planBackwardUptoRow : OpenClaim := { program := "ytplmbkgjaobhgaadoor", sum := "8e0dbd66a9bd7524e5dae652526851e590823d497803a989cf4af36048291a68", func := "coterie/coterielaw12.PlanBackward", spec := "planBackward", unfollowed := true, recurses := true, named := ["math/bits.deBruijn64tab"], apart := false, laid := [("math/bits.deBruijn64tab", laid_math_bits_deBruijn64tab)], narrowed := true }
def PlanBackwardUptoSaid : Prop := planBackwardUptoRow.holds Tryd.pinned (OpenSpec.upto planBackwardSpec)

/-- 'coterielaw12.PlanFresh', WHERE WHAT IT READS IS OF BULK AT MOST 1048576: true; the input reads as it did. -/
def planFreshUptoRow : OpenClaim := { program := "ytplmbkgjaobhgaadoor", sum := "8e0dbd66a9bd7524e5dae652526851e590823d497803a989cf4af36048291a68", func := "coterie/coterielaw12.PlanFresh", spec := "planFresh", unfollowed := true, recurses := true, named := ["math/bits.deBruijn64tab"], apart := false, laid := [("math/bits.deBruijn64tab", laid_math_bits_deBruijn64tab)], narrowed := true }
def PlanFreshUptoSaid : Prop := planFreshUptoRow.holds Tryd.pinned (OpenSpec.upto planFreshSpec)

/-- 'coterielaw12.PlanRefusals', WHERE WHAT IT READS IS OF BULK AT MOST 1048576: true; the input reads as it did. -/
def planRefusalsUptoRow : OpenClaim := { program := "ytplmbkgjaobhgaadoor", sum := "8e0dbd66a9bd7524e5dae652526851e590823d497803a989cf4af36048291a68", func := "coterie/coterielaw12.PlanRefusals", spec := "planRefusals", unfollowed := true, recurses := true, named := ["math/bits.deBruijn64tab"], apart := false, laid := [("math/bits.deBruijn64tab", laid_math_bits_deBruijn64tab)], narrowed := true }
def PlanRefusalsUptoSaid : Prop := planRefusalsUptoRow.holds Tryd.pinned (OpenSpec.upto planRefusalsSpec)

/-- 'coterielaw12.PlanMemory', WHERE WHAT IT READS IS OF BULK AT MOST 1048576: true; the input reads as it did. -/
def planMemoryUptoRow : OpenClaim := { program := "ytplmbkgjaobhgaadoor", sum := "8e0dbd66a9bd7524e5dae652526851e590823d497803a989cf4af36048291a68", func := "coterie/coterielaw12.PlanMemory", spec := "planMemory", unfollowed := true, recurses := true, named := ["math/bits.deBruijn64tab"], apart := false, laid := [("math/bits.deBruijn64tab", laid_math_bits_deBruijn64tab)], narrowed := true }
def PlanMemoryUptoSaid : Prop := planMemoryUptoRow.holds Tryd.pinned (OpenSpec.upto planMemorySpec)

/-- 'coterielaw12.PlanSteps', WHERE WHAT IT READS IS OF BULK AT MOST 1048576: true; the input reads as it did. -/
def planStepsUptoRow : OpenClaim := { program := "ytplmbkgjaobhgaadoor", sum := "8e0dbd66a9bd7524e5dae652526851e590823d497803a989cf4af36048291a68", func := "coterie/coterielaw12.PlanSteps", spec := "planSteps", unfollowed := true, recurses := true, named := ["math/bits.deBruijn64tab"], apart := false, laid := [("math/bits.deBruijn64tab", laid_math_bits_deBruijn64tab)], narrowed := true }
def PlanStepsUptoSaid : Prop := planStepsUptoRow.holds Tryd.pinned (OpenSpec.upto planStepsSpec)

end Rows
end Go.Proofs.YtplmbkgjaobhgaaDoor
