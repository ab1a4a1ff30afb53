/-
  No cell of these rows narrows 'for every input' (looked for: loops, veiled, ifaces, maps, wideKeys, modest, calm, conditions, laid).
  DERIVED. THE GIVEN ROWS OF THIS SEAT. 4 by the template 'for every input the law returns true; each argument reads behind the call as it read before'; 0 by the template 'total and deterministic' (their statements: YtlbcachpffehfaaTotals.lean).
  GIVEN WITH THE SEED: the statements are not yours to turn. If you find one false, say at which input.
  Laid BY PROGRAM, IN A SANDBOX (cutbox-rows.mjs): the forced cells as the released guide's own fill.sh prints them over the translation 9ec6c5574a555ca5… (all of the seat's roots in one cut). By AI agents, Wed Nov 11 2026. No macro, syntax, notation, axiom, sorry.
-/
import Derived.Test.YtlbcachpffehfaaChecked
import GoSem.Claim
import GoSem.ClaimJoined
import GoSem.ClaimMapViews
import Derived.JoinedTies
import Derived.KernelRfl
namespace Go.Proofs.Ytlbcachpffehfaa
/- THE CELL 'sum', in the pinned program and in every row, IS THE sha256 OF THE DUMP (.gsa) THAT YtlbcachpffehfaaProg.lean LOADS. Nothing in Lean hashes anything: it is a label: what it is worth is what the hold of that sum in a sandbox is worth. -/
noncomputable def Try.pinned : Pinned := { name := "ytlbcachpffehfaa", sum := "9ec6c5574a555ca5110546802379539ac87dd0095616433b0e0866b561d8fdf8", checked := Try.checked }
namespace Rows
def none {H : Type} : Left H := { results := [], args := [] }

/-- 'coterielaw17.DataSeals': WHATEVER THE INPUT: true; the input reads as it did. -/
def dataSealsSpec : ChangeSpec := { name := "dataSeals", fn := fun _ => fun
  | [d1, d2] => { results := [.lit (.bool true)], args := [d1, d2] }
  | _ => none }
def dataSealsRow : OpenClaim := { program := "ytlbcachpffehfaa", sum := "9ec6c5574a555ca5110546802379539ac87dd0095616433b0e0866b561d8fdf8", func := "coterie/coterielaw17.DataSeals", spec := "dataSeals", unfollowed := true, recurses := true, apart := false }
def DataSealsSaid : Prop := dataSealsRow.holds Try.pinned (OpenSpec.ofChange dataSealsSpec)

/-- ITS FALSE NEIGHBOUR: 'it returns false'. Refute it at one input. -/
def dataSealsWrong : ChangeSpec := { name := "dataSeals", fn := fun _ => fun
  | [d1, d2] => { results := [.lit (.bool false)], args := [d1, d2] }
  | _ => none }
def DataSealsWrongFalsely : Prop := dataSealsRow.holds Try.pinned (OpenSpec.ofChange dataSealsWrong)

/-- 'coterielaw17.DataOpens': WHATEVER THE INPUT: true; the input reads as it did. -/
def dataOpensSpec : ChangeSpec := { name := "dataOpens", fn := fun _ => fun
  | [d1, d2] => { results := [.lit (.bool true)], args := [d1, d2] }
  | _ => none }
def dataOpensRow : OpenClaim := { program := "ytlbcachpffehfaa", sum := "9ec6c5574a555ca5110546802379539ac87dd0095616433b0e0866b561d8fdf8", func := "coterie/coterielaw17.DataOpens", spec := "dataOpens", unfollowed := true, recurses := true, apart := false }
def DataOpensSaid : Prop := dataOpensRow.holds Try.pinned (OpenSpec.ofChange dataOpensSpec)

/-- ITS FALSE NEIGHBOUR: 'it returns false'. Refute it at one input. -/
def dataOpensWrong : ChangeSpec := { name := "dataOpens", fn := fun _ => fun
  | [d1, d2] => { results := [.lit (.bool false)], args := [d1, d2] }
  | _ => none }
def DataOpensWrongFalsely : Prop := dataOpensRow.holds Try.pinned (OpenSpec.ofChange dataOpensWrong)

/-- 'coterielaw17.DataInStep': WHATEVER THE INPUT: true; the input reads as it did. -/
def dataInStepSpec : ChangeSpec := { name := "dataInStep", fn := fun _ => fun
  | [d1, d2, d3] => { results := [.lit (.bool true)], args := [d1, d2, d3] }
  | _ => none }
def dataInStepRow : OpenClaim := { program := "ytlbcachpffehfaa", sum := "9ec6c5574a555ca5110546802379539ac87dd0095616433b0e0866b561d8fdf8", func := "coterie/coterielaw17.DataInStep", spec := "dataInStep", unfollowed := true, recurses := true, apart := false }
def DataInStepSaid : Prop := dataInStepRow.holds Try.pinned (OpenSpec.ofChange dataInStepSpec)

/-- ITS FALSE NEIGHBOUR: 'it returns false'. Refute it at one input. -/
def dataInStepWrong : ChangeSpec := { name := "dataInStep", fn := fun _ => fun
  | [d1, d2, d3] => { results := [.lit (.bool false)], args := [d1, d2, d3] }
  | _ => none }
def DataInStepWrongFalsely : Prop := dataInStepRow.holds Try.pinned (OpenSpec.ofChange dataInStepWrong)

/-- 'coterielaw17.DataApart': WHATEVER THE INPUT: true; the input reads as it did. -/
def dataApartSpec : ChangeSpec := { name := "dataApart", fn := fun _ => fun
  | [d1, d2, d3] => { results := [.lit (.bool true)], args := [d1, d2, d3] }
  | _ => none }
def dataApartRow : OpenClaim := { program := "ytlbcachpffehfaa", sum := "9ec6c5574a555ca5110546802379539ac87dd0095616433b0e0866b561d8fdf8", func := "coterie/coterielaw17.DataApart", spec := "dataApart", unfollowed := true, recurses := true, apart := false }
def DataApartSaid : Prop := dataApartRow.holds Try.pinned (OpenSpec.ofChange dataApartSpec)

/-- ITS FALSE NEIGHBOUR: 'it returns false'. Refute it at one input. -/
def dataApartWrong : ChangeSpec := { name := "dataApart", fn := fun _ => fun
  | [d1, d2, d3] => { results := [.lit (.bool false)], args := [d1, d2, d3] }
  | _ => none }
def DataApartWrongFalsely : Prop := dataApartRow.holds Try.pinned (OpenSpec.ofChange dataApartWrong)

/- THE SECOND FORM. 'bulk': how many values and letters a reading holds, each counted each time it is reached (what is shared counts as often as it is met; a slice's spare places count too). A statement '..UptoSaid' is the law's where the arguments, and the package variables that the reading takes, are together of bulk at most 1048576: NARROWER than '..Said'. Prove '..Said' where nothing that the law and all that it calls make is longer than what came in: it says more and counts as full. Else prove '..UptoSaid'. A law counts once. -/
mutual
def uptoBulk {H : Type} : DataW H → Nat
  | .lit (.string bytes) => bytes.length + 1
  | .lit _ => 1
  | .nil => 1
  | .ptr d => uptoBulk d + 1
  | .slice elems spare => uptoBulkAll elems + uptoBulkAll spare + 1
  | .agg parts => uptoBulkAll parts + 1
  | .iface _ d => uptoBulk d + 1
  | .map entries => uptoBulkEntries entries + 1
  | .held _ => 1
def uptoBulkAll {H : Type} : List (DataW H) → Nat
  | [] => 0
  | d :: r => uptoBulk d + uptoBulkAll r
def uptoBulkEntries {H : Type} : List (Lit × DataW H) → Nat
  | [] => 0
  | x :: r => uptoBulkEntry x + uptoBulkEntries r
def uptoBulkEntry {H : Type} : Lit × DataW H → Nat
  | (.string bytes, d) => bytes.length + uptoBulk d + 1
  | (_, d) => uptoBulk d + 1
 end
def uptoSmall : (H : Type) → List (DataW H) → Bool := fun _ ds => decide (uptoBulkAll ds ≤ 1048576)
def OpenSpec.upto (s : _root_.Go.ChangeSpec) : _root_.Go.OpenSpec := { _root_.Go.OpenSpec.ofChange s with cond := some uptoSmall }

/-- 'coterielaw17.DataSeals', WHERE WHAT IT READS IS OF BULK AT MOST 1048576: true; the input reads as it did. -/
def dataSealsUptoRow : OpenClaim := { program := "ytlbcachpffehfaa", sum := "9ec6c5574a555ca5110546802379539ac87dd0095616433b0e0866b561d8fdf8", func := "coterie/coterielaw17.DataSeals", spec := "dataSeals", unfollowed := true, recurses := true, apart := false, narrowed := true }
def DataSealsUptoSaid : Prop := dataSealsUptoRow.holds Try.pinned (OpenSpec.upto dataSealsSpec)

/-- 'coterielaw17.DataOpens', WHERE WHAT IT READS IS OF BULK AT MOST 1048576: true; the input reads as it did. -/
def dataOpensUptoRow : OpenClaim := { program := "ytlbcachpffehfaa", sum := "9ec6c5574a555ca5110546802379539ac87dd0095616433b0e0866b561d8fdf8", func := "coterie/coterielaw17.DataOpens", spec := "dataOpens", unfollowed := true, recurses := true, apart := false, narrowed := true }
def DataOpensUptoSaid : Prop := dataOpensUptoRow.holds Try.pinned (OpenSpec.upto dataOpensSpec)

/-- 'coterielaw17.DataInStep', WHERE WHAT IT READS IS OF BULK AT MOST 1048576: true; the input reads as it did. -/
def dataInStepUptoRow : OpenClaim := { program := "ytlbcachpffehfaa", sum := "9ec6c5574a555ca5110546802379539ac87dd0095616433b0e0866b561d8fdf8", func := "coterie/coterielaw17.DataInStep", spec := "dataInStep", unfollowed := true, recurses := true, apart := false, narrowed := true }
def DataInStepUptoSaid : Prop := dataInStepUptoRow.holds Try.pinned (OpenSpec.upto dataInStepSpec)

/-- 'coterielaw17.DataApart', WHERE WHAT IT READS IS OF BULK AT MOST 1048576: true; the input reads as it did. -/
def dataApartUptoRow : OpenClaim := { program := "ytlbcachpffehfaa", sum := "9ec6c5574a555ca5110546802379539ac87dd0095616433b0e0866b561d8fdf8", func := "coterie/coterielaw17.DataApart", spec := "dataApart", unfollowed := true, recurses := true, apart := false, narrowed := true }
def DataApartUptoSaid : Prop := dataApartUptoRow.holds Try.pinned (OpenSpec.upto dataApartSpec)

end Rows
end Go.Proofs.Ytlbcachpffehfaa
