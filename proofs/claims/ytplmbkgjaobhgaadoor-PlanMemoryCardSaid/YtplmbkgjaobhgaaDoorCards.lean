/-
  DERIVED. GIVEN WITH THE SEED: THE CARDS: each row of YtplmbkgjaobhgaaDoorRows.lean that lists a variable, with what it lists TIED to the program's text (the seventh form; the later family's looks); each row that meets fmt, with fmt's text TOLD by the authors' own Lean function (tested against real Go, not proved from fmt's source: count such statements apart). THE CARD IS WHAT COUNTS. Prove the row's statement (the work); the ties are given (YtplmbkgjaobhgaaDoorTie.lean); close each card by the builder's one call (the guide's Derived/Test/ToyasCard.lean, 'card_holds'). Laid BY PROGRAM, IN A SANDBOX (cutbox-door.mjs). By AI agents, Wed Nov 11 2026. No macro, syntax, notation, axiom, sorry.
-/
import Derived.Test.YtplmbkgjaobhgaaDoorRows
import GoSem.ClaimSeven
namespace Go.Proofs.YtplmbkgjaobhgaaDoor
namespace Rows

/-- THE TIED CARD OF 'coterielaw12.PlanReplaced'. -/
def planReplacedCard : Claim7 := { stood := { row := planReplacedRow, standIns := [], harness := (true, "bf1083024dc2be26c9b97c8a272ef84e1965513e21b1b68c841b5f40f9e82622"), looks := false }, kinds := [], alts := [], laidByText := true, laidKinds := [.data], laidTests := true, laidLooks := .later }
def PlanReplacedCardSaid : Prop := Claim7.holds Tryd.pinned (.plain (OpenSpec.ofChange planReplacedSpec)) planReplacedCard

/-- THE TIED CARD OF 'coterielaw12.PlanCosts'. -/
def planCostsCard : Claim7 := { stood := { row := planCostsRow, standIns := [], harness := (true, "bf1083024dc2be26c9b97c8a272ef84e1965513e21b1b68c841b5f40f9e82622"), looks := false }, kinds := [], alts := [], laidByText := true, laidKinds := [.data], laidTests := true, laidLooks := .later }
def PlanCostsCardSaid : Prop := Claim7.holds Tryd.pinned (.plain (OpenSpec.ofChange planCostsSpec)) planCostsCard

/-- THE TIED CARD OF 'coterielaw12.PlanHeard'. -/
def planHeardCard : Claim7 := { stood := { row := planHeardRow, standIns := [], harness := (true, "bf1083024dc2be26c9b97c8a272ef84e1965513e21b1b68c841b5f40f9e82622"), looks := false }, kinds := [], alts := [], laidByText := true, laidKinds := [.data], laidTests := true, laidLooks := .later }
def PlanHeardCardSaid : Prop := Claim7.holds Tryd.pinned (.plain (OpenSpec.ofChange planHeardSpec)) planHeardCard

/-- THE TIED CARD OF 'coterielaw12.PlanForward'. -/
def planForwardCard : Claim7 := { stood := { row := planForwardRow, standIns := [], harness := (true, "bf1083024dc2be26c9b97c8a272ef84e1965513e21b1b68c841b5f40f9e82622"), looks := false }, kinds := [], alts := [], laidByText := true, laidKinds := [.data], laidTests := true, laidLooks := .later }
def PlanForwardCardSaid : Prop := Claim7.holds Tryd.pinned (.plain (OpenSpec.ofChange planForwardSpec)) planForwardCard

/-- THE TIED CARD OF 'coterielaw12.PlanBackward'. -/
def planBackwardCard : Claim7 := { stood := { row := planBackwardRow, standIns := [], harness := (true, "bf1083024dc2be26c9b97c8a272ef84e1965513e21b1b68c841b5f40f9e82622"), looks := false }, kinds := [], alts := [], laidByText := true, laidKinds := [.data], laidTests := true, laidLooks := .later }
def PlanBackwardCardSaid : Prop := Claim7.holds Tryd.pinned (.plain (OpenSpec.ofChange planBackwardSpec)) planBackwardCard

/-- THE TIED CARD OF 'coterielaw12.PlanFresh'. -/
def planFreshCard : Claim7 := { stood := { row := planFreshRow, standIns := [], harness := (true, "bf1083024dc2be26c9b97c8a272ef84e1965513e21b1b68c841b5f40f9e82622"), looks := false }, kinds := [], alts := [], laidByText := true, laidKinds := [.data], laidTests := true, laidLooks := .later }
def PlanFreshCardSaid : Prop := Claim7.holds Tryd.pinned (.plain (OpenSpec.ofChange planFreshSpec)) planFreshCard

/-- THE TIED CARD OF 'coterielaw12.PlanRefusals'. -/
def planRefusalsCard : Claim7 := { stood := { row := planRefusalsRow, standIns := [], harness := (true, "bf1083024dc2be26c9b97c8a272ef84e1965513e21b1b68c841b5f40f9e82622"), looks := false }, kinds := [], alts := [], laidByText := true, laidKinds := [.data], laidTests := true, laidLooks := .later }
def PlanRefusalsCardSaid : Prop := Claim7.holds Tryd.pinned (.plain (OpenSpec.ofChange planRefusalsSpec)) planRefusalsCard

/-- THE TIED CARD OF 'coterielaw12.PlanMemory'. -/
def planMemoryCard : Claim7 := { stood := { row := planMemoryRow, standIns := [], harness := (true, "bf1083024dc2be26c9b97c8a272ef84e1965513e21b1b68c841b5f40f9e82622"), looks := false }, kinds := [], alts := [], laidByText := true, laidKinds := [.data], laidTests := true, laidLooks := .later }
def PlanMemoryCardSaid : Prop := Claim7.holds Tryd.pinned (.plain (OpenSpec.ofChange planMemorySpec)) planMemoryCard

/-- THE TIED CARD OF 'coterielaw12.PlanSteps'. -/
def planStepsCard : Claim7 := { stood := { row := planStepsRow, standIns := [], harness := (true, "bf1083024dc2be26c9b97c8a272ef84e1965513e21b1b68c841b5f40f9e82622"), looks := false }, kinds := [], alts := [], laidByText := true, laidKinds := [.data], laidTests := true, laidLooks := .later }
def PlanStepsCardSaid : Prop := Claim7.holds Tryd.pinned (.plain (OpenSpec.ofChange planStepsSpec)) planStepsCard

/-- THE SECOND FORM's CARD OF 'coterielaw12.PlanReplaced'. -/
def planReplacedUptoCard : Claim7 := { stood := { row := planReplacedUptoRow, standIns := [], harness := (true, "bf1083024dc2be26c9b97c8a272ef84e1965513e21b1b68c841b5f40f9e82622"), looks := false }, kinds := [], alts := [], laidByText := true, laidKinds := [.data], laidTests := true, laidLooks := .later }
def PlanReplacedUptoCardSaid : Prop := Claim7.holds Tryd.pinned (.plain (OpenSpec.upto planReplacedSpec)) planReplacedUptoCard

/-- THE SECOND FORM's CARD OF 'coterielaw12.PlanCosts'. -/
def planCostsUptoCard : Claim7 := { stood := { row := planCostsUptoRow, standIns := [], harness := (true, "bf1083024dc2be26c9b97c8a272ef84e1965513e21b1b68c841b5f40f9e82622"), looks := false }, kinds := [], alts := [], laidByText := true, laidKinds := [.data], laidTests := true, laidLooks := .later }
def PlanCostsUptoCardSaid : Prop := Claim7.holds Tryd.pinned (.plain (OpenSpec.upto planCostsSpec)) planCostsUptoCard

/-- THE SECOND FORM's CARD OF 'coterielaw12.PlanHeard'. -/
def planHeardUptoCard : Claim7 := { stood := { row := planHeardUptoRow, standIns := [], harness := (true, "bf1083024dc2be26c9b97c8a272ef84e1965513e21b1b68c841b5f40f9e82622"), looks := false }, kinds := [], alts := [], laidByText := true, laidKinds := [.data], laidTests := true, laidLooks := .later }
def PlanHeardUptoCardSaid : Prop := Claim7.holds Tryd.pinned (.plain (OpenSpec.upto planHeardSpec)) planHeardUptoCard

/-- THE SECOND FORM's CARD OF 'coterielaw12.PlanForward'. -/
def planForwardUptoCard : Claim7 := { stood := { row := planForwardUptoRow, standIns := [], harness := (true, "bf1083024dc2be26c9b97c8a272ef84e1965513e21b1b68c841b5f40f9e82622"), looks := false }, kinds := [], alts := [], laidByText := true, laidKinds := [.data], laidTests := true, laidLooks := .later }
def PlanForwardUptoCardSaid : Prop := Claim7.holds Tryd.pinned (.plain (OpenSpec.upto planForwardSpec)) planForwardUptoCard

/-- THE SECOND FORM's CARD OF 'coterielaw12.PlanBackward'. -/
def planBackwardUptoCard : Claim7 := { stood := { row := planBackwardUptoRow, standIns := [], harness := (true, "bf1083024dc2be26c9b97c8a272ef84e1965513e21b1b68c841b5f40f9e82622"), looks := false }, kinds := [], alts := [], laidByText := true, laidKinds := [.data], laidTests := true, laidLooks := .later }
def PlanBackwardUptoCardSaid : Prop := Claim7.holds Tryd.pinned (.plain (OpenSpec.upto planBackwardSpec)) planBackwardUptoCard

/-- THE SECOND FORM's CARD OF 'coterielaw12.PlanFresh'. -/
def planFreshUptoCard : Claim7 := { stood := { row := planFreshUptoRow, standIns := [], harness := (true, "bf1083024dc2be26c9b97c8a272ef84e1965513e21b1b68c841b5f40f9e82622"), looks := false }, kinds := [], alts := [], laidByText := true, laidKinds := [.data], laidTests := true, laidLooks := .later }
def PlanFreshUptoCardSaid : Prop := Claim7.holds Tryd.pinned (.plain (OpenSpec.upto planFreshSpec)) planFreshUptoCard

/-- THE SECOND FORM's CARD OF 'coterielaw12.PlanRefusals'. -/
def planRefusalsUptoCard : Claim7 := { stood := { row := planRefusalsUptoRow, standIns := [], harness := (true, "bf1083024dc2be26c9b97c8a272ef84e1965513e21b1b68c841b5f40f9e82622"), looks := false }, kinds := [], alts := [], laidByText := true, laidKinds := [.data], laidTests := true, laidLooks := .later }
def PlanRefusalsUptoCardSaid : Prop := Claim7.holds Tryd.pinned (.plain (OpenSpec.upto planRefusalsSpec)) planRefusalsUptoCard

/-- THE SECOND FORM's CARD OF 'coterielaw12.PlanMemory'. -/
def planMemoryUptoCard : Claim7 := { stood := { row := planMemoryUptoRow, standIns := [], harness := (true, "bf1083024dc2be26c9b97c8a272ef84e1965513e21b1b68c841b5f40f9e82622"), looks := false }, kinds := [], alts := [], laidByText := true, laidKinds := [.data], laidTests := true, laidLooks := .later }
def PlanMemoryUptoCardSaid : Prop := Claim7.holds Tryd.pinned (.plain (OpenSpec.upto planMemorySpec)) planMemoryUptoCard

/-- THE SECOND FORM's CARD OF 'coterielaw12.PlanSteps'. -/
def planStepsUptoCard : Claim7 := { stood := { row := planStepsUptoRow, standIns := [], harness := (true, "bf1083024dc2be26c9b97c8a272ef84e1965513e21b1b68c841b5f40f9e82622"), looks := false }, kinds := [], alts := [], laidByText := true, laidKinds := [.data], laidTests := true, laidLooks := .later }
def PlanStepsUptoCardSaid : Prop := Claim7.holds Tryd.pinned (.plain (OpenSpec.upto planStepsSpec)) planStepsUptoCard
end Rows
end Go.Proofs.YtplmbkgjaobhgaaDoor
