/-
  DERIVED. GIVEN WITH THE SEED: THE CARDS: each row of YtghlolinkmlkeaaDoorRows.lean that lists a variable, with what it lists TIED to the program's text (the seventh form; the later family's looks); each row that meets fmt, with fmt's text TOLD by the authors' own Lean function (tested against real Go, not proved from fmt's source: count such statements apart). THE CARD IS WHAT COUNTS. Prove the row's statement (the work); the ties are given (YtghlolinkmlkeaaDoorTie.lean); close each card by the builder's one call (the guide's Derived/Test/ToyasCard.lean, 'card_holds'). Laid BY PROGRAM, IN A SANDBOX (cutbox-door.mjs). By AI agents, Wed Nov 11 2026. No macro, syntax, notation, axiom, sorry.
-/
import Derived.Test.YtghlolinkmlkeaaDoorRows
import GoSem.ClaimSeven
namespace Go.Proofs.YtghlolinkmlkeaaDoor
namespace Rows

/-- THE TIED CARD OF 'coterielaw22.HistoryNames'. -/
def historyNamesCard : Claim7 := { stood := { row := historyNamesRow, standIns := [], harness := (true, "ba58ae6d635fd148944f1df26a62080f7c6c98726958e7feebe1878f0962bf5d"), looks := false }, kinds := [], alts := [], laidByText := true, laidKinds := [.data], laidTests := true, laidLooks := .later }
def HistoryNamesCardSaid : Prop := Claim7.holds Tryd.pinned (.plain (OpenSpec.ofChange historyNamesSpec)) historyNamesCard

/-- THE TIED CARD OF 'coterielaw22.HistoryFronts'. -/
def historyFrontsCard : Claim7 := { stood := { row := historyFrontsRow, standIns := [], harness := (true, "ba58ae6d635fd148944f1df26a62080f7c6c98726958e7feebe1878f0962bf5d"), looks := false }, kinds := [], alts := [], laidByText := true, laidKinds := [.data], laidTests := true, laidLooks := .later }
def HistoryFrontsCardSaid : Prop := Claim7.holds Tryd.pinned (.plain (OpenSpec.ofChange historyFrontsSpec)) historyFrontsCard

/-- THE TIED CARD OF 'coterielaw22.HistoryOneWay'. -/
def historyOneWayCard : Claim7 := { stood := { row := historyOneWayRow, standIns := [], harness := (true, "ba58ae6d635fd148944f1df26a62080f7c6c98726958e7feebe1878f0962bf5d"), looks := false }, kinds := [], alts := [], laidByText := true, laidKinds := [.data], laidTests := true, laidLooks := .later }
def HistoryOneWayCardSaid : Prop := Claim7.holds Tryd.pinned (.plain (OpenSpec.ofChange historyOneWaySpec)) historyOneWayCard

/-- THE SECOND FORM's CARD OF 'coterielaw22.HistoryNames'. -/
def historyNamesUptoCard : Claim7 := { stood := { row := historyNamesUptoRow, standIns := [], harness := (true, "ba58ae6d635fd148944f1df26a62080f7c6c98726958e7feebe1878f0962bf5d"), looks := false }, kinds := [], alts := [], laidByText := true, laidKinds := [.data], laidTests := true, laidLooks := .later }
def HistoryNamesUptoCardSaid : Prop := Claim7.holds Tryd.pinned (.plain (OpenSpec.upto historyNamesSpec)) historyNamesUptoCard

/-- THE SECOND FORM's CARD OF 'coterielaw22.HistoryFronts'. -/
def historyFrontsUptoCard : Claim7 := { stood := { row := historyFrontsUptoRow, standIns := [], harness := (true, "ba58ae6d635fd148944f1df26a62080f7c6c98726958e7feebe1878f0962bf5d"), looks := false }, kinds := [], alts := [], laidByText := true, laidKinds := [.data], laidTests := true, laidLooks := .later }
def HistoryFrontsUptoCardSaid : Prop := Claim7.holds Tryd.pinned (.plain (OpenSpec.upto historyFrontsSpec)) historyFrontsUptoCard

/-- THE SECOND FORM's CARD OF 'coterielaw22.HistoryOneWay'. -/
def historyOneWayUptoCard : Claim7 := { stood := { row := historyOneWayUptoRow, standIns := [], harness := (true, "ba58ae6d635fd148944f1df26a62080f7c6c98726958e7feebe1878f0962bf5d"), looks := false }, kinds := [], alts := [], laidByText := true, laidKinds := [.data], laidTests := true, laidLooks := .later }
def HistoryOneWayUptoCardSaid : Prop := Claim7.holds Tryd.pinned (.plain (OpenSpec.upto historyOneWaySpec)) historyOneWayUptoCard
end Rows
end Go.Proofs.YtghlolinkmlkeaaDoor
