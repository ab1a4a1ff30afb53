/-
  DERIVED. GIVEN WITH THE SEED: THE CARDS: each row of YtghlolinkmlkeaaGreatDoorRows.lean that lists a variable, with what it lists TIED to the program's text (the seventh form; the later family's looks); each row that meets fmt, with fmt's text TOLD by the authors' own Lean function (tested against real Go, not proved from fmt's source: count such statements apart). THE CARD IS WHAT COUNTS. Prove the row's statement (the work); the ties are given (YtghlolinkmlkeaaGreatDoorTie.lean); close each card by the builder's one call (the guide's Derived/Test/ToyasCard.lean, 'card_holds'). Laid BY PROGRAM, IN A SANDBOX (cutbox-door.mjs). By AI agents, Wed Nov 11 2026. No macro, syntax, notation, axiom, sorry.
-/
import Derived.Test.YtghlolinkmlkeaaGreatDoorRows
import GoSem.ClaimSeven
namespace Go.Proofs.YtghlolinkmlkeaaGreatDoor
namespace Rows

/-- THE TIED CARD OF 'coterielaw22.HistoryPlays'. -/
def historyPlaysCard : Claim7 := { stood := { row := historyPlaysRow, standIns := [], harness := (true, "d219873aa9200e914d8d930119a461da8ecc2b475f10aa7d3c596575a4e040cd"), looks := false }, kinds := [], alts := [], laidByText := true, laidKinds := [.data], laidTests := true, laidLooks := .later }
def HistoryPlaysCardSaid : Prop := Claim7.holds Tryz.pinned (.plain (OpenSpec.ofChange historyPlaysSpec)) historyPlaysCard

/-- THE TIED CARD OF 'coterielaw22.HistoryRights'. -/
def historyRightsCard : Claim7 := { stood := { row := historyRightsRow, standIns := [], harness := (true, "d219873aa9200e914d8d930119a461da8ecc2b475f10aa7d3c596575a4e040cd"), looks := false }, kinds := [], alts := [], laidByText := true, laidKinds := [.data], laidTests := true, laidLooks := .later }
def HistoryRightsCardSaid : Prop := Claim7.holds Tryz.pinned (.plain (OpenSpec.ofChange historyRightsSpec)) historyRightsCard

/-- THE TIED CARD OF 'coterielaw22.HistoryAsks'. -/
def historyAsksCard : Claim7 := { stood := { row := historyAsksRow, standIns := [], harness := (true, "d219873aa9200e914d8d930119a461da8ecc2b475f10aa7d3c596575a4e040cd"), looks := false }, kinds := [], alts := [], laidByText := true, laidKinds := [.data], laidTests := true, laidLooks := .later }
def HistoryAsksCardSaid : Prop := Claim7.holds Tryz.pinned (.plain (OpenSpec.ofChange historyAsksSpec)) historyAsksCard

/-- THE TIED CARD OF 'coterielaw22.HistoryExcuses'. -/
def historyExcusesCard : Claim7 := { stood := { row := historyExcusesRow, standIns := [], harness := (true, "d219873aa9200e914d8d930119a461da8ecc2b475f10aa7d3c596575a4e040cd"), looks := false }, kinds := [], alts := [], laidByText := true, laidKinds := [.data], laidTests := true, laidLooks := .later }
def HistoryExcusesCardSaid : Prop := Claim7.holds Tryz.pinned (.plain (OpenSpec.ofChange historyExcusesSpec)) historyExcusesCard

/-- THE TIED CARD OF 'coterielaw22.HistoryReplaced'. -/
def historyReplacedCard : Claim7 := { stood := { row := historyReplacedRow, standIns := [], harness := (true, "d219873aa9200e914d8d930119a461da8ecc2b475f10aa7d3c596575a4e040cd"), looks := false }, kinds := [], alts := [], laidByText := true, laidKinds := [.data], laidTests := true, laidLooks := .later }
def HistoryReplacedCardSaid : Prop := Claim7.holds Tryz.pinned (.plain (OpenSpec.ofChange historyReplacedSpec)) historyReplacedCard

/-- THE SECOND FORM's CARD OF 'coterielaw22.HistoryPlays'. -/
def historyPlaysUptoCard : Claim7 := { stood := { row := historyPlaysUptoRow, standIns := [], harness := (true, "d219873aa9200e914d8d930119a461da8ecc2b475f10aa7d3c596575a4e040cd"), looks := false }, kinds := [], alts := [], laidByText := true, laidKinds := [.data], laidTests := true, laidLooks := .later }
def HistoryPlaysUptoCardSaid : Prop := Claim7.holds Tryz.pinned (.plain (OpenSpec.upto historyPlaysSpec)) historyPlaysUptoCard

/-- THE SECOND FORM's CARD OF 'coterielaw22.HistoryRights'. -/
def historyRightsUptoCard : Claim7 := { stood := { row := historyRightsUptoRow, standIns := [], harness := (true, "d219873aa9200e914d8d930119a461da8ecc2b475f10aa7d3c596575a4e040cd"), looks := false }, kinds := [], alts := [], laidByText := true, laidKinds := [.data], laidTests := true, laidLooks := .later }
def HistoryRightsUptoCardSaid : Prop := Claim7.holds Tryz.pinned (.plain (OpenSpec.upto historyRightsSpec)) historyRightsUptoCard

/-- THE SECOND FORM's CARD OF 'coterielaw22.HistoryAsks'. -/
def historyAsksUptoCard : Claim7 := { stood := { row := historyAsksUptoRow, standIns := [], harness := (true, "d219873aa9200e914d8d930119a461da8ecc2b475f10aa7d3c596575a4e040cd"), looks := false }, kinds := [], alts := [], laidByText := true, laidKinds := [.data], laidTests := true, laidLooks := .later }
def HistoryAsksUptoCardSaid : Prop := Claim7.holds Tryz.pinned (.plain (OpenSpec.upto historyAsksSpec)) historyAsksUptoCard

/-- THE SECOND FORM's CARD OF 'coterielaw22.HistoryExcuses'. -/
def historyExcusesUptoCard : Claim7 := { stood := { row := historyExcusesUptoRow, standIns := [], harness := (true, "d219873aa9200e914d8d930119a461da8ecc2b475f10aa7d3c596575a4e040cd"), looks := false }, kinds := [], alts := [], laidByText := true, laidKinds := [.data], laidTests := true, laidLooks := .later }
def HistoryExcusesUptoCardSaid : Prop := Claim7.holds Tryz.pinned (.plain (OpenSpec.upto historyExcusesSpec)) historyExcusesUptoCard

/-- THE SECOND FORM's CARD OF 'coterielaw22.HistoryReplaced'. -/
def historyReplacedUptoCard : Claim7 := { stood := { row := historyReplacedUptoRow, standIns := [], harness := (true, "d219873aa9200e914d8d930119a461da8ecc2b475f10aa7d3c596575a4e040cd"), looks := false }, kinds := [], alts := [], laidByText := true, laidKinds := [.data], laidTests := true, laidLooks := .later }
def HistoryReplacedUptoCardSaid : Prop := Claim7.holds Tryz.pinned (.plain (OpenSpec.upto historyReplacedSpec)) historyReplacedUptoCard
end Rows
end Go.Proofs.YtghlolinkmlkeaaGreatDoor
