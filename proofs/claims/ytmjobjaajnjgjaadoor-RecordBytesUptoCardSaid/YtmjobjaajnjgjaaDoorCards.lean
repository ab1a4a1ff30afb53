/-
  DERIVED. GIVEN WITH THE SEED: THE CARDS: each row of YtmjobjaajnjgjaaDoorRows.lean that lists a variable, with what it lists TIED to the program's text (the seventh form; the later family's looks); each row that meets fmt, with fmt's text TOLD by the authors' own Lean function (tested against real Go, not proved from fmt's source: count such statements apart). THE CARD IS WHAT COUNTS. Prove the row's statement (the work); the ties are given (YtmjobjaajnjgjaaDoorTie.lean); close each card by the builder's one call (the guide's Derived/Test/ToyasCard.lean, 'card_holds'). Laid BY PROGRAM, IN A SANDBOX (cutbox-door.mjs). By AI agents, Wed Nov 11 2026. No macro, syntax, notation, axiom, sorry.
-/
import Derived.Test.YtmjobjaajnjgjaaDoorRows
import GoSem.ClaimSeven
namespace Go.Proofs.YtmjobjaajnjgjaaDoor
namespace Rows

/-- THE TIED CARD OF 'coterielaw13.RecordOf'. -/
def recordOfCard : Claim7 := { stood := { row := recordOfRow, standIns := [], harness := (true, "e890bdc32d66b5808e235381003c5c3bbbffc6cdeede869bce6046d5940b724d"), looks := false }, kinds := [], alts := [], laidByText := true, laidKinds := [.data], laidTests := true, laidLooks := .later }
def RecordOfCardSaid : Prop := Claim7.holds Tryd.pinned (.plain (OpenSpec.ofChange recordOfSpec)) recordOfCard

/-- THE TIED CARD OF 'coterielaw13.RecordPlays'. -/
def recordPlaysCard : Claim7 := { stood := { row := recordPlaysRow, standIns := [], harness := (true, "e890bdc32d66b5808e235381003c5c3bbbffc6cdeede869bce6046d5940b724d"), looks := false }, kinds := [], alts := [], laidByText := true, laidKinds := [.data], laidTests := true, laidLooks := .later }
def RecordPlaysCardSaid : Prop := Claim7.holds Tryd.pinned (.plain (OpenSpec.ofChange recordPlaysSpec)) recordPlaysCard

/-- THE TIED CARD OF 'coterielaw13.RecordBytes'. -/
def recordBytesCard : Claim7 := { stood := { row := recordBytesRow, standIns := [], harness := (true, "e890bdc32d66b5808e235381003c5c3bbbffc6cdeede869bce6046d5940b724d"), looks := false }, kinds := [], alts := [], laidByText := true, laidKinds := [.data], laidTests := true, laidLooks := .later }
def RecordBytesCardSaid : Prop := Claim7.holds Tryd.pinned (.plain (OpenSpec.ofChange recordBytesSpec)) recordBytesCard

/-- THE TIED CARD OF 'coterielaw13.RecordBack'. -/
def recordBackCard : Claim7 := { stood := { row := recordBackRow, standIns := [], harness := (true, "e890bdc32d66b5808e235381003c5c3bbbffc6cdeede869bce6046d5940b724d"), looks := false }, kinds := [], alts := [], laidByText := true, laidKinds := [.data], laidTests := true, laidLooks := .later }
def RecordBackCardSaid : Prop := Claim7.holds Tryd.pinned (.plain (OpenSpec.ofChange recordBackSpec)) recordBackCard

/-- THE TIED CARD OF 'coterielaw13.RecordRuns'. -/
def recordRunsCard : Claim7 := { stood := { row := recordRunsRow, standIns := [], harness := (true, "e890bdc32d66b5808e235381003c5c3bbbffc6cdeede869bce6046d5940b724d"), looks := false }, kinds := [], alts := [], laidByText := true, laidKinds := [.data], laidTests := true, laidLooks := .later }
def RecordRunsCardSaid : Prop := Claim7.holds Tryd.pinned (.plain (OpenSpec.ofChange recordRunsSpec)) recordRunsCard

/-- THE SECOND FORM's CARD OF 'coterielaw13.RecordOf'. -/
def recordOfUptoCard : Claim7 := { stood := { row := recordOfUptoRow, standIns := [], harness := (true, "e890bdc32d66b5808e235381003c5c3bbbffc6cdeede869bce6046d5940b724d"), looks := false }, kinds := [], alts := [], laidByText := true, laidKinds := [.data], laidTests := true, laidLooks := .later }
def RecordOfUptoCardSaid : Prop := Claim7.holds Tryd.pinned (.plain (OpenSpec.upto recordOfSpec)) recordOfUptoCard

/-- THE SECOND FORM's CARD OF 'coterielaw13.RecordPlays'. -/
def recordPlaysUptoCard : Claim7 := { stood := { row := recordPlaysUptoRow, standIns := [], harness := (true, "e890bdc32d66b5808e235381003c5c3bbbffc6cdeede869bce6046d5940b724d"), looks := false }, kinds := [], alts := [], laidByText := true, laidKinds := [.data], laidTests := true, laidLooks := .later }
def RecordPlaysUptoCardSaid : Prop := Claim7.holds Tryd.pinned (.plain (OpenSpec.upto recordPlaysSpec)) recordPlaysUptoCard

/-- THE SECOND FORM's CARD OF 'coterielaw13.RecordBytes'. -/
def recordBytesUptoCard : Claim7 := { stood := { row := recordBytesUptoRow, standIns := [], harness := (true, "e890bdc32d66b5808e235381003c5c3bbbffc6cdeede869bce6046d5940b724d"), looks := false }, kinds := [], alts := [], laidByText := true, laidKinds := [.data], laidTests := true, laidLooks := .later }
def RecordBytesUptoCardSaid : Prop := Claim7.holds Tryd.pinned (.plain (OpenSpec.upto recordBytesSpec)) recordBytesUptoCard

/-- THE SECOND FORM's CARD OF 'coterielaw13.RecordBack'. -/
def recordBackUptoCard : Claim7 := { stood := { row := recordBackUptoRow, standIns := [], harness := (true, "e890bdc32d66b5808e235381003c5c3bbbffc6cdeede869bce6046d5940b724d"), looks := false }, kinds := [], alts := [], laidByText := true, laidKinds := [.data], laidTests := true, laidLooks := .later }
def RecordBackUptoCardSaid : Prop := Claim7.holds Tryd.pinned (.plain (OpenSpec.upto recordBackSpec)) recordBackUptoCard

/-- THE SECOND FORM's CARD OF 'coterielaw13.RecordRuns'. -/
def recordRunsUptoCard : Claim7 := { stood := { row := recordRunsUptoRow, standIns := [], harness := (true, "e890bdc32d66b5808e235381003c5c3bbbffc6cdeede869bce6046d5940b724d"), looks := false }, kinds := [], alts := [], laidByText := true, laidKinds := [.data], laidTests := true, laidLooks := .later }
def RecordRunsUptoCardSaid : Prop := Claim7.holds Tryd.pinned (.plain (OpenSpec.upto recordRunsSpec)) recordRunsUptoCard
end Rows
end Go.Proofs.YtmjobjaajnjgjaaDoor
