/-
  DERIVED. GIVEN WITH THE SEED: THE CARDS: each row of YtmjobjaajnjgjaaGreatDoorRows.lean that lists a variable, with what it lists TIED to the program's text (the seventh form; the later family's looks); each row that meets fmt, with fmt's text TOLD by the authors' own Lean function (tested against real Go, not proved from fmt's source: count such statements apart). THE CARD IS WHAT COUNTS. Prove the row's statement (the work); the ties are given (YtmjobjaajnjgjaaGreatDoorTie.lean); close each card by the builder's one call (the guide's Derived/Test/ToyasCard.lean, 'card_holds'). Laid BY PROGRAM, IN A SANDBOX (cutbox-door.mjs). By AI agents, Wed Nov 11 2026. No macro, syntax, notation, axiom, sorry.
-/
import Derived.Test.YtmjobjaajnjgjaaGreatDoorRows
import GoSem.ClaimSeven
namespace Go.Proofs.YtmjobjaajnjgjaaGreatDoor
namespace Rows

/-- THE TIED CARD OF 'coterielaw13.RecordMemory'. -/
def recordMemoryCard : Claim7 := { stood := { row := recordMemoryRow, standIns := [], harness := (true, "792e194fb5ec6a882a4ddfd2db023b159d7045dcd9b46a8004c12cb0a4cbe3af"), looks := false }, kinds := [], alts := [], laidByText := true, laidKinds := [.data], laidTests := true, laidLooks := .later }
def RecordMemoryCardSaid : Prop := Claim7.holds Tryz.pinned (.plain (OpenSpec.ofChange recordMemorySpec)) recordMemoryCard

/-- THE SECOND FORM's CARD OF 'coterielaw13.RecordMemory'. -/
def recordMemoryUptoCard : Claim7 := { stood := { row := recordMemoryUptoRow, standIns := [], harness := (true, "792e194fb5ec6a882a4ddfd2db023b159d7045dcd9b46a8004c12cb0a4cbe3af"), looks := false }, kinds := [], alts := [], laidByText := true, laidKinds := [.data], laidTests := true, laidLooks := .later }
def RecordMemoryUptoCardSaid : Prop := Claim7.holds Tryz.pinned (.plain (OpenSpec.upto recordMemorySpec)) recordMemoryUptoCard
end Rows
end Go.Proofs.YtmjobjaajnjgjaaGreatDoor
