/-
  DERIVED. GIVEN WITH THE SEED: THE CARDS: each row of YtbciennhcdabeaaGreatDoorRows.lean that lists a variable, with what it lists TIED to the program's text (the seventh form; the later family's looks); each row that meets fmt, with fmt's text TOLD by the authors' own Lean function (tested against real Go, not proved from fmt's source: count such statements apart). THE CARD IS WHAT COUNTS. Prove the row's statement (the work); the ties are given (YtbciennhcdabeaaGreatDoorTie.lean); close each card by the builder's one call (the guide's Derived/Test/ToyasCard.lean, 'card_holds'). Laid BY PROGRAM, IN A SANDBOX (cutbox-door.mjs). By AI agents, Wed Nov 11 2026. No macro, syntax, notation, axiom, sorry.
-/
import Derived.Test.YtbciennhcdabeaaGreatDoorRows
import GoSem.ClaimSeven
namespace Go.Proofs.YtbciennhcdabeaaGreatDoor
namespace Rows

/-- THE TIED CARD OF 'sundiallaw.SourceReads'. -/
def sourceReadsCard : Claim7 := { stood := { row := sourceReadsRow, standIns := [], harness := (true, "b338aa1b9f756de8ca61e4a0bc3564af15cf3c7a4621a69c0bf187f630641036"), looks := true }, kinds := [], alts := [], laidByText := true, laidKinds := [.data, .data, .data, .data, .sentinel, .sentinel, .widerDeep, .widerDeep, .pinned], laidTests := true, laidLooks := .later }
def SourceReadsCardSaid : Prop := Claim7.holds Tryz.pinned (.plain (OpenSpec.ofChange sourceReadsSpec)) sourceReadsCard

/-- THE TIED CARD OF 'sundialkeep.LinesRefused'. -/
def linesRefusedCard : Claim7 := { stood := { row := linesRefusedRow, standIns := [], harness := (true, "b338aa1b9f756de8ca61e4a0bc3564af15cf3c7a4621a69c0bf187f630641036"), looks := true }, kinds := [], alts := [], laidByText := true, laidKinds := [.data, .data, .data, .data, .sentinel, .sentinel, .widerDeep, .widerDeep, .pinned], laidTests := true, laidLooks := .later }
def LinesRefusedCardSaid : Prop := Claim7.holds Tryz.pinned (.plain (OpenSpec.ofChange linesRefusedSpec)) linesRefusedCard

/-- THE SECOND FORM's CARD OF 'sundiallaw.SourceReads'. -/
def sourceReadsUptoCard : Claim7 := { stood := { row := sourceReadsUptoRow, standIns := [], harness := (true, "b338aa1b9f756de8ca61e4a0bc3564af15cf3c7a4621a69c0bf187f630641036"), looks := true }, kinds := [], alts := [], laidByText := true, laidKinds := [.data, .data, .data, .data, .sentinel, .sentinel, .widerDeep, .widerDeep, .pinned], laidTests := true, laidLooks := .later }
def SourceReadsUptoCardSaid : Prop := Claim7.holds Tryz.pinned (.plain (OpenSpec.upto sourceReadsSpec)) sourceReadsUptoCard

/-- THE SECOND FORM's CARD OF 'sundialkeep.LinesRefused'. -/
def linesRefusedUptoCard : Claim7 := { stood := { row := linesRefusedUptoRow, standIns := [], harness := (true, "b338aa1b9f756de8ca61e4a0bc3564af15cf3c7a4621a69c0bf187f630641036"), looks := true }, kinds := [], alts := [], laidByText := true, laidKinds := [.data, .data, .data, .data, .sentinel, .sentinel, .widerDeep, .widerDeep, .pinned], laidTests := true, laidLooks := .later }
def LinesRefusedUptoCardSaid : Prop := Claim7.holds Tryz.pinned (.plain (OpenSpec.upto linesRefusedSpec)) linesRefusedUptoCard
end Rows
end Go.Proofs.YtbciennhcdabeaaGreatDoor
