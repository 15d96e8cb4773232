/-
  DERIVED. GIVEN WITH THE SEED: THE CARDS: each row of YtcmlcmokjgkciaaGreatDoorRows.lean that lists a variable, with what it lists TIED to the program's text (the seventh form; the later family's looks); each row that meets fmt, with fmt's text TOLD by the authors' own Lean function (tested against real Go, not proved from fmt's source: count such statements apart). THE CARD IS WHAT COUNTS. Prove the row's statement (the work); the ties are given (YtcmlcmokjgkciaaGreatDoorTie.lean); close each card by the builder's one call (the guide's Derived/Test/ToyasCard.lean, 'card_holds'). Laid BY PROGRAM, IN A SANDBOX (cutbox-door.mjs). By AI agents, Wed Nov 11 2026. No macro, syntax, notation, axiom, sorry.
-/
import Derived.Test.YtcmlcmokjgkciaaGreatDoorRows
import GoSem.ClaimSeven
namespace Go.Proofs.YtcmlcmokjgkciaaGreatDoor
namespace Rows

/-- THE TIED CARD OF 'sundialkeep.HoursRead'. -/
def hoursReadCard : Claim7 := { stood := { row := hoursReadRow, standIns := [], harness := (true, "1a5ab2be7ff3da296fe4125097a579d3ded96ded7797f37f89ea7014f52b1cf3"), looks := true }, kinds := [], alts := [], laidByText := true, laidKinds := [.data, .data, .data, .data, .sentinel, .sentinel, .data, .widerDeep, .widerDeep, .pinned], laidTests := true, laidLooks := .later }
def HoursReadCardSaid : Prop := Claim7.holds Tryz.pinned (.plain (OpenSpec.ofChange hoursReadSpec)) hoursReadCard

/-- THE TIED CARD OF 'sundialkeep.SpansRise'. -/
def spansRiseCard : Claim7 := { stood := { row := spansRiseRow, standIns := [], harness := (true, "1a5ab2be7ff3da296fe4125097a579d3ded96ded7797f37f89ea7014f52b1cf3"), looks := true }, kinds := [], alts := [], laidByText := true, laidKinds := [.data, .data, .data, .data, .sentinel, .sentinel, .data, .widerDeep, .widerDeep, .pinned], laidTests := true, laidLooks := .later }
def SpansRiseCardSaid : Prop := Claim7.holds Tryz.pinned (.plain (OpenSpec.ofChange spansRiseSpec)) spansRiseCard

/-- THE SECOND FORM's CARD OF 'sundialkeep.HoursRead'. -/
def hoursReadUptoCard : Claim7 := { stood := { row := hoursReadUptoRow, standIns := [], harness := (true, "1a5ab2be7ff3da296fe4125097a579d3ded96ded7797f37f89ea7014f52b1cf3"), looks := true }, kinds := [], alts := [], laidByText := true, laidKinds := [.data, .data, .data, .data, .sentinel, .sentinel, .data, .widerDeep, .widerDeep, .pinned], laidTests := true, laidLooks := .later }
def HoursReadUptoCardSaid : Prop := Claim7.holds Tryz.pinned (.plain (OpenSpec.upto hoursReadSpec)) hoursReadUptoCard

/-- THE SECOND FORM's CARD OF 'sundialkeep.SpansRise'. -/
def spansRiseUptoCard : Claim7 := { stood := { row := spansRiseUptoRow, standIns := [], harness := (true, "1a5ab2be7ff3da296fe4125097a579d3ded96ded7797f37f89ea7014f52b1cf3"), looks := true }, kinds := [], alts := [], laidByText := true, laidKinds := [.data, .data, .data, .data, .sentinel, .sentinel, .data, .widerDeep, .widerDeep, .pinned], laidTests := true, laidLooks := .later }
def SpansRiseUptoCardSaid : Prop := Claim7.holds Tryz.pinned (.plain (OpenSpec.upto spansRiseSpec)) spansRiseUptoCard
end Rows
end Go.Proofs.YtcmlcmokjgkciaaGreatDoor
