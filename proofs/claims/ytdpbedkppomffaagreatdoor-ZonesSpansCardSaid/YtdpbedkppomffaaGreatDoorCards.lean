/-
  DERIVED. GIVEN WITH THE SEED: THE CARDS: each row of YtdpbedkppomffaaGreatDoorRows.lean that lists a variable, with what it lists TIED to the program's text (the seventh form; the later family's looks); each row that meets fmt, with fmt's text TOLD by the authors' own Lean function (tested against real Go, not proved from fmt's source: count such statements apart). THE CARD IS WHAT COUNTS. Prove the row's statement (the work); the ties are given (YtdpbedkppomffaaGreatDoorTie.lean); close each card by the builder's one call (the guide's Derived/Test/ToyasCard.lean, 'card_holds'). Laid BY PROGRAM, IN A SANDBOX (cutbox-door.mjs). By AI agents, Wed Nov 11 2026. No macro, syntax, notation, axiom, sorry.
-/
import Derived.Test.YtdpbedkppomffaaGreatDoorRows
import GoSem.ClaimSeven
namespace Go.Proofs.YtdpbedkppomffaaGreatDoor
namespace Rows

/-- THE TIED CARD OF 'sundiallaw.ZonesAt'. -/
def zonesAtCard : Claim7 := { stood := { row := zonesAtRow, standIns := [], harness := (true, "66e65b8b07778698451811cf1b1ad466f21a3f575d853c408f66ed8ab8b509f0"), looks := true }, kinds := [], alts := [], laidByText := true, laidKinds := [.data, .data, .pinned], laidTests := true, laidLooks := .later }
def ZonesAtCardSaid : Prop := Claim7.holds Tryz.pinned (.plain (OpenSpec.ofChange zonesAtSpec)) zonesAtCard

/-- THE TIED CARD OF 'sundiallaw.SourceReads'. -/
def sourceReadsCard : Claim7 := { stood := { row := sourceReadsRow, standIns := [], harness := (true, "66e65b8b07778698451811cf1b1ad466f21a3f575d853c408f66ed8ab8b509f0"), looks := true }, kinds := [], alts := [], laidByText := true, laidKinds := [.data, .data, .data, .data, .sentinel, .sentinel, .widerDeep, .widerDeep, .pinned], laidTests := true, laidLooks := .later }
def SourceReadsCardSaid : Prop := Claim7.holds Tryz.pinned (.plain (OpenSpec.ofChange sourceReadsSpec)) sourceReadsCard

/-- THE TIED CARD OF 'sundiallaw.ZonesSpans'. -/
def zonesSpansCard : Claim7 := { stood := { row := zonesSpansRow, standIns := [], harness := (true, "66e65b8b07778698451811cf1b1ad466f21a3f575d853c408f66ed8ab8b509f0"), looks := true }, kinds := [], alts := [], laidByText := true, laidKinds := [.data, .data, .pinned], laidTests := true, laidLooks := .later }
def ZonesSpansCardSaid : Prop := Claim7.holds Tryz.pinned (.plain (OpenSpec.ofChange zonesSpansSpec)) zonesSpansCard

/-- THE TIED CARD OF 'sundialkeep.LinesRefused'. -/
def linesRefusedCard : Claim7 := { stood := { row := linesRefusedRow, standIns := [], harness := (true, "66e65b8b07778698451811cf1b1ad466f21a3f575d853c408f66ed8ab8b509f0"), looks := true }, kinds := [], alts := [], laidByText := true, laidKinds := [.data, .data, .data, .data, .sentinel, .sentinel, .widerDeep, .widerDeep, .pinned], laidTests := true, laidLooks := .later }
def LinesRefusedCardSaid : Prop := Claim7.holds Tryz.pinned (.plain (OpenSpec.ofChange linesRefusedSpec)) linesRefusedCard

/-- THE SECOND FORM's CARD OF 'sundiallaw.ZonesAt'. -/
def zonesAtUptoCard : Claim7 := { stood := { row := zonesAtUptoRow, standIns := [], harness := (true, "66e65b8b07778698451811cf1b1ad466f21a3f575d853c408f66ed8ab8b509f0"), looks := true }, kinds := [], alts := [], laidByText := true, laidKinds := [.data, .data, .pinned], laidTests := true, laidLooks := .later }
def ZonesAtUptoCardSaid : Prop := Claim7.holds Tryz.pinned (.plain (OpenSpec.upto zonesAtSpec)) zonesAtUptoCard

/-- THE SECOND FORM's CARD OF 'sundiallaw.SourceReads'. -/
def sourceReadsUptoCard : Claim7 := { stood := { row := sourceReadsUptoRow, standIns := [], harness := (true, "66e65b8b07778698451811cf1b1ad466f21a3f575d853c408f66ed8ab8b509f0"), looks := true }, kinds := [], alts := [], laidByText := true, laidKinds := [.data, .data, .data, .data, .sentinel, .sentinel, .widerDeep, .widerDeep, .pinned], laidTests := true, laidLooks := .later }
def SourceReadsUptoCardSaid : Prop := Claim7.holds Tryz.pinned (.plain (OpenSpec.upto sourceReadsSpec)) sourceReadsUptoCard

/-- THE SECOND FORM's CARD OF 'sundiallaw.ZonesSpans'. -/
def zonesSpansUptoCard : Claim7 := { stood := { row := zonesSpansUptoRow, standIns := [], harness := (true, "66e65b8b07778698451811cf1b1ad466f21a3f575d853c408f66ed8ab8b509f0"), looks := true }, kinds := [], alts := [], laidByText := true, laidKinds := [.data, .data, .pinned], laidTests := true, laidLooks := .later }
def ZonesSpansUptoCardSaid : Prop := Claim7.holds Tryz.pinned (.plain (OpenSpec.upto zonesSpansSpec)) zonesSpansUptoCard

/-- THE SECOND FORM's CARD OF 'sundialkeep.LinesRefused'. -/
def linesRefusedUptoCard : Claim7 := { stood := { row := linesRefusedUptoRow, standIns := [], harness := (true, "66e65b8b07778698451811cf1b1ad466f21a3f575d853c408f66ed8ab8b509f0"), looks := true }, kinds := [], alts := [], laidByText := true, laidKinds := [.data, .data, .data, .data, .sentinel, .sentinel, .widerDeep, .widerDeep, .pinned], laidTests := true, laidLooks := .later }
def LinesRefusedUptoCardSaid : Prop := Claim7.holds Tryz.pinned (.plain (OpenSpec.upto linesRefusedSpec)) linesRefusedUptoCard
end Rows
end Go.Proofs.YtdpbedkppomffaaGreatDoor
