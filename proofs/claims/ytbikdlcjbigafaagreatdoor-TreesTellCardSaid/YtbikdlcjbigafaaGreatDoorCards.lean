/-
  DERIVED. GIVEN WITH THE SEED: THE CARDS: each row of YtbikdlcjbigafaaGreatDoorRows.lean that lists a variable, with what it lists TIED to the program's text (the seventh form; the later family's looks); each row that meets fmt, with fmt's text TOLD by the authors' own Lean function (tested against real Go, not proved from fmt's source: count such statements apart). THE CARD IS WHAT COUNTS. Prove the row's statement (the work); the ties are given (YtbikdlcjbigafaaGreatDoorTie.lean); close each card by the builder's one call (the guide's Derived/Test/ToyasCard.lean, 'card_holds'). Laid BY PROGRAM, IN A SANDBOX (cutbox-door.mjs). By AI agents, Wed Nov 11 2026. No macro, syntax, notation, axiom, sorry.
-/
import Derived.Test.YtbikdlcjbigafaaGreatDoorRows
import GoSem.ClaimSeven
namespace Go.Proofs.YtbikdlcjbigafaaGreatDoor
namespace Rows

/-- THE TIED CARD OF 'sundialkeep.LinksLead'. -/
def linksLeadCard : Claim7 := { stood := { row := linksLeadRow, standIns := [], harness := (true, "0e249802e89af97d0790e09d001f38af5edb155321cca395a9183af8b1d3225e"), looks := true }, kinds := [], alts := [], laidByText := true, laidKinds := [.data, .data, .data, .data, .sentinel, .sentinel, .data, .widerDeep, .widerDeep, .pinned], laidTests := true, laidLooks := .later }
def LinksLeadCardSaid : Prop := Claim7.holds Tryz.pinned (.plain (OpenSpec.ofChange linksLeadSpec)) linksLeadCard

/-- THE TIED CARD OF 'sundialkeep.SpansTell'. -/
def spansTellCard : Claim7 := { stood := { row := spansTellRow, standIns := [], harness := (true, "0e249802e89af97d0790e09d001f38af5edb155321cca395a9183af8b1d3225e"), looks := true }, kinds := [], alts := [], laidByText := true, laidKinds := [.data, .data, .data, .data, .sentinel, .sentinel, .data, .widerDeep, .widerDeep, .pinned], laidTests := true, laidLooks := .later }
def SpansTellCardSaid : Prop := Claim7.holds Tryz.pinned (.plain (OpenSpec.ofChange spansTellSpec)) spansTellCard

/-- THE TIED CARD OF 'sundialkeep.BlanksNothing'. -/
def blanksNothingCard : Claim7 := { stood := { row := blanksNothingRow, standIns := [], harness := (true, "0e249802e89af97d0790e09d001f38af5edb155321cca395a9183af8b1d3225e"), looks := true }, kinds := [], alts := [], laidByText := true, laidKinds := [.data, .data, .data, .data, .sentinel, .sentinel, .data, .widerDeep, .widerDeep, .pinned], laidTests := true, laidLooks := .later }
def BlanksNothingCardSaid : Prop := Claim7.holds Tryz.pinned (.plain (OpenSpec.ofChange blanksNothingSpec)) blanksNothingCard

/-- THE TIED CARD OF 'sundialkeep.TreesTell'. -/
def treesTellCard : Claim7 := { stood := { row := treesTellRow, standIns := [], harness := (true, "0e249802e89af97d0790e09d001f38af5edb155321cca395a9183af8b1d3225e"), looks := true }, kinds := [], alts := [], laidByText := true, laidKinds := [.data, .data, .data, .data, .sentinel, .sentinel, .data, .widerDeep, .widerDeep, .pinned], laidTests := true, laidLooks := .later }
def TreesTellCardSaid : Prop := Claim7.holds Tryz.pinned (.plain (OpenSpec.ofChange treesTellSpec)) treesTellCard

/-- THE SECOND FORM's CARD OF 'sundialkeep.LinksLead'. -/
def linksLeadUptoCard : Claim7 := { stood := { row := linksLeadUptoRow, standIns := [], harness := (true, "0e249802e89af97d0790e09d001f38af5edb155321cca395a9183af8b1d3225e"), looks := true }, kinds := [], alts := [], laidByText := true, laidKinds := [.data, .data, .data, .data, .sentinel, .sentinel, .data, .widerDeep, .widerDeep, .pinned], laidTests := true, laidLooks := .later }
def LinksLeadUptoCardSaid : Prop := Claim7.holds Tryz.pinned (.plain (OpenSpec.upto linksLeadSpec)) linksLeadUptoCard

/-- THE SECOND FORM's CARD OF 'sundialkeep.SpansTell'. -/
def spansTellUptoCard : Claim7 := { stood := { row := spansTellUptoRow, standIns := [], harness := (true, "0e249802e89af97d0790e09d001f38af5edb155321cca395a9183af8b1d3225e"), looks := true }, kinds := [], alts := [], laidByText := true, laidKinds := [.data, .data, .data, .data, .sentinel, .sentinel, .data, .widerDeep, .widerDeep, .pinned], laidTests := true, laidLooks := .later }
def SpansTellUptoCardSaid : Prop := Claim7.holds Tryz.pinned (.plain (OpenSpec.upto spansTellSpec)) spansTellUptoCard

/-- THE SECOND FORM's CARD OF 'sundialkeep.BlanksNothing'. -/
def blanksNothingUptoCard : Claim7 := { stood := { row := blanksNothingUptoRow, standIns := [], harness := (true, "0e249802e89af97d0790e09d001f38af5edb155321cca395a9183af8b1d3225e"), looks := true }, kinds := [], alts := [], laidByText := true, laidKinds := [.data, .data, .data, .data, .sentinel, .sentinel, .data, .widerDeep, .widerDeep, .pinned], laidTests := true, laidLooks := .later }
def BlanksNothingUptoCardSaid : Prop := Claim7.holds Tryz.pinned (.plain (OpenSpec.upto blanksNothingSpec)) blanksNothingUptoCard

/-- THE SECOND FORM's CARD OF 'sundialkeep.TreesTell'. -/
def treesTellUptoCard : Claim7 := { stood := { row := treesTellUptoRow, standIns := [], harness := (true, "0e249802e89af97d0790e09d001f38af5edb155321cca395a9183af8b1d3225e"), looks := true }, kinds := [], alts := [], laidByText := true, laidKinds := [.data, .data, .data, .data, .sentinel, .sentinel, .data, .widerDeep, .widerDeep, .pinned], laidTests := true, laidLooks := .later }
def TreesTellUptoCardSaid : Prop := Claim7.holds Tryz.pinned (.plain (OpenSpec.upto treesTellSpec)) treesTellUptoCard
end Rows
end Go.Proofs.YtbikdlcjbigafaaGreatDoor
