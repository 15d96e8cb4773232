/-
  DERIVED. GIVEN WITH THE SEED: THE CARDS: each row of YtdpbedkppomffaaDoorRows.lean that lists a variable, with what it lists TIED to the program's text (the seventh form; the later family's looks); each row that meets fmt, with fmt's text TOLD by the authors' own Lean function (tested against real Go, not proved from fmt's source: count such statements apart). THE CARD IS WHAT COUNTS. Prove the row's statement (the work); the ties are given (YtdpbedkppomffaaDoorTie.lean); close each card by the builder's one call (the guide's Derived/Test/ToyasCard.lean, 'card_holds'). Laid BY PROGRAM, IN A SANDBOX (cutbox-door.mjs). By AI agents, Wed Nov 11 2026. No macro, syntax, notation, axiom, sorry.
-/
import Derived.Test.YtdpbedkppomffaaDoorRows
import GoSem.ClaimSeven
namespace Go.Proofs.YtdpbedkppomffaaDoor
namespace Rows

/-- THE TIED CARD OF 'sundiallaw.ZonesChecks'. -/
def zonesChecksCard : Claim7 := { stood := { row := zonesChecksRow, standIns := [], harness := (true, "4e79ccc378f7cd2b52ce90bf3b41837084f13024d303d78f06dd14c1732b3237"), looks := true }, kinds := [], alts := [], laidByText := true, laidKinds := [.data], laidTests := true, laidLooks := .later }
def ZonesChecksCardSaid : Prop := Claim7.holds Tryd.pinned (.plain (OpenSpec.ofChange zonesChecksSpec)) zonesChecksCard

/-- THE TIED CARD OF 'sundialkeep.LinksLong'. -/
def linksLongCard : Claim7 := { stood := { row := linksLongRow, standIns := [], harness := (true, "4e79ccc378f7cd2b52ce90bf3b41837084f13024d303d78f06dd14c1732b3237"), looks := true }, kinds := [], alts := [], laidByText := true, laidKinds := [.data, .data, .data, .data], laidTests := true, laidLooks := .later }
def LinksLongCardSaid : Prop := Claim7.holds Tryd.pinned (.plain (OpenSpec.ofChange linksLongSpec)) linksLongCard

/-- THE TIED CARD OF 'sundialkeep.ErasEnd'. -/
def erasEndCard : Claim7 := { stood := { row := erasEndRow, standIns := [], harness := (true, "4e79ccc378f7cd2b52ce90bf3b41837084f13024d303d78f06dd14c1732b3237"), looks := true }, kinds := [], alts := [], laidByText := true, laidKinds := [.data, .data, .pinned], laidTests := true, laidLooks := .later }
def ErasEndCardSaid : Prop := Claim7.holds Tryd.pinned (.plain (OpenSpec.ofChange erasEndSpec)) erasEndCard

/-- THE TIED CARD OF 'sundialkeep.SavingComes'. -/
def savingComesCard : Claim7 := { stood := { row := savingComesRow, standIns := [], harness := (true, "4e79ccc378f7cd2b52ce90bf3b41837084f13024d303d78f06dd14c1732b3237"), looks := true }, kinds := [], alts := [], laidByText := true, laidKinds := [.data, .data, .pinned], laidTests := true, laidLooks := .later }
def SavingComesCardSaid : Prop := Claim7.holds Tryd.pinned (.plain (OpenSpec.ofChange savingComesSpec)) savingComesCard

/-- THE TIED CARD OF 'sundialkeep.SourcesRead'. -/
def sourcesReadCard : Claim7 := { stood := { row := sourcesReadRow, standIns := [], harness := (true, "4e79ccc378f7cd2b52ce90bf3b41837084f13024d303d78f06dd14c1732b3237"), looks := true }, kinds := [], alts := [], laidByText := true, laidKinds := [.data, .data, .data, .data, .sentinel, .sentinel, .widerDeep, .widerDeep, .pinned], laidTests := true, laidLooks := .later }
def SourcesReadCardSaid : Prop := Claim7.holds Tryd.pinned (.plain (OpenSpec.ofChange sourcesReadSpec)) sourcesReadCard

/-- THE SECOND FORM's CARD OF 'sundiallaw.ZonesChecks'. -/
def zonesChecksUptoCard : Claim7 := { stood := { row := zonesChecksUptoRow, standIns := [], harness := (true, "4e79ccc378f7cd2b52ce90bf3b41837084f13024d303d78f06dd14c1732b3237"), looks := true }, kinds := [], alts := [], laidByText := true, laidKinds := [.data], laidTests := true, laidLooks := .later }
def ZonesChecksUptoCardSaid : Prop := Claim7.holds Tryd.pinned (.plain (OpenSpec.upto zonesChecksSpec)) zonesChecksUptoCard

/-- THE SECOND FORM's CARD OF 'sundialkeep.LinksLong'. -/
def linksLongUptoCard : Claim7 := { stood := { row := linksLongUptoRow, standIns := [], harness := (true, "4e79ccc378f7cd2b52ce90bf3b41837084f13024d303d78f06dd14c1732b3237"), looks := true }, kinds := [], alts := [], laidByText := true, laidKinds := [.data, .data, .data, .data], laidTests := true, laidLooks := .later }
def LinksLongUptoCardSaid : Prop := Claim7.holds Tryd.pinned (.plain (OpenSpec.upto linksLongSpec)) linksLongUptoCard

/-- THE SECOND FORM's CARD OF 'sundialkeep.ErasEnd'. -/
def erasEndUptoCard : Claim7 := { stood := { row := erasEndUptoRow, standIns := [], harness := (true, "4e79ccc378f7cd2b52ce90bf3b41837084f13024d303d78f06dd14c1732b3237"), looks := true }, kinds := [], alts := [], laidByText := true, laidKinds := [.data, .data, .pinned], laidTests := true, laidLooks := .later }
def ErasEndUptoCardSaid : Prop := Claim7.holds Tryd.pinned (.plain (OpenSpec.upto erasEndSpec)) erasEndUptoCard

/-- THE SECOND FORM's CARD OF 'sundialkeep.SavingComes'. -/
def savingComesUptoCard : Claim7 := { stood := { row := savingComesUptoRow, standIns := [], harness := (true, "4e79ccc378f7cd2b52ce90bf3b41837084f13024d303d78f06dd14c1732b3237"), looks := true }, kinds := [], alts := [], laidByText := true, laidKinds := [.data, .data, .pinned], laidTests := true, laidLooks := .later }
def SavingComesUptoCardSaid : Prop := Claim7.holds Tryd.pinned (.plain (OpenSpec.upto savingComesSpec)) savingComesUptoCard

/-- THE SECOND FORM's CARD OF 'sundialkeep.SourcesRead'. -/
def sourcesReadUptoCard : Claim7 := { stood := { row := sourcesReadUptoRow, standIns := [], harness := (true, "4e79ccc378f7cd2b52ce90bf3b41837084f13024d303d78f06dd14c1732b3237"), looks := true }, kinds := [], alts := [], laidByText := true, laidKinds := [.data, .data, .data, .data, .sentinel, .sentinel, .widerDeep, .widerDeep, .pinned], laidTests := true, laidLooks := .later }
def SourcesReadUptoCardSaid : Prop := Claim7.holds Tryd.pinned (.plain (OpenSpec.upto sourcesReadSpec)) sourcesReadUptoCard
end Rows
end Go.Proofs.YtdpbedkppomffaaDoor
