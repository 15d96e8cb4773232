/-
  DERIVED. GIVEN WITH THE SEED: THE CARDS: each row of YtlhidbbphngpcaaDoorRows.lean that lists a variable, with what it lists TIED to the program's text (the seventh form; the later family's looks); each row that meets fmt, with fmt's text TOLD by the authors' own Lean function (tested against real Go, not proved from fmt's source: count such statements apart). THE CARD IS WHAT COUNTS. Prove the row's statement (the work); the ties are given (YtlhidbbphngpcaaDoorTie.lean); close each card by the builder's one call (the guide's Derived/Test/ToyasCard.lean, 'card_holds'). Laid BY PROGRAM, IN A SANDBOX (cutbox-door.mjs). By AI agents, Wed Nov 11 2026. No macro, syntax, notation, axiom, sorry.
-/
import Derived.Test.YtlhidbbphngpcaaDoorRows
import GoSem.ClaimSeven
namespace Go.Proofs.YtlhidbbphngpcaaDoor
namespace Rows

/-- THE TIED CARD OF 'sundiallaw.CodeTexts'. -/
def codeTextsCard : Claim7 := { stood := { row := codeTextsRow, standIns := [], harness := (true, "f96c3dbea4a6dac2ee03c702405b5a4e734e27fb21d96d7f61090d58842d42da"), looks := true }, kinds := [], alts := [], laidByText := true, laidKinds := [.data, .data, .data, .widerDeep], laidTests := true, laidLooks := .later }
def CodeTextsCardSaid : Prop := Claim7.holds Tryd.pinned (.plain (OpenSpec.ofChange codeTextsSpec)) codeTextsCard

/-- THE TIED CARD OF 'sundiallaw.CodeParses'. -/
def codeParsesCard : Claim7 := { stood := { row := codeParsesRow, standIns := [], harness := (true, "f96c3dbea4a6dac2ee03c702405b5a4e734e27fb21d96d7f61090d58842d42da"), looks := true }, kinds := [], alts := [], laidByText := true, laidKinds := [.data, .data, .data, .sentinel, .sentinel, .widerDeep], laidTests := true, laidLooks := .later }
def CodeParsesCardSaid : Prop := Claim7.holds Tryd.pinned (.plain (OpenSpec.ofChange codeParsesSpec)) codeParsesCard

/-- THE TIED CARD OF 'sundialkeep.TextsBack'. -/
def textsBackCard : Claim7 := { stood := { row := textsBackRow, standIns := [], harness := (true, "f96c3dbea4a6dac2ee03c702405b5a4e734e27fb21d96d7f61090d58842d42da"), looks := true }, kinds := [], alts := [], laidByText := true, laidKinds := [.data, .data, .data, .sentinel, .sentinel, .widerDeep], laidTests := true, laidLooks := .later }
def TextsBackCardSaid : Prop := Claim7.holds Tryd.pinned (.plain (OpenSpec.ofChange textsBackSpec)) textsBackCard

/-- THE SECOND FORM's CARD OF 'sundiallaw.CodeTexts'. -/
def codeTextsUptoCard : Claim7 := { stood := { row := codeTextsUptoRow, standIns := [], harness := (true, "f96c3dbea4a6dac2ee03c702405b5a4e734e27fb21d96d7f61090d58842d42da"), looks := true }, kinds := [], alts := [], laidByText := true, laidKinds := [.data, .data, .data, .widerDeep], laidTests := true, laidLooks := .later }
def CodeTextsUptoCardSaid : Prop := Claim7.holds Tryd.pinned (.plain (OpenSpec.upto codeTextsSpec)) codeTextsUptoCard

/-- THE SECOND FORM's CARD OF 'sundiallaw.CodeParses'. -/
def codeParsesUptoCard : Claim7 := { stood := { row := codeParsesUptoRow, standIns := [], harness := (true, "f96c3dbea4a6dac2ee03c702405b5a4e734e27fb21d96d7f61090d58842d42da"), looks := true }, kinds := [], alts := [], laidByText := true, laidKinds := [.data, .data, .data, .sentinel, .sentinel, .widerDeep], laidTests := true, laidLooks := .later }
def CodeParsesUptoCardSaid : Prop := Claim7.holds Tryd.pinned (.plain (OpenSpec.upto codeParsesSpec)) codeParsesUptoCard

/-- THE SECOND FORM's CARD OF 'sundialkeep.TextsBack'. -/
def textsBackUptoCard : Claim7 := { stood := { row := textsBackUptoRow, standIns := [], harness := (true, "f96c3dbea4a6dac2ee03c702405b5a4e734e27fb21d96d7f61090d58842d42da"), looks := true }, kinds := [], alts := [], laidByText := true, laidKinds := [.data, .data, .data, .sentinel, .sentinel, .widerDeep], laidTests := true, laidLooks := .later }
def TextsBackUptoCardSaid : Prop := Claim7.holds Tryd.pinned (.plain (OpenSpec.upto textsBackSpec)) textsBackUptoCard
end Rows
end Go.Proofs.YtlhidbbphngpcaaDoor
