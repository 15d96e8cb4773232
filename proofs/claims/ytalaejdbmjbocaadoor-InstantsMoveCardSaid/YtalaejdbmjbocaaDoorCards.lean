/-
  DERIVED. GIVEN WITH THE SEED: THE CARDS: each row of YtalaejdbmjbocaaDoorRows.lean that lists a variable, with what it lists TIED to the program's text (the seventh form; the later family's looks); each row that meets fmt, with fmt's text TOLD by the authors' own Lean function (tested against real Go, not proved from fmt's source: count such statements apart). THE CARD IS WHAT COUNTS. Prove the row's statement (the work); the ties are given (YtalaejdbmjbocaaDoorTie.lean); close each card by the builder's one call (the guide's Derived/Test/ToyasCard.lean, 'card_holds'). Laid BY PROGRAM, IN A SANDBOX (cutbox-door.mjs). By AI agents, Wed Nov 11 2026. No macro, syntax, notation, axiom, sorry.
-/
import Derived.Test.YtalaejdbmjbocaaDoorRows
import GoSem.ClaimSeven
namespace Go.Proofs.YtalaejdbmjbocaaDoor
namespace Rows

/-- THE TIED CARD OF 'sundiallaw.CivilDays'. -/
def civilDaysCard : Claim7 := { stood := { row := civilDaysRow, standIns := [], harness := (true, "d77663654193926d5e05b58f89a608379569bcfc7422983b81ab615384ce444f"), looks := false }, kinds := [], alts := [], laidByText := true, laidKinds := [.data], laidTests := true, laidLooks := .later }
def CivilDaysCardSaid : Prop := Claim7.holds Tryd.pinned (.plain (OpenSpec.ofChange civilDaysSpec)) civilDaysCard

/-- THE TIED CARD OF 'sundiallaw.CivilDates'. -/
def civilDatesCard : Claim7 := { stood := { row := civilDatesRow, standIns := [], harness := (true, "d77663654193926d5e05b58f89a608379569bcfc7422983b81ab615384ce444f"), looks := false }, kinds := [], alts := [], laidByText := true, laidKinds := [.data], laidTests := true, laidLooks := .later }
def CivilDatesCardSaid : Prop := Claim7.holds Tryd.pinned (.plain (OpenSpec.ofChange civilDatesSpec)) civilDatesCard

/-- THE TIED CARD OF 'sundiallaw.CivilNumbers'. -/
def civilNumbersCard : Claim7 := { stood := { row := civilNumbersRow, standIns := [], harness := (true, "d77663654193926d5e05b58f89a608379569bcfc7422983b81ab615384ce444f"), looks := false }, kinds := [], alts := [], laidByText := true, laidKinds := [.data], laidTests := true, laidLooks := .later }
def CivilNumbersCardSaid : Prop := Claim7.holds Tryd.pinned (.plain (OpenSpec.ofChange civilNumbersSpec)) civilNumbersCard

/-- THE TIED CARD OF 'sundialkeep.YearsLong'. -/
def yearsLongCard : Claim7 := { stood := { row := yearsLongRow, standIns := [], harness := (true, "d77663654193926d5e05b58f89a608379569bcfc7422983b81ab615384ce444f"), looks := false }, kinds := [], alts := [], laidByText := true, laidKinds := [.data], laidTests := true, laidLooks := .later }
def YearsLongCardSaid : Prop := Claim7.holds Tryd.pinned (.plain (OpenSpec.ofChange yearsLongSpec)) yearsLongCard

/-- THE TIED CARD OF 'sundialkeep.DatesBack'. -/
def datesBackCard : Claim7 := { stood := { row := datesBackRow, standIns := [], harness := (true, "d77663654193926d5e05b58f89a608379569bcfc7422983b81ab615384ce444f"), looks := false }, kinds := [], alts := [], laidByText := true, laidKinds := [.data], laidTests := true, laidLooks := .later }
def DatesBackCardSaid : Prop := Claim7.holds Tryd.pinned (.plain (OpenSpec.ofChange datesBackSpec)) datesBackCard

/-- THE TIED CARD OF 'sundiallaw.CivilFinds'. -/
def civilFindsCard : Claim7 := { stood := { row := civilFindsRow, standIns := [], harness := (true, "d77663654193926d5e05b58f89a608379569bcfc7422983b81ab615384ce444f"), looks := false }, kinds := [], alts := [], laidByText := true, laidKinds := [.data], laidTests := true, laidLooks := .later }
def CivilFindsCardSaid : Prop := Claim7.holds Tryd.pinned (.plain (OpenSpec.ofChange civilFindsSpec)) civilFindsCard

/-- THE TIED CARD OF 'sundialkeep.DaysFound'. -/
def daysFoundCard : Claim7 := { stood := { row := daysFoundRow, standIns := [], harness := (true, "d77663654193926d5e05b58f89a608379569bcfc7422983b81ab615384ce444f"), looks := false }, kinds := [], alts := [], laidByText := true, laidKinds := [.data], laidTests := true, laidLooks := .later }
def DaysFoundCardSaid : Prop := Claim7.holds Tryd.pinned (.plain (OpenSpec.ofChange daysFoundSpec)) daysFoundCard

/-- THE TIED CARD OF 'sundialkeep.CivilBad'. -/
def civilBadCard : Claim7 := { stood := { row := civilBadRow, standIns := [], harness := (true, "d77663654193926d5e05b58f89a608379569bcfc7422983b81ab615384ce444f"), looks := false }, kinds := [], alts := [], laidByText := true, laidKinds := [.data], laidTests := true, laidLooks := .later }
def CivilBadCardSaid : Prop := Claim7.holds Tryd.pinned (.plain (OpenSpec.ofChange civilBadSpec)) civilBadCard

/-- THE TIED CARD OF 'sundiallaw.CivilInstants'. -/
def civilInstantsCard : Claim7 := { stood := { row := civilInstantsRow, standIns := [], harness := (true, "d77663654193926d5e05b58f89a608379569bcfc7422983b81ab615384ce444f"), looks := false }, kinds := [], alts := [], laidByText := true, laidKinds := [.data], laidTests := true, laidLooks := .later }
def CivilInstantsCardSaid : Prop := Claim7.holds Tryd.pinned (.plain (OpenSpec.ofChange civilInstantsSpec)) civilInstantsCard

/-- THE TIED CARD OF 'sundialkeep.InstantsMove'. -/
def instantsMoveCard : Claim7 := { stood := { row := instantsMoveRow, standIns := [], harness := (true, "d77663654193926d5e05b58f89a608379569bcfc7422983b81ab615384ce444f"), looks := false }, kinds := [], alts := [], laidByText := true, laidKinds := [.data], laidTests := true, laidLooks := .later }
def InstantsMoveCardSaid : Prop := Claim7.holds Tryd.pinned (.plain (OpenSpec.ofChange instantsMoveSpec)) instantsMoveCard

/-- THE SECOND FORM's CARD OF 'sundiallaw.CivilDays'. -/
def civilDaysUptoCard : Claim7 := { stood := { row := civilDaysUptoRow, standIns := [], harness := (true, "d77663654193926d5e05b58f89a608379569bcfc7422983b81ab615384ce444f"), looks := false }, kinds := [], alts := [], laidByText := true, laidKinds := [.data], laidTests := true, laidLooks := .later }
def CivilDaysUptoCardSaid : Prop := Claim7.holds Tryd.pinned (.plain (OpenSpec.upto civilDaysSpec)) civilDaysUptoCard

/-- THE SECOND FORM's CARD OF 'sundiallaw.CivilDates'. -/
def civilDatesUptoCard : Claim7 := { stood := { row := civilDatesUptoRow, standIns := [], harness := (true, "d77663654193926d5e05b58f89a608379569bcfc7422983b81ab615384ce444f"), looks := false }, kinds := [], alts := [], laidByText := true, laidKinds := [.data], laidTests := true, laidLooks := .later }
def CivilDatesUptoCardSaid : Prop := Claim7.holds Tryd.pinned (.plain (OpenSpec.upto civilDatesSpec)) civilDatesUptoCard

/-- THE SECOND FORM's CARD OF 'sundiallaw.CivilNumbers'. -/
def civilNumbersUptoCard : Claim7 := { stood := { row := civilNumbersUptoRow, standIns := [], harness := (true, "d77663654193926d5e05b58f89a608379569bcfc7422983b81ab615384ce444f"), looks := false }, kinds := [], alts := [], laidByText := true, laidKinds := [.data], laidTests := true, laidLooks := .later }
def CivilNumbersUptoCardSaid : Prop := Claim7.holds Tryd.pinned (.plain (OpenSpec.upto civilNumbersSpec)) civilNumbersUptoCard

/-- THE SECOND FORM's CARD OF 'sundialkeep.YearsLong'. -/
def yearsLongUptoCard : Claim7 := { stood := { row := yearsLongUptoRow, standIns := [], harness := (true, "d77663654193926d5e05b58f89a608379569bcfc7422983b81ab615384ce444f"), looks := false }, kinds := [], alts := [], laidByText := true, laidKinds := [.data], laidTests := true, laidLooks := .later }
def YearsLongUptoCardSaid : Prop := Claim7.holds Tryd.pinned (.plain (OpenSpec.upto yearsLongSpec)) yearsLongUptoCard

/-- THE SECOND FORM's CARD OF 'sundialkeep.DatesBack'. -/
def datesBackUptoCard : Claim7 := { stood := { row := datesBackUptoRow, standIns := [], harness := (true, "d77663654193926d5e05b58f89a608379569bcfc7422983b81ab615384ce444f"), looks := false }, kinds := [], alts := [], laidByText := true, laidKinds := [.data], laidTests := true, laidLooks := .later }
def DatesBackUptoCardSaid : Prop := Claim7.holds Tryd.pinned (.plain (OpenSpec.upto datesBackSpec)) datesBackUptoCard

/-- THE SECOND FORM's CARD OF 'sundiallaw.CivilFinds'. -/
def civilFindsUptoCard : Claim7 := { stood := { row := civilFindsUptoRow, standIns := [], harness := (true, "d77663654193926d5e05b58f89a608379569bcfc7422983b81ab615384ce444f"), looks := false }, kinds := [], alts := [], laidByText := true, laidKinds := [.data], laidTests := true, laidLooks := .later }
def CivilFindsUptoCardSaid : Prop := Claim7.holds Tryd.pinned (.plain (OpenSpec.upto civilFindsSpec)) civilFindsUptoCard

/-- THE SECOND FORM's CARD OF 'sundialkeep.DaysFound'. -/
def daysFoundUptoCard : Claim7 := { stood := { row := daysFoundUptoRow, standIns := [], harness := (true, "d77663654193926d5e05b58f89a608379569bcfc7422983b81ab615384ce444f"), looks := false }, kinds := [], alts := [], laidByText := true, laidKinds := [.data], laidTests := true, laidLooks := .later }
def DaysFoundUptoCardSaid : Prop := Claim7.holds Tryd.pinned (.plain (OpenSpec.upto daysFoundSpec)) daysFoundUptoCard

/-- THE SECOND FORM's CARD OF 'sundialkeep.CivilBad'. -/
def civilBadUptoCard : Claim7 := { stood := { row := civilBadUptoRow, standIns := [], harness := (true, "d77663654193926d5e05b58f89a608379569bcfc7422983b81ab615384ce444f"), looks := false }, kinds := [], alts := [], laidByText := true, laidKinds := [.data], laidTests := true, laidLooks := .later }
def CivilBadUptoCardSaid : Prop := Claim7.holds Tryd.pinned (.plain (OpenSpec.upto civilBadSpec)) civilBadUptoCard

/-- THE SECOND FORM's CARD OF 'sundiallaw.CivilInstants'. -/
def civilInstantsUptoCard : Claim7 := { stood := { row := civilInstantsUptoRow, standIns := [], harness := (true, "d77663654193926d5e05b58f89a608379569bcfc7422983b81ab615384ce444f"), looks := false }, kinds := [], alts := [], laidByText := true, laidKinds := [.data], laidTests := true, laidLooks := .later }
def CivilInstantsUptoCardSaid : Prop := Claim7.holds Tryd.pinned (.plain (OpenSpec.upto civilInstantsSpec)) civilInstantsUptoCard

/-- THE SECOND FORM's CARD OF 'sundialkeep.InstantsMove'. -/
def instantsMoveUptoCard : Claim7 := { stood := { row := instantsMoveUptoRow, standIns := [], harness := (true, "d77663654193926d5e05b58f89a608379569bcfc7422983b81ab615384ce444f"), looks := false }, kinds := [], alts := [], laidByText := true, laidKinds := [.data], laidTests := true, laidLooks := .later }
def InstantsMoveUptoCardSaid : Prop := Claim7.holds Tryd.pinned (.plain (OpenSpec.upto instantsMoveSpec)) instantsMoveUptoCard
end Rows
end Go.Proofs.YtalaejdbmjbocaaDoor
