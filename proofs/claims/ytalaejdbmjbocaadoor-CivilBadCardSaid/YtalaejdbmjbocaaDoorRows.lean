/-
  NARROWER THAN 'FOR EVERY INPUT', by the rows' own cells (each row's printed sentence says how): CivilDays: laid · CivilDates: laid · CivilNumbers: laid · YearsLong: laid · DatesBack: laid · CivilFinds: laid · DaysFound: laid · CivilBad: laid · CivilInstants: laid · InstantsMove: laid.
  DERIVED. THE GIVEN ROWS OF THIS SEAT. 10 by the template 'for every input the law returns true; each argument reads behind the call as it read before'; 0 by the template 'total and deterministic' (their statements: YtalaejdbmjbocaaDoorTotals.lean).
  GIVEN WITH THE SEED: the statements are not yours to turn. If you find one false, say at which input.
  Laid BY PROGRAM, IN A SANDBOX (cutbox-rows.mjs): the forced cells as the released guide's own fill.sh prints them over the translation 410c09756eb46d60… (all of the seat's roots in one cut). By AI agents, Wed Nov 11 2026. No macro, syntax, notation, axiom, sorry.
-/
import Derived.Test.YtalaejdbmjbocaaDoorChecked
import GoSem.Claim
import GoSem.ClaimJoined
import GoSem.ClaimMapViews
import Derived.JoinedTies
import Derived.KernelRfl
namespace Go.Proofs.YtalaejdbmjbocaaDoor
/- THE CELL 'sum', in the pinned program and in every row, IS THE sha256 OF THE DUMP (.gsa) THAT YtalaejdbmjbocaaDoorProg.lean LOADS. Nothing in Lean hashes anything: it is a label: what it is worth is what the hold of that sum in a sandbox is worth. -/
noncomputable def Tryd.pinned : Pinned := { name := "ytalaejdbmjbocaadoor", sum := "410c09756eb46d60fe1ab97414933b4b6bc49a443a29a3eeddaca64a7f53a2d5", checked := Tryd.checked }
namespace Rows
def none {H : Type} : Left H := { results := [], args := [] }

/- WHAT THE LISTED PACKAGE-LEVEL VARIABLES READ AS WHEN THE CALL BEGINS. Each datum BY PROGRAM (the guide's laid-datum.mjs) off the statement by which the dump's own 'gosem.cut.vars' lays the variable. In a bare row this is a premise. The card (YtalaejdbmjbocaaDoorCards.lean) ties it to the program's text. -/
def laid_sundial_civil_months {H : Type} : DataW H := .agg [.lit (.int .i64 0), .lit (.int .i64 31), .lit (.int .i64 59), .lit (.int .i64 90), .lit (.int .i64 120), .lit (.int .i64 151), .lit (.int .i64 181), .lit (.int .i64 212), .lit (.int .i64 243), .lit (.int .i64 273), .lit (.int .i64 304), .lit (.int .i64 334), .lit (.int .i64 365)]

/-- 'sundiallaw.CivilDays': WHATEVER THE INPUT: true; the input reads as it did. -/
def civilDaysSpec : ChangeSpec := { name := "civilDays", fn := fun _ => fun
  | [d1, d2] => { results := [.lit (.bool true)], args := [d1, d2] }
  | _ => none }
def civilDaysRow : OpenClaim := { program := "ytalaejdbmjbocaadoor", sum := "410c09756eb46d60fe1ab97414933b4b6bc49a443a29a3eeddaca64a7f53a2d5", func := "sundial/sundiallaw.CivilDays", spec := "civilDays", named := ["sundial/civil.months"], apart := false, laid := [("sundial/civil.months", laid_sundial_civil_months)] }
def CivilDaysSaid : Prop := civilDaysRow.holds Tryd.pinned (OpenSpec.ofChange civilDaysSpec)

/-- ITS FALSE NEIGHBOUR: 'it returns false'. Refute it at one input. -/
def civilDaysWrong : ChangeSpec := { name := "civilDays", fn := fun _ => fun
  | [d1, d2] => { results := [.lit (.bool false)], args := [d1, d2] }
  | _ => none }
def CivilDaysWrongFalsely : Prop := civilDaysRow.holds Tryd.pinned (OpenSpec.ofChange civilDaysWrong)

/-- 'sundiallaw.CivilDates': WHATEVER THE INPUT: true; the input reads as it did. -/
def civilDatesSpec : ChangeSpec := { name := "civilDates", fn := fun _ => fun
  | [d] => { results := [.lit (.bool true)], args := [d] }
  | _ => none }
def civilDatesRow : OpenClaim := { program := "ytalaejdbmjbocaadoor", sum := "410c09756eb46d60fe1ab97414933b4b6bc49a443a29a3eeddaca64a7f53a2d5", func := "sundial/sundiallaw.CivilDates", spec := "civilDates", named := ["sundial/civil.months"], apart := false, laid := [("sundial/civil.months", laid_sundial_civil_months)] }
def CivilDatesSaid : Prop := civilDatesRow.holds Tryd.pinned (OpenSpec.ofChange civilDatesSpec)

/-- ITS FALSE NEIGHBOUR: 'it returns false'. Refute it at one input. -/
def civilDatesWrong : ChangeSpec := { name := "civilDates", fn := fun _ => fun
  | [d] => { results := [.lit (.bool false)], args := [d] }
  | _ => none }
def CivilDatesWrongFalsely : Prop := civilDatesRow.holds Tryd.pinned (OpenSpec.ofChange civilDatesWrong)

/-- 'sundiallaw.CivilNumbers': WHATEVER THE INPUT: true; the input reads as it did. -/
def civilNumbersSpec : ChangeSpec := { name := "civilNumbers", fn := fun _ => fun
  | [d1, d2, d3] => { results := [.lit (.bool true)], args := [d1, d2, d3] }
  | _ => none }
def civilNumbersRow : OpenClaim := { program := "ytalaejdbmjbocaadoor", sum := "410c09756eb46d60fe1ab97414933b4b6bc49a443a29a3eeddaca64a7f53a2d5", func := "sundial/sundiallaw.CivilNumbers", spec := "civilNumbers", named := ["sundial/civil.months"], apart := false, laid := [("sundial/civil.months", laid_sundial_civil_months)] }
def CivilNumbersSaid : Prop := civilNumbersRow.holds Tryd.pinned (OpenSpec.ofChange civilNumbersSpec)

/-- ITS FALSE NEIGHBOUR: 'it returns false'. Refute it at one input. -/
def civilNumbersWrong : ChangeSpec := { name := "civilNumbers", fn := fun _ => fun
  | [d1, d2, d3] => { results := [.lit (.bool false)], args := [d1, d2, d3] }
  | _ => none }
def CivilNumbersWrongFalsely : Prop := civilNumbersRow.holds Tryd.pinned (OpenSpec.ofChange civilNumbersWrong)

/-- 'sundialkeep.YearsLong': WHATEVER THE INPUT: true; the input reads as it did. -/
def yearsLongSpec : ChangeSpec := { name := "yearsLong", fn := fun _ => fun
  | [d] => { results := [.lit (.bool true)], args := [d] }
  | _ => none }
def yearsLongRow : OpenClaim := { program := "ytalaejdbmjbocaadoor", sum := "410c09756eb46d60fe1ab97414933b4b6bc49a443a29a3eeddaca64a7f53a2d5", func := "sundial/sundialkeep.YearsLong", spec := "yearsLong", named := ["sundial/civil.months"], apart := false, laid := [("sundial/civil.months", laid_sundial_civil_months)] }
def YearsLongSaid : Prop := yearsLongRow.holds Tryd.pinned (OpenSpec.ofChange yearsLongSpec)

/-- ITS FALSE NEIGHBOUR: 'it returns false'. Refute it at one input. -/
def yearsLongWrong : ChangeSpec := { name := "yearsLong", fn := fun _ => fun
  | [d] => { results := [.lit (.bool false)], args := [d] }
  | _ => none }
def YearsLongWrongFalsely : Prop := yearsLongRow.holds Tryd.pinned (OpenSpec.ofChange yearsLongWrong)

/-- 'sundialkeep.DatesBack': WHATEVER THE INPUT: true; the input reads as it did. -/
def datesBackSpec : ChangeSpec := { name := "datesBack", fn := fun _ => fun
  | [d] => { results := [.lit (.bool true)], args := [d] }
  | _ => none }
def datesBackRow : OpenClaim := { program := "ytalaejdbmjbocaadoor", sum := "410c09756eb46d60fe1ab97414933b4b6bc49a443a29a3eeddaca64a7f53a2d5", func := "sundial/sundialkeep.DatesBack", spec := "datesBack", named := ["sundial/civil.months"], apart := false, laid := [("sundial/civil.months", laid_sundial_civil_months)] }
def DatesBackSaid : Prop := datesBackRow.holds Tryd.pinned (OpenSpec.ofChange datesBackSpec)

/-- ITS FALSE NEIGHBOUR: 'it returns false'. Refute it at one input. -/
def datesBackWrong : ChangeSpec := { name := "datesBack", fn := fun _ => fun
  | [d] => { results := [.lit (.bool false)], args := [d] }
  | _ => none }
def DatesBackWrongFalsely : Prop := datesBackRow.holds Tryd.pinned (OpenSpec.ofChange datesBackWrong)

/-- 'sundiallaw.CivilFinds': WHATEVER THE INPUT: true; the input reads as it did. -/
def civilFindsSpec : ChangeSpec := { name := "civilFinds", fn := fun _ => fun
  | [d1, d2, d3] => { results := [.lit (.bool true)], args := [d1, d2, d3] }
  | _ => none }
def civilFindsRow : OpenClaim := { program := "ytalaejdbmjbocaadoor", sum := "410c09756eb46d60fe1ab97414933b4b6bc49a443a29a3eeddaca64a7f53a2d5", func := "sundial/sundiallaw.CivilFinds", spec := "civilFinds", named := ["sundial/civil.months"], apart := false, laid := [("sundial/civil.months", laid_sundial_civil_months)] }
def CivilFindsSaid : Prop := civilFindsRow.holds Tryd.pinned (OpenSpec.ofChange civilFindsSpec)

/-- ITS FALSE NEIGHBOUR: 'it returns false'. Refute it at one input. -/
def civilFindsWrong : ChangeSpec := { name := "civilFinds", fn := fun _ => fun
  | [d1, d2, d3] => { results := [.lit (.bool false)], args := [d1, d2, d3] }
  | _ => none }
def CivilFindsWrongFalsely : Prop := civilFindsRow.holds Tryd.pinned (OpenSpec.ofChange civilFindsWrong)

/-- 'sundialkeep.DaysFound': WHATEVER THE INPUT: true; the input reads as it did. -/
def daysFoundSpec : ChangeSpec := { name := "daysFound", fn := fun _ => fun
  | [d1, d2, d3, d4] => { results := [.lit (.bool true)], args := [d1, d2, d3, d4] }
  | _ => none }
def daysFoundRow : OpenClaim := { program := "ytalaejdbmjbocaadoor", sum := "410c09756eb46d60fe1ab97414933b4b6bc49a443a29a3eeddaca64a7f53a2d5", func := "sundial/sundialkeep.DaysFound", spec := "daysFound", named := ["sundial/civil.months"], apart := false, laid := [("sundial/civil.months", laid_sundial_civil_months)] }
def DaysFoundSaid : Prop := daysFoundRow.holds Tryd.pinned (OpenSpec.ofChange daysFoundSpec)

/-- ITS FALSE NEIGHBOUR: 'it returns false'. Refute it at one input. -/
def daysFoundWrong : ChangeSpec := { name := "daysFound", fn := fun _ => fun
  | [d1, d2, d3, d4] => { results := [.lit (.bool false)], args := [d1, d2, d3, d4] }
  | _ => none }
def DaysFoundWrongFalsely : Prop := daysFoundRow.holds Tryd.pinned (OpenSpec.ofChange daysFoundWrong)

/-- 'sundialkeep.CivilBad': WHATEVER THE INPUT: true; the input reads as it did. -/
def civilBadSpec : ChangeSpec := { name := "civilBad", fn := fun _ => fun
  | [d1, d2] => { results := [.lit (.bool true)], args := [d1, d2] }
  | _ => none }
def civilBadRow : OpenClaim := { program := "ytalaejdbmjbocaadoor", sum := "410c09756eb46d60fe1ab97414933b4b6bc49a443a29a3eeddaca64a7f53a2d5", func := "sundial/sundialkeep.CivilBad", spec := "civilBad", named := ["sundial/civil.months"], apart := false, laid := [("sundial/civil.months", laid_sundial_civil_months)] }
def CivilBadSaid : Prop := civilBadRow.holds Tryd.pinned (OpenSpec.ofChange civilBadSpec)

/-- ITS FALSE NEIGHBOUR: 'it returns false'. Refute it at one input. -/
def civilBadWrong : ChangeSpec := { name := "civilBad", fn := fun _ => fun
  | [d1, d2] => { results := [.lit (.bool false)], args := [d1, d2] }
  | _ => none }
def CivilBadWrongFalsely : Prop := civilBadRow.holds Tryd.pinned (OpenSpec.ofChange civilBadWrong)

/-- 'sundiallaw.CivilInstants': WHATEVER THE INPUT: true; the input reads as it did. -/
def civilInstantsSpec : ChangeSpec := { name := "civilInstants", fn := fun _ => fun
  | [d1, d2, d3, d4] => { results := [.lit (.bool true)], args := [d1, d2, d3, d4] }
  | _ => none }
def civilInstantsRow : OpenClaim := { program := "ytalaejdbmjbocaadoor", sum := "410c09756eb46d60fe1ab97414933b4b6bc49a443a29a3eeddaca64a7f53a2d5", func := "sundial/sundiallaw.CivilInstants", spec := "civilInstants", named := ["sundial/civil.months"], apart := false, laid := [("sundial/civil.months", laid_sundial_civil_months)] }
def CivilInstantsSaid : Prop := civilInstantsRow.holds Tryd.pinned (OpenSpec.ofChange civilInstantsSpec)

/-- ITS FALSE NEIGHBOUR: 'it returns false'. Refute it at one input. -/
def civilInstantsWrong : ChangeSpec := { name := "civilInstants", fn := fun _ => fun
  | [d1, d2, d3, d4] => { results := [.lit (.bool false)], args := [d1, d2, d3, d4] }
  | _ => none }
def CivilInstantsWrongFalsely : Prop := civilInstantsRow.holds Tryd.pinned (OpenSpec.ofChange civilInstantsWrong)

/-- 'sundialkeep.InstantsMove': WHATEVER THE INPUT: true; the input reads as it did. -/
def instantsMoveSpec : ChangeSpec := { name := "instantsMove", fn := fun _ => fun
  | [d1, d2, d3, d4] => { results := [.lit (.bool true)], args := [d1, d2, d3, d4] }
  | _ => none }
def instantsMoveRow : OpenClaim := { program := "ytalaejdbmjbocaadoor", sum := "410c09756eb46d60fe1ab97414933b4b6bc49a443a29a3eeddaca64a7f53a2d5", func := "sundial/sundialkeep.InstantsMove", spec := "instantsMove", named := ["sundial/civil.months"], apart := false, laid := [("sundial/civil.months", laid_sundial_civil_months)] }
def InstantsMoveSaid : Prop := instantsMoveRow.holds Tryd.pinned (OpenSpec.ofChange instantsMoveSpec)

/-- ITS FALSE NEIGHBOUR: 'it returns false'. Refute it at one input. -/
def instantsMoveWrong : ChangeSpec := { name := "instantsMove", fn := fun _ => fun
  | [d1, d2, d3, d4] => { results := [.lit (.bool false)], args := [d1, d2, d3, d4] }
  | _ => none }
def InstantsMoveWrongFalsely : Prop := instantsMoveRow.holds Tryd.pinned (OpenSpec.ofChange instantsMoveWrong)

/- THE SECOND FORM. 'bulk': how many values and letters a reading holds, each counted each time it is reached (what is shared counts as often as it is met; a slice's spare places count too). A statement '..UptoSaid' is the law's where the arguments, and the package variables that the reading takes, are together of bulk at most 1048576: NARROWER than '..Said'. Prove '..Said' where nothing that the law and all that it calls make is longer than what came in: it says more and counts as full. Else prove '..UptoSaid'. A law counts once. -/
mutual
def uptoBulk {H : Type} : DataW H → Nat
  | .lit (.string bytes) => bytes.length + 1
  | .lit _ => 1
  | .nil => 1
  | .ptr d => uptoBulk d + 1
  | .slice elems spare => uptoBulkAll elems + uptoBulkAll spare + 1
  | .agg parts => uptoBulkAll parts + 1
  | .iface _ d => uptoBulk d + 1
  | .map entries => uptoBulkEntries entries + 1
  | .held _ => 1
def uptoBulkAll {H : Type} : List (DataW H) → Nat
  | [] => 0
  | d :: r => uptoBulk d + uptoBulkAll r
def uptoBulkEntries {H : Type} : List (Lit × DataW H) → Nat
  | [] => 0
  | x :: r => uptoBulkEntry x + uptoBulkEntries r
def uptoBulkEntry {H : Type} : Lit × DataW H → Nat
  | (.string bytes, d) => bytes.length + uptoBulk d + 1
  | (_, d) => uptoBulk d + 1
 end
def uptoSmall : (H : Type) → List (DataW H) → Bool := fun _ ds => decide (uptoBulkAll ds ≤ 1048576)
def OpenSpec.upto (s : _root_.Go.ChangeSpec) : _root_.Go.OpenSpec := { _root_.Go.OpenSpec.ofChange s with cond := some uptoSmall }

/-- 'sundiallaw.CivilDays', WHERE WHAT IT READS IS OF BULK AT MOST 1048576: true; the input reads as it did. -/
def civilDaysUptoRow : OpenClaim := { program := "ytalaejdbmjbocaadoor", sum := "410c09756eb46d60fe1ab97414933b4b6bc49a443a29a3eeddaca64a7f53a2d5", func := "sundial/sundiallaw.CivilDays", spec := "civilDays", named := ["sundial/civil.months"], apart := false, laid := [("sundial/civil.months", laid_sundial_civil_months)], narrowed := true }
def CivilDaysUptoSaid : Prop := civilDaysUptoRow.holds Tryd.pinned (OpenSpec.upto civilDaysSpec)

/-- 'sundiallaw.CivilDates', WHERE WHAT IT READS IS OF BULK AT MOST 1048576: true; the input reads as it did. -/
def civilDatesUptoRow : OpenClaim := { program := "ytalaejdbmjbocaadoor", sum := "410c09756eb46d60fe1ab97414933b4b6bc49a443a29a3eeddaca64a7f53a2d5", func := "sundial/sundiallaw.CivilDates", spec := "civilDates", named := ["sundial/civil.months"], apart := false, laid := [("sundial/civil.months", laid_sundial_civil_months)], narrowed := true }
def CivilDatesUptoSaid : Prop := civilDatesUptoRow.holds Tryd.pinned (OpenSpec.upto civilDatesSpec)

/-- 'sundiallaw.CivilNumbers', WHERE WHAT IT READS IS OF BULK AT MOST 1048576: true; the input reads as it did. -/
def civilNumbersUptoRow : OpenClaim := { program := "ytalaejdbmjbocaadoor", sum := "410c09756eb46d60fe1ab97414933b4b6bc49a443a29a3eeddaca64a7f53a2d5", func := "sundial/sundiallaw.CivilNumbers", spec := "civilNumbers", named := ["sundial/civil.months"], apart := false, laid := [("sundial/civil.months", laid_sundial_civil_months)], narrowed := true }
def CivilNumbersUptoSaid : Prop := civilNumbersUptoRow.holds Tryd.pinned (OpenSpec.upto civilNumbersSpec)

/-- 'sundialkeep.YearsLong', WHERE WHAT IT READS IS OF BULK AT MOST 1048576: true; the input reads as it did. -/
def yearsLongUptoRow : OpenClaim := { program := "ytalaejdbmjbocaadoor", sum := "410c09756eb46d60fe1ab97414933b4b6bc49a443a29a3eeddaca64a7f53a2d5", func := "sundial/sundialkeep.YearsLong", spec := "yearsLong", named := ["sundial/civil.months"], apart := false, laid := [("sundial/civil.months", laid_sundial_civil_months)], narrowed := true }
def YearsLongUptoSaid : Prop := yearsLongUptoRow.holds Tryd.pinned (OpenSpec.upto yearsLongSpec)

/-- 'sundialkeep.DatesBack', WHERE WHAT IT READS IS OF BULK AT MOST 1048576: true; the input reads as it did. -/
def datesBackUptoRow : OpenClaim := { program := "ytalaejdbmjbocaadoor", sum := "410c09756eb46d60fe1ab97414933b4b6bc49a443a29a3eeddaca64a7f53a2d5", func := "sundial/sundialkeep.DatesBack", spec := "datesBack", named := ["sundial/civil.months"], apart := false, laid := [("sundial/civil.months", laid_sundial_civil_months)], narrowed := true }
def DatesBackUptoSaid : Prop := datesBackUptoRow.holds Tryd.pinned (OpenSpec.upto datesBackSpec)

/-- 'sundiallaw.CivilFinds', WHERE WHAT IT READS IS OF BULK AT MOST 1048576: true; the input reads as it did. -/
def civilFindsUptoRow : OpenClaim := { program := "ytalaejdbmjbocaadoor", sum := "410c09756eb46d60fe1ab97414933b4b6bc49a443a29a3eeddaca64a7f53a2d5", func := "sundial/sundiallaw.CivilFinds", spec := "civilFinds", named := ["sundial/civil.months"], apart := false, laid := [("sundial/civil.months", laid_sundial_civil_months)], narrowed := true }
def CivilFindsUptoSaid : Prop := civilFindsUptoRow.holds Tryd.pinned (OpenSpec.upto civilFindsSpec)

/-- 'sundialkeep.DaysFound', WHERE WHAT IT READS IS OF BULK AT MOST 1048576: true; the input reads as it did. -/
def daysFoundUptoRow : OpenClaim := { program := "ytalaejdbmjbocaadoor", sum := "410c09756eb46d60fe1ab97414933b4b6bc49a443a29a3eeddaca64a7f53a2d5", func := "sundial/sundialkeep.DaysFound", spec := "daysFound", named := ["sundial/civil.months"], apart := false, laid := [("sundial/civil.months", laid_sundial_civil_months)], narrowed := true }
def DaysFoundUptoSaid : Prop := daysFoundUptoRow.holds Tryd.pinned (OpenSpec.upto daysFoundSpec)

/-- 'sundialkeep.CivilBad', WHERE WHAT IT READS IS OF BULK AT MOST 1048576: true; the input reads as it did. -/
def civilBadUptoRow : OpenClaim := { program := "ytalaejdbmjbocaadoor", sum := "410c09756eb46d60fe1ab97414933b4b6bc49a443a29a3eeddaca64a7f53a2d5", func := "sundial/sundialkeep.CivilBad", spec := "civilBad", named := ["sundial/civil.months"], apart := false, laid := [("sundial/civil.months", laid_sundial_civil_months)], narrowed := true }
def CivilBadUptoSaid : Prop := civilBadUptoRow.holds Tryd.pinned (OpenSpec.upto civilBadSpec)

/-- 'sundiallaw.CivilInstants', WHERE WHAT IT READS IS OF BULK AT MOST 1048576: true; the input reads as it did. -/
def civilInstantsUptoRow : OpenClaim := { program := "ytalaejdbmjbocaadoor", sum := "410c09756eb46d60fe1ab97414933b4b6bc49a443a29a3eeddaca64a7f53a2d5", func := "sundial/sundiallaw.CivilInstants", spec := "civilInstants", named := ["sundial/civil.months"], apart := false, laid := [("sundial/civil.months", laid_sundial_civil_months)], narrowed := true }
def CivilInstantsUptoSaid : Prop := civilInstantsUptoRow.holds Tryd.pinned (OpenSpec.upto civilInstantsSpec)

/-- 'sundialkeep.InstantsMove', WHERE WHAT IT READS IS OF BULK AT MOST 1048576: true; the input reads as it did. -/
def instantsMoveUptoRow : OpenClaim := { program := "ytalaejdbmjbocaadoor", sum := "410c09756eb46d60fe1ab97414933b4b6bc49a443a29a3eeddaca64a7f53a2d5", func := "sundial/sundialkeep.InstantsMove", spec := "instantsMove", named := ["sundial/civil.months"], apart := false, laid := [("sundial/civil.months", laid_sundial_civil_months)], narrowed := true }
def InstantsMoveUptoSaid : Prop := instantsMoveUptoRow.holds Tryd.pinned (OpenSpec.upto instantsMoveSpec)

end Rows
end Go.Proofs.YtalaejdbmjbocaaDoor
