/-
  No cell of these rows narrows 'for every input' (looked for: loops, veiled, ifaces, maps, wideKeys, modest, calm, conditions, laid).
  DERIVED. THE GIVEN ROWS OF THIS SEAT. 7 by the template 'for every input the law returns true; each argument reads behind the call as it read before'; 0 by the template 'total and deterministic' (their statements: YtalaejdbmjbocaaTotals.lean).
  GIVEN WITH THE SEED: the statements are not yours to turn. If you find one false, say at which input.
  Laid BY PROGRAM, IN A SANDBOX (cutbox-rows.mjs): the forced cells as the released guide's own fill.sh prints them over the translation 2874828237bde1c8… (all of the seat's roots in one cut). By AI agents, Wed Nov 11 2026. No macro, syntax, notation, axiom, sorry.
-/
import Derived.Test.YtalaejdbmjbocaaChecked
import GoSem.Claim
import GoSem.ClaimJoined
import GoSem.ClaimMapViews
import Derived.JoinedTies
import Derived.KernelRfl
namespace Go.Proofs.Ytalaejdbmjbocaa
/- THE CELL 'sum', in the pinned program and in every row, IS THE sha256 OF THE DUMP (.gsa) THAT YtalaejdbmjbocaaProg.lean LOADS. Nothing in Lean hashes anything: it is a label: what it is worth is what the hold of that sum in a sandbox is worth. -/
noncomputable def Try.pinned : Pinned := { name := "ytalaejdbmjbocaa", sum := "2874828237bde1c835d1507c514fb51ccc03320ae3dcf3491fbea62f4be8ecc4", checked := Try.checked }
namespace Rows
def none {H : Type} : Left H := { results := [], args := [] }

/-- 'sundiallaw.Names': WHATEVER THE INPUT: true; the input reads as it did. -/
def namesSpec : ChangeSpec := { name := "names", fn := fun _ => fun
  | [] => { results := [.lit (.bool true)], args := [] }
  | _ => none }
def namesRow : OpenClaim := { program := "ytalaejdbmjbocaa", sum := "2874828237bde1c835d1507c514fb51ccc03320ae3dcf3491fbea62f4be8ecc4", func := "sundial/sundiallaw.Names", spec := "names", apart := false }
def NamesSaid : Prop := namesRow.holds Try.pinned (OpenSpec.ofChange namesSpec)

/-- ITS FALSE NEIGHBOUR: 'it returns false'. Refute it at one input. -/
def namesWrong : ChangeSpec := { name := "names", fn := fun _ => fun
  | [] => { results := [.lit (.bool false)], args := [] }
  | _ => none }
def NamesWrongFalsely : Prop := namesRow.holds Try.pinned (OpenSpec.ofChange namesWrong)

/-- 'sundiallaw.CivilLeaps': WHATEVER THE INPUT: true; the input reads as it did. -/
def civilLeapsSpec : ChangeSpec := { name := "civilLeaps", fn := fun _ => fun
  | [d] => { results := [.lit (.bool true)], args := [d] }
  | _ => none }
def civilLeapsRow : OpenClaim := { program := "ytalaejdbmjbocaa", sum := "2874828237bde1c835d1507c514fb51ccc03320ae3dcf3491fbea62f4be8ecc4", func := "sundial/sundiallaw.CivilLeaps", spec := "civilLeaps", apart := false }
def CivilLeapsSaid : Prop := civilLeapsRow.holds Try.pinned (OpenSpec.ofChange civilLeapsSpec)

/-- ITS FALSE NEIGHBOUR: 'it returns false'. Refute it at one input. -/
def civilLeapsWrong : ChangeSpec := { name := "civilLeaps", fn := fun _ => fun
  | [d] => { results := [.lit (.bool false)], args := [d] }
  | _ => none }
def CivilLeapsWrongFalsely : Prop := civilLeapsRow.holds Try.pinned (OpenSpec.ofChange civilLeapsWrong)

/-- 'sundiallaw.CivilWeekdays': WHATEVER THE INPUT: true; the input reads as it did. -/
def civilWeekdaysSpec : ChangeSpec := { name := "civilWeekdays", fn := fun _ => fun
  | [d] => { results := [.lit (.bool true)], args := [d] }
  | _ => none }
def civilWeekdaysRow : OpenClaim := { program := "ytalaejdbmjbocaa", sum := "2874828237bde1c835d1507c514fb51ccc03320ae3dcf3491fbea62f4be8ecc4", func := "sundial/sundiallaw.CivilWeekdays", spec := "civilWeekdays", apart := false }
def CivilWeekdaysSaid : Prop := civilWeekdaysRow.holds Try.pinned (OpenSpec.ofChange civilWeekdaysSpec)

/-- ITS FALSE NEIGHBOUR: 'it returns false'. Refute it at one input. -/
def civilWeekdaysWrong : ChangeSpec := { name := "civilWeekdays", fn := fun _ => fun
  | [d] => { results := [.lit (.bool false)], args := [d] }
  | _ => none }
def CivilWeekdaysWrongFalsely : Prop := civilWeekdaysRow.holds Try.pinned (OpenSpec.ofChange civilWeekdaysWrong)

/-- 'sundialkeep.WeekdaysTurn': WHATEVER THE INPUT: true; the input reads as it did. -/
def weekdaysTurnSpec : ChangeSpec := { name := "weekdaysTurn", fn := fun _ => fun
  | [d] => { results := [.lit (.bool true)], args := [d] }
  | _ => none }
def weekdaysTurnRow : OpenClaim := { program := "ytalaejdbmjbocaa", sum := "2874828237bde1c835d1507c514fb51ccc03320ae3dcf3491fbea62f4be8ecc4", func := "sundial/sundialkeep.WeekdaysTurn", spec := "weekdaysTurn", apart := false }
def WeekdaysTurnSaid : Prop := weekdaysTurnRow.holds Try.pinned (OpenSpec.ofChange weekdaysTurnSpec)

/-- ITS FALSE NEIGHBOUR: 'it returns false'. Refute it at one input. -/
def weekdaysTurnWrong : ChangeSpec := { name := "weekdaysTurn", fn := fun _ => fun
  | [d] => { results := [.lit (.bool false)], args := [d] }
  | _ => none }
def WeekdaysTurnWrongFalsely : Prop := weekdaysTurnRow.holds Try.pinned (OpenSpec.ofChange weekdaysTurnWrong)

/-- 'sundiallaw.CivilWindow': WHATEVER THE INPUT: true; the input reads as it did. -/
def civilWindowSpec : ChangeSpec := { name := "civilWindow", fn := fun _ => fun
  | [d] => { results := [.lit (.bool true)], args := [d] }
  | _ => none }
def civilWindowRow : OpenClaim := { program := "ytalaejdbmjbocaa", sum := "2874828237bde1c835d1507c514fb51ccc03320ae3dcf3491fbea62f4be8ecc4", func := "sundial/sundiallaw.CivilWindow", spec := "civilWindow", apart := false }
def CivilWindowSaid : Prop := civilWindowRow.holds Try.pinned (OpenSpec.ofChange civilWindowSpec)

/-- ITS FALSE NEIGHBOUR: 'it returns false'. Refute it at one input. -/
def civilWindowWrong : ChangeSpec := { name := "civilWindow", fn := fun _ => fun
  | [d] => { results := [.lit (.bool false)], args := [d] }
  | _ => none }
def CivilWindowWrongFalsely : Prop := civilWindowRow.holds Try.pinned (OpenSpec.ofChange civilWindowWrong)

/-- 'sundiallaw.CivilChecks': WHATEVER THE INPUT: true; the input reads as it did. -/
def civilChecksSpec : ChangeSpec := { name := "civilChecks", fn := fun _ => fun
  | [d] => { results := [.lit (.bool true)], args := [d] }
  | _ => none }
def civilChecksRow : OpenClaim := { program := "ytalaejdbmjbocaa", sum := "2874828237bde1c835d1507c514fb51ccc03320ae3dcf3491fbea62f4be8ecc4", func := "sundial/sundiallaw.CivilChecks", spec := "civilChecks", apart := false }
def CivilChecksSaid : Prop := civilChecksRow.holds Try.pinned (OpenSpec.ofChange civilChecksSpec)

/-- ITS FALSE NEIGHBOUR: 'it returns false'. Refute it at one input. -/
def civilChecksWrong : ChangeSpec := { name := "civilChecks", fn := fun _ => fun
  | [d] => { results := [.lit (.bool false)], args := [d] }
  | _ => none }
def CivilChecksWrongFalsely : Prop := civilChecksRow.holds Try.pinned (OpenSpec.ofChange civilChecksWrong)

/-- 'sundiallaw.CivilMoments': WHATEVER THE INPUT: true; the input reads as it did. -/
def civilMomentsSpec : ChangeSpec := { name := "civilMoments", fn := fun _ => fun
  | [d] => { results := [.lit (.bool true)], args := [d] }
  | _ => none }
def civilMomentsRow : OpenClaim := { program := "ytalaejdbmjbocaa", sum := "2874828237bde1c835d1507c514fb51ccc03320ae3dcf3491fbea62f4be8ecc4", func := "sundial/sundiallaw.CivilMoments", spec := "civilMoments", apart := false }
def CivilMomentsSaid : Prop := civilMomentsRow.holds Try.pinned (OpenSpec.ofChange civilMomentsSpec)

/-- ITS FALSE NEIGHBOUR: 'it returns false'. Refute it at one input. -/
def civilMomentsWrong : ChangeSpec := { name := "civilMoments", fn := fun _ => fun
  | [d] => { results := [.lit (.bool false)], args := [d] }
  | _ => none }
def CivilMomentsWrongFalsely : Prop := civilMomentsRow.holds Try.pinned (OpenSpec.ofChange civilMomentsWrong)

/- THE SECOND FORM. 'bulk': how many values and letters a reading holds, each counted each time it is reached (what is shared counts as often as it is met; a slice's spare places count too). A statement '..UptoSaid' is the law's where the arguments, and the package variables that the reading takes, are together of bulk at most 1048576: NARROWER than '..Said'. Prove '..Said' where nothing that the law and all that it calls make is longer than what came in: it says more and counts as full. Else prove '..UptoSaid'. A law counts once. -/
mutual
def uptoBulk {H : Type} : DataW H → Nat
  | .lit (.string bytes) => bytes.length + 1
  | .lit _ => 1
  | .nil => 1
  | .ptr d => uptoBulk d + 1
  | .slice elems spare => uptoBulkAll elems + uptoBulkAll spare + 1
  | .agg parts => uptoBulkAll parts + 1
  | .iface _ d => uptoBulk d + 1
  | .map entries => uptoBulkEntries entries + 1
  | .held _ => 1
def uptoBulkAll {H : Type} : List (DataW H) → Nat
  | [] => 0
  | d :: r => uptoBulk d + uptoBulkAll r
def uptoBulkEntries {H : Type} : List (Lit × DataW H) → Nat
  | [] => 0
  | x :: r => uptoBulkEntry x + uptoBulkEntries r
def uptoBulkEntry {H : Type} : Lit × DataW H → Nat
  | (.string bytes, d) => bytes.length + uptoBulk d + 1
  | (_, d) => uptoBulk d + 1
 end
def uptoSmall : (H : Type) → List (DataW H) → Bool := fun _ ds => decide (uptoBulkAll ds ≤ 1048576)
def OpenSpec.upto (s : _root_.Go.ChangeSpec) : _root_.Go.OpenSpec := { _root_.Go.OpenSpec.ofChange s with cond := some uptoSmall }

/-- 'sundiallaw.Names', WHERE WHAT IT READS IS OF BULK AT MOST 1048576: true; the input reads as it did. -/
def namesUptoRow : OpenClaim := { program := "ytalaejdbmjbocaa", sum := "2874828237bde1c835d1507c514fb51ccc03320ae3dcf3491fbea62f4be8ecc4", func := "sundial/sundiallaw.Names", spec := "names", apart := false, narrowed := true }
def NamesUptoSaid : Prop := namesUptoRow.holds Try.pinned (OpenSpec.upto namesSpec)

/-- 'sundiallaw.CivilLeaps', WHERE WHAT IT READS IS OF BULK AT MOST 1048576: true; the input reads as it did. -/
def civilLeapsUptoRow : OpenClaim := { program := "ytalaejdbmjbocaa", sum := "2874828237bde1c835d1507c514fb51ccc03320ae3dcf3491fbea62f4be8ecc4", func := "sundial/sundiallaw.CivilLeaps", spec := "civilLeaps", apart := false, narrowed := true }
def CivilLeapsUptoSaid : Prop := civilLeapsUptoRow.holds Try.pinned (OpenSpec.upto civilLeapsSpec)

/-- 'sundiallaw.CivilWeekdays', WHERE WHAT IT READS IS OF BULK AT MOST 1048576: true; the input reads as it did. -/
def civilWeekdaysUptoRow : OpenClaim := { program := "ytalaejdbmjbocaa", sum := "2874828237bde1c835d1507c514fb51ccc03320ae3dcf3491fbea62f4be8ecc4", func := "sundial/sundiallaw.CivilWeekdays", spec := "civilWeekdays", apart := false, narrowed := true }
def CivilWeekdaysUptoSaid : Prop := civilWeekdaysUptoRow.holds Try.pinned (OpenSpec.upto civilWeekdaysSpec)

/-- 'sundialkeep.WeekdaysTurn', WHERE WHAT IT READS IS OF BULK AT MOST 1048576: true; the input reads as it did. -/
def weekdaysTurnUptoRow : OpenClaim := { program := "ytalaejdbmjbocaa", sum := "2874828237bde1c835d1507c514fb51ccc03320ae3dcf3491fbea62f4be8ecc4", func := "sundial/sundialkeep.WeekdaysTurn", spec := "weekdaysTurn", apart := false, narrowed := true }
def WeekdaysTurnUptoSaid : Prop := weekdaysTurnUptoRow.holds Try.pinned (OpenSpec.upto weekdaysTurnSpec)

/-- 'sundiallaw.CivilWindow', WHERE WHAT IT READS IS OF BULK AT MOST 1048576: true; the input reads as it did. -/
def civilWindowUptoRow : OpenClaim := { program := "ytalaejdbmjbocaa", sum := "2874828237bde1c835d1507c514fb51ccc03320ae3dcf3491fbea62f4be8ecc4", func := "sundial/sundiallaw.CivilWindow", spec := "civilWindow", apart := false, narrowed := true }
def CivilWindowUptoSaid : Prop := civilWindowUptoRow.holds Try.pinned (OpenSpec.upto civilWindowSpec)

/-- 'sundiallaw.CivilChecks', WHERE WHAT IT READS IS OF BULK AT MOST 1048576: true; the input reads as it did. -/
def civilChecksUptoRow : OpenClaim := { program := "ytalaejdbmjbocaa", sum := "2874828237bde1c835d1507c514fb51ccc03320ae3dcf3491fbea62f4be8ecc4", func := "sundial/sundiallaw.CivilChecks", spec := "civilChecks", apart := false, narrowed := true }
def CivilChecksUptoSaid : Prop := civilChecksUptoRow.holds Try.pinned (OpenSpec.upto civilChecksSpec)

/-- 'sundiallaw.CivilMoments', WHERE WHAT IT READS IS OF BULK AT MOST 1048576: true; the input reads as it did. -/
def civilMomentsUptoRow : OpenClaim := { program := "ytalaejdbmjbocaa", sum := "2874828237bde1c835d1507c514fb51ccc03320ae3dcf3491fbea62f4be8ecc4", func := "sundial/sundiallaw.CivilMoments", spec := "civilMoments", apart := false, narrowed := true }
def CivilMomentsUptoSaid : Prop := civilMomentsUptoRow.holds Try.pinned (OpenSpec.upto civilMomentsSpec)

end Rows
end Go.Proofs.Ytalaejdbmjbocaa
