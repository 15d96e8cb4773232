/-
  No cell of these rows narrows 'for every input' (looked for: loops, veiled, ifaces, maps, wideKeys, modest, calm, conditions, laid).
  DERIVED. THE GIVEN ROWS OF THIS SEAT. 6 by the template 'for every input the law returns true; each argument reads behind the call as it read before'; 0 by the template 'total and deterministic' (their statements: YtlhidbbphngpcaaTotals.lean).
  GIVEN WITH THE SEED: the statements are not yours to turn. If you find one false, say at which input.
  Laid BY PROGRAM, IN A SANDBOX (cutbox-rows.mjs): the forced cells as the released guide's own fill.sh prints them over the translation a350e59cdb3cbd69… (all of the seat's roots in one cut). By AI agents, Wed Nov 11 2026. No macro, syntax, notation, axiom, sorry.
-/
import Derived.Test.YtlhidbbphngpcaaChecked
import GoSem.Claim
import GoSem.ClaimJoined
import GoSem.ClaimMapViews
import Derived.JoinedTies
import Derived.KernelRfl
namespace Go.Proofs.Ytlhidbbphngpcaa
/- THE CELL 'sum', in the pinned program and in every row, IS THE sha256 OF THE DUMP (.gsa) THAT YtlhidbbphngpcaaProg.lean LOADS. Nothing in Lean hashes anything: it is a label: what it is worth is what the hold of that sum in a sandbox is worth. -/
noncomputable def Try.pinned : Pinned := { name := "ytlhidbbphngpcaa", sum := "a350e59cdb3cbd6925a3923b287a84d419f72cd2d9eee6db22d722068025525a", checked := Try.checked }
namespace Rows
def none {H : Type} : Left H := { results := [], args := [] }

/-- 'sundiallaw.TreeInverses': WHATEVER THE INPUT: true; the input reads as it did. -/
def treeInversesSpec : ChangeSpec := { name := "treeInverses", fn := fun _ => fun
  | [d1, d2] => { results := [.lit (.bool true)], args := [d1, d2] }
  | _ => none }
def treeInversesRow : OpenClaim := { program := "ytlhidbbphngpcaa", sum := "a350e59cdb3cbd6925a3923b287a84d419f72cd2d9eee6db22d722068025525a", func := "sundial/sundiallaw.TreeInverses", spec := "treeInverses", unfollowed := true, recurses := true, plainKeys := false, apart := false }
def TreeInversesSaid : Prop := treeInversesRow.holds Try.pinned (OpenSpec.ofChange treeInversesSpec)

/-- ITS FALSE NEIGHBOUR: 'it returns false'. Refute it at one input. -/
def treeInversesWrong : ChangeSpec := { name := "treeInverses", fn := fun _ => fun
  | [d1, d2] => { results := [.lit (.bool false)], args := [d1, d2] }
  | _ => none }
def TreeInversesWrongFalsely : Prop := treeInversesRow.holds Try.pinned (OpenSpec.ofChange treeInversesWrong)

/-- 'sundialkeep.GapsTold': WHATEVER THE INPUT: true; the input reads as it did. -/
def gapsToldSpec : ChangeSpec := { name := "gapsTold", fn := fun _ => fun
  | [d1, d2, d3] => { results := [.lit (.bool true)], args := [d1, d2, d3] }
  | _ => none }
def gapsToldRow : OpenClaim := { program := "ytlhidbbphngpcaa", sum := "a350e59cdb3cbd6925a3923b287a84d419f72cd2d9eee6db22d722068025525a", func := "sundial/sundialkeep.GapsTold", spec := "gapsTold", unfollowed := true, recurses := true, plainKeys := false, apart := false }
def GapsToldSaid : Prop := gapsToldRow.holds Try.pinned (OpenSpec.ofChange gapsToldSpec)

/-- ITS FALSE NEIGHBOUR: 'it returns false'. Refute it at one input. -/
def gapsToldWrong : ChangeSpec := { name := "gapsTold", fn := fun _ => fun
  | [d1, d2, d3] => { results := [.lit (.bool false)], args := [d1, d2, d3] }
  | _ => none }
def GapsToldWrongFalsely : Prop := gapsToldRow.holds Try.pinned (OpenSpec.ofChange gapsToldWrong)

/-- 'sundiallaw.TreeOpts': WHATEVER THE INPUT: true; the input reads as it did. -/
def treeOptsSpec : ChangeSpec := { name := "treeOpts", fn := fun _ => fun
  | [d1, d2, d3] => { results := [.lit (.bool true)], args := [d1, d2, d3] }
  | _ => none }
def treeOptsRow : OpenClaim := { program := "ytlhidbbphngpcaa", sum := "a350e59cdb3cbd6925a3923b287a84d419f72cd2d9eee6db22d722068025525a", func := "sundial/sundiallaw.TreeOpts", spec := "treeOpts", unfollowed := true, recurses := true, plainKeys := false, apart := false }
def TreeOptsSaid : Prop := treeOptsRow.holds Try.pinned (OpenSpec.ofChange treeOptsSpec)

/-- ITS FALSE NEIGHBOUR: 'it returns false'. Refute it at one input. -/
def treeOptsWrong : ChangeSpec := { name := "treeOpts", fn := fun _ => fun
  | [d1, d2, d3] => { results := [.lit (.bool false)], args := [d1, d2, d3] }
  | _ => none }
def TreeOptsWrongFalsely : Prop := treeOptsRow.holds Try.pinned (OpenSpec.ofChange treeOptsWrong)

/-- 'sundialkeep.OptSame': WHATEVER THE INPUT: true; the input reads as it did. -/
def optSameSpec : ChangeSpec := { name := "optSame", fn := fun _ => fun
  | [d1, d2, d3] => { results := [.lit (.bool true)], args := [d1, d2, d3] }
  | _ => none }
def optSameRow : OpenClaim := { program := "ytlhidbbphngpcaa", sum := "a350e59cdb3cbd6925a3923b287a84d419f72cd2d9eee6db22d722068025525a", func := "sundial/sundialkeep.OptSame", spec := "optSame", unfollowed := true, recurses := true, plainKeys := false, apart := false }
def OptSameSaid : Prop := optSameRow.holds Try.pinned (OpenSpec.ofChange optSameSpec)

/-- ITS FALSE NEIGHBOUR: 'it returns false'. Refute it at one input. -/
def optSameWrong : ChangeSpec := { name := "optSame", fn := fun _ => fun
  | [d1, d2, d3] => { results := [.lit (.bool false)], args := [d1, d2, d3] }
  | _ => none }
def OptSameWrongFalsely : Prop := optSameRow.holds Try.pinned (OpenSpec.ofChange optSameWrong)

/-- 'sundialkeep.OptLess': WHATEVER THE INPUT: true; the input reads as it did. -/
def optLessSpec : ChangeSpec := { name := "optLess", fn := fun _ => fun
  | [d1, d2] => { results := [.lit (.bool true)], args := [d1, d2] }
  | _ => none }
def optLessRow : OpenClaim := { program := "ytlhidbbphngpcaa", sum := "a350e59cdb3cbd6925a3923b287a84d419f72cd2d9eee6db22d722068025525a", func := "sundial/sundialkeep.OptLess", spec := "optLess", unfollowed := true, recurses := true, plainKeys := false, apart := false }
def OptLessSaid : Prop := optLessRow.holds Try.pinned (OpenSpec.ofChange optLessSpec)

/-- ITS FALSE NEIGHBOUR: 'it returns false'. Refute it at one input. -/
def optLessWrong : ChangeSpec := { name := "optLess", fn := fun _ => fun
  | [d1, d2] => { results := [.lit (.bool false)], args := [d1, d2] }
  | _ => none }
def OptLessWrongFalsely : Prop := optLessRow.holds Try.pinned (OpenSpec.ofChange optLessWrong)

/-- 'sundialkeep.ProgramsTell': WHATEVER THE INPUT: true; the input reads as it did. -/
def programsTellSpec : ChangeSpec := { name := "programsTell", fn := fun _ => fun
  | [d1, d2, d3] => { results := [.lit (.bool true)], args := [d1, d2, d3] }
  | _ => none }
def programsTellRow : OpenClaim := { program := "ytlhidbbphngpcaa", sum := "a350e59cdb3cbd6925a3923b287a84d419f72cd2d9eee6db22d722068025525a", func := "sundial/sundialkeep.ProgramsTell", spec := "programsTell", unfollowed := true, recurses := true, plainKeys := false, apart := false }
def ProgramsTellSaid : Prop := programsTellRow.holds Try.pinned (OpenSpec.ofChange programsTellSpec)

/-- ITS FALSE NEIGHBOUR: 'it returns false'. Refute it at one input. -/
def programsTellWrong : ChangeSpec := { name := "programsTell", fn := fun _ => fun
  | [d1, d2, d3] => { results := [.lit (.bool false)], args := [d1, d2, d3] }
  | _ => none }
def ProgramsTellWrongFalsely : Prop := programsTellRow.holds Try.pinned (OpenSpec.ofChange programsTellWrong)

/- THE SECOND FORM. 'bulk': how many values and letters a reading holds, each counted each time it is reached (what is shared counts as often as it is met; a slice's spare places count too). A statement '..UptoSaid' is the law's where the arguments, and the package variables that the reading takes, are together of bulk at most 1048576: NARROWER than '..Said'. Prove '..Said' where nothing that the law and all that it calls make is longer than what came in: it says more and counts as full. Else prove '..UptoSaid'. A law counts once. -/
mutual
def uptoBulk {H : Type} : DataW H → Nat
  | .lit (.string bytes) => bytes.length + 1
  | .lit _ => 1
  | .nil => 1
  | .ptr d => uptoBulk d + 1
  | .slice elems spare => uptoBulkAll elems + uptoBulkAll spare + 1
  | .agg parts => uptoBulkAll parts + 1
  | .iface _ d => uptoBulk d + 1
  | .map entries => uptoBulkEntries entries + 1
  | .held _ => 1
def uptoBulkAll {H : Type} : List (DataW H) → Nat
  | [] => 0
  | d :: r => uptoBulk d + uptoBulkAll r
def uptoBulkEntries {H : Type} : List (Lit × DataW H) → Nat
  | [] => 0
  | x :: r => uptoBulkEntry x + uptoBulkEntries r
def uptoBulkEntry {H : Type} : Lit × DataW H → Nat
  | (.string bytes, d) => bytes.length + uptoBulk d + 1
  | (_, d) => uptoBulk d + 1
 end
def uptoSmall : (H : Type) → List (DataW H) → Bool := fun _ ds => decide (uptoBulkAll ds ≤ 1048576)
def OpenSpec.upto (s : _root_.Go.ChangeSpec) : _root_.Go.OpenSpec := { _root_.Go.OpenSpec.ofChange s with cond := some uptoSmall }

/-- 'sundiallaw.TreeInverses', WHERE WHAT IT READS IS OF BULK AT MOST 1048576: true; the input reads as it did. -/
def treeInversesUptoRow : OpenClaim := { program := "ytlhidbbphngpcaa", sum := "a350e59cdb3cbd6925a3923b287a84d419f72cd2d9eee6db22d722068025525a", func := "sundial/sundiallaw.TreeInverses", spec := "treeInverses", unfollowed := true, recurses := true, plainKeys := false, apart := false, narrowed := true }
def TreeInversesUptoSaid : Prop := treeInversesUptoRow.holds Try.pinned (OpenSpec.upto treeInversesSpec)

/-- 'sundialkeep.GapsTold', WHERE WHAT IT READS IS OF BULK AT MOST 1048576: true; the input reads as it did. -/
def gapsToldUptoRow : OpenClaim := { program := "ytlhidbbphngpcaa", sum := "a350e59cdb3cbd6925a3923b287a84d419f72cd2d9eee6db22d722068025525a", func := "sundial/sundialkeep.GapsTold", spec := "gapsTold", unfollowed := true, recurses := true, plainKeys := false, apart := false, narrowed := true }
def GapsToldUptoSaid : Prop := gapsToldUptoRow.holds Try.pinned (OpenSpec.upto gapsToldSpec)

/-- 'sundiallaw.TreeOpts', WHERE WHAT IT READS IS OF BULK AT MOST 1048576: true; the input reads as it did. -/
def treeOptsUptoRow : OpenClaim := { program := "ytlhidbbphngpcaa", sum := "a350e59cdb3cbd6925a3923b287a84d419f72cd2d9eee6db22d722068025525a", func := "sundial/sundiallaw.TreeOpts", spec := "treeOpts", unfollowed := true, recurses := true, plainKeys := false, apart := false, narrowed := true }
def TreeOptsUptoSaid : Prop := treeOptsUptoRow.holds Try.pinned (OpenSpec.upto treeOptsSpec)

/-- 'sundialkeep.OptSame', WHERE WHAT IT READS IS OF BULK AT MOST 1048576: true; the input reads as it did. -/
def optSameUptoRow : OpenClaim := { program := "ytlhidbbphngpcaa", sum := "a350e59cdb3cbd6925a3923b287a84d419f72cd2d9eee6db22d722068025525a", func := "sundial/sundialkeep.OptSame", spec := "optSame", unfollowed := true, recurses := true, plainKeys := false, apart := false, narrowed := true }
def OptSameUptoSaid : Prop := optSameUptoRow.holds Try.pinned (OpenSpec.upto optSameSpec)

/-- 'sundialkeep.OptLess', WHERE WHAT IT READS IS OF BULK AT MOST 1048576: true; the input reads as it did. -/
def optLessUptoRow : OpenClaim := { program := "ytlhidbbphngpcaa", sum := "a350e59cdb3cbd6925a3923b287a84d419f72cd2d9eee6db22d722068025525a", func := "sundial/sundialkeep.OptLess", spec := "optLess", unfollowed := true, recurses := true, plainKeys := false, apart := false, narrowed := true }
def OptLessUptoSaid : Prop := optLessUptoRow.holds Try.pinned (OpenSpec.upto optLessSpec)

/-- 'sundialkeep.ProgramsTell', WHERE WHAT IT READS IS OF BULK AT MOST 1048576: true; the input reads as it did. -/
def programsTellUptoRow : OpenClaim := { program := "ytlhidbbphngpcaa", sum := "a350e59cdb3cbd6925a3923b287a84d419f72cd2d9eee6db22d722068025525a", func := "sundial/sundialkeep.ProgramsTell", spec := "programsTell", unfollowed := true, recurses := true, plainKeys := false, apart := false, narrowed := true }
def ProgramsTellUptoSaid : Prop := programsTellUptoRow.holds Try.pinned (OpenSpec.upto programsTellSpec)

end Rows
end Go.Proofs.Ytlhidbbphngpcaa
