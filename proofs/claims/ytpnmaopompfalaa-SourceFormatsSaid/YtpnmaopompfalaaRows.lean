/-
  No cell of these rows narrows 'for every input' (looked for: loops, veiled, ifaces, maps, wideKeys, modest, calm, conditions, laid).
  DERIVED. THE GIVEN ROWS OF THIS SEAT. 15 by the template 'for every input the law returns true; each argument reads behind the call as it read before'; 0 by the template 'total and deterministic' (their statements: YtpnmaopompfalaaTotals.lean).
  GIVEN WITH THE SEED: the statements are not yours to turn. If you find one false, say at which input.
  Laid BY PROGRAM, IN A SANDBOX (cutbox-rows.mjs): the forced cells as the released guide's own fill.sh prints them over the translation 03a594977ef1780d… (all of the seat's roots in one cut). By AI agents, Wed Nov 11 2026. No macro, syntax, notation, axiom, sorry.
-/
import Derived.Test.YtpnmaopompfalaaChecked
import GoSem.Claim
import GoSem.ClaimJoined
import GoSem.ClaimMapViews
import Derived.JoinedTies
import Derived.KernelRfl
namespace Go.Proofs.Ytpnmaopompfalaa
/- THE CELL 'sum', in the pinned program and in every row, IS THE sha256 OF THE DUMP (.gsa) THAT YtpnmaopompfalaaProg.lean LOADS. Nothing in Lean hashes anything: it is a label: what it is worth is what the hold of that sum in a sandbox is worth. -/
noncomputable def Try.pinned : Pinned := { name := "ytpnmaopompfalaa", sum := "03a594977ef1780ddd655de7d255a7654a25d0c1d85e08d3885530c76974bf4e", checked := Try.checked }
namespace Rows
def none {H : Type} : Left H := { results := [], args := [] }

/-- 'sundiallaw.SourceLetters': WHATEVER THE INPUT: true; the input reads as it did. -/
def sourceLettersSpec : ChangeSpec := { name := "sourceLetters", fn := fun _ => fun
  | [d] => { results := [.lit (.bool true)], args := [d] }
  | _ => none }
def sourceLettersRow : OpenClaim := { program := "ytpnmaopompfalaa", sum := "03a594977ef1780ddd655de7d255a7654a25d0c1d85e08d3885530c76974bf4e", func := "sundial/sundiallaw.SourceLetters", spec := "sourceLetters", unfollowed := true, recurses := true, apart := false }
def SourceLettersSaid : Prop := sourceLettersRow.holds Try.pinned (OpenSpec.ofChange sourceLettersSpec)

/-- ITS FALSE NEIGHBOUR: 'it returns false'. Refute it at one input. -/
def sourceLettersWrong : ChangeSpec := { name := "sourceLetters", fn := fun _ => fun
  | [d] => { results := [.lit (.bool false)], args := [d] }
  | _ => none }
def SourceLettersWrongFalsely : Prop := sourceLettersRow.holds Try.pinned (OpenSpec.ofChange sourceLettersWrong)

/-- 'sundiallaw.TreeAnswers': WHATEVER THE INPUT: true; the input reads as it did. -/
def treeAnswersSpec : ChangeSpec := { name := "treeAnswers", fn := fun _ => fun
  | [d] => { results := [.lit (.bool true)], args := [d] }
  | _ => none }
def treeAnswersRow : OpenClaim := { program := "ytpnmaopompfalaa", sum := "03a594977ef1780ddd655de7d255a7654a25d0c1d85e08d3885530c76974bf4e", func := "sundial/sundiallaw.TreeAnswers", spec := "treeAnswers", unfollowed := true, recurses := true, apart := false }
def TreeAnswersSaid : Prop := treeAnswersRow.holds Try.pinned (OpenSpec.ofChange treeAnswersSpec)

/-- ITS FALSE NEIGHBOUR: 'it returns false'. Refute it at one input. -/
def treeAnswersWrong : ChangeSpec := { name := "treeAnswers", fn := fun _ => fun
  | [d] => { results := [.lit (.bool false)], args := [d] }
  | _ => none }
def TreeAnswersWrongFalsely : Prop := treeAnswersRow.holds Try.pinned (OpenSpec.ofChange treeAnswersWrong)

/-- 'sundiallaw.SourceNames': WHATEVER THE INPUT: true; the input reads as it did. -/
def sourceNamesSpec : ChangeSpec := { name := "sourceNames", fn := fun _ => fun
  | [d] => { results := [.lit (.bool true)], args := [d] }
  | _ => none }
def sourceNamesRow : OpenClaim := { program := "ytpnmaopompfalaa", sum := "03a594977ef1780ddd655de7d255a7654a25d0c1d85e08d3885530c76974bf4e", func := "sundial/sundiallaw.SourceNames", spec := "sourceNames", inPlace := ["internal/bytealg.IndexByteString"], unfollowed := true, recurses := true, apart := false }
def SourceNamesSaid : Prop := sourceNamesRow.holds Try.pinned (OpenSpec.ofChange sourceNamesSpec)

/-- ITS FALSE NEIGHBOUR: 'it returns false'. Refute it at one input. -/
def sourceNamesWrong : ChangeSpec := { name := "sourceNames", fn := fun _ => fun
  | [d] => { results := [.lit (.bool false)], args := [d] }
  | _ => none }
def SourceNamesWrongFalsely : Prop := sourceNamesRow.holds Try.pinned (OpenSpec.ofChange sourceNamesWrong)

/-- 'sundiallaw.TreeChecks': WHATEVER THE INPUT: true; the input reads as it did. -/
def treeChecksSpec : ChangeSpec := { name := "treeChecks", fn := fun _ => fun
  | [d] => { results := [.lit (.bool true)], args := [d] }
  | _ => none }
def treeChecksRow : OpenClaim := { program := "ytpnmaopompfalaa", sum := "03a594977ef1780ddd655de7d255a7654a25d0c1d85e08d3885530c76974bf4e", func := "sundial/sundiallaw.TreeChecks", spec := "treeChecks", unfollowed := true, recurses := true, apart := false }
def TreeChecksSaid : Prop := treeChecksRow.holds Try.pinned (OpenSpec.ofChange treeChecksSpec)

/-- ITS FALSE NEIGHBOUR: 'it returns false'. Refute it at one input. -/
def treeChecksWrong : ChangeSpec := { name := "treeChecks", fn := fun _ => fun
  | [d] => { results := [.lit (.bool false)], args := [d] }
  | _ => none }
def TreeChecksWrongFalsely : Prop := treeChecksRow.holds Try.pinned (OpenSpec.ofChange treeChecksWrong)

/-- 'sundiallaw.TreeForwards': WHATEVER THE INPUT: true; the input reads as it did. -/
def treeForwardsSpec : ChangeSpec := { name := "treeForwards", fn := fun _ => fun
  | [d1, d2] => { results := [.lit (.bool true)], args := [d1, d2] }
  | _ => none }
def treeForwardsRow : OpenClaim := { program := "ytpnmaopompfalaa", sum := "03a594977ef1780ddd655de7d255a7654a25d0c1d85e08d3885530c76974bf4e", func := "sundial/sundiallaw.TreeForwards", spec := "treeForwards", unfollowed := true, recurses := true, apart := false }
def TreeForwardsSaid : Prop := treeForwardsRow.holds Try.pinned (OpenSpec.ofChange treeForwardsSpec)

/-- ITS FALSE NEIGHBOUR: 'it returns false'. Refute it at one input. -/
def treeForwardsWrong : ChangeSpec := { name := "treeForwards", fn := fun _ => fun
  | [d1, d2] => { results := [.lit (.bool false)], args := [d1, d2] }
  | _ => none }
def TreeForwardsWrongFalsely : Prop := treeForwardsRow.holds Try.pinned (OpenSpec.ofChange treeForwardsWrong)

/-- 'sundiallaw.TreeEvals': WHATEVER THE INPUT: true; the input reads as it did. -/
def treeEvalsSpec : ChangeSpec := { name := "treeEvals", fn := fun _ => fun
  | [d1, d2] => { results := [.lit (.bool true)], args := [d1, d2] }
  | _ => none }
def treeEvalsRow : OpenClaim := { program := "ytpnmaopompfalaa", sum := "03a594977ef1780ddd655de7d255a7654a25d0c1d85e08d3885530c76974bf4e", func := "sundial/sundiallaw.TreeEvals", spec := "treeEvals", unfollowed := true, recurses := true, apart := false }
def TreeEvalsSaid : Prop := treeEvalsRow.holds Try.pinned (OpenSpec.ofChange treeEvalsSpec)

/-- ITS FALSE NEIGHBOUR: 'it returns false'. Refute it at one input. -/
def treeEvalsWrong : ChangeSpec := { name := "treeEvals", fn := fun _ => fun
  | [d1, d2] => { results := [.lit (.bool false)], args := [d1, d2] }
  | _ => none }
def TreeEvalsWrongFalsely : Prop := treeEvalsRow.holds Try.pinned (OpenSpec.ofChange treeEvalsWrong)

/-- 'sundialkeep.ForestsGood': WHATEVER THE INPUT: true; the input reads as it did. -/
def forestsGoodSpec : ChangeSpec := { name := "forestsGood", fn := fun _ => fun
  | [d1, d2] => { results := [.lit (.bool true)], args := [d1, d2] }
  | _ => none }
def forestsGoodRow : OpenClaim := { program := "ytpnmaopompfalaa", sum := "03a594977ef1780ddd655de7d255a7654a25d0c1d85e08d3885530c76974bf4e", func := "sundial/sundialkeep.ForestsGood", spec := "forestsGood", unfollowed := true, recurses := true, apart := false }
def ForestsGoodSaid : Prop := forestsGoodRow.holds Try.pinned (OpenSpec.ofChange forestsGoodSpec)

/-- ITS FALSE NEIGHBOUR: 'it returns false'. Refute it at one input. -/
def forestsGoodWrong : ChangeSpec := { name := "forestsGood", fn := fun _ => fun
  | [d1, d2] => { results := [.lit (.bool false)], args := [d1, d2] }
  | _ => none }
def ForestsGoodWrongFalsely : Prop := forestsGoodRow.holds Try.pinned (OpenSpec.ofChange forestsGoodWrong)

/-- 'sundiallaw.CodeVerifies': WHATEVER THE INPUT: true; the input reads as it did. -/
def codeVerifiesSpec : ChangeSpec := { name := "codeVerifies", fn := fun _ => fun
  | [d] => { results := [.lit (.bool true)], args := [d] }
  | _ => none }
def codeVerifiesRow : OpenClaim := { program := "ytpnmaopompfalaa", sum := "03a594977ef1780ddd655de7d255a7654a25d0c1d85e08d3885530c76974bf4e", func := "sundial/sundiallaw.CodeVerifies", spec := "codeVerifies", unfollowed := true, recurses := true, apart := false }
def CodeVerifiesSaid : Prop := codeVerifiesRow.holds Try.pinned (OpenSpec.ofChange codeVerifiesSpec)

/-- ITS FALSE NEIGHBOUR: 'it returns false'. Refute it at one input. -/
def codeVerifiesWrong : ChangeSpec := { name := "codeVerifies", fn := fun _ => fun
  | [d] => { results := [.lit (.bool false)], args := [d] }
  | _ => none }
def CodeVerifiesWrongFalsely : Prop := codeVerifiesRow.holds Try.pinned (OpenSpec.ofChange codeVerifiesWrong)

/-- 'sundiallaw.CodeGens': WHATEVER THE INPUT: true; the input reads as it did. -/
def codeGensSpec : ChangeSpec := { name := "codeGens", fn := fun _ => fun
  | [d1, d2] => { results := [.lit (.bool true)], args := [d1, d2] }
  | _ => none }
def codeGensRow : OpenClaim := { program := "ytpnmaopompfalaa", sum := "03a594977ef1780ddd655de7d255a7654a25d0c1d85e08d3885530c76974bf4e", func := "sundial/sundiallaw.CodeGens", spec := "codeGens", unfollowed := true, recurses := true, apart := false }
def CodeGensSaid : Prop := codeGensRow.holds Try.pinned (OpenSpec.ofChange codeGensSpec)

/-- ITS FALSE NEIGHBOUR: 'it returns false'. Refute it at one input. -/
def codeGensWrong : ChangeSpec := { name := "codeGens", fn := fun _ => fun
  | [d1, d2] => { results := [.lit (.bool false)], args := [d1, d2] }
  | _ => none }
def CodeGensWrongFalsely : Prop := codeGensRow.holds Try.pinned (OpenSpec.ofChange codeGensWrong)

/-- 'sundiallaw.SourceFormats': WHATEVER THE INPUT: true; the input reads as it did. -/
def sourceFormatsSpec : ChangeSpec := { name := "sourceFormats", fn := fun _ => fun
  | [d] => { results := [.lit (.bool true)], args := [d] }
  | _ => none }
def sourceFormatsRow : OpenClaim := { program := "ytpnmaopompfalaa", sum := "03a594977ef1780ddd655de7d255a7654a25d0c1d85e08d3885530c76974bf4e", func := "sundial/sundiallaw.SourceFormats", spec := "sourceFormats", inPlace := ["internal/bytealg.IndexByteString", "internal/bytealg.IndexString"], unfollowed := true, recurses := true, named := ["internal/bytealg.MaxLen"], apart := false }
def SourceFormatsSaid : Prop := sourceFormatsRow.holds Try.pinned (OpenSpec.ofChange sourceFormatsSpec)

/-- ITS FALSE NEIGHBOUR: 'it returns false'. Refute it at one input. -/
def sourceFormatsWrong : ChangeSpec := { name := "sourceFormats", fn := fun _ => fun
  | [d] => { results := [.lit (.bool false)], args := [d] }
  | _ => none }
def SourceFormatsWrongFalsely : Prop := sourceFormatsRow.holds Try.pinned (OpenSpec.ofChange sourceFormatsWrong)

/-- 'sundiallaw.CodeEncodes': WHATEVER THE INPUT: true; the input reads as it did. -/
def codeEncodesSpec : ChangeSpec := { name := "codeEncodes", fn := fun _ => fun
  | [d] => { results := [.lit (.bool true)], args := [d] }
  | _ => none }
def codeEncodesRow : OpenClaim := { program := "ytpnmaopompfalaa", sum := "03a594977ef1780ddd655de7d255a7654a25d0c1d85e08d3885530c76974bf4e", func := "sundial/sundiallaw.CodeEncodes", spec := "codeEncodes", unfollowed := true, recurses := true, apart := false }
def CodeEncodesSaid : Prop := codeEncodesRow.holds Try.pinned (OpenSpec.ofChange codeEncodesSpec)

/-- ITS FALSE NEIGHBOUR: 'it returns false'. Refute it at one input. -/
def codeEncodesWrong : ChangeSpec := { name := "codeEncodes", fn := fun _ => fun
  | [d] => { results := [.lit (.bool false)], args := [d] }
  | _ => none }
def CodeEncodesWrongFalsely : Prop := codeEncodesRow.holds Try.pinned (OpenSpec.ofChange codeEncodesWrong)

/-- 'sundiallaw.CodeRuns': WHATEVER THE INPUT: true; the input reads as it did. -/
def codeRunsSpec : ChangeSpec := { name := "codeRuns", fn := fun _ => fun
  | [d1, d2] => { results := [.lit (.bool true)], args := [d1, d2] }
  | _ => none }
def codeRunsRow : OpenClaim := { program := "ytpnmaopompfalaa", sum := "03a594977ef1780ddd655de7d255a7654a25d0c1d85e08d3885530c76974bf4e", func := "sundial/sundiallaw.CodeRuns", spec := "codeRuns", unfollowed := true, recurses := true, apart := false }
def CodeRunsSaid : Prop := codeRunsRow.holds Try.pinned (OpenSpec.ofChange codeRunsSpec)

/-- ITS FALSE NEIGHBOUR: 'it returns false'. Refute it at one input. -/
def codeRunsWrong : ChangeSpec := { name := "codeRuns", fn := fun _ => fun
  | [d1, d2] => { results := [.lit (.bool false)], args := [d1, d2] }
  | _ => none }
def CodeRunsWrongFalsely : Prop := codeRunsRow.holds Try.pinned (OpenSpec.ofChange codeRunsWrong)

/-- 'sundialkeep.CodeBad': WHATEVER THE INPUT: true; the input reads as it did. -/
def codeBadSpec : ChangeSpec := { name := "codeBad", fn := fun _ => fun
  | [d] => { results := [.lit (.bool true)], args := [d] }
  | _ => none }
def codeBadRow : OpenClaim := { program := "ytpnmaopompfalaa", sum := "03a594977ef1780ddd655de7d255a7654a25d0c1d85e08d3885530c76974bf4e", func := "sundial/sundialkeep.CodeBad", spec := "codeBad", unfollowed := true, recurses := true, apart := false }
def CodeBadSaid : Prop := codeBadRow.holds Try.pinned (OpenSpec.ofChange codeBadSpec)

/-- ITS FALSE NEIGHBOUR: 'it returns false'. Refute it at one input. -/
def codeBadWrong : ChangeSpec := { name := "codeBad", fn := fun _ => fun
  | [d] => { results := [.lit (.bool false)], args := [d] }
  | _ => none }
def CodeBadWrongFalsely : Prop := codeBadRow.holds Try.pinned (OpenSpec.ofChange codeBadWrong)

/-- 'sundiallaw.CodeDecodes': WHATEVER THE INPUT: true; the input reads as it did. -/
def codeDecodesSpec : ChangeSpec := { name := "codeDecodes", fn := fun _ => fun
  | [d] => { results := [.lit (.bool true)], args := [d] }
  | _ => none }
def codeDecodesRow : OpenClaim := { program := "ytpnmaopompfalaa", sum := "03a594977ef1780ddd655de7d255a7654a25d0c1d85e08d3885530c76974bf4e", func := "sundial/sundiallaw.CodeDecodes", spec := "codeDecodes", unfollowed := true, recurses := true, apart := false }
def CodeDecodesSaid : Prop := codeDecodesRow.holds Try.pinned (OpenSpec.ofChange codeDecodesSpec)

/-- ITS FALSE NEIGHBOUR: 'it returns false'. Refute it at one input. -/
def codeDecodesWrong : ChangeSpec := { name := "codeDecodes", fn := fun _ => fun
  | [d] => { results := [.lit (.bool false)], args := [d] }
  | _ => none }
def CodeDecodesWrongFalsely : Prop := codeDecodesRow.holds Try.pinned (OpenSpec.ofChange codeDecodesWrong)

/-- 'sundialkeep.BytesOnce': WHATEVER THE INPUT: true; the input reads as it did. -/
def bytesOnceSpec : ChangeSpec := { name := "bytesOnce", fn := fun _ => fun
  | [d] => { results := [.lit (.bool true)], args := [d] }
  | _ => none }
def bytesOnceRow : OpenClaim := { program := "ytpnmaopompfalaa", sum := "03a594977ef1780ddd655de7d255a7654a25d0c1d85e08d3885530c76974bf4e", func := "sundial/sundialkeep.BytesOnce", spec := "bytesOnce", unfollowed := true, recurses := true, apart := false }
def BytesOnceSaid : Prop := bytesOnceRow.holds Try.pinned (OpenSpec.ofChange bytesOnceSpec)

/-- ITS FALSE NEIGHBOUR: 'it returns false'. Refute it at one input. -/
def bytesOnceWrong : ChangeSpec := { name := "bytesOnce", fn := fun _ => fun
  | [d] => { results := [.lit (.bool false)], args := [d] }
  | _ => none }
def BytesOnceWrongFalsely : Prop := bytesOnceRow.holds Try.pinned (OpenSpec.ofChange bytesOnceWrong)

/- THE SECOND FORM. 'bulk': how many values and letters a reading holds, each counted each time it is reached (what is shared counts as often as it is met; a slice's spare places count too). A statement '..UptoSaid' is the law's where the arguments, and the package variables that the reading takes, are together of bulk at most 1048576: NARROWER than '..Said'. Prove '..Said' where nothing that the law and all that it calls make is longer than what came in: it says more and counts as full. Else prove '..UptoSaid'. A law counts once. -/
mutual
def uptoBulk {H : Type} : DataW H → Nat
  | .lit (.string bytes) => bytes.length + 1
  | .lit _ => 1
  | .nil => 1
  | .ptr d => uptoBulk d + 1
  | .slice elems spare => uptoBulkAll elems + uptoBulkAll spare + 1
  | .agg parts => uptoBulkAll parts + 1
  | .iface _ d => uptoBulk d + 1
  | .map entries => uptoBulkEntries entries + 1
  | .held _ => 1
def uptoBulkAll {H : Type} : List (DataW H) → Nat
  | [] => 0
  | d :: r => uptoBulk d + uptoBulkAll r
def uptoBulkEntries {H : Type} : List (Lit × DataW H) → Nat
  | [] => 0
  | x :: r => uptoBulkEntry x + uptoBulkEntries r
def uptoBulkEntry {H : Type} : Lit × DataW H → Nat
  | (.string bytes, d) => bytes.length + uptoBulk d + 1
  | (_, d) => uptoBulk d + 1
 end
def uptoSmall : (H : Type) → List (DataW H) → Bool := fun _ ds => decide (uptoBulkAll ds ≤ 1048576)
def OpenSpec.upto (s : _root_.Go.ChangeSpec) : _root_.Go.OpenSpec := { _root_.Go.OpenSpec.ofChange s with cond := some uptoSmall }

/-- 'sundiallaw.SourceLetters', WHERE WHAT IT READS IS OF BULK AT MOST 1048576: true; the input reads as it did. -/
def sourceLettersUptoRow : OpenClaim := { program := "ytpnmaopompfalaa", sum := "03a594977ef1780ddd655de7d255a7654a25d0c1d85e08d3885530c76974bf4e", func := "sundial/sundiallaw.SourceLetters", spec := "sourceLetters", unfollowed := true, recurses := true, apart := false, narrowed := true }
def SourceLettersUptoSaid : Prop := sourceLettersUptoRow.holds Try.pinned (OpenSpec.upto sourceLettersSpec)

/-- 'sundiallaw.TreeAnswers', WHERE WHAT IT READS IS OF BULK AT MOST 1048576: true; the input reads as it did. -/
def treeAnswersUptoRow : OpenClaim := { program := "ytpnmaopompfalaa", sum := "03a594977ef1780ddd655de7d255a7654a25d0c1d85e08d3885530c76974bf4e", func := "sundial/sundiallaw.TreeAnswers", spec := "treeAnswers", unfollowed := true, recurses := true, apart := false, narrowed := true }
def TreeAnswersUptoSaid : Prop := treeAnswersUptoRow.holds Try.pinned (OpenSpec.upto treeAnswersSpec)

/-- 'sundiallaw.SourceNames', WHERE WHAT IT READS IS OF BULK AT MOST 1048576: true; the input reads as it did. -/
def sourceNamesUptoRow : OpenClaim := { program := "ytpnmaopompfalaa", sum := "03a594977ef1780ddd655de7d255a7654a25d0c1d85e08d3885530c76974bf4e", func := "sundial/sundiallaw.SourceNames", spec := "sourceNames", inPlace := ["internal/bytealg.IndexByteString"], unfollowed := true, recurses := true, apart := false, narrowed := true }
def SourceNamesUptoSaid : Prop := sourceNamesUptoRow.holds Try.pinned (OpenSpec.upto sourceNamesSpec)

/-- 'sundiallaw.TreeChecks', WHERE WHAT IT READS IS OF BULK AT MOST 1048576: true; the input reads as it did. -/
def treeChecksUptoRow : OpenClaim := { program := "ytpnmaopompfalaa", sum := "03a594977ef1780ddd655de7d255a7654a25d0c1d85e08d3885530c76974bf4e", func := "sundial/sundiallaw.TreeChecks", spec := "treeChecks", unfollowed := true, recurses := true, apart := false, narrowed := true }
def TreeChecksUptoSaid : Prop := treeChecksUptoRow.holds Try.pinned (OpenSpec.upto treeChecksSpec)

/-- 'sundiallaw.TreeForwards', WHERE WHAT IT READS IS OF BULK AT MOST 1048576: true; the input reads as it did. -/
def treeForwardsUptoRow : OpenClaim := { program := "ytpnmaopompfalaa", sum := "03a594977ef1780ddd655de7d255a7654a25d0c1d85e08d3885530c76974bf4e", func := "sundial/sundiallaw.TreeForwards", spec := "treeForwards", unfollowed := true, recurses := true, apart := false, narrowed := true }
def TreeForwardsUptoSaid : Prop := treeForwardsUptoRow.holds Try.pinned (OpenSpec.upto treeForwardsSpec)

/-- 'sundiallaw.TreeEvals', WHERE WHAT IT READS IS OF BULK AT MOST 1048576: true; the input reads as it did. -/
def treeEvalsUptoRow : OpenClaim := { program := "ytpnmaopompfalaa", sum := "03a594977ef1780ddd655de7d255a7654a25d0c1d85e08d3885530c76974bf4e", func := "sundial/sundiallaw.TreeEvals", spec := "treeEvals", unfollowed := true, recurses := true, apart := false, narrowed := true }
def TreeEvalsUptoSaid : Prop := treeEvalsUptoRow.holds Try.pinned (OpenSpec.upto treeEvalsSpec)

/-- 'sundialkeep.ForestsGood', WHERE WHAT IT READS IS OF BULK AT MOST 1048576: true; the input reads as it did. -/
def forestsGoodUptoRow : OpenClaim := { program := "ytpnmaopompfalaa", sum := "03a594977ef1780ddd655de7d255a7654a25d0c1d85e08d3885530c76974bf4e", func := "sundial/sundialkeep.ForestsGood", spec := "forestsGood", unfollowed := true, recurses := true, apart := false, narrowed := true }
def ForestsGoodUptoSaid : Prop := forestsGoodUptoRow.holds Try.pinned (OpenSpec.upto forestsGoodSpec)

/-- 'sundiallaw.CodeVerifies', WHERE WHAT IT READS IS OF BULK AT MOST 1048576: true; the input reads as it did. -/
def codeVerifiesUptoRow : OpenClaim := { program := "ytpnmaopompfalaa", sum := "03a594977ef1780ddd655de7d255a7654a25d0c1d85e08d3885530c76974bf4e", func := "sundial/sundiallaw.CodeVerifies", spec := "codeVerifies", unfollowed := true, recurses := true, apart := false, narrowed := true }
def CodeVerifiesUptoSaid : Prop := codeVerifiesUptoRow.holds Try.pinned (OpenSpec.upto codeVerifiesSpec)

/-- 'sundiallaw.CodeGens', WHERE WHAT IT READS IS OF BULK AT MOST 1048576: true; the input reads as it did. -/
def codeGensUptoRow : OpenClaim := { program := "ytpnmaopompfalaa", sum := "03a594977ef1780ddd655de7d255a7654a25d0c1d85e08d3885530c76974bf4e", func := "sundial/sundiallaw.CodeGens", spec := "codeGens", unfollowed := true, recurses := true, apart := false, narrowed := true }
def CodeGensUptoSaid : Prop := codeGensUptoRow.holds Try.pinned (OpenSpec.upto codeGensSpec)

/-- 'sundiallaw.SourceFormats', WHERE WHAT IT READS IS OF BULK AT MOST 1048576: true; the input reads as it did. -/
def sourceFormatsUptoRow : OpenClaim := { program := "ytpnmaopompfalaa", sum := "03a594977ef1780ddd655de7d255a7654a25d0c1d85e08d3885530c76974bf4e", func := "sundial/sundiallaw.SourceFormats", spec := "sourceFormats", inPlace := ["internal/bytealg.IndexByteString", "internal/bytealg.IndexString"], unfollowed := true, recurses := true, named := ["internal/bytealg.MaxLen"], apart := false, narrowed := true }
def SourceFormatsUptoSaid : Prop := sourceFormatsUptoRow.holds Try.pinned (OpenSpec.upto sourceFormatsSpec)

/-- 'sundiallaw.CodeEncodes', WHERE WHAT IT READS IS OF BULK AT MOST 1048576: true; the input reads as it did. -/
def codeEncodesUptoRow : OpenClaim := { program := "ytpnmaopompfalaa", sum := "03a594977ef1780ddd655de7d255a7654a25d0c1d85e08d3885530c76974bf4e", func := "sundial/sundiallaw.CodeEncodes", spec := "codeEncodes", unfollowed := true, recurses := true, apart := false, narrowed := true }
def CodeEncodesUptoSaid : Prop := codeEncodesUptoRow.holds Try.pinned (OpenSpec.upto codeEncodesSpec)

/-- 'sundiallaw.CodeRuns', WHERE WHAT IT READS IS OF BULK AT MOST 1048576: true; the input reads as it did. -/
def codeRunsUptoRow : OpenClaim := { program := "ytpnmaopompfalaa", sum := "03a594977ef1780ddd655de7d255a7654a25d0c1d85e08d3885530c76974bf4e", func := "sundial/sundiallaw.CodeRuns", spec := "codeRuns", unfollowed := true, recurses := true, apart := false, narrowed := true }
def CodeRunsUptoSaid : Prop := codeRunsUptoRow.holds Try.pinned (OpenSpec.upto codeRunsSpec)

/-- 'sundialkeep.CodeBad', WHERE WHAT IT READS IS OF BULK AT MOST 1048576: true; the input reads as it did. -/
def codeBadUptoRow : OpenClaim := { program := "ytpnmaopompfalaa", sum := "03a594977ef1780ddd655de7d255a7654a25d0c1d85e08d3885530c76974bf4e", func := "sundial/sundialkeep.CodeBad", spec := "codeBad", unfollowed := true, recurses := true, apart := false, narrowed := true }
def CodeBadUptoSaid : Prop := codeBadUptoRow.holds Try.pinned (OpenSpec.upto codeBadSpec)

/-- 'sundiallaw.CodeDecodes', WHERE WHAT IT READS IS OF BULK AT MOST 1048576: true; the input reads as it did. -/
def codeDecodesUptoRow : OpenClaim := { program := "ytpnmaopompfalaa", sum := "03a594977ef1780ddd655de7d255a7654a25d0c1d85e08d3885530c76974bf4e", func := "sundial/sundiallaw.CodeDecodes", spec := "codeDecodes", unfollowed := true, recurses := true, apart := false, narrowed := true }
def CodeDecodesUptoSaid : Prop := codeDecodesUptoRow.holds Try.pinned (OpenSpec.upto codeDecodesSpec)

/-- 'sundialkeep.BytesOnce', WHERE WHAT IT READS IS OF BULK AT MOST 1048576: true; the input reads as it did. -/
def bytesOnceUptoRow : OpenClaim := { program := "ytpnmaopompfalaa", sum := "03a594977ef1780ddd655de7d255a7654a25d0c1d85e08d3885530c76974bf4e", func := "sundial/sundialkeep.BytesOnce", spec := "bytesOnce", unfollowed := true, recurses := true, apart := false, narrowed := true }
def BytesOnceUptoSaid : Prop := bytesOnceUptoRow.holds Try.pinned (OpenSpec.upto bytesOnceSpec)

end Rows
end Go.Proofs.Ytpnmaopompfalaa
