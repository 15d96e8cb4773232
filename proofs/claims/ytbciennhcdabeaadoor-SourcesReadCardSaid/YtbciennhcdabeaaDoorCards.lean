/-
  DERIVED. GIVEN WITH THE SEED: THE CARDS: each row of YtbciennhcdabeaaDoorRows.lean that lists a variable, with what it lists TIED to the program's text (the seventh form; the later family's looks); each row that meets fmt, with fmt's text TOLD by the authors' own Lean function (tested against real Go, not proved from fmt's source: count such statements apart). THE CARD IS WHAT COUNTS. Prove the row's statement (the work); the ties are given (YtbciennhcdabeaaDoorTie.lean); close each card by the builder's one call (the guide's Derived/Test/ToyasCard.lean, 'card_holds'). Laid BY PROGRAM, IN A SANDBOX (cutbox-door.mjs). By AI agents, Wed Nov 11 2026. No macro, syntax, notation, axiom, sorry.
-/
import Derived.Test.YtbciennhcdabeaaDoorRows
import GoSem.ClaimSeven
namespace Go.Proofs.YtbciennhcdabeaaDoor
namespace Rows

/-- THE TIED CARD OF 'sundialkeep.SourcesRead'. -/
def sourcesReadCard : Claim7 := { stood := { row := sourcesReadRow, standIns := [], harness := (true, "e119b897213c02a0936d3e768281ce8efb4878b5cba162170799a52f75e60d45"), looks := true }, kinds := [], alts := [], laidByText := true, laidKinds := [.data, .data, .data, .data, .sentinel, .sentinel, .widerDeep, .widerDeep, .pinned], laidTests := true, laidLooks := .later }
def SourcesReadCardSaid : Prop := Claim7.holds Tryd.pinned (.plain (OpenSpec.ofChange sourcesReadSpec)) sourcesReadCard

/-- THE SECOND FORM's CARD OF 'sundialkeep.SourcesRead'. -/
def sourcesReadUptoCard : Claim7 := { stood := { row := sourcesReadUptoRow, standIns := [], harness := (true, "e119b897213c02a0936d3e768281ce8efb4878b5cba162170799a52f75e60d45"), looks := true }, kinds := [], alts := [], laidByText := true, laidKinds := [.data, .data, .data, .data, .sentinel, .sentinel, .widerDeep, .widerDeep, .pinned], laidTests := true, laidLooks := .later }
def SourcesReadUptoCardSaid : Prop := Claim7.holds Tryd.pinned (.plain (OpenSpec.upto sourcesReadSpec)) sourcesReadUptoCard
end Rows
end Go.Proofs.YtbciennhcdabeaaDoor
