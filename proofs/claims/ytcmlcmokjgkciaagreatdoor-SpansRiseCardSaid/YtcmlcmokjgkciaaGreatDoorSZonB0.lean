/-
  Turns in their order, plain: a strict order by what is told and by place; a list in order is the only one of its members; halves that are merged.
  Sources: their rules, zones and links, and how they lie in memory; how one that came in reads.
  Turns put in order by blocks that are merged: plain.
  Zones, plain: what is wrong with a rule, an era, a zone, a source; turns; what is saved; ends; clocks.
-/
import Derived.Test.YtcmlcmokjgkciaaGreatDoorJZonB0
import Derived.Test.YtcmlcmokjgkciaaGreatDoorJBase
import Derived.Test.YtcmlcmokjgkciaaGreatDoorSBase
import Derived.Test.YtcmlcmokjgkciaaGreatDoorJSrcT
namespace Go.Proofs.YtcmlcmokjgkciaaGreatDoor
set_option linter.unusedVariables false
set_option linter.unusedSimpArgs false

end Go.Proofs.YtcmlcmokjgkciaaGreatDoor
namespace Go.Proofs.YtcmlcmokjgkciaaGreatDoor
set_option linter.unusedVariables false
set_option linter.unusedSimpArgs false
set_option maxRecDepth 100000
open Go.ChangeShapes Go.WideShapes Go.ChangeAt Go.RowKit

section
variable {H : Type} {enc : TypeId × Value → H} {w : World} {b : Nat} {sp : Nat → Bool} {held : Bool} {fuel : Nat} {cs : List Value} {y : DataW H × List MemPlace}
end
end Go.Proofs.YtcmlcmokjgkciaaGreatDoor
namespace Go.Proofs.YtcmlcmokjgkciaaGreatDoor
set_option linter.unusedVariables false
set_option linter.unusedSimpArgs false

end Go.Proofs.YtcmlcmokjgkciaaGreatDoor
namespace Go.Proofs.YtcmlcmokjgkciaaGreatDoor
set_option linter.unusedVariables false
set_option linter.unusedSimpArgs false
open Go.ChangeShapes Go.WideShapes Go.ChangeAt Go.RowKit Civ

/-- the era at an instant. -/
def eraI (ends : List Int) (t : Int) : Nat := (ends.takeWhile fun e => decide (e ≤ t)).length
end Go.Proofs.YtcmlcmokjgkciaaGreatDoor
