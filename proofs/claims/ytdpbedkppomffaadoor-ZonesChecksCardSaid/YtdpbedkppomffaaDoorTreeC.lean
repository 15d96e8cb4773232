/-
  What the document's function on forests answers: the check; and the law.
-/
import Derived.Test.YtdpbedkppomffaaDoorTreeB
namespace Go.Proofs.YtdpbedkppomffaaDoor
set_option linter.unusedVariables false
set_option linter.unusedSimpArgs false
open Go.ChangeShapes Go.WideShapes Go.ChangeAt Go.RowKit

theorem in_lit (n lo hi : Int) (r : Bool) (w : World) (h : decide (lo ≤ n ∧ n ≤ hi) = r) :
    Calls Tryd.prog 61 #[.int .i64 n, .int .i64 lo, .int .i64 hi] w fun e w' => e = .returned (.bool r) ∧ w = w' := h ▸ in_any n lo hi w
end Go.Proofs.YtdpbedkppomffaaDoor
