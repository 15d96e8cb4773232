/-
  The table of months, as the program's variable holds it.
-/
import Derived.Test.YtalaejdbmjbocaaKit
import Derived.Lib.LaidTab
namespace Go.Proofs.Ytalaejdbmjbocaa
set_option linter.unusedVariables false
set_option linter.unusedSimpArgs false
open Go.ChangeShapes Go.WideShapes Go.ChangeAt Go.RowKit Civ

end Go.Proofs.Ytalaejdbmjbocaa
