/-
  What is wrong with a program, by the document.
-/
import Derived.Test.YtlhidbbphngpcaaDoorCodA
namespace Go.Proofs.YtlhidbbphngpcaaDoor
set_option linter.unusedVariables false
set_option linter.unusedSimpArgs false
open Go.ChangeShapes Go.WideShapes Go.ChangeAt Go.RowKit

end Go.Proofs.YtlhidbbphngpcaaDoor
