/-
  The table of months, as the program's variable holds it.
-/
import Derived.Test.YtpnmaopompfalaaKit
import Derived.Lib.LaidTab
namespace Go.Proofs.Ytpnmaopompfalaa
set_option linter.unusedVariables false
set_option linter.unusedSimpArgs false
open Go.ChangeShapes Go.WideShapes Go.ChangeAt Go.RowKit Civ

end Go.Proofs.Ytpnmaopompfalaa
