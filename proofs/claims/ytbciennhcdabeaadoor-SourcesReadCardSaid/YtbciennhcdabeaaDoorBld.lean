/-
  The writers of strings.Builder at this seat: copyCheck, WriteString, WriteByte, walked (the shelf's contracts do not lay here: copyCheck's last branch is refused by the loader).
-/
import Derived.Lib.OthersKept
import Derived.Lib.FrozenHead2
import Derived.Test.YtbciennhcdabeaaDoorShTxt
import Derived.Test.YtbciennhcdabeaaDoorBase
namespace Go.Proofs.YtbciennhcdabeaaDoor
set_option linter.unusedVariables false
set_option linter.unusedSimpArgs false
open Go.ChangeShapes Go.WideShapes Go.ChangeAt Go.RowKit

theorem bl_byte : (Tryd.prog.info? 5).map (fun i => (i.zero, i.size, i.bytes)) = some (some (.int .u8 0), 1, 1) := by kernel_rfl
end Go.Proofs.YtbciennhcdabeaaDoor
