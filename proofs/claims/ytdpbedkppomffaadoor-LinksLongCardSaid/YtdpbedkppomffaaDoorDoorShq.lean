/-
  A listed variable by its place in the list: the table of powers of ten.
-/
import Derived.Lib.ItoaNum
import Derived.Test.YtdpbedkppomffaaDoorDoorShp
namespace Go.Proofs.YtdpbedkppomffaaDoor
set_option linter.unusedVariables false
set_option linter.unusedSimpArgs false
set_option maxRecDepth 100000
open Go.ChangeShapes Go.WideShapes Go.ChangeAt Go.RowKit

theorem tPowS : (Tryd.prog.globals[2]?).map (·.type) = some 171 := by kernel_rfl
theorem cU64S : Tryd.prog.cellsOf 138 = 1 := by kernel_rfl
theorem cPowS : Tryd.prog.cellsOf 171 = 20 := by kernel_rfl
theorem gPowS : Tryd.prog.globalNamed "internal/strconv.uint64pow10" = some 2 := by kernel_rfl
theorem pow_at {W : World} {l : List (String × DataW Unit)} (i : Nat) (e : l[i]? = some ("internal/strconv.uint64pow10", Rows.laid_internal_strconv_uint64pow10)) (h : laidMet Tryd.prog l W) : Lib.TabIs Tryd.prog W "internal/strconv.uint64pow10" .u64 Lib.pow10Tab := by
  have h' := laid_at i e h
  have e : (Rows.laid_internal_strconv_uint64pow10 : DataW Unit) = Lib.tabData .u64 Lib.pow10Tab := by kernel_rfl
  rw [e] at h'
  exact Lib.tabIs_of_head gPowS tPowS Tryd.underlying171 Tryd.underlying138 cU64S cPowS h'
end Go.Proofs.YtdpbedkppomffaaDoor
