/-
  sundialref.clockOf: the walk.
-/
import Derived.BigRegion
import Derived.Test.YtdpbedkppomffaaDoorAtB
namespace Go.Proofs.YtdpbedkppomffaaDoor
set_option linter.unusedVariables false
set_option linter.unusedSimpArgs false
open Go.ChangeShapes Go.WideShapes Go.ChangeAt Go.RowKit Civ

theorem get_at (s : ByteArray) (k : Nat) (h : k < s.size) : s.data.toList[k]? = some s[k] := by simp [h]; rfl
theorem ext_to (s : ByteArray) (k : Nat) : s.extract 0 k = ⟨(s.data.toList.take k).toArray⟩ := bytes_eq (by rw [ext_take])
theorem ext_from (s : ByteArray) (k : Nat) : s.extract k s.size = ⟨(s.data.toList.drop k).toArray⟩ := bytes_eq (by rw [ext_drop])
end Go.Proofs.YtdpbedkppomffaaDoor
