/-
  What the row's condition on the listed variable gives the walks: the table of months.
-/
import Derived.Test.YtalaejdbmjbocaaDoorTab
import Derived.LaidMore
import Derived.Stop.Joined
import Derived.Below
import Derived.Carry
namespace Go.Proofs.YtalaejdbmjbocaaDoor
set_option linter.unusedVariables false
set_option linter.unusedSimpArgs false
open Go.ChangeShapes Go.WideShapes Go.ChangeAt Go.RowKit Civ

theorem own : ownKnob Tryd.prog.godebug = none := by kernel_rfl
theorem laidOut : laidOutB Tryd.prog = true := by kernel_rfl
theorem tMonths : (Tryd.prog.globals[0]?).map (·.type) = some 52 := by kernel_rfl
theorem cellsInt : Tryd.prog.cellsOf 3 = 1 := by kernel_rfl
theorem cellsMonths : Tryd.prog.cellsOf 52 = 13 := by kernel_rfl
def monL : List Int := [0, 31, 59, 90, 120, 151, 181, 212, 243, 273, 304, 334, 365]
theorem monL_get : ∀ i : Nat, i < 13 → monL.getD i 0 = mon i := by decide
def hname (l : List (String × DataW Unit)) : String := (l.headD ("", .nil)).1
theorem tab_of_head {W : World} {l : List (String × DataW Unit)} (hl : l = (hname l, Rows.laid_sundial_civil_months) :: l.tail) (hg : Tryd.prog.globalNamed (hname l) = some 0) (h : laidMet Tryd.prog l W) : Tab W := by
  rw [hl] at h
  have h' : laidMet Tryd.prog ((hname l, Lib.tabData .i64 monL) :: l.tail) W := h
  have hT := Lib.tabIs_of_head hg tMonths Tryd.underlying52 Tryd.underlying3 cellsInt cellsMonths h'
  have hc : ∀ i : Nat, i < 13 → W.cell? ⟨0, i, none⟩ = some (.int .i64 (mon i)) := fun i hi => by
    rw [← monL_get i hi]; exact hT.cell hg i hi
  refine ⟨hc, ?_⟩
  rcases Nat.lt_or_ge 0 W.heap.size with g | g
  · exact g
  · have := hc 0 (by omega)
    simp [World.cell?, Array.getElem?_eq_none g] at this
end Go.Proofs.YtalaejdbmjbocaaDoor
