/-
  The table of months, as the program's variable holds it.
-/
import Derived.Test.YtalaejdbmjbocaaDoorKit
import Derived.Lib.LaidTab
namespace Go.Proofs.YtalaejdbmjbocaaDoor
set_option linter.unusedVariables false
set_option linter.unusedSimpArgs false
open Go.ChangeShapes Go.WideShapes Go.ChangeAt Go.RowKit Civ

/-- the months' variable holds the table. -/
def Tab (w : World) : Prop := (∀ i : Nat, i < 13 → w.cell? ⟨0, i, none⟩ = some (.int .i64 (mon i))) ∧ 0 < w.heap.size
theorem Tab.below {w w' : World} (h : Tab w) (hb : Below w.heap.size w w') : Tab w' :=
  ⟨fun i hi => by rw [hb.cell (p := ⟨_, _, none⟩) h.2]; exact h.1 i hi, Nat.lt_of_lt_of_le h.2 hb.size⟩
theorem Tab.drewN {w : World} (h : Tab w) (n : Nat) : Tab (w.drewN n) := h.below (below_draws (Below.refl _ _) n)
theorem Tab.alloc {w : World} (h : Tab w) (o : Obj) : Tab (w.alloc o) := h.below ((Below.refl _ _).alloc (Nat.le_refl _) o)
end Go.Proofs.YtalaejdbmjbocaaDoor
