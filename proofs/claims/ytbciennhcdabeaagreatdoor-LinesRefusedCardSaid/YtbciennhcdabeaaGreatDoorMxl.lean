/-
  The library's variable internal/bytealg.MaxLen holds some number: of a world that is shaped, and of what lies above it.
-/
import Derived.Test.YtbciennhcdabeaaGreatDoorBase
import Derived.Shelf.Vars
namespace Go.Proofs.YtbciennhcdabeaaGreatDoor
set_option linter.unusedVariables false
set_option linter.unusedSimpArgs false
open Go.ChangeShapes Go.WideShapes Go.ChangeAt Go.RowKit

def MxL (w : World) : Prop := (∃ m, w.cell? ⟨0, 0, none⟩ = some (.int .i64 m)) ∧ 0 < w.heap.size
theorem MxL.below {w w' : World} (h : MxL w) (hb : Below w.heap.size w w') : MxL w' :=
  ⟨by obtain ⟨m, hm⟩ := h.1; exact ⟨m, by rw [hb.cell (p := ⟨_, _, none⟩) h.2]; exact hm⟩, Nat.lt_of_lt_of_le h.2 hb.size⟩
theorem MxL.drewN {w : World} (h : MxL w) (n : Nat) : MxL (w.drewN n) := h.below (below_draws (Below.refl _ _) n)
theorem mxl_of {w : World} (h : w.ShapedOpen Tryz.prog) : MxL w := by
  obtain ⟨m, hm⟩ := Go.Proofs.cell_of_shapedOpen_int (zero := #[.int .i64 0]) (t := 3) h (of_decide_eq_true (by kernel_rfl)) (by kernel_rfl) rfl (by kernel_rfl) (by kernel_rfl) Tryz.underlying3
  refine ⟨⟨m, hm⟩, ?_⟩
  rcases Nat.lt_or_ge 0 w.heap.size with g | g
  · exact g
  · simp [World.cell?, Array.getElem?_eq_none g] at hm
end Go.Proofs.YtbciennhcdabeaaGreatDoor
