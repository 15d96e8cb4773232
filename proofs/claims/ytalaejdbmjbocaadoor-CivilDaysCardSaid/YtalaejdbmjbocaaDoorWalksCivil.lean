/-
  The laws on days: what each law's own function answers.
-/
import Derived.Test.YtalaejdbmjbocaaDoorCivilC
import Derived.Test.YtalaejdbmjbocaaDoorRefB
namespace Go.Proofs.YtalaejdbmjbocaaDoor
set_option linter.unusedVariables false
set_option linter.unusedSimpArgs false
open Go.ChangeShapes Go.WideShapes Go.ChangeAt Go.RowKit Civ

theorem walkCivilDays (a0 a1 : Int) (w : World) (w0 : (Lit.int .i64 a0).wf = true) (w1 : (Lit.int .i64 a1).wf = true) (hT : Tab w) :
    Calls Tryd.prog 3 #[.int .i64 a0, .int .i64 a1] w fun e w' => e = .returned (.bool true) ∧ Below w.heap.size w w' := by
  clear w0 w1
  by_cases h : 1899 ≤ a0 ∧ a0 ≤ 2100 ∧ 1 ≤ a1 ∧ a1 ≤ 12
  · obtain ⟨h1, h2, h3, h4⟩ := h
    go_enter Tryd.func3, Tryd.ntmps3
    go_wp2_with (first | (go_at_call 13; refine (days_ok _ _ _ hT h1 h2 h3 h4).mono ?_; rintro e w' ⟨rfl, n, rfl⟩) | (go_at_call 14; refine (daysof_ok _ _ _ h1 h2 h3 h4).mono ?_; rintro e w' ⟨rfl, rfl⟩))
    go_ret
    exact ⟨rfl, below_draws (Below.refl _ _) _⟩
  · have H := Lib.hid h
    clear h
    go_enter Tryd.func3, Tryd.ntmps3
    go_wp2_with (first | (go_at_call 13; refine (days_bad _ _ _ H.out).mono ?_; rintro e w' ⟨rfl, rfl⟩) | (go_at_call 14; refine (daysof_bad _ _ _ H.out).mono ?_; rintro e w' ⟨rfl, rfl⟩))
    go_ret
    exact ⟨rfl, Below.refl _ _⟩
end Go.Proofs.YtalaejdbmjbocaaDoor
