/-
  What the functions of package civil on the numbers of days answer.
-/
import Derived.Test.YtdpbedkppomffaaDoorCivT
import Derived.Deep.Light
namespace Go.Proofs.YtdpbedkppomffaaDoor
set_option linter.unusedVariables false
set_option linter.unusedSimpArgs false
open Go.ChangeShapes Go.WideShapes Go.ChangeAt Go.RowKit Civ

theorem number_bad (y m d : Int) (w : World) (hT : Tab w) (h : ¬ numOk y m d) :
    Calls Tryd.prog 12 #[.int .i64 y, .int .i64 m, .int .i64 d] w fun e w' => e = .returned (.tuple #[.int .i64 0, .int .i64 2]) ∧ ∃ n, w' = w.drewN n := by
  by_cases hy : 1899 ≤ y ∧ y ≤ 2100 ∧ 1 ≤ m ∧ m ≤ 12
  · obtain ⟨h1, h2, h3, h4⟩ := hy
    have hd := dim_bd y m h3 h4
    by_cases h5 : d < 1
    · clear h
      go_enter Tryd.func12, Tryd.ntmps12
      go_wp2_with (go_at_call 28; refine (days_ok _ _ _ hT h1 h2 h3 h4).mono ?_; rintro e w' ⟨rfl, n, rfl⟩)
      go_ret2
      exact ⟨rfl, _, rfl⟩
    · have h6 : dim y m < d := by unfold numOk at h; omega
      clear h
      go_enter Tryd.func12, Tryd.ntmps12
      go_wp2_with (go_at_call 28; refine (days_ok _ _ _ hT h1 h2 h3 h4).mono ?_; rintro e w' ⟨rfl, n, rfl⟩)
      go_ret2
      exact ⟨rfl, _, rfl⟩
  · clear h
    have H := Lib.hid hy
    clear hy
    go_enter Tryd.func12, Tryd.ntmps12
    go_wp2_with (go_at_call 28; refine (days_bad _ _ _ H.out).mono ?_; rintro e w' ⟨rfl, rfl⟩)
    go_ret2
    exact ⟨rfl, 0, rfl⟩
theorem number_ok (y m d : Int) (w : World) (hT : Tab w) (h : numOk y m d) :
    Calls Tryd.prog 12 #[.int .i64 y, .int .i64 m, .int .i64 d] w fun e w' => e = .returned (.tuple #[.int .i64 (num y m d), .int .i64 0]) ∧ ∃ n, w' = w.drewN n := by
  obtain ⟨h1, h2, h3, h4, h5, h6⟩ := h
  have hd := dim_bd y m h3 h4
  have hb := fst_bd y (by omega) (by omega)
  have ha := ah_bd y m h3 (by omega)
  go_enter Tryd.func12, Tryd.ntmps12
  go_wp2_with (first | (go_at_call 28; refine (days_ok _ _ _ hT h1 h2 h3 h4).mono ?_; rintro e w' ⟨rfl, n, rfl⟩) | (go_at_call 29; refine (first_any _ _ (by omega) (by omega)).mono ?_; rintro e w' ⟨rfl, rfl⟩) | (go_at_call 30; refine (ahead_any _ _ _ (hT.drewN _) h3 h4).mono ?_; rintro e w' ⟨rfl, rfl⟩))
  go_ret2
  exact ⟨rfl, _, rfl⟩
theorem date_end (n y m : Int) (a1 : fst y ≤ n) (a2 : n < fst (y + 1)) (b1 : 1899 ≤ y) (b2 : y ≤ 2100) (c1 : 1 ≤ m) (c2 : m ≤ 12) (d1 : ah y m ≤ n - fst y) (d2 : n - fst y < ah y (m + 1)) :
    numOk y m (n - fst y - ah y m + 1) ∧ num y m (n - fst y - ah y m + 1) = n := by
  rw [ah_succ y m c1 c2] at d2
  refine ⟨⟨b1, b2, c1, c2, by omega, by omega⟩, by unfold num; omega⟩
def DateIs (n : Int) (w : World) (e : Ending) (w' : World) : Prop := ∃ y m d : Int, e = .returned (.tuple #[.int .i64 y, .int .i64 m, .int .i64 d, .int .i64 0]) ∧ numOk y m d ∧ num y m d = n ∧ w = w'
end Go.Proofs.YtdpbedkppomffaaDoor
