/-
  The law that each day has its number, and the law on days that are found: what each law's own function answers.
-/
import Derived.Test.YtalaejdbmjbocaaDoorKeep
namespace Go.Proofs.YtalaejdbmjbocaaDoor
set_option linter.unusedVariables false
set_option linter.unusedSimpArgs false
open Go.ChangeShapes Go.WideShapes Go.ChangeAt Go.RowKit Civ

set_option maxHeartbeats 800000 in
theorem walkDatesBack (a0 : Int) (w : World) (w0 : (Lit.int .i64 a0).wf = true) (hT : Tab w) :
    Calls Tryd.prog 7 #[.int .i64 a0] w fun e w' => e = .returned (.bool true) ∧ Below w.heap.size w w' := by
  have HW := Lib.hid w0
  clear w0
  go_enter Tryd.func7, Tryd.ntmps7
  go_wp2_with (first | (go_at_call 21; refine (civiltells_any _ hT).mono ?_; rintro e w' ⟨rfl, n1, rfl⟩) | (go_at_call 22; refine (window_any _).mono ?_; rintro e w' ⟨rfl, rfl⟩) | (go_at_call 19; fail))
  refine (picked_any _ _ _ HW.out (by omega) (by omega)).mono ?_
  rintro e w' ⟨p, hp1, hp2, rfl, rfl⟩
  go_wp2_with fail
  refine (date_ok _ _ (hT.drewN _) (by rw [fst_1899]; omega) (by rw [fst_2101]; omega)).mono ?_
  rintro e w' ⟨y, m, d, rfl, ok, hn, rfl⟩
  have OK := Lib.hid ok
  have HN := Lib.hid hn
  have hnb := num_bd y m d ok
  obtain ⟨o1, o2, o3, o4, o5, o6⟩ := ok
  have hdd := dim_bd y m o3 o4
  have hk : -25567 ≤ num y m d ∧ num y m d < 47482 := by omega
  clear hn hnb
  go_wp2_with fail
  refine (number_ok _ _ _ _ (hT.drewN _) OK.out).mono ?_; rintro e w' ⟨rfl, n2, rfl⟩
  go_wp2_with fail
  refine (date_ok _ _ (hT.drewN _) (by rw [fst_1899]; omega) (by rw [fst_2101]; omega)).mono ?_
  rintro e w' ⟨a, b, c, rfl, ok', hn', rfl⟩
  have hcase := next_day OK.out HN.out ok' hn' (by have := HN.out; omega)
  have hx : (num y m d == -25567 + p) = true := by rw [beq_iff_eq]; exact HN.out
  clear ok' hn' hk
  rcases hcase with ⟨rfl, rfl, rfl, h⟩ | ⟨rfl, rfl, rfl, rfl⟩ | ⟨rfl, rfl, rfl, rfl, rfl, h⟩
  · have q1 : (d == dim a b) = false := by rw [beq_eq_false_iff_ne]; omega
    have q2 : (d + 1 == 1) = false := by rw [beq_eq_false_iff_ne]; omega
    go_wp2_with fail
    refine (days_ok _ _ _ (hT.drewN _) o1 o2 o3 o4).mono ?_; rintro e w' ⟨rfl, n3, rfl⟩
    go_wp2
    go_ret
    exact ⟨rfl, below_draws (Below.refl _ _) _⟩
  · go_wp2_with fail
    refine (days_ok _ _ _ (hT.drewN _) o1 o2 o3 o4).mono ?_; rintro e w' ⟨rfl, n3, rfl⟩
    go_wp2
    go_ret
    exact ⟨rfl, below_draws (Below.refl _ _) _⟩
  · have q1 : ((31 : Int) == dim y 12) = true := by rw [beq_iff_eq]; exact h.symm
    have H := Lib.hid h
    clear h
    go_wp2_with fail
    refine (days_ok _ _ _ (hT.drewN _) o1 o2 o3 o4).mono ?_; rintro e w' ⟨rfl, n3, rfl⟩
    go_wp2
    go_ret
    exact ⟨rfl, below_draws (Below.refl _ _) _⟩
end Go.Proofs.YtalaejdbmjbocaaDoor
