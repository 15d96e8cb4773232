/-
  What the document's functions on days and moments answer.
-/
import Derived.Test.YtlhidbbphngpcaaKit
import Derived.Deep.Light
import Derived.Deep.LoopGhost
namespace Go.Proofs.Ytlhidbbphngpcaa
set_option linter.unusedVariables false
set_option linter.unusedSimpArgs false
open Go.ChangeShapes Go.WideShapes Go.ChangeAt Go.RowKit Civ

theorem in_any (n lo hi : Int) (w : World) :
    Calls Try.prog 42 #[.int .i64 n, .int .i64 lo, .int .i64 hi] w fun e w' => e = .returned (.bool (decide (lo ≤ n ∧ n ≤ hi))) ∧ w = w' := by
  go_enter Try.func42, Try.ntmps42
  go_wp2
  all_goals (go_ret; exact ⟨ret_bool (by go_light; first | (simp [*]; done) | (simp [*]; omega)), rfl⟩)
theorem isleap_any (y : Int) (w : World) :
    Calls Try.prog 86 #[.int .i64 y] w fun e w' => e = .returned (.bool (leapB y)) ∧ w = w' := by
  rw [leap_tmod']
  go_enter Try.func86, Try.ntmps86
  go_wp2
  all_goals (go_ret; exact ⟨ret_bool (by go_light; simp [*]), rfl⟩)
theorem daysof_bad (y m : Int) (w : World) (h : ¬ (1899 ≤ y ∧ y ≤ 2100 ∧ 1 ≤ m ∧ m ≤ 12)) :
    Calls Try.prog 87 #[.int .i64 y, .int .i64 m] w fun e w' => e = .returned (.tuple #[.int .i64 0, .int .i64 2]) ∧ w = w' := by
  by_cases hy : 1899 ≤ y ∧ y ≤ 2100
  · have hd : decide (1899 ≤ y ∧ y ≤ 2100) = true := by simpa using hy
    have hm : decide (1 ≤ m ∧ m ≤ 12) = false := by simp; omega
    clear hy h
    go_enter Try.func87, Try.ntmps87
    go_wp2_with (go_at_call 42; refine (in_any _ _ _ _).mono ?_; rintro e w' ⟨rfl, rfl⟩)
    go_ret2
    exact ⟨rfl, rfl⟩
  · have hd : decide (1899 ≤ y ∧ y ≤ 2100) = false := by simpa using hy
    clear hy h
    go_enter Try.func87, Try.ntmps87
    go_wp2_with (go_at_call 42; refine (in_any _ _ _ _).mono ?_; rintro e w' ⟨rfl, rfl⟩)
    go_ret2
    exact ⟨rfl, rfl⟩
theorem daysof_ok (y m : Int) (w : World) (h1 : 1899 ≤ y) (h2 : y ≤ 2100) (h3 : 1 ≤ m) (h4 : m ≤ 12) :
    Calls Try.prog 87 #[.int .i64 y, .int .i64 m] w fun e w' => e = .returned (.tuple #[.int .i64 (dim y m), .int .i64 0]) ∧ w = w' := by
  have hd : decide (1899 ≤ y ∧ y ≤ 2100) = true := by simp; omega
  have hm : decide (1 ≤ m ∧ m ≤ 12) = true := by simp; omega
  have HF := Lib.hid (dim_eq y m h3 h4)
  go_enter Try.func87, Try.ntmps87
  go_wp2_with (first | (go_at_call 42; refine (in_any _ _ _ _).mono ?_; rintro e w' ⟨rfl, rfl⟩) | (go_at_call 86; refine (isleap_any _ _).mono ?_; rintro e w' ⟨rfl, rfl⟩))
  all_goals
    go_ret2
    refine ⟨ret_i2 ?_ rfl, rfl⟩
    go_light
    rw [HF.out]
    clear HF hd hm
    simp only [beq_iff_eq, beq_eq_false_iff_ne, ne_eq] at *
    unfold lp
    (repeat' split) <;> first | omega | simp_all
end Go.Proofs.Ytlhidbbphngpcaa
