/-
  What the functions of package civil answer.
-/
import Derived.Test.YtalaejdbmjbocaaDoorTab
namespace Go.Proofs.YtalaejdbmjbocaaDoor
set_option linter.unusedVariables false
set_option linter.unusedSimpArgs false
open Go.ChangeShapes Go.WideShapes Go.ChangeAt Go.RowKit Civ

theorem leap_any (y : Int) (w : World) :
    Calls Tryd.prog 20 #[.int .i64 y] w fun e w' => e = .returned (.bool (leapB y)) ∧ w = w' := by
  rw [leap_tmod]
  go_enter Tryd.func20, Tryd.ntmps20
  go_wp2
  all_goals (go_ret; exact ⟨ret_bool (by simp [*]), rfl⟩)
theorem first_any (y : Int) (w : World) (h1 : 1 ≤ y) (h2 : y ≤ 10000) :
    Calls Tryd.prog 32 #[.int .i64 y] w fun e w' => e = .returned (.int .i64 (fst y)) ∧ w = w' := by
  go_enter Tryd.func32, Tryd.ntmps32
  go_wp2
  go_ret
  exact ⟨ret_int (by unfold fst; omega), rfl⟩
theorem year_any (y : Int) (w : World) :
   Calls Tryd.prog 29 #[.int .i64 y] w fun e w' => e = .returned (.bool (decide (1899 ≤ y ∧ y ≤ 2100))) ∧ w = w' := by
 go_enter Tryd.func29, Tryd.ntmps29
 go_wp2
 all_goals (go_ret; exact ⟨ret_bool (by first | (simp [*]; done) | (simp [*]; omega)), rfl⟩)
theorem ahead_any (y m : Int) (w : World) (hT : Tab w) (h1 : 1 ≤ m) (h2 : m ≤ 12) :
    Calls Tryd.prog 33 #[.int .i64 y, .int .i64 m] w fun e w' => e = .returned (.int .i64 (ah y m)) ∧ w = w' := by
  obtain ⟨k, rfl⟩ : ∃ k : Nat, m = k + 1 := ⟨(m - 1).toNat, by omega⟩
  have hc := hT.1 k (by omega)
  have hb := mon_bd k
  unfold ah
  rw [show ((k : Int) + 1).toNat - 1 = k from by omega]
  by_cases h3 : (2 : Int) < k + 1
  · go_enter Tryd.func33, Tryd.ntmps33
    go_wp2_with (go_at_call 20; refine (leap_any _ _).mono ?_; rintro e w' ⟨rfl, rfl⟩)
    all_goals (go_ret; exact ⟨ret_int (by simp [*]), rfl⟩)
  · go_enter Tryd.func33, Tryd.ntmps33
    go_wp2_with (go_at_call 20; refine (leap_any _ _).mono ?_; rintro e w' ⟨rfl, rfl⟩)
    all_goals (go_ret; exact ⟨ret_int (by simp [*]), rfl⟩)
theorem days_bad (y m : Int) (w : World) (h : ¬ (1899 ≤ y ∧ y ≤ 2100 ∧ 1 ≤ m ∧ m ≤ 12)) :
    Calls Tryd.prog 13 #[.int .i64 y, .int .i64 m] w fun e w' => e = .returned (.tuple #[.int .i64 0, .int .i64 2]) ∧ w = w' := by
  by_cases hy : 1899 ≤ y ∧ y ≤ 2100
  · have hd : decide (1899 ≤ y ∧ y ≤ 2100) = true := by simpa using hy
    by_cases h3 : m < 1
    · go_enter Tryd.func13, Tryd.ntmps13
      go_wp2_with (go_at_call 29; refine (year_any _ _).mono ?_; rintro e w' ⟨rfl, rfl⟩)
      go_ret2
      exact ⟨rfl, rfl⟩
    · have h4 : 12 < m := by omega
      go_enter Tryd.func13, Tryd.ntmps13
      go_wp2_with (go_at_call 29; refine (year_any _ _).mono ?_; rintro e w' ⟨rfl, rfl⟩)
      go_ret2
      exact ⟨rfl, rfl⟩
  · have hd : decide (1899 ≤ y ∧ y ≤ 2100) = false := by simpa using hy
    clear hy h
    go_enter Tryd.func13, Tryd.ntmps13
    go_wp2_with (go_at_call 29; refine (year_any _ _).mono ?_; rintro e w' ⟨rfl, rfl⟩)
    go_ret2
    exact ⟨rfl, rfl⟩
theorem days_ok (y m : Int) (w : World) (hT : Tab w) (h1 : 1899 ≤ y) (h2 : y ≤ 2100) (h3 : 1 ≤ m) (h4 : m ≤ 12) :
    Calls Tryd.prog 13 #[.int .i64 y, .int .i64 m] w fun e w' => e = .returned (.tuple #[.int .i64 (dim y m), .int .i64 0]) ∧ ∃ n, w' = w.drewN n := by
  have hd : decide (1899 ≤ y ∧ y ≤ 2100) = true := by simp; omega
  obtain ⟨k, rfl⟩ : ∃ k : Nat, m = k + 1 := ⟨(m - 1).toNat, by omega⟩
  have hc := hT.1 k (by omega)
  have hc1 := hT.1 (k + 1) (by omega)
  have hb := mon_bd k
  have hb1 := mon_bd (k + 1)
  have hf : dim y (k + 1) = mon (k + 1) - mon k + if ((k : Int) + 1 == 2 && leapB y) = true then 1 else 0 := by
    unfold dim
    rw [show ((k : Int) + 1).toNat = k + 1 from by omega, show k + 1 - 1 = k from by omega]
    simp
  have HF := Lib.hid hf
  clear hf
  go_enter Tryd.func13, Tryd.ntmps13
  go_wp2_with (go_at_call 29; refine (year_any _ _).mono ?_; rintro e w' ⟨rfl, rfl⟩)
  go_quiet (fail)
  go_wp2_with (go_at_call 20; refine (leap_any _ _).mono ?_; rintro e w' ⟨rfl, rfl⟩)
  all_goals (go_ret2; exact ⟨ret_i2 (by rw [HF.out]; simp [*]) rfl, _, rfl⟩)
theorem weekday_any (n : Int) (w : World) (h1 : -2199023255552 ≤ n) (h2 : n ≤ 2199023255552) :
    Calls Tryd.prog 25 #[.int .i64 n] w fun e w' => e = .returned (.int .i64 (wd n)) ∧ w = w' := by
  have hb := tmod7 (n + 4)
  go_enter Tryd.func25, Tryd.ntmps25
  go_wp2
  go_ret
  exact ⟨ret_int (wd_a n), rfl⟩
end Go.Proofs.YtalaejdbmjbocaaDoor
