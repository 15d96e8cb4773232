/-
  What the document's functions on days and moments answer.
-/
import Derived.Test.YtalaejdbmjbocaaKit
import Derived.Deep.Light
import Derived.Deep.LoopGhost
namespace Go.Proofs.Ytalaejdbmjbocaa
set_option linter.unusedVariables false
set_option linter.unusedSimpArgs false
open Go.ChangeShapes Go.WideShapes Go.ChangeAt Go.RowKit Civ

theorem in_any (n lo hi : Int) (w : World) :
    Calls Try.prog 23 #[.int .i64 n, .int .i64 lo, .int .i64 hi] w fun e w' => e = .returned (.bool (decide (lo ≤ n ∧ n ≤ hi))) ∧ w = w' := by
  go_enter Try.func23, Try.ntmps23
  go_wp2
  all_goals (go_ret; exact ⟨ret_bool (by go_light; first | (simp [*]; done) | (simp [*]; omega)), rfl⟩)
theorem isleap_any (y : Int) (w : World) :
    Calls Try.prog 11 #[.int .i64 y] w fun e w' => e = .returned (.bool (leapB y)) ∧ w = w' := by
  rw [leap_tmod']
  go_enter Try.func11, Try.ntmps11
  go_wp2
  all_goals (go_ret; exact ⟨ret_bool (by go_light; simp [*]), rfl⟩)
theorem weekdayof_any (n : Int) (w : World) (h1 : -2199023255552 ≤ n) (h2 : n ≤ 2199023255552) :
    Calls Try.prog 13 #[.int .i64 n] w fun e w' => e = .returned (.int .i64 (wd n)) ∧ w = w' := by
  have hb := tmod7 n
  by_cases h : n.tmod 7 < 0
  · go_enter Try.func13, Try.ntmps13
    go_wp2
    go_ret
    exact ⟨ret_int (wd_b n h), rfl⟩
  · go_enter Try.func13, Try.ntmps13
    go_wp2
    go_ret
    exact ⟨ret_int (wd_c n), rfl⟩
theorem daysof_bad (y m : Int) (w : World) (h : ¬ (1899 ≤ y ∧ y ≤ 2100 ∧ 1 ≤ m ∧ m ≤ 12)) :
    Calls Try.prog 24 #[.int .i64 y, .int .i64 m] w fun e w' => e = .returned (.tuple #[.int .i64 0, .int .i64 2]) ∧ w = w' := by
  by_cases hy : 1899 ≤ y ∧ y ≤ 2100
  · have hd : decide (1899 ≤ y ∧ y ≤ 2100) = true := by simpa using hy
    have hm : decide (1 ≤ m ∧ m ≤ 12) = false := by simp; omega
    clear hy h
    go_enter Try.func24, Try.ntmps24
    go_wp2_with (go_at_call 23; refine (in_any _ _ _ _).mono ?_; rintro e w' ⟨rfl, rfl⟩)
    go_ret2
    exact ⟨rfl, rfl⟩
  · have hd : decide (1899 ≤ y ∧ y ≤ 2100) = false := by simpa using hy
    clear hy h
    go_enter Try.func24, Try.ntmps24
    go_wp2_with (go_at_call 23; refine (in_any _ _ _ _).mono ?_; rintro e w' ⟨rfl, rfl⟩)
    go_ret2
    exact ⟨rfl, rfl⟩
theorem daysof_ok (y m : Int) (w : World) (h1 : 1899 ≤ y) (h2 : y ≤ 2100) (h3 : 1 ≤ m) (h4 : m ≤ 12) :
    Calls Try.prog 24 #[.int .i64 y, .int .i64 m] w fun e w' => e = .returned (.tuple #[.int .i64 (dim y m), .int .i64 0]) ∧ w = w' := by
  have hd : decide (1899 ≤ y ∧ y ≤ 2100) = true := by simp; omega
  have hm : decide (1 ≤ m ∧ m ≤ 12) = true := by simp; omega
  have HF := Lib.hid (dim_eq y m h3 h4)
  go_enter Try.func24, Try.ntmps24
  go_wp2_with (first | (go_at_call 23; refine (in_any _ _ _ _).mono ?_; rintro e w' ⟨rfl, rfl⟩) | (go_at_call 11; refine (isleap_any _ _).mono ?_; rintro e w' ⟨rfl, rfl⟩))
  all_goals
    go_ret2
    refine ⟨ret_i2 ?_ rfl, rfl⟩
    go_light
    rw [HF.out]
    clear HF hd hm
    simp only [beq_iff_eq, beq_eq_false_iff_ne, ne_eq] at *
    unfold lp
    (repeat' split) <;> first | omega | simp_all
set_option maxHeartbeats 1000000 in
theorem dayfault_any (k a n : Int) (w : World) :
    Calls Try.prog 18 #[.agg #[.int .i64 k, .int .i64 a, .int .i64 n]] w fun e w' => e = .returned (.int .i64 (chk k a n)) ∧ Below w.heap.size w w' := by
  go_enter Try.func18, Try.ntmps18
  go_wp2_with (go_at_call 23; refine (in_any _ _ _ _).mono ?_; rintro e w' ⟨rfl, rfl⟩)
  all_goals
    go_ret
    refine ⟨ret_int ?_, (Below.refl _ _).alloc (Nat.le_refl _) _⟩
    go_light
    try simp only [beq_iff, beq_iff_eq, beq_eq_false_iff_ne, bne_iff_ne, bne_eq_false_iff_eq, ne_eq, decide_eq_true_eq, decide_eq_false_iff_not, Bool.not_eq_eq_eq_not, Bool.not_true, Bool.not_false] at *
    unfold chk
    split <;> (try split) <;> omega
theorem momentfault_any (mo k a n t c : Int) (w : World) :
    Calls Try.prog 20 #[.agg #[.int .i64 mo, .int .i64 k, .int .i64 a, .int .i64 n, .int .i64 t, .int .i64 c]] w fun e w' => e = .returned (.int .i64 (chkM mo k a n t c)) ∧ Below w.heap.size w w' := by
  by_cases h : chk k a n = 0
  · have hb : (chk k a n != 0) = false := by simp [h]
    have H := Lib.hid h
    clear h
    go_enter Try.func20, Try.ntmps20
    go_wp2_with fail
    refine (dayfault_any _ _ _ _).mono ?_; rintro e w1 ⟨rfl, hb1⟩
    obtain ⟨hc, hf⟩ := bcell hb1
    go_wp2_with (go_at_call 23; refine (in_any _ _ _ _).mono ?_; rintro e w' ⟨rfl, rfl⟩)
    all_goals
      go_ret
      refine ⟨ret_int ?_, below_in hb1⟩
      go_light
      clear hc hf hb1
      try simp only [beq_iff, beq_iff_eq, beq_eq_false_iff_ne, bne_iff_ne, bne_eq_false_iff_eq, ne_eq, decide_eq_true_eq, decide_eq_false_iff_not, Bool.not_eq_eq_eq_not, Bool.not_true, Bool.not_false] at *
      unfold chkM
      rw [if_neg (by rw [H.out]; simp)]
      split <;> (try split) <;> omega
  · have hb : (chk k a n != 0) = true := by simp [h]
    have H := Lib.hid h
    clear h
    go_enter Try.func20, Try.ntmps20
    go_wp2_with fail
    refine (dayfault_any _ _ _ _).mono ?_; rintro e w1 ⟨rfl, hb1⟩
    go_wp2
    go_ret
    refine ⟨ret_int ?_, below_in hb1⟩
    unfold chkM
    rw [if_pos H.out]
end Go.Proofs.Ytalaejdbmjbocaa
