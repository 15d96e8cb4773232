/-
  The laws on days that read no table: what each law's own function answers.
-/
import Derived.Test.YtalaejdbmjbocaaCivilB
import Derived.Test.YtalaejdbmjbocaaKeep
import Derived.Test.YtalaejdbmjbocaaRefC
namespace Go.Proofs.Ytalaejdbmjbocaa
set_option linter.unusedVariables false
set_option linter.unusedSimpArgs false
open Go.ChangeShapes Go.WideShapes Go.ChangeAt Go.RowKit Civ

theorem walkCivilLeaps (a0 : Int) (w : World) (w0 : (Lit.int .i64 a0).wf = true) :
    Calls Try.prog 4 #[.int .i64 a0] w fun e w' => e = .returned (.bool true) ∧ Below w.heap.size w w' := by
  clear w0
  go_enter Try.func4, Try.ntmps4
  go_wp2_with (first | (go_at_call 10; refine (leap_any _ _).mono ?_; rintro e w' ⟨rfl, rfl⟩) | (go_at_call 11; refine (isleap_any _ _).mono ?_; rintro e w' ⟨rfl, rfl⟩))
  all_goals (go_ret; exact ⟨ret_bool (by simp), Below.refl _ _⟩)
theorem walkCivilWeekdays (a0 : Int) (w : World) (w0 : (Lit.int .i64 a0).wf = true) :
    Calls Try.prog 5 #[.int .i64 a0] w fun e w' => e = .returned (.bool true) ∧ Below w.heap.size w w' := by
  clear w0
  have hb := wd_bd a0
  have hm : wd a0 % 7 = wd a0 := by omega
  have HM := Lib.hid hm
  clear hm
  by_cases h1 : 1099511627776 < a0
  · go_enter Try.func5, Try.ntmps5
    go_wp2
    go_ret
    exact ⟨rfl, Below.refl _ _⟩
  · by_cases h2 : a0 < -1099511627776
    · go_enter Try.func5, Try.ntmps5
      go_wp2
      go_ret
      exact ⟨rfl, Below.refl _ _⟩
    · go_enter Try.func5, Try.ntmps5
      go_wp2_with (first | (go_at_call 12; refine (weekday_any _ _ (by omega) (by omega)).mono ?_; rintro e w' ⟨rfl, rfl⟩) | (go_at_call 13; refine (weekdayof_any _ _ (by omega) (by omega)).mono ?_; rintro e w' ⟨rfl, rfl⟩))
      go_ret
      exact ⟨ret_bool (by rw [HM.out]; simp), Below.refl _ _⟩
theorem wd_next (n : Int) : wd (n + 1) = (wd n + 1) % 7 := by unfold wd; omega
theorem wd_week (n : Int) : wd (n + 7) = wd n := by unfold wd; omega
theorem walkWeekdaysTurn (a0 : Int) (w : World) (w0 : (Lit.int .i64 a0).wf = true) :
    Calls Try.prog 6 #[.int .i64 a0] w fun e w' => e = .returned (.bool true) ∧ Below w.heap.size w w' := by
  go_enter Try.func6, Try.ntmps6
  go_wp2_with fail
  refine (picked_any _ _ _ w0 (by omega) (by omega)).mono ?_
  rintro e w' ⟨p, hp1, hp2, rfl, rfl⟩
  clear w0
  have hb := wd_bd (p - 50000)
  have q1 : (wd (p - 50000 + 1) == (wd (p - 50000) + 1) % 7) = true := by rw [beq_iff_eq]; exact wd_next _
  have q2 : (wd (p - 50000 + 7) == wd (p - 50000)) = true := by rw [beq_iff_eq]; exact wd_week _
  have q3 : (wd 0 == 4) = true := by decide
  go_wp2_with (go_at_call 12; refine (weekday_any _ _ (by omega) (by omega)).mono ?_; rintro e w' ⟨rfl, rfl⟩)
  all_goals (go_ret; exact ⟨ret_bool (by simp [*]), Below.refl _ _⟩)
theorem walkCivilWindow (a0 : Int) (w : World) (w0 : (Lit.int .i64 a0).wf = true) :
    Calls Try.prog 7 #[.int .i64 a0] w fun e w' => e = .returned (.bool true) ∧ Below w.heap.size w w' := by
  clear w0
  go_enter Try.func7, Try.ntmps7
  go_wp2_with (first | (go_at_call 15; refine (window_any _).mono ?_; rintro e w' ⟨rfl, rfl⟩) | (go_at_call 16; refine (windowof_any _).mono ?_; rintro e w' ⟨rfl, rfl⟩))
  go_ret
  exact ⟨rfl, Below.refl _ _⟩
theorem walkCivilChecks (k a n : Int) (w : World) (w0 : (Lit.int .i64 k).wf = true) (w1 : (Lit.int .i64 a).wf = true) (w2 : (Lit.int .i64 n).wf = true) :
    Calls Try.prog 8 #[.agg #[.int .i64 k, .int .i64 a, .int .i64 n]] w fun e w' => e = .returned (.bool true) ∧ Below w.heap.size w w' := by
  clear w0 w1 w2
  go_enter Try.func8, Try.ntmps8
  go_wp2_with fail
  refine (checkday_any _ _ _ _).mono ?_; rintro e w1 ⟨rfl, hb1⟩
  obtain ⟨hc, hf⟩ := bcell hb1
  go_wp2_with fail
  refine (dayfault_any _ _ _ _).mono ?_; rintro e w2 ⟨rfl, hb2⟩
  go_wp2
  go_ret
  exact ⟨ret_bool (by simp), below_two hb1 hb2⟩
theorem walkCivilMoments (mo k a n t c : Int) (w : World) (w0 : (Lit.int .i64 mo).wf = true) (w1 : (Lit.int .i64 k).wf = true) (w2 : (Lit.int .i64 a).wf = true) (w3 : (Lit.int .i64 n).wf = true) (w4 : (Lit.int .i64 t).wf = true) (w5 : (Lit.int .i64 c).wf = true) :
    Calls Try.prog 9 #[.agg #[.int .i64 mo, .int .i64 k, .int .i64 a, .int .i64 n, .int .i64 t, .int .i64 c]] w fun e w' => e = .returned (.bool true) ∧ Below w.heap.size w w' := by
  clear w0 w1 w2 w3 w4 w5
  go_enter Try.func9, Try.ntmps9
  go_wp2_with fail
  refine (checkmoment_any _ _ _ _ _ _ _).mono ?_; rintro e w1 ⟨rfl, hb1⟩
  obtain ⟨hc, hf⟩ := bcell hb1
  go_wp2_with fail
  refine (momentfault_any _ _ _ _ _ _ _).mono ?_; rintro e w2 ⟨rfl, hb2⟩
  go_wp2
  go_ret
  exact ⟨ret_bool (by simp), below_two hb1 hb2⟩
end Go.Proofs.Ytalaejdbmjbocaa
