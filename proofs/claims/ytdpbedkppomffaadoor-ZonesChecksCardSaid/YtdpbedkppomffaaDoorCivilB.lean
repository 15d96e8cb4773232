/-
  What the functions of package civil on days of a month and moments answer.
-/
import Derived.Test.YtdpbedkppomffaaDoorWinB
import Derived.Deep.Light
namespace Go.Proofs.YtdpbedkppomffaaDoor
set_option linter.unusedVariables false
set_option linter.unusedSimpArgs false
open Go.ChangeShapes Go.WideShapes Go.ChangeAt Go.RowKit Civ

set_option maxHeartbeats 1000000 in
theorem checkday_any (k a n : Int) (w : World) :
    Calls Tryd.prog 93 #[.agg #[.int .i64 k, .int .i64 a, .int .i64 n]] w fun e w' => e = .returned (.int .i64 (chk k a n)) ∧ Below w.heap.size w w' := by
  go_enter Tryd.func93, Tryd.ntmps93
  go_wp2
  all_goals
    go_ret
    refine ⟨ret_int ?_, (Below.refl _ _).alloc (Nat.le_refl _) _⟩
    go_light
    try simp only [beq_iff, beq_iff_eq, bne_iff_ne, bne_eq_false_iff_eq, ne_eq] at *
    unfold chk
    split <;> (try split) <;> omega
theorem checkmoment_any (mo k a n t c : Int) (w : World) :
    Calls Tryd.prog 49 #[.agg #[.int .i64 mo, .int .i64 k, .int .i64 a, .int .i64 n, .int .i64 t, .int .i64 c]] w fun e w' => e = .returned (.int .i64 (chkM mo k a n t c)) ∧ Below w.heap.size w w' := by
  by_cases h : chk k a n = 0
  · have hb : (chk k a n != 0) = false := by simp [h]
    have H := Lib.hid h
    clear h
    go_enter Tryd.func49, Tryd.ntmps49
    go_wp2_with fail
    refine (checkday_any _ _ _ _).mono ?_; rintro e w1 ⟨rfl, hb1⟩
    obtain ⟨hc, hf⟩ := bcell hb1
    go_wp2
    all_goals
      go_ret
      refine ⟨ret_int ?_, below_in hb1⟩
      go_light
      unfold chkM
      rw [if_neg (by rw [H.out]; simp)]
      clear hb1
      split <;> (try split) <;> omega
  · have hb : (chk k a n != 0) = true := by simp [h]
    have H := Lib.hid h
    clear h
    go_enter Tryd.func49, Tryd.ntmps49
    go_wp2_with fail
    refine (checkday_any _ _ _ _).mono ?_; rintro e w1 ⟨rfl, hb1⟩
    go_wp2
    go_ret
    refine ⟨ret_int ?_, below_in hb1⟩
    unfold chkM
    rw [if_pos H.out]
end Go.Proofs.YtdpbedkppomffaaDoor
