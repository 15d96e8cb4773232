/-
  The law of code.Verify.
-/
import Derived.Test.YtpnmaopompfalaaCodH
namespace Go.Proofs.Ytpnmaopompfalaa
set_option linter.unusedVariables false
set_option linter.unusedSimpArgs false
open Go.ChangeShapes Go.WideShapes Go.ChangeAt Go.RowKit

theorem verE_bad {p : Prg} (h : prgE p ≠ 0) : verE p = (0, 0, prgE p) := by unfold verE; rw [if_pos h]
theorem verify_any (p : Prg) (vc vp va : Value) (w : World) (hp : PrgAt w vc vp va p) {a b c : Int} (h : verE p = (a, b, c)) :
    Calls Try.prog 41 #[.agg #[vc, vp, va]] w fun e w' => e = .returned (.tuple #[.int .i64 a, .int .i64 b, .int .i64 c]) ∧ Below w.heap.size w w' := by
  by_cases hg : prgE p = 0
  · refine (verify_good p vc vp va w hp hg).mono ?_
    rintro e w' ⟨he, hb⟩
    rw [h] at he
    exact ⟨he, hb⟩
  · refine (verify_bad p vc vp va w hp hg).mono ?_
    rintro e w' ⟨he, hb⟩
    rw [verE_bad hg] at h
    cases h
    exact ⟨he, hb⟩
theorem verifyOf_any (p : Prg) (vc vp va : Value) (w : World) (hp : PrgAt w vc vp va p) {a b c : Int} (h : verE p = (a, b, c)) :
    Calls Try.prog 42 #[.agg #[vc, vp, va]] w fun e w' => e = .returned (.tuple #[.int .i64 a, .int .i64 b, .int .i64 c]) ∧ Below w.heap.size w w' := by
  by_cases hg : prgE p = 0
  · refine (verifyOf_good p vc vp va w hp hg).mono ?_
    rintro e w' ⟨he, hb⟩
    rw [h] at he
    exact ⟨he, hb⟩
  · refine (verifyOf_bad p vc vp va w hp hg).mono ?_
    rintro e w' ⟨he, hb⟩
    rw [verE_bad hg] at h
    cases h
    exact ⟨he, hb⟩
theorem walkCodeVerifies (vc vp va : Value) (p : Prg) (w : World) (hp : PrgAt w vc vp va p) :
    Calls Try.prog 10 #[.agg #[vc, vp, va]] w fun e w' => e = .returned (.bool true) ∧ Below w.heap.size w w' := by
  obtain ⟨a, b, c, h⟩ : ∃ a b c, verE p = (a, b, c) := ⟨_, _, _, rfl⟩
  have HP := Lib.hid hp
  have HV := Lib.hid h
  have bw : Below w.heap.size w (w.alloc (.cells #[vc, vp, va] 58)) := (Below.refl _ _).alloc (Nat.le_refl _) _
  clear hp h
  go_enter Try.func10, Try.ntmps10
  go_wp2_with fail
  refine (verify_any p _ _ _ _ (HP.out.mono bw) HV.out).mono ?_; rintro e w1 ⟨rfl, hb1⟩
  obtain ⟨hc, hg⟩ := bcell hb1
  go_wp2_with fail
  refine (verifyOf_any p _ _ _ _ ((HP.out.mono bw).mono hb1) HV.out).mono ?_; rintro e w2 ⟨rfl, hb2⟩
  go_wp2
  go_ret
  exact ⟨ret_bool (by simp), below_two hb1 hb2⟩
end Go.Proofs.Ytpnmaopompfalaa
