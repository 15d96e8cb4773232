/-
  What the functions of package civil on days that are told answer.
-/
import Derived.Test.YtdpbedkppomffaaDoorCivilB
namespace Go.Proofs.YtdpbedkppomffaaDoor
set_option linter.unusedVariables false
set_option linter.unusedSimpArgs false
open Go.ChangeShapes Go.WideShapes Go.ChangeAt Go.RowKit Civ

theorem checkday_ok (k a n : Int) (w : World) (h : chk k a n = 0) :
    Calls Tryd.prog 93 #[.agg #[.int .i64 k, .int .i64 a, .int .i64 n]] w fun e w' => e = .returned (.int .i64 0) ∧ Below w.heap.size w w' :=
  (checkday_any k a n w).mono fun e w' ⟨he, hb⟩ => ⟨by rw [he, h], hb⟩
theorem find_err (y m k a n : Int) (w : World) (hT : Tab w) (h : fndE y m k a n ≠ 0) :
    Calls Tryd.prog 76 #[.int .i64 y, .int .i64 m, .agg #[.int .i64 k, .int .i64 a, .int .i64 n]] w fun e w' => e = .returned (.tuple #[.int .i64 0, .int .i64 (fndE y m k a n)]) ∧ Below w.heap.size w w' := by
  by_cases hk : chk k a n = 0
  · have HK := Lib.hid hk
    by_cases hy : 1899 ≤ y ∧ y ≤ 2100 ∧ 1 ≤ m ∧ m ≤ 12
    · have hd : dim y m < n := by unfold fndE at h; simp [hk, hy] at h; omega
      have hE : Hid (fndE y m k a n = 2) := by show fndE y m k a n = 2; unfold fndE; simp [hk, hy, hd]
      obtain ⟨h1, h2, h3, h4⟩ := hy
      clear hk h
      go_enter Tryd.func76, Tryd.ntmps76
      go_wp2_with fail
      refine (checkday_ok _ _ _ _ HK.out).mono ?_; rintro e w1 ⟨rfl, hb1⟩
      obtain ⟨hc, hf⟩ := bcell hb1
      have hT1 : Tab w1 := (hT.alloc _).below hb1
      go_wp2_with fail
      refine (days_ok _ _ _ hT1 h1 h2 h3 h4).mono ?_; rintro e w' ⟨rfl, nn, rfl⟩
      go_wp2
      go_ret2
      exact ⟨by rw [hE.out]; rfl, below_draws (below_in hb1) _⟩
    · have hE : Hid (fndE y m k a n = 2) := by show fndE y m k a n = 2; unfold fndE; simp [hk, hy]
      have HY := Lib.hid hy
      clear hk h hy
      go_enter Tryd.func76, Tryd.ntmps76
      go_wp2_with fail
      refine (checkday_ok _ _ _ _ HK.out).mono ?_; rintro e w1 ⟨rfl, hb1⟩
      obtain ⟨hc, hf⟩ := bcell hb1
      go_wp2_with fail
      refine (days_bad _ _ _ HY.out).mono ?_; rintro e w' ⟨rfl, rfl⟩
      go_wp2
      go_ret2
      exact ⟨by rw [hE.out]; rfl, below_in hb1⟩
  · have hE : Hid (fndE y m k a n = chk k a n) := by show fndE y m k a n = chk k a n; unfold fndE; simp [hk]
    have hb : (chk k a n != 0) = true := by simp [hk]
    clear hk h
    go_enter Tryd.func76, Tryd.ntmps76
    go_wp2_with fail
    refine (checkday_any _ _ _ _).mono ?_; rintro e w1 ⟨rfl, hb1⟩
    go_wp2
    go_ret2
    exact ⟨by rw [hE.out]; rfl, below_in hb1⟩
set_option maxHeartbeats 400000 in
theorem find_ok (y m k a n : Int) (w : World) (hT : Tab w) (h : fndE y m k a n = 0) :
    Calls Tryd.prog 76 #[.int .i64 y, .int .i64 m, .agg #[.int .i64 k, .int .i64 a, .int .i64 n]] w fun e w' => e = .returned (.tuple #[.int .i64 (fnd y m k a n), .int .i64 0]) ∧ Below w.heap.size w w' := by
  obtain ⟨hk, h1, h2, h3, h4, h5⟩ := fndE_zero h
  obtain ⟨g1, g2, g3, g4, g5, g6, g7, g8⟩ := chk_zero hk
  have hd := dim_bd y m h3 h4
  have hb := fst_bd y (by omega) (by omega)
  have ha := ah_bd y m h3 (by omega)
  have HK := Lib.hid hk
  have H8 := Lib.hid g8
  clear hk h g7 g8
  have hw1 := wd_bd (fst y + ah y m - 1 + n)
  have hw2 := wd_bd (fst y + ah y m - 1 + dim y m)
  have hcase : k = 1 ∨ k = 2 ∨ k = 3 ∨ k = 4 := by omega
  rcases hcase with rfl | rfl | rfl | rfl
  all_goals
    go_enter Tryd.func76, Tryd.ntmps76
    go_wp2_with fail
    refine (checkday_ok _ _ _ _ HK.out).mono ?_; rintro e w1 ⟨rfl, hb1⟩
    obtain ⟨hc, hf⟩ := bcell hb1
    have hT1 : Tab w1 := (hT.alloc _).below hb1
    go_wp2_with fail
    refine (days_ok _ _ _ hT1 h1 h2 h3 h4).mono ?_; rintro e w' ⟨rfl, nn, rfl⟩
    go_wp2_with (first | (go_at_call 29; refine (first_any _ _ (by omega) (by omega)).mono ?_; rintro e w' ⟨rfl, rfl⟩) | (go_at_call 30; refine (ahead_any _ _ _ (hT1.drewN _) h3 h4).mono ?_; rintro e w' ⟨rfl, rfl⟩))
  · go_ret2
    exact ⟨ret_i2 (by simp [fnd]) rfl, below_draws (below_in hb1) _⟩
  all_goals
    go_quiet ((go_at_call 112; exact quiet_add_left (weekday_any _ _ (by omega) (by omega))))
    go_wp2
    go_ret2
    refine ⟨ret_i2 ?_ rfl, below_draws (below_draws (below_in hb1) _) _⟩
    go_light
    simp [fnd]
end Go.Proofs.YtdpbedkppomffaaDoor
