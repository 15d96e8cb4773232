/-
  What the document's functions on days that are told and on instants answer.
-/
import Derived.Test.YtdpbedkppomffaaDoorWinB
namespace Go.Proofs.YtdpbedkppomffaaDoor
set_option linter.unusedVariables false
set_option linter.unusedSimpArgs false
open Go.ChangeShapes Go.WideShapes Go.ChangeAt Go.RowKit Civ

theorem dayfault_ok (k a n : Int) (w : World) (h : chk k a n = 0) :
    Calls Tryd.prog 98 #[.agg #[.int .i64 k, .int .i64 a, .int .i64 n]] w fun e w' => e = .returned (.int .i64 0) ∧ Below w.heap.size w w' :=
  (dayfault_any k a n w).mono fun e w' ⟨he, hb⟩ => ⟨by rw [he, h], hb⟩
theorem found_err (y m k a n : Int) (w : World) (h : fndE y m k a n ≠ 0) :
    Calls Tryd.prog 100 #[.int .i64 y, .int .i64 m, .agg #[.int .i64 k, .int .i64 a, .int .i64 n]] w fun e w' => e = .returned (.tuple #[.int .i64 0, .int .i64 (fndE y m k a n)]) ∧ Below w.heap.size w w' := by
  by_cases hk : chk k a n = 0
  · have HK := Lib.hid hk
    by_cases hy : 1899 ≤ y ∧ y ≤ 2100 ∧ 1 ≤ m ∧ m ≤ 12
    · have hd : dim y m < n := by unfold fndE at h; simp [hk, hy] at h; omega
      have hE : Hid (fndE y m k a n = 2) := by show fndE y m k a n = 2; unfold fndE; simp [hk, hy, hd]
      obtain ⟨h1, h2, h3, h4⟩ := hy
      clear hk h
      go_enter Tryd.func100, Tryd.ntmps100
      go_wp2_with fail
      refine (dayfault_ok _ _ _ _ HK.out).mono ?_; rintro e w1 ⟨rfl, hb1⟩
      obtain ⟨hc, hf⟩ := bcell hb1
      go_wp2_with fail
      refine (daysof_ok _ _ _ h1 h2 h3 h4).mono ?_; rintro e w' ⟨rfl, rfl⟩
      go_wp2
      go_ret2
      exact ⟨by rw [hE.out]; rfl, below_in hb1⟩
    · have hE : Hid (fndE y m k a n = 2) := by show fndE y m k a n = 2; unfold fndE; simp [hk, hy]
      have HY := Lib.hid hy
      clear hk h hy
      go_enter Tryd.func100, Tryd.ntmps100
      go_wp2_with fail
      refine (dayfault_ok _ _ _ _ HK.out).mono ?_; rintro e w1 ⟨rfl, hb1⟩
      obtain ⟨hc, hf⟩ := bcell hb1
      go_wp2_with fail
      refine (daysof_bad _ _ _ HY.out).mono ?_; rintro e w' ⟨rfl, rfl⟩
      go_wp2
      go_ret2
      exact ⟨by rw [hE.out]; rfl, below_in hb1⟩
  · have hE : Hid (fndE y m k a n = chk k a n) := by show fndE y m k a n = chk k a n; unfold fndE; simp [hk]
    have hb : (chk k a n != 0) = true := by simp [hk]
    clear hk h
    go_enter Tryd.func100, Tryd.ntmps100
    go_wp2_with fail
    refine (dayfault_any _ _ _ _).mono ?_; rintro e w1 ⟨rfl, hb1⟩
    go_wp2
    go_ret2
    exact ⟨by rw [hE.out]; rfl, below_in hb1⟩
set_option maxHeartbeats 800000 in
theorem found_ok (y m k a n : Int) (w : World) (h : fndE y m k a n = 0) :
    Calls Tryd.prog 100 #[.int .i64 y, .int .i64 m, .agg #[.int .i64 k, .int .i64 a, .int .i64 n]] w fun e w' => e = .returned (.tuple #[.int .i64 (fnd y m k a n), .int .i64 0]) ∧ Below w.heap.size w w' := by
  obtain ⟨hk, h1, h2, h3, h4, h5⟩ := fndE_zero h
  obtain ⟨g1, g2, g3, g4, g5, g6, g7, g8⟩ := chk_zero hk
  have hd := dim_bd y m h3 h4
  have hb := fst_bd y (by omega) (by omega)
  have ha := ah_bd y m h3 (by omega)
  have HK := Lib.hid hk
  clear hk h g7 g8
  have hcase : k = 1 ∨ k = 2 ∨ k = 3 ∨ k = 4 := by omega
  rcases hcase with rfl | rfl | rfl | rfl
  all_goals
    go_enter Tryd.func100, Tryd.ntmps100
    go_wp2_with fail
    refine (dayfault_ok _ _ _ _ HK.out).mono ?_; rintro e w1 ⟨rfl, hb1⟩
    obtain ⟨hc, hf⟩ := bcell hb1
    go_wp2_with fail
    refine (daysof_ok _ _ _ h1 h2 h3 h4).mono ?_; rintro e w' ⟨rfl, rfl⟩
    go_wp2
    go_quiet ((go_at_call 136; exact quiet_left (daysto_any _ _ _ h1 h2 h3 h4)))
    go_wp2_with (go_at_call 136; refine (daysto_any _ _ _ h1 h2 h3 h4).mono ?_; rintro e w' ⟨rfl, rfl⟩)
  · go_ret2
    exact ⟨ret_i2 (by simp [fnd]; try omega) rfl, below_draws (below_in hb1) _⟩
  · obtain ⟨N, hN⟩ : ∃ N : Int, N = fst y + ah y m + dim y m - 1 := ⟨_, rfl⟩
    rw [← hN]
    have hNb : -720000 ≤ N ∧ N ≤ 3700000 := by omega
    have HN := Lib.hid hN
    clear hN
    obtain ⟨J, hJ⟩ : ∃ J : Int, J = (wd N - a + 7) % 7 := ⟨_, rfl⟩
    have hJb : 0 ≤ J ∧ J ≤ 6 := by omega
    have HJ := Lib.hid hJ
    clear hJ hb ha hd
    go_loopw [10] (fun v wr => ∃ j : Int, 0 ≤ j ∧ j ≤ J ∧ v = .int .i64 (N + -j) ∧ ∃ q, wr = w1.drewN q) (fun v _ => (J - (intOf v - N)*(-1)).toNat)
    case atStart => exact ⟨0, by omega, by omega, by simp, _, rfl⟩
    case round =>
      obtain ⟨j, hj1, hj2, rfl, q, rfl⟩ := hrel
      have hiff := wd_down N a j g3 g4 hj1 (by rw [← HJ.out]; exact hj2)
      rw [← HJ.out] at hiff
      by_cases hjJ : j < J
      · have ht : (wd (N + -j) != a) = true := by
          rw [bne_iff_ne]; intro hh; have := hiff.1 hh; omega
        clear hiff
        go_wp2
        go_quiet ((go_at_call 137; exact quiet_add_left (weekdayof_any _ _ (by omega) (by omega))))
        go_wp2
        go_roundw
        case rel => exact ⟨j + 1, by omega, by omega, by go_num, _, rfl⟩
        case measure => simp [intOf]; omega
      · have hjj : j = J := by omega
        have ht : (wd (N + -j) != a) = false := by
          rw [bne_eq_false_iff_eq]; exact hiff.2 hjj
        have HJJ := Lib.hid hjj
        clear hiff hjj
        go_wp2
        go_quiet ((go_at_call 137; exact quiet_add_left (weekdayof_any _ _ (by omega) (by omega))))
        go_wp2
        go_ret2
        refine ⟨ret_i2 ?_ rfl, below_draws (below_draws (below_in hb1) _) _⟩
        go_light
        rw [HJJ.out, HJ.out]
        have hz := HN.out
        simp only [fnd]
        simp
        rw [show fst y + ah y m - 1 + dim y m = N by omega]; omega
  · obtain ⟨N, hN⟩ : ∃ N : Int, N = fst y + ah y m + n - 1 := ⟨_, rfl⟩
    rw [← hN]
    have hNb : -720000 ≤ N ∧ N ≤ 3700000 := by omega
    have HN := Lib.hid hN
    clear hN
    obtain ⟨J, hJ⟩ : ∃ J : Int, J = (a - wd N + 7) % 7 := ⟨_, rfl⟩
    have hJb : 0 ≤ J ∧ J ≤ 6 := by omega
    have HJ := Lib.hid hJ
    clear hJ hb ha hd
    go_loopw [10] (fun v wr => ∃ j : Int, 0 ≤ j ∧ j ≤ J ∧ v = .int .i64 (N + j) ∧ ∃ q, wr = w1.drewN q) (fun v _ => (J - (intOf v - N)*(1)).toNat)
    case atStart => exact ⟨0, by omega, by omega, by simp, _, rfl⟩
    case round =>
      obtain ⟨j, hj1, hj2, rfl, q, rfl⟩ := hrel
      have hiff := wd_up N a j g3 g4 hj1 (by rw [← HJ.out]; exact hj2)
      rw [← HJ.out] at hiff
      by_cases hjJ : j < J
      · have ht : (wd (N + j) != a) = true := by
          rw [bne_iff_ne]; intro hh; have := hiff.1 hh; omega
        clear hiff
        go_wp2
        go_quiet ((go_at_call 137; exact quiet_add_left (weekdayof_any _ _ (by omega) (by omega))))
        go_wp2
        go_roundw
        case rel => exact ⟨j + 1, by omega, by omega, by go_num, _, rfl⟩
        case measure => simp [intOf]; omega
      · have hjj : j = J := by omega
        have ht : (wd (N + j) != a) = false := by
          rw [bne_eq_false_iff_eq]; exact hiff.2 hjj
        have HJJ := Lib.hid hjj
        clear hiff hjj
        go_wp2
        go_quiet ((go_at_call 137; exact quiet_add_left (weekdayof_any _ _ (by omega) (by omega))))
        go_wp2
        go_ret2
        refine ⟨ret_i2 ?_ rfl, below_draws (below_draws (below_in hb1) _) _⟩
        go_light
        rw [HJJ.out, HJ.out]
        have hz := HN.out
        simp only [fnd]
        simp
        rw [show fst y + ah y m - 1 + n = N by omega]; try omega
  · obtain ⟨N, hN⟩ : ∃ N : Int, N = fst y + ah y m + n - 1 := ⟨_, rfl⟩
    rw [← hN]
    have hNb : -720000 ≤ N ∧ N ≤ 3700000 := by omega
    have HN := Lib.hid hN
    clear hN
    obtain ⟨J, hJ⟩ : ∃ J : Int, J = (wd N - a + 7) % 7 := ⟨_, rfl⟩
    have hJb : 0 ≤ J ∧ J ≤ 6 := by omega
    have HJ := Lib.hid hJ
    clear hJ hb ha hd
    go_loopw [10] (fun v wr => ∃ j : Int, 0 ≤ j ∧ j ≤ J ∧ v = .int .i64 (N + -j) ∧ ∃ q, wr = w1.drewN q) (fun v _ => (J - (intOf v - N)*(-1)).toNat)
    case atStart => exact ⟨0, by omega, by omega, by simp, _, rfl⟩
    case round =>
      obtain ⟨j, hj1, hj2, rfl, q, rfl⟩ := hrel
      have hiff := wd_down N a j g3 g4 hj1 (by rw [← HJ.out]; exact hj2)
      rw [← HJ.out] at hiff
      by_cases hjJ : j < J
      · have ht : (wd (N + -j) != a) = true := by
          rw [bne_iff_ne]; intro hh; have := hiff.1 hh; omega
        clear hiff
        go_wp2
        go_quiet ((go_at_call 137; exact quiet_add_left (weekdayof_any _ _ (by omega) (by omega))))
        go_wp2
        go_roundw
        case rel => exact ⟨j + 1, by omega, by omega, by go_num, _, rfl⟩
        case measure => simp [intOf]; omega
      · have hjj : j = J := by omega
        have ht : (wd (N + -j) != a) = false := by
          rw [bne_eq_false_iff_eq]; exact hiff.2 hjj
        have HJJ := Lib.hid hjj
        clear hiff hjj
        go_wp2
        go_quiet ((go_at_call 137; exact quiet_add_left (weekdayof_any _ _ (by omega) (by omega))))
        go_wp2
        go_ret2
        refine ⟨ret_i2 ?_ rfl, below_draws (below_draws (below_in hb1) _) _⟩
        go_light
        rw [HJJ.out, HJ.out]
        have hz := HN.out
        simp only [fnd]
        simp
        rw [show fst y + ah y m - 1 + n = N by omega]; omega
theorem momentfault_ok (mo k a n t c : Int) (w : World) (h : chkM mo k a n t c = 0) :
    Calls Tryd.prog 62 #[.agg #[.int .i64 mo, .int .i64 k, .int .i64 a, .int .i64 n, .int .i64 t, .int .i64 c]] w fun e w' => e = .returned (.int .i64 0) ∧ Below w.heap.size w w' :=
  (momentfault_any mo k a n t c w).mono fun e w' ⟨he, hb⟩ => ⟨by rw [he, h], hb⟩
theorem instantof_err (y mo k a n t c o s : Int) (w : World) (h : insE y mo k a n t c o s ≠ 0) :
    Calls Tryd.prog 101 #[.int .i64 y, .agg #[.int .i64 mo, .int .i64 k, .int .i64 a, .int .i64 n, .int .i64 t, .int .i64 c], .int .i64 o, .int .i64 s] w fun e w' => e = .returned (.tuple #[.int .i64 0, .int .i64 (insE y mo k a n t c o s)]) ∧ Below w.heap.size w w' := by
  by_cases hk : chkM mo k a n t c = 0
  · have HK := Lib.hid hk
    by_cases hy : -86400 ≤ o ∧ o ≤ 86400 ∧ -86400 ≤ s ∧ s ≤ 86400
    · have hE : Hid (insE y mo k a n t c o s = fndE y mo k a n) := by show insE y mo k a n t c o s = _; unfold insE; simp [hk, hy]
      rw [hE.out] at h
      have hb : (fndE y mo k a n != 0) = true := by simp [h]
      have H := Lib.hid h
      obtain ⟨h1, h2, h3, h4⟩ := hy
      have d1 : decide (-86400 ≤ o ∧ o ≤ 86400) = true := by simp; omega
      have d2 : decide (-86400 ≤ s ∧ s ≤ 86400) = true := by simp; omega
      clear hk h h1 h2 h3 h4
      go_enter Tryd.func101, Tryd.ntmps101
      go_wp2_with fail
      refine (momentfault_ok _ _ _ _ _ _ _ HK.out).mono ?_; rintro e w1 ⟨rfl, hb1⟩
      obtain ⟨hc, hf⟩ := bcell hb1
      go_wp2_with (first | (go_at_call 61; refine (in_any _ _ _ _).mono ?_; rintro e w' ⟨rfl, rfl⟩) | (go_at_call 100; refine (found_err _ _ _ _ _ _ H.out).mono ?_; rintro e w2 ⟨rfl, hb2⟩))
      go_ret2
      exact ⟨by rw [hE.out]; rfl, below_two hb1 hb2⟩
    · have hE : Hid (insE y mo k a n t c o s = 2) := by show insE y mo k a n t c o s = _; unfold insE; simp [hk, hy]
      have hcase : decide (-86400 ≤ o ∧ o ≤ 86400) = false ∨ (decide (-86400 ≤ o ∧ o ≤ 86400) = true ∧ decide (-86400 ≤ s ∧ s ≤ 86400) = false) := by simp; omega
      clear hk h hy
      rcases hcase with q1 | ⟨q1, q2⟩
      all_goals
        go_enter Tryd.func101, Tryd.ntmps101
        go_wp2_with fail
        refine (momentfault_ok _ _ _ _ _ _ _ HK.out).mono ?_; rintro e w1 ⟨rfl, hb1⟩
        obtain ⟨hc, hf⟩ := bcell hb1
        go_wp2_with (go_at_call 61; refine (in_any _ _ _ _).mono ?_; rintro e w' ⟨rfl, rfl⟩)
        go_ret2
        exact ⟨by rw [hE.out]; rfl, below_in hb1⟩
  · have hE : Hid (insE y mo k a n t c o s = chkM mo k a n t c) := by show insE y mo k a n t c o s = _; unfold insE; simp [hk]
    have hb : (chkM mo k a n t c != 0) = true := by simp [hk]
    have hb' : (chkM mo k a n t c == 0) = false := by simp [hk]
    clear hk h
    go_enter Tryd.func101, Tryd.ntmps101
    go_wp2_with fail
    refine (momentfault_any _ _ _ _ _ _ _).mono ?_; rintro e w1 ⟨rfl, hb1⟩
    go_wp2_with (go_at_call 61; refine (in_any _ _ _ _).mono ?_; rintro e w' ⟨rfl, rfl⟩)
    go_ret2
    exact ⟨by rw [hE.out]; rfl, below_in hb1⟩
theorem instantof_ok (y mo k a n t c o s : Int) (w : World) (h : insE y mo k a n t c o s = 0) :
    Calls Tryd.prog 101 #[.int .i64 y, .agg #[.int .i64 mo, .int .i64 k, .int .i64 a, .int .i64 n, .int .i64 t, .int .i64 c], .int .i64 o, .int .i64 s] w fun e w' => e = .returned (.tuple #[.int .i64 (ins y mo k a n t c o s), .int .i64 0]) ∧ Below w.heap.size w w' := by
  obtain ⟨hk, h1, h2, h3, h4, h5⟩ := insE_zero h
  obtain ⟨g0, g1, g2, g3, g4, g5, g6⟩ := chkM_zero hk
  have hbd := fnd_bd y mo k a n h5
  have HK := Lib.hid hk
  have H5 := Lib.hid h5
  have d1 : decide (-86400 ≤ o ∧ o ≤ 86400) = true := by simp; omega
  have d2 : decide (-86400 ≤ s ∧ s ≤ 86400) = true := by simp; omega
  clear hk h5 h g0
  have hcase : c = 0 ∨ c = 1 ∨ c = 2 := by omega
  rcases hcase with rfl | rfl | rfl
  all_goals
    go_enter Tryd.func101, Tryd.ntmps101
    go_wp2_with fail
    refine (momentfault_ok _ _ _ _ _ _ _ HK.out).mono ?_; rintro e w1 ⟨rfl, hb1⟩
    obtain ⟨hc, hf⟩ := bcell hb1
    have hz : w.heap.size < w1.heap.size := by have := hb1.size; simp at this; omega
    go_wp2_with (go_at_call 61; refine (in_any _ _ _ _).mono ?_; rintro e w' ⟨rfl, rfl⟩)
    refine (found_ok _ _ _ _ _ _ H5.out).mono ?_; rintro e w2 ⟨rfl, hb2⟩
    obtain ⟨hc2, hf2⟩ := bcell hb2
    go_wp2
    go_ret2
    exact ⟨ret_i2 (by simp [ins]; omega) rfl, below_two hb1 hb2⟩
end Go.Proofs.YtdpbedkppomffaaDoor
