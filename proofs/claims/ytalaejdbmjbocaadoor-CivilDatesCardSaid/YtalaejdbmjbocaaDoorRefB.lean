/-
  What the document's functions on the numbers of days answer.
-/
import Derived.Test.YtalaejdbmjbocaaDoorRef
namespace Go.Proofs.YtalaejdbmjbocaaDoor
set_option linter.unusedVariables false
set_option linter.unusedSimpArgs false
open Go.ChangeShapes Go.WideShapes Go.ChangeAt Go.RowKit Civ

theorem daysto_any (y m : Int) (w : World) (h1 : 1899 ≤ y) (h2 : y ≤ 2100) (h3 : 1 ≤ m) (h4 : m ≤ 12) :
    Calls Tryd.prog 34 #[.int .i64 y, .int .i64 m] w fun e w' => e = .returned (.int .i64 (fst y + ah y m)) ∧ w = w' := by
  have hb := fst_bd y (by omega) (by omega)
  have hlast : ∀ k : Int, 1 ≤ k → k ≤ 12 → 0 ≤ ah y k ∧ ah y k ≤ 366 := fun k a b => ah_bd y k a (by omega)
  have HL := Lib.hid hlast
  clear hlast
  go_enter Tryd.func34, Tryd.ntmps34
  go_wp2
  go_loop [5, 6] (fun n k => ∃ i : Int, 1970 ≤ i ∧ (i = 1970 ∨ i ≤ y) ∧ k = .int .i64 i ∧ n = .int .i64 (fst i)) (fun _ k => (2100 - intOf k).toNat)
  case atStart => exact ⟨1970, by omega, .inl rfl, rfl, by rw [fst_1970]⟩
  case round =>
    obtain ⟨i, hi1, hi2, rfl, rfl⟩ := hrel
    have hs := fst_succ i
    have hl := lp_01 i
    have hbi := fst_bd i (by omega) (by omega)
    have HS : Hid (fst (i + 1) = fst i + 365 + lp i) := hs
    clear hs
    by_cases hlt : i < y
    · go_wp2_with (go_at_call 31; refine (isleap_any _ _).mono ?_; rintro e w' ⟨rfl, rfl⟩)
      all_goals
        go_round
        case rel => exact ⟨i + 1, by omega, .inr (by omega), rfl, by rw [HS.out]; simp [lp, *]⟩
        case measure => simp [intOf]; omega
    · have hiy : i = 1970 ∧ y ≤ 1970 ∨ i = y := by omega
      go_wp2
      go_loop [5, 7] (fun n k => ∃ j : Int, y ≤ j ∧ (j = y ∨ j ≤ 1970) ∧ k = .int .i64 j ∧ n = .int .i64 (fst i + fst y - fst j)) (fun _ k => (1970 - intOf k).toNat)
      case atStart => exact ⟨y, by omega, .inl rfl, rfl, by rw [show fst i + fst y - fst y = fst i by omega]⟩
      case round =>
        obtain ⟨j, hj1, hj2, rfl, rfl⟩ := hrel
        have hs := fst_succ j
        have hlj := lp_01 j
        have hbj := fst_bd j (by omega) (by omega)
        have HJ : Hid (fst (j + 1) = fst j + 365 + lp j) := hs
        clear hs
        by_cases hltj : j < 1970
        · go_wp2_with (go_at_call 31; refine (isleap_any _ _).mono ?_; rintro e w' ⟨rfl, rfl⟩)
          all_goals
            go_round
            case rel => exact ⟨j + 1, by omega, .inr (by omega), rfl, by rw [HJ.out]; simp [lp, *]; try omega⟩
            case measure => simp [intOf]; omega
        · have hn : fst i + fst y - fst j = fst y := by
            rcases hiy with ⟨rfl, h⟩ | rfl
            · have : j = 1970 := by omega
              rw [this]; omega
            · rw [show j = i by omega]; omega
          rw [hn]
          clear hn hiy hbj HJ hlj hj2 hbi HS hl hi2
          go_wp2
          go_loop [5, 8] (fun n k => ∃ q : Int, 1 ≤ q ∧ q ≤ m ∧ k = .int .i64 q ∧ n = .int .i64 (fst y + ah y q)) (fun _ k => (12 - intOf k).toNat)
          case atStart => exact ⟨1, by omega, by omega, rfl, by rw [ah_one]; simp⟩
          case round =>
            obtain ⟨q, hq1, hq2, rfl, rfl⟩ := hrel
            have hbq := HL.out q hq1 (by omega)
            have hdq := dim_bd y q hq1 (by omega)
            by_cases hltq : q < m
            · have HQ := Lib.hid (ah_succ y q hq1 (by omega))
              go_wp2_with (go_at_call 14; refine (daysof_ok _ _ _ (by omega) (by omega) (by omega) (by omega)).mono ?_; rintro e w' ⟨rfl, rfl⟩)
              go_round
              case rel => exact ⟨q + 1, by omega, by omega, rfl, by rw [HQ.out, Int.add_assoc]⟩
              case measure => simp [intOf]; omega
            · go_wp2
              go_ret
              exact ⟨ret_int (by rw [show q = m by omega]), rfl⟩
theorem numberof_bad (y m d : Int) (w : World) (h : ¬ numOk y m d) :
    Calls Tryd.prog 18 #[.int .i64 y, .int .i64 m, .int .i64 d] w fun e w' => e = .returned (.tuple #[.int .i64 0, .int .i64 2]) ∧ w = w' := by
  by_cases hy : 1899 ≤ y ∧ y ≤ 2100 ∧ 1 ≤ m ∧ m ≤ 12
  · obtain ⟨h1, h2, h3, h4⟩ := hy
    have hd : decide (1 ≤ d ∧ d ≤ dim y m) = false := by unfold numOk at h; simp; omega
    clear h
    go_enter Tryd.func18, Tryd.ntmps18
    go_wp2_with (first | (go_at_call 14; refine (daysof_ok _ _ _ h1 h2 h3 h4).mono ?_; rintro e w' ⟨rfl, rfl⟩) | (go_at_call 30; refine (in_any _ _ _ _).mono ?_; rintro e w' ⟨rfl, rfl⟩))
    go_ret2
    exact ⟨rfl, rfl⟩
  · clear h
    have H := Lib.hid hy
    clear hy
    go_enter Tryd.func18, Tryd.ntmps18
    go_wp2_with (go_at_call 14; refine (daysof_bad _ _ _ H.out).mono ?_; rintro e w' ⟨rfl, rfl⟩)
    go_ret2
    exact ⟨rfl, rfl⟩
theorem numberof_ok (y m d : Int) (w : World) (h : numOk y m d) :
    Calls Tryd.prog 18 #[.int .i64 y, .int .i64 m, .int .i64 d] w fun e w' => e = .returned (.tuple #[.int .i64 (num y m d), .int .i64 0]) ∧ w = w' := by
  obtain ⟨h1, h2, h3, h4, h5, h6⟩ := h
  have hd : decide (1 ≤ d ∧ d ≤ dim y m) = true := by simp; omega
  have hdd := dim_bd y m h3 h4
  have hb := fst_bd y (by omega) (by omega)
  have ha := ah_bd y m h3 (by omega)
  go_enter Tryd.func18, Tryd.ntmps18
  go_wp2_with (first | (go_at_call 14; refine (daysof_ok _ _ _ h1 h2 h3 h4).mono ?_; rintro e w' ⟨rfl, rfl⟩) | (go_at_call 30; refine (in_any _ _ _ _).mono ?_; rintro e w' ⟨rfl, rfl⟩) | (go_at_call 34; refine (daysto_any _ _ _ h1 h2 h3 h4).mono ?_; rintro e w' ⟨rfl, rfl⟩))
  go_ret2
  exact ⟨rfl, rfl⟩
theorem ends_ah : ah 1899 1 = 0 ∧ ah 2100 12 = 334 := by decide
theorem dateof_bad (n : Int) (w : World) (h : ¬ (fst 1899 ≤ n ∧ n < fst 2101)) :
    Calls Tryd.prog 16 #[.int .i64 n] w fun e w' => e = .returned (.tuple #[.int .i64 0, .int .i64 0, .int .i64 0, .int .i64 2]) ∧ w = w' := by
  have hd : decide (fst 1899 + ah 1899 1 ≤ n ∧ n ≤ fst 2100 + ah 2100 12 + 30) = false := by
    rw [fst_1899, fst_2101] at h
    rw [ends_ah.1, ends_ah.2, fst_1899, fst_2100]; simp; omega
  have h1 := fst_bd 1899 (by omega) (by omega)
  have h2 := fst_bd 2100 (by omega) (by omega)
  have h3 := ah_bd 2100 12 (by omega) (by omega)
  clear h
  go_enter Tryd.func16, Tryd.ntmps16
  go_wp2_with (first | (go_at_call 34; refine (daysto_any _ _ _ (by omega) (by omega) (by omega) (by omega)).mono ?_; rintro e w' ⟨rfl, rfl⟩) | (go_at_call 30; refine (in_any _ _ _ _).mono ?_; rintro e w' ⟨rfl, rfl⟩))
  exact bodyPost_ret (v := .tuple #[.int .i64 0, .int .i64 0, .int .i64 0, .int .i64 2]) (by simp [results, Tryd.results16, go_sem]) rfl ⟨rfl, rfl⟩
def DateOfIs (n : Int) (w : World) (e : Ending) (w' : World) : Prop := ∃ y m d : Int, e = .returned (.tuple #[.int .i64 y, .int .i64 m, .int .i64 d, .int .i64 0]) ∧ numOk y m d ∧ num y m d = n ∧ w = w'
theorem dateof_end (n y m : Int) (a1 : fst y ≤ n) (a2 : n < fst (y + 1)) (b1 : 1899 ≤ y) (b2 : y ≤ 2100) (c1 : 1 ≤ m) (c2 : m ≤ 12) (d1 : fst y + ah y m ≤ n) (d2 : n < fst y + ah y (m + 1)) :
    numOk y m (n - (fst y + ah y m) + 1) ∧ num y m (n - (fst y + ah y m) + 1) = n := by
  rw [ah_succ y m c1 c2] at d2
  refine ⟨⟨b1, b2, c1, c2, by omega, by omega⟩, by unfold num; omega⟩
set_option maxHeartbeats 400000 in
theorem dateof_ok (n : Int) (w : World) (h1 : fst 1899 ≤ n) (h2 : n < fst 2101) :
    Calls Tryd.prog 16 #[.int .i64 n] w (DateOfIs n w) := by
  have hd : decide (fst 1899 + ah 1899 1 ≤ n ∧ n ≤ fst 2100 + ah 2100 12 + 30) = true := by
    rw [fst_1899] at h1; rw [fst_2101] at h2
    rw [ends_ah.1, ends_ah.2, fst_1899, fst_2100]; simp; omega
  have b1 := fst_bd 2100 (by omega) (by omega)
  have b2 := ah_bd 2100 12 (by omega) (by omega)
  have g1 : -25932 ≤ n := by rw [fst_1899] at h1; exact h1
  have g2 : n < 47847 := by rw [fst_2101] at h2; exact h2
  go_enter Tryd.func16, Tryd.ntmps16
  go_wp2_with (first | (go_at_call 34; refine (daysto_any _ _ _ (by omega) (by omega) (by omega) (by omega)).mono ?_; rintro e w' ⟨rfl, rfl⟩) | (go_at_call 30; refine (in_any _ _ _ _).mono ?_; rintro e w' ⟨rfl, rfl⟩))
  go_loop [6] (fun t => ∃ y : Int, 1899 ≤ y ∧ y ≤ 2100 ∧ fst y ≤ n ∧ t = .int .i64 y) (fun t => (2100 - intOf t).toNat)
  case atStart => exact ⟨1899, by omega, by omega, h1, rfl⟩
  case round =>
    obtain ⟨y, hy1, hy2, hy3, rfl⟩ := hrel
    clear hd b1 b2
    by_cases hc : y < 2100 ∧ fst (y + 1) + ah (y + 1) 1 ≤ n
    · obtain ⟨hc1, hc2⟩ := hc
      have hz : fst (y + 1) ≤ n := by have := ah_one (y + 1); omega
      go_wp2_with (go_at_call 34; refine (daysto_any _ _ _ (by omega) (by omega) (by omega) (by omega)).mono ?_; rintro e w' ⟨rfl, rfl⟩)
      go_round
      case rel => exact ⟨y + 1, by omega, by omega, hz, rfl⟩
      case measure => simp [intOf]; omega
    · have HC : Hid (n < fst (y + 1)) := by
        show n < _
        rcases Int.lt_or_le y 2100 with c | c
        · have := ah_one (y + 1); omega
        · rw [show y = 2100 by omega]; exact h2
      have H13 : Hid (fst y + ah y 13 = fst (y + 1)) := by
        show _ = _
        rw [ah_13, fst_succ]; omega
      have H1 := Lib.hid (ah_one y)
      have HB : Hid (∀ k : Int, 1 ≤ k → k ≤ 12 → 0 ≤ ah y k ∧ ah y k ≤ 366) := fun k a b => ah_bd y k a (by omega)
      have hby := fst_bd y (by omega) (by omega)
      have hc2 : y < 2100 → ¬ fst (y + 1) + ah (y + 1) 1 ≤ n := fun a b => hc ⟨a, b⟩
      clear hc
      have hcase : 2100 ≤ y ∨ (y < 2100 ∧ n < fst (y + 1) + ah (y + 1) 1) := by
        rcases Int.lt_or_le y 2100 with c | c
        · right; exact ⟨c, by have := hc2 c; omega⟩
        · left; exact c
      clear hc2
      rcases hcase with hq1 | ⟨hq1, hq2⟩
      all_goals
        go_wp2_with (go_at_call 34; refine (daysto_any _ _ _ (by omega) (by omega) (by omega) (by omega)).mono ?_; rintro e w' ⟨rfl, rfl⟩)
        go_loop [7] (fun t => ∃ m : Int, 1 ≤ m ∧ m ≤ 12 ∧ fst y + ah y m ≤ n ∧ t = .int .i64 m) (fun t => (12 - intOf t).toNat)
        case atStart => exact ⟨1, by omega, by omega, by rw [H1.out]; omega, rfl⟩
        case round =>
          obtain ⟨m, hm1, hm2, hm3, rfl⟩ := hrel
          have hbm := HB.out m hm1 hm2
          clear hq1
          by_cases hg : m < 12 ∧ fst y + ah y (m + 1) ≤ n
          · obtain ⟨hg1, hg2⟩ := hg
            have hbn := HB.out (m + 1) (by omega) (by omega)
            go_wp2_with (go_at_call 34; refine (daysto_any _ _ _ (by omega) (by omega) (by omega) (by omega)).mono ?_; rintro e w' ⟨rfl, rfl⟩)
            go_round
            case rel => exact ⟨m + 1, by omega, by omega, hg2, rfl⟩
            case measure => simp [intOf]; omega
          · have hz : n < fst y + ah y (m + 1) := by
              by_cases e : m = 12
              · subst e
                have h := H13.out
                have h' := HC.out
                show n < fst y + ah y 13
                omega
              · omega
            have hE := Lib.hid (dateof_end n y m hy3 HC.out hy1 hy2 hm1 hm2 hm3 hz)
            clear hg
            by_cases hm12 : m < 12
            · have hbn := HB.out (m + 1) (by omega) (by omega)
              go_wp2_with (go_at_call 34; refine (daysto_any _ _ _ (by omega) (by omega) (by omega) (by omega)).mono ?_; rintro e w' ⟨rfl, rfl⟩)
              exact bodyPost_ret (v := .tuple #[.int .i64 y, .int .i64 m, .int .i64 (n - (fst y + ah y m) + 1), .int .i64 0]) (by simp [results, Tryd.results16, go_sem]) rfl ⟨y, m, _, rfl, hE.out.1, hE.out.2, rfl⟩
            · go_wp2_with (go_at_call 34; refine (daysto_any _ _ _ (by omega) (by omega) (by omega) (by omega)).mono ?_; rintro e w' ⟨rfl, rfl⟩)
              exact bodyPost_ret (v := .tuple #[.int .i64 y, .int .i64 m, .int .i64 (n - (fst y + ah y m) + 1), .int .i64 0]) (by simp [results, Tryd.results16, go_sem]) rfl ⟨y, m, _, rfl, hE.out.1, hE.out.2, rfl⟩
end Go.Proofs.YtalaejdbmjbocaaDoor
