/-
  What the functions of package civil on the numbers of days answer.
-/
import Derived.Test.YtalaejdbmjbocaaDoorCivil
import Derived.Deep.Light
namespace Go.Proofs.YtalaejdbmjbocaaDoor
set_option linter.unusedVariables false
set_option linter.unusedSimpArgs false
open Go.ChangeShapes Go.WideShapes Go.ChangeAt Go.RowKit Civ

theorem number_bad (y m d : Int) (w : World) (hT : Tab w) (h : ¬ numOk y m d) :
    Calls Tryd.prog 17 #[.int .i64 y, .int .i64 m, .int .i64 d] w fun e w' => e = .returned (.tuple #[.int .i64 0, .int .i64 2]) ∧ ∃ n, w' = w.drewN n := by
  by_cases hy : 1899 ≤ y ∧ y ≤ 2100 ∧ 1 ≤ m ∧ m ≤ 12
  · obtain ⟨h1, h2, h3, h4⟩ := hy
    have hd := dim_bd y m h3 h4
    by_cases h5 : d < 1
    · clear h
      go_enter Tryd.func17, Tryd.ntmps17
      go_wp2_with (go_at_call 13; refine (days_ok _ _ _ hT h1 h2 h3 h4).mono ?_; rintro e w' ⟨rfl, n, rfl⟩)
      go_ret2
      exact ⟨rfl, _, rfl⟩
    · have h6 : dim y m < d := by unfold numOk at h; omega
      clear h
      go_enter Tryd.func17, Tryd.ntmps17
      go_wp2_with (go_at_call 13; refine (days_ok _ _ _ hT h1 h2 h3 h4).mono ?_; rintro e w' ⟨rfl, n, rfl⟩)
      go_ret2
      exact ⟨rfl, _, rfl⟩
  · clear h
    have H := Lib.hid hy
    clear hy
    go_enter Tryd.func17, Tryd.ntmps17
    go_wp2_with (go_at_call 13; refine (days_bad _ _ _ H.out).mono ?_; rintro e w' ⟨rfl, rfl⟩)
    go_ret2
    exact ⟨rfl, 0, rfl⟩
theorem number_ok (y m d : Int) (w : World) (hT : Tab w) (h : numOk y m d) :
    Calls Tryd.prog 17 #[.int .i64 y, .int .i64 m, .int .i64 d] w fun e w' => e = .returned (.tuple #[.int .i64 (num y m d), .int .i64 0]) ∧ ∃ n, w' = w.drewN n := by
  obtain ⟨h1, h2, h3, h4, h5, h6⟩ := h
  have hd := dim_bd y m h3 h4
  have hb := fst_bd y (by omega) (by omega)
  have ha := ah_bd y m h3 (by omega)
  go_enter Tryd.func17, Tryd.ntmps17
  go_wp2_with (first | (go_at_call 13; refine (days_ok _ _ _ hT h1 h2 h3 h4).mono ?_; rintro e w' ⟨rfl, n, rfl⟩) | (go_at_call 32; refine (first_any _ _ (by omega) (by omega)).mono ?_; rintro e w' ⟨rfl, rfl⟩) | (go_at_call 33; refine (ahead_any _ _ _ (hT.drewN _) h3 h4).mono ?_; rintro e w' ⟨rfl, rfl⟩))
  go_ret2
  exact ⟨rfl, _, rfl⟩
theorem date_bad (n : Int) (w : World) (h : ¬ (fst 1899 ≤ n ∧ n < fst 2101)) :
    Calls Tryd.prog 15 #[.int .i64 n] w fun e w' => e = .returned (.tuple #[.int .i64 0, .int .i64 0, .int .i64 0, .int .i64 2]) ∧ w = w' := by
  by_cases h1 : n < fst 1899
  · clear h
    go_enter Tryd.func15, Tryd.ntmps15
    go_wp2_with (go_at_call 32; refine (first_any _ _ (by omega) (by omega)).mono ?_; rintro e w' ⟨rfl, rfl⟩)
    exact bodyPost_ret (v := .tuple #[.int .i64 0, .int .i64 0, .int .i64 0, .int .i64 2]) (by simp [results, Tryd.results15, go_sem]) rfl ⟨rfl, rfl⟩
  · have h2 : fst 2101 ≤ n := by omega
    clear h
    go_enter Tryd.func15, Tryd.ntmps15
    go_wp2_with (go_at_call 32; refine (first_any _ _ (by omega) (by omega)).mono ?_; rintro e w' ⟨rfl, rfl⟩)
    exact bodyPost_ret (v := .tuple #[.int .i64 0, .int .i64 0, .int .i64 0, .int .i64 2]) (by simp [results, Tryd.results15, go_sem]) rfl ⟨rfl, rfl⟩
theorem date_end (n y m : Int) (a1 : fst y ≤ n) (a2 : n < fst (y + 1)) (b1 : 1899 ≤ y) (b2 : y ≤ 2100) (c1 : 1 ≤ m) (c2 : m ≤ 12) (d1 : ah y m ≤ n - fst y) (d2 : n - fst y < ah y (m + 1)) :
    numOk y m (n - fst y - ah y m + 1) ∧ num y m (n - fst y - ah y m + 1) = n := by
  rw [ah_succ y m c1 c2] at d2
  refine ⟨⟨b1, b2, c1, c2, by omega, by omega⟩, by unfold num; omega⟩
def DateIs (n : Int) (w : World) (e : Ending) (w' : World) : Prop := ∃ y m d : Int, e = .returned (.tuple #[.int .i64 y, .int .i64 m, .int .i64 d, .int .i64 0]) ∧ numOk y m d ∧ num y m d = n ∧ w = w'
set_option maxHeartbeats 400000 in
theorem date_ok (n : Int) (w : World) (hT : Tab w) (h1 : fst 1899 ≤ n) (h2 : n < fst 2101) :
    Calls Tryd.prog 15 #[.int .i64 n] w (DateIs n w) := by
  have g1 : -25932 ≤ n := by rw [fst_1899] at h1; exact h1
  have g2 : n < 47847 := by rw [fst_2101] at h2; exact h2
  have ht := tdiv_366 n g1 g2
  go_enter Tryd.func15, Tryd.ntmps15
  go_wp2_with (go_at_call 32; refine (first_any _ _ (by omega) (by omega)).mono ?_; rintro e w' ⟨rfl, rfl⟩)
  go_loop [6] (fun t => ∃ y : Int, 1897 ≤ y ∧ y ≤ 2100 ∧ fst y ≤ n ∧ t = .int .i64 y) (fun t => (2100 - intOf t).toNat)
  case atStart => exact ⟨_, by omega, by omega, ht.1, rfl⟩
  case round =>
    obtain ⟨y, hy1, hy2, hy3, rfl⟩ := hrel
    clear ht
    have hby := fst_bd y (by omega) (by omega)
    by_cases hc : fst (y + 1) ≤ n
    · have hlt : y < 2100 := by
        by_cases e : y = 2100
        · subst e; have hc' : fst 2101 ≤ n := hc
          omega
        · omega
      go_wp2_with (go_at_call 32; refine (first_any _ _ (by omega) (by omega)).mono ?_; rintro e w' ⟨rfl, rfl⟩)
      go_round
      case rel => exact ⟨y + 1, by omega, by omega, hc, rfl⟩
      case measure => simp [intOf]; omega
    · have hy4 : 1899 ≤ y := by
        rcases Int.lt_or_le y 1899 with c | c
        · have := fst_mono (y + 1) 1899 (by omega); omega
        · exact c
      have hA := Lib.hid (ah_13 y)
      have hS := Lib.hid (fst_succ y)
      have h13 : n - fst y < ah y 13 := by rw [hA.out]; have := hS.out; omega
      have H1 := Lib.hid (ah_one y)
      have HB : Hid (∀ k : Int, 1 ≤ k → k ≤ 12 → 0 ≤ ah y k ∧ ah y k ≤ 366) := fun k a b => ah_bd y k a (by omega)
      have HC : Hid (n < fst (y + 1)) := by show n < _; omega
      clear hA hS
      go_wp2_with (go_at_call 32; refine (first_any _ _ (by omega) (by omega)).mono ?_; rintro e w' ⟨rfl, rfl⟩)
      go_loop [7] (fun t => ∃ m : Int, 1 ≤ m ∧ m ≤ 12 ∧ n - fst y < ah y (m + 1) ∧ t = .int .i64 m) (fun t => (intOf t).toNat)
      case atStart => exact ⟨12, by omega, by omega, h13, rfl⟩
      case round =>
        obtain ⟨m, hm1, hm2, hm3, rfl⟩ := hrel
        clear h13
        have hbm := HB.out m hm1 hm2
        by_cases hg : n - fst y < ah y m
        · have hm4 : 1 < m := by
            by_cases e : m = 1
            · subst e; have := H1.out; omega
            · omega
          go_wp2_with (go_at_call 33; refine (ahead_any _ _ _ hT hm1 hm2).mono ?_; rintro e w' ⟨rfl, rfl⟩)
          go_round
          case rel => exact ⟨m - 1, by omega, by omega, by rw [Int.sub_add_cancel]; exact hg, rfl⟩
          case measure => simp [intOf]; omega
        · have hE := Lib.hid (date_end n y m hy3 HC.out hy4 hy2 hm1 hm2 (by omega) hm3)
          go_wp2_with (go_at_call 33; refine (ahead_any _ _ _ hT hm1 hm2).mono ?_; rintro e w' ⟨rfl, rfl⟩)
          exact bodyPost_ret (v := .tuple #[.int .i64 y, .int .i64 m, .int .i64 (n - fst y - ah y m + 1), .int .i64 0]) (by simp [results, Tryd.results15, go_sem]) rfl ⟨y, m, _, rfl, hE.out.1, hE.out.2, rfl⟩
end Go.Proofs.YtalaejdbmjbocaaDoor
