/-
  What the document's functions on the numbers of days answer.
-/
import Derived.Test.YtpnmaopompfalaaRef
namespace Go.Proofs.Ytpnmaopompfalaa
set_option linter.unusedVariables false
set_option linter.unusedSimpArgs false
open Go.ChangeShapes Go.WideShapes Go.ChangeAt Go.RowKit Civ

theorem daysto_any (y m : Int) (w : World) (h1 : 1899 ≤ y) (h2 : y ≤ 2100) (h3 : 1 ≤ m) (h4 : m ≤ 12) :
    Calls Try.prog 107 #[.int .i64 y, .int .i64 m] w fun e w' => e = .returned (.int .i64 (fst y + ah y m)) ∧ w = w' := by
  have hb := fst_bd y (by omega) (by omega)
  have hlast : ∀ k : Int, 1 ≤ k → k ≤ 12 → 0 ≤ ah y k ∧ ah y k ≤ 366 := fun k a b => ah_bd y k a (by omega)
  have HL := Lib.hid hlast
  clear hlast
  go_enter Try.func107, Try.ntmps107
  go_wp2
  go_loop [5, 6] (fun n k => ∃ i : Int, 1970 ≤ i ∧ (i = 1970 ∨ i ≤ y) ∧ k = .int .i64 i ∧ n = .int .i64 (fst i)) (fun _ k => (2100 - intOf k).toNat)
  case atStart => exact ⟨1970, by omega, .inl rfl, rfl, by rw [fst_1970]⟩
  case round =>
    obtain ⟨i, hi1, hi2, rfl, rfl⟩ := hrel
    have hs := fst_succ i
    have hl := lp_01 i
    have hbi := fst_bd i (by omega) (by omega)
    have HS : Hid (fst (i + 1) = fst i + 365 + lp i) := hs
    clear hs
    by_cases hlt : i < y
    · go_wp2_with (go_at_call 114; refine (isleap_any _ _).mono ?_; rintro e w' ⟨rfl, rfl⟩)
      all_goals
        go_round
        case rel => exact ⟨i + 1, by omega, .inr (by omega), rfl, by rw [HS.out]; simp [lp, *]⟩
        case measure => simp [intOf]; omega
    · have hiy : i = 1970 ∧ y ≤ 1970 ∨ i = y := by omega
      go_wp2
      go_loop [5, 7] (fun n k => ∃ j : Int, y ≤ j ∧ (j = y ∨ j ≤ 1970) ∧ k = .int .i64 j ∧ n = .int .i64 (fst i + fst y - fst j)) (fun _ k => (1970 - intOf k).toNat)
      case atStart => exact ⟨y, by omega, .inl rfl, rfl, by rw [show fst i + fst y - fst y = fst i by omega]⟩
      case round =>
        obtain ⟨j, hj1, hj2, rfl, rfl⟩ := hrel
        have hs := fst_succ j
        have hlj := lp_01 j
        have hbj := fst_bd j (by omega) (by omega)
        have HJ : Hid (fst (j + 1) = fst j + 365 + lp j) := hs
        clear hs
        by_cases hltj : j < 1970
        · go_wp2_with (go_at_call 114; refine (isleap_any _ _).mono ?_; rintro e w' ⟨rfl, rfl⟩)
          all_goals
            go_round
            case rel => exact ⟨j + 1, by omega, .inr (by omega), rfl, by rw [HJ.out]; simp [lp, *]; try omega⟩
            case measure => simp [intOf]; omega
        · have hn : fst i + fst y - fst j = fst y := by
            rcases hiy with ⟨rfl, h⟩ | rfl
            · have : j = 1970 := by omega
              rw [this]; omega
            · rw [show j = i by omega]; omega
          rw [hn]
          clear hn hiy hbj HJ hlj hj2 hbi HS hl hi2
          go_wp2
          go_loop [5, 8] (fun n k => ∃ q : Int, 1 ≤ q ∧ q ≤ m ∧ k = .int .i64 q ∧ n = .int .i64 (fst y + ah y q)) (fun _ k => (12 - intOf k).toNat)
          case atStart => exact ⟨1, by omega, by omega, rfl, by rw [ah_one]; simp⟩
          case round =>
            obtain ⟨q, hq1, hq2, rfl, rfl⟩ := hrel
            have hbq := HL.out q hq1 (by omega)
            have hdq := dim_bd y q hq1 (by omega)
            by_cases hltq : q < m
            · have HQ := Lib.hid (ah_succ y q hq1 (by omega))
              go_wp2_with (go_at_call 115; refine (daysof_ok _ _ _ (by omega) (by omega) (by omega) (by omega)).mono ?_; rintro e w' ⟨rfl, rfl⟩)
              go_round
              case rel => exact ⟨q + 1, by omega, by omega, rfl, by rw [HQ.out, Int.add_assoc]⟩
              case measure => simp [intOf]; omega
            · go_wp2
              go_ret
              exact ⟨ret_int (by rw [show q = m by omega]), rfl⟩
theorem ends_ah : ah 1899 1 = 0 ∧ ah 2100 12 = 334 := by decide
def DateOfIs (n : Int) (w : World) (e : Ending) (w' : World) : Prop := ∃ y m d : Int, e = .returned (.tuple #[.int .i64 y, .int .i64 m, .int .i64 d, .int .i64 0]) ∧ numOk y m d ∧ num y m d = n ∧ w = w'
theorem dateof_end (n y m : Int) (a1 : fst y ≤ n) (a2 : n < fst (y + 1)) (b1 : 1899 ≤ y) (b2 : y ≤ 2100) (c1 : 1 ≤ m) (c2 : m ≤ 12) (d1 : fst y + ah y m ≤ n) (d2 : n < fst y + ah y (m + 1)) :
    numOk y m (n - (fst y + ah y m) + 1) ∧ num y m (n - (fst y + ah y m) + 1) = n := by
  rw [ah_succ y m c1 c2] at d2
  refine ⟨⟨b1, b2, c1, c2, by omega, by omega⟩, by unfold num; omega⟩
end Go.Proofs.Ytpnmaopompfalaa
