/-
  The laws on days without the document's answer: what each law's own function answers.
-/
import Derived.Test.YtalaejdbmjbocaaDoorCivilC
import Derived.Test.YtalaejdbmjbocaaDoorCivilE
namespace Go.Proofs.YtalaejdbmjbocaaDoor
set_option linter.unusedVariables false
set_option linter.unusedSimpArgs false
open Go.ChangeShapes Go.WideShapes Go.ChangeAt Go.RowKit Civ

theorem pick_bd (a b : Int) (h : 0 < b) : 0 ≤ a % b ∧ a % b < b := ⟨Int.emod_nonneg _ (by omega), Int.emod_lt_of_pos _ h⟩
def PickIs (many : Int) (w : World) (e : Ending) (w' : World) : Prop := ∃ p : Int, 0 ≤ p ∧ p < many ∧ e = .returned (.int .i64 p) ∧ w = w'
theorem picked_any (n many : Int) (w : World) (hn : (Lit.int .i64 n).wf = true) (h1 : 1 ≤ many) (h2 : many ≤ 9000000000) :
    Calls Tryd.prog 19 #[.int .i64 n, .int .i64 many] w (PickIs many w) := by
  obtain ⟨b1, b2⟩ := bounds_i64 hn
  clear hn
  by_cases h : n < 0
  · have hp := pick_bd (-(n + 1)) many (by omega)
    rw [← Int.tmod_eq_emod_of_nonneg (by omega), Int.neg_tmod] at hp
    have HP := Lib.hid hp
    clear hp
    go_enter Tryd.func19, Tryd.ntmps19
    go_wp2
    go_ret
    exact ⟨_, HP.out.1, HP.out.2, rfl, rfl⟩
  · have hp := pick_bd n many (by omega)
    have HP := Lib.hid hp
    clear hp
    go_enter Tryd.func19, Tryd.ntmps19
    go_wp2
    go_ret
    exact ⟨_, HP.out.1, HP.out.2, rfl, rfl⟩
theorem window_any (w : World) : Calls Tryd.prog 22 #[] w fun e w' => e = .returned (.tuple #[.int .i64 (-2208988800), .int .i64 4102444800]) ∧ w = w' := by
  have h1 := fst_bd 1900 (by omega) (by omega)
  have h2 := fst_bd 2100 (by omega) (by omega)
  go_enter Tryd.func22, Tryd.ntmps22
  go_wp2_with (go_at_call 32; refine (first_any _ _ (by omega) (by omega)).mono ?_; rintro e w' ⟨rfl, rfl⟩)
  go_ret2
  exact ⟨ret_i2 (by rw [fst_1900]; rfl) (by rw [fst_2100]; rfl), rfl⟩
theorem civiltells_any (w : World) (hT : Tab w) : Calls Tryd.prog 21 #[] w fun e w' => e = .returned (.bool true) ∧ ∃ n, w' = w.drewN n := by
 have hd : (dim 2000 2 == 29) = true := by decide
 go_enter Tryd.func21, Tryd.ntmps21
 go_wp2_with (first | (go_at_call 22; refine (window_any _).mono ?_; rintro e w' ⟨rfl, rfl⟩) | (go_at_call 13; refine (days_ok _ _ _ hT (by omega) (by omega) (by omega) (by omega)).mono ?_; rintro e w' ⟨rfl, n, rfl⟩))
 go_ret
 exact ⟨rfl, _, rfl⟩
theorem walkYearsLong (a0 : Int) (w : World) (w0 : (Lit.int .i64 a0).wf = true) (hT : Tab w) :
    Calls Tryd.prog 6 #[.int .i64 a0] w fun e w' => e = .returned (.bool true) ∧ Below w.heap.size w w' := by
  go_enter Tryd.func6, Tryd.ntmps6
  go_wp2_with fail
  refine (picked_any _ _ _ w0 (by omega) (by omega)).mono ?_
  rintro e w' ⟨p, hp1, hp2, rfl, rfl⟩
  clear w0
  have hone := num_one (1900 + p)
  have htwo := num_one (1900 + p + 1)
  have hs := fst_succ (1900 + p)
  have hf := dim_feb (1900 + p)
  have hb := fst_bd (1900 + p) (by omega) (by omega)
  have hb2 := fst_bd (1900 + p + 1) (by omega) (by omega)
  have hl := lp_01 (1900 + p)
  have k1 : numOk (1900 + p) 1 1 := ⟨by omega, by omega, by omega, by omega, by omega, by have := dim_bd (1900 + p) 1 (by omega) (by omega); omega⟩
  have k2 : numOk (1900 + p + 1) 1 1 := ⟨by omega, by omega, by omega, by omega, by omega, by have := dim_bd (1900 + p + 1) 1 (by omega) (by omega); omega⟩
  have K1 := Lib.hid k1
  have K2 := Lib.hid k2
  have HA : Hid (∀ k : Int, 1 ≤ k → k ≤ 13 → 0 ≤ ah (1900 + p) k ∧ ah (1900 + p) k ≤ 366) := fun k a b => ah_bd _ k a b
  clear k1 k2
  by_cases hlp : leapB (1900 + p) = true
  · have hlp1 : lp (1900 + p) = 1 := by simp [lp, hlp]
    have K3 : Hid (numOk (1900 + p) 2 29) := ⟨by omega, by omega, by omega, by omega, by omega, by omega⟩
    have hd : (num (1900 + p + 1) 1 1 - num (1900 + p) 1 1 == 366) = true := by rw [beq_iff_eq]; omega
    have hn1 : -719162 ≤ num (1900 + p) 1 1 ∧ num (1900 + p) 1 1 ≤ 3652059 := by omega
    have hn2 : -719162 ≤ num (1900 + p + 1) 1 1 ∧ num (1900 + p + 1) 1 1 ≤ 3652059 := by omega
    have h13 : (ah (1900 + p) 13 == 366) = true := by rw [beq_iff_eq, ah_13]; omega
    clear hone htwo hs hf hb hb2 hl hlp1
    go_wp2_with fail
    refine (number_ok _ _ _ _ hT K1.out).mono ?_; rintro e w' ⟨rfl, n1, rfl⟩
    go_wp2_with fail
    refine (number_ok _ _ _ _ (hT.drewN _) K2.out).mono ?_; rintro e w' ⟨rfl, n2, rfl⟩
    go_wp2_with fail
    refine (number_ok _ _ _ _ (hT.drewN _) K3.out).mono ?_; rintro e w' ⟨rfl, n3, rfl⟩
    go_wp2_with fail
    go_loopw [10, 11] (fun s k wr => ∃ q : Int, 1 ≤ q ∧ q ≤ 13 ∧ k = .int .i64 q ∧ s = .int .i64 (ah (1900 + p) q) ∧ ∃ z, wr = w.drewN z) (fun _ k _ => (13 - intOf k).toNat)
    case atStart => exact ⟨1, by omega, by omega, rfl, by rw [ah_one], _, rfl⟩
    case round =>
      obtain ⟨q, hq1, hq2, rfl, rfl, z, rfl⟩ := hrel
      have hbq := HA.out q hq1 hq2
      by_cases hlt : q ≤ 12
      · have hdq := dim_bd (1900 + p) q hq1 hlt
        have HS := Lib.hid (ah_succ (1900 + p) q hq1 hlt)
        go_wp2_with fail
        refine (days_ok _ _ _ (hT.drewN _) (by omega) (by omega) hq1 hlt).mono ?_; rintro e w' ⟨rfl, n4, rfl⟩
        go_wp2
        go_roundw
        case rel => exact ⟨q + 1, by omega, by omega, rfl, by rw [HS.out], _, rfl⟩
        case measure => simp [intOf]; omega
      · obtain rfl : q = 13 := by omega
        go_wp2_with (go_at_call 20; refine (leap_any _ _).mono ?_; rintro e w' ⟨rfl, rfl⟩)
        go_ret
        exact ⟨rfl, below_draws (Below.refl _ _) _⟩
  · have hlf : leapB (1900 + p) = false := by simpa using hlp
    have hlp1 : lp (1900 + p) = 0 := by simp [lp, hlp]
    have K3 : Hid (¬ numOk (1900 + p) 2 29) := fun h => by have := h.2.2.2.2.2; omega
    have hd : (num (1900 + p + 1) 1 1 - num (1900 + p) 1 1 == 365) = true := by rw [beq_iff_eq]; omega
    have hn1 : -719162 ≤ num (1900 + p) 1 1 ∧ num (1900 + p) 1 1 ≤ 3652059 := by omega
    have hn2 : -719162 ≤ num (1900 + p + 1) 1 1 ∧ num (1900 + p + 1) 1 1 ≤ 3652059 := by omega
    have h13 : (ah (1900 + p) 13 == 365) = true := by rw [beq_iff_eq, ah_13]; omega
    clear hone htwo hs hf hb hb2 hl hlp1 hlp
    go_wp2_with fail
    refine (number_ok _ _ _ _ hT K1.out).mono ?_; rintro e w' ⟨rfl, n1, rfl⟩
    go_wp2_with fail
    refine (number_ok _ _ _ _ (hT.drewN _) K2.out).mono ?_; rintro e w' ⟨rfl, n2, rfl⟩
    go_wp2_with fail
    refine (number_bad _ _ _ _ (hT.drewN _) K3.out).mono ?_; rintro e w' ⟨rfl, n3, rfl⟩
    go_wp2_with fail
    go_loopw [10, 11] (fun s k wr => ∃ q : Int, 1 ≤ q ∧ q ≤ 13 ∧ k = .int .i64 q ∧ s = .int .i64 (ah (1900 + p) q) ∧ ∃ z, wr = w.drewN z) (fun _ k _ => (13 - intOf k).toNat)
    case atStart => exact ⟨1, by omega, by omega, rfl, by rw [ah_one], _, rfl⟩
    case round =>
      obtain ⟨q, hq1, hq2, rfl, rfl, z, rfl⟩ := hrel
      have hbq := HA.out q hq1 hq2
      by_cases hlt : q ≤ 12
      · have hdq := dim_bd (1900 + p) q hq1 hlt
        have HS := Lib.hid (ah_succ (1900 + p) q hq1 hlt)
        go_wp2_with fail
        refine (days_ok _ _ _ (hT.drewN _) (by omega) (by omega) hq1 hlt).mono ?_; rintro e w' ⟨rfl, n4, rfl⟩
        go_wp2
        go_roundw
        case rel => exact ⟨q + 1, by omega, by omega, rfl, by rw [HS.out], _, rfl⟩
        case measure => simp [intOf]; omega
      · obtain rfl : q = 13 := by omega
        go_wp2_with (go_at_call 20; refine (leap_any _ _).mono ?_; rintro e w' ⟨rfl, rfl⟩)
        go_ret
        exact ⟨rfl, below_draws (Below.refl _ _) _⟩
end Go.Proofs.YtalaejdbmjbocaaDoor
