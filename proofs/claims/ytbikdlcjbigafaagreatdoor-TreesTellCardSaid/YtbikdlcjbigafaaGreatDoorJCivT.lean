/-
  The table of months, as the program's variable holds it. What the functions of package civil answer. What the document's functions on the numbers of days answer. The window. append(nil, xs...): a copy in new memory. What the functions of package civil on days of a month and moments answer. What the functions of package civil on days that are told answer. What the function of package civil on instants answers. What the document's functions on days that are told and on instants answer.
-/
import Derived.Lib.LaidTab
import Derived.Deep.Light
import Derived.Test.YtbikdlcjbigafaaGreatDoorJBase
import Derived.Test.YtbikdlcjbigafaaGreatDoorJTreeT
namespace Go.Proofs.YtbikdlcjbigafaaGreatDoor
set_option linter.unusedVariables false
set_option linter.unusedSimpArgs false
open Go.ChangeShapes Go.WideShapes Go.ChangeAt Go.RowKit Civ

/-- the months' variable holds the table. -/
def Tab (w : World) : Prop := (∀ i : Nat, i < 13 → w.cell? ⟨0, i, none⟩ = some (.int .i64 (mon i))) ∧ 0 < w.heap.size
theorem Tab.below {w w' : World} (h : Tab w) (hb : Below w.heap.size w w') : Tab w' :=
  ⟨fun i hi => by rw [hb.cell (p := ⟨_, _, none⟩) h.2]; exact h.1 i hi, Nat.lt_of_lt_of_le h.2 hb.size⟩
theorem Tab.drewN {w : World} (h : Tab w) (n : Nat) : Tab (w.drewN n) := h.below (below_draws (Below.refl _ _) n)
theorem Tab.alloc {w : World} (h : Tab w) (o : Obj) : Tab (w.alloc o) := h.below ((Below.refl _ _).alloc (Nat.le_refl _) o)
end Go.Proofs.YtbikdlcjbigafaaGreatDoor
namespace Go.Proofs.YtbikdlcjbigafaaGreatDoor
set_option linter.unusedVariables false
set_option linter.unusedSimpArgs false
open Go.ChangeShapes Go.WideShapes Go.ChangeAt Go.RowKit Civ

theorem leap_any (y : Int) (w : World) :
    Calls Tryz.prog 97 #[.int .i64 y] w fun e w' => e = .returned (.bool (leapB y)) ∧ w = w' := by
  rw [leap_tmod]
  go_enter Tryz.func97, Tryz.ntmps97
  go_wp2
  all_goals (go_ret; exact ⟨ret_bool (by simp [*]), rfl⟩)
theorem first_any (y : Int) (w : World) (h1 : 1 ≤ y) (h2 : y ≤ 10000) :
    Calls Tryz.prog 34 #[.int .i64 y] w fun e w' => e = .returned (.int .i64 (fst y)) ∧ w = w' := by
  go_enter Tryz.func34, Tryz.ntmps34
  go_wp2
  go_ret
  exact ⟨ret_int (by unfold fst; omega), rfl⟩
theorem year_any (y : Int) (w : World) :
   Calls Tryz.prog 96 #[.int .i64 y] w fun e w' => e = .returned (.bool (decide (1899 ≤ y ∧ y ≤ 2100))) ∧ w = w' := by
 go_enter Tryz.func96, Tryz.ntmps96
 go_wp2
 all_goals (go_ret; exact ⟨ret_bool (by first | (simp [*]; done) | (simp [*]; omega)), rfl⟩)
theorem ahead_any (y m : Int) (w : World) (hT : Tab w) (h1 : 1 ≤ m) (h2 : m ≤ 12) :
    Calls Tryz.prog 116 #[.int .i64 y, .int .i64 m] w fun e w' => e = .returned (.int .i64 (ah y m)) ∧ w = w' := by
  obtain ⟨k, rfl⟩ : ∃ k : Nat, m = k + 1 := ⟨(m - 1).toNat, by omega⟩
  have hc := hT.1 k (by omega)
  have hb := mon_bd k
  unfold ah
  rw [show ((k : Int) + 1).toNat - 1 = k from by omega]
  by_cases h3 : (2 : Int) < k + 1
  · go_enter Tryz.func116, Tryz.ntmps116
    go_wp2_with (go_at_call 97; refine (leap_any _ _).mono ?_; rintro e w' ⟨rfl, rfl⟩)
    all_goals (go_ret; exact ⟨ret_int (by simp [*]), rfl⟩)
  · go_enter Tryz.func116, Tryz.ntmps116
    go_wp2_with (go_at_call 97; refine (leap_any _ _).mono ?_; rintro e w' ⟨rfl, rfl⟩)
    all_goals (go_ret; exact ⟨ret_int (by simp [*]), rfl⟩)
theorem days_bad (y m : Int) (w : World) (h : ¬ (1899 ≤ y ∧ y ≤ 2100 ∧ 1 ≤ m ∧ m ≤ 12)) :
    Calls Tryz.prog 59 #[.int .i64 y, .int .i64 m] w fun e w' => e = .returned (.tuple #[.int .i64 0, .int .i64 2]) ∧ w = w' := by
  by_cases hy : 1899 ≤ y ∧ y ≤ 2100
  · have hd : decide (1899 ≤ y ∧ y ≤ 2100) = true := by simpa using hy
    by_cases h3 : m < 1
    · go_enter Tryz.func59, Tryz.ntmps59
      go_wp2_with (go_at_call 96; refine (year_any _ _).mono ?_; rintro e w' ⟨rfl, rfl⟩)
      go_ret2
      exact ⟨rfl, rfl⟩
    · have h4 : 12 < m := by omega
      go_enter Tryz.func59, Tryz.ntmps59
      go_wp2_with (go_at_call 96; refine (year_any _ _).mono ?_; rintro e w' ⟨rfl, rfl⟩)
      go_ret2
      exact ⟨rfl, rfl⟩
  · have hd : decide (1899 ≤ y ∧ y ≤ 2100) = false := by simpa using hy
    clear hy h
    go_enter Tryz.func59, Tryz.ntmps59
    go_wp2_with (go_at_call 96; refine (year_any _ _).mono ?_; rintro e w' ⟨rfl, rfl⟩)
    go_ret2
    exact ⟨rfl, rfl⟩
theorem days_ok (y m : Int) (w : World) (hT : Tab w) (h1 : 1899 ≤ y) (h2 : y ≤ 2100) (h3 : 1 ≤ m) (h4 : m ≤ 12) :
    Calls Tryz.prog 59 #[.int .i64 y, .int .i64 m] w fun e w' => e = .returned (.tuple #[.int .i64 (dim y m), .int .i64 0]) ∧ ∃ n, w' = w.drewN n := by
  have hd : decide (1899 ≤ y ∧ y ≤ 2100) = true := by simp; omega
  obtain ⟨k, rfl⟩ : ∃ k : Nat, m = k + 1 := ⟨(m - 1).toNat, by omega⟩
  have hc := hT.1 k (by omega)
  have hc1 := hT.1 (k + 1) (by omega)
  have hb := mon_bd k
  have hb1 := mon_bd (k + 1)
  have hf : dim y (k + 1) = mon (k + 1) - mon k + if ((k : Int) + 1 == 2 && leapB y) = true then 1 else 0 := by
    unfold dim
    rw [show ((k : Int) + 1).toNat = k + 1 from by omega, show k + 1 - 1 = k from by omega]
    simp
  have HF := Lib.hid hf
  clear hf
  go_enter Tryz.func59, Tryz.ntmps59
  go_wp2_with (go_at_call 96; refine (year_any _ _).mono ?_; rintro e w' ⟨rfl, rfl⟩)
  go_quiet (fail)
  go_wp2_with (go_at_call 97; refine (leap_any _ _).mono ?_; rintro e w' ⟨rfl, rfl⟩)
  all_goals (go_ret2; exact ⟨ret_i2 (by rw [HF.out]; simp [*]) rfl, _, rfl⟩)
theorem weekday_any (n : Int) (w : World) (h1 : -2199023255552 ≤ n) (h2 : n ≤ 2199023255552) :
    Calls Tryz.prog 117 #[.int .i64 n] w fun e w' => e = .returned (.int .i64 (wd n)) ∧ w = w' := by
  have hb := tmod7 (n + 4)
  go_enter Tryz.func117, Tryz.ntmps117
  go_wp2
  go_ret
  exact ⟨ret_int (wd_a n), rfl⟩
end Go.Proofs.YtbikdlcjbigafaaGreatDoor
namespace Go.Proofs.YtbikdlcjbigafaaGreatDoor
set_option linter.unusedVariables false
set_option linter.unusedSimpArgs false
open Go.ChangeShapes Go.WideShapes Go.ChangeAt Go.RowKit Civ

end Go.Proofs.YtbikdlcjbigafaaGreatDoor
namespace Go.Proofs.YtbikdlcjbigafaaGreatDoor
set_option linter.unusedVariables false
set_option linter.unusedSimpArgs false
open Go.ChangeShapes Go.WideShapes Go.ChangeAt Go.RowKit
open Civ

theorem winIn (w : World) : Calls Tryz.prog 11 #[] w fun e w' => e = .returned (.tuple #[.int .i64 (-2208988800), .int .i64 4102444800]) ∧ w = w' := by
  have h1 := fst_bd 1900 (by omega) (by omega)
  have h2 := fst_bd 2100 (by omega) (by omega)
  go_enter Tryz.func11, Tryz.ntmps11
  go_wp2_with (go_at_call 34; refine (first_any _ _ (by omega) (by omega)).mono ?_; rintro e w' ⟨rfl, rfl⟩)
  go_ret2
  exact ⟨ret_i2 (by rw [fst_1900]; rfl) (by rw [fst_2100]; rfl), rfl⟩
end Go.Proofs.YtbikdlcjbigafaaGreatDoor
namespace Go.Proofs.YtbikdlcjbigafaaGreatDoor
set_option linter.unusedVariables false
set_option linter.unusedSimpArgs false
open Go.ChangeShapes Go.WideShapes Go.ChangeAt Go.RowKit

end Go.Proofs.YtbikdlcjbigafaaGreatDoor
namespace Go.Proofs.YtbikdlcjbigafaaGreatDoor
set_option linter.unusedVariables false
set_option linter.unusedSimpArgs false
open Go.ChangeShapes Go.WideShapes Go.ChangeAt Go.RowKit Civ

set_option maxHeartbeats 1000000 in
theorem checkday_any (k a n : Int) (w : World) :
    Calls Tryz.prog 115 #[.agg #[.int .i64 k, .int .i64 a, .int .i64 n]] w fun e w' => e = .returned (.int .i64 (chk k a n)) ∧ Below w.heap.size w w' := by
  go_enter Tryz.func115, Tryz.ntmps115
  go_wp2
  all_goals
    go_ret
    refine ⟨ret_int ?_, (Below.refl _ _).alloc (Nat.le_refl _) _⟩
    go_light
    try simp only [beq_iff, beq_iff_eq, bne_iff_ne, bne_eq_false_iff_eq, ne_eq] at *
    unfold chk
    split <;> (try split) <;> omega
theorem checkmoment_any (mo k a n t c : Int) (w : World) :
    Calls Tryz.prog 99 #[.agg #[.int .i64 mo, .int .i64 k, .int .i64 a, .int .i64 n, .int .i64 t, .int .i64 c]] w fun e w' => e = .returned (.int .i64 (chkM mo k a n t c)) ∧ Below w.heap.size w w' := by
  by_cases h : chk k a n = 0
  · have hb : (chk k a n != 0) = false := by simp [h]
    have H := Lib.hid h
    clear h
    go_enter Tryz.func99, Tryz.ntmps99
    go_wp2_with fail
    refine (checkday_any _ _ _ _).mono ?_; rintro e w1 ⟨rfl, hb1⟩
    obtain ⟨hc, hf⟩ := bcell hb1
    go_wp2
    all_goals
      go_ret
      refine ⟨ret_int ?_, below_in hb1⟩
      go_light
      unfold chkM
      rw [if_neg (by rw [H.out]; simp)]
      clear hb1
      split <;> (try split) <;> omega
  · have hb : (chk k a n != 0) = true := by simp [h]
    have H := Lib.hid h
    clear h
    go_enter Tryz.func99, Tryz.ntmps99
    go_wp2_with fail
    refine (checkday_any _ _ _ _).mono ?_; rintro e w1 ⟨rfl, hb1⟩
    go_wp2
    go_ret
    refine ⟨ret_int ?_, below_in hb1⟩
    unfold chkM
    rw [if_pos H.out]
end Go.Proofs.YtbikdlcjbigafaaGreatDoor
namespace Go.Proofs.YtbikdlcjbigafaaGreatDoor
set_option linter.unusedVariables false
set_option linter.unusedSimpArgs false
open Go.ChangeShapes Go.WideShapes Go.ChangeAt Go.RowKit Civ

theorem checkday_ok (k a n : Int) (w : World) (h : chk k a n = 0) :
    Calls Tryz.prog 115 #[.agg #[.int .i64 k, .int .i64 a, .int .i64 n]] w fun e w' => e = .returned (.int .i64 0) ∧ Below w.heap.size w w' :=
  (checkday_any k a n w).mono fun e w' ⟨he, hb⟩ => ⟨by rw [he, h], hb⟩
theorem find_err (y m k a n : Int) (w : World) (hT : Tab w) (h : fndE y m k a n ≠ 0) :
    Calls Tryz.prog 69 #[.int .i64 y, .int .i64 m, .agg #[.int .i64 k, .int .i64 a, .int .i64 n]] w fun e w' => e = .returned (.tuple #[.int .i64 0, .int .i64 (fndE y m k a n)]) ∧ Below w.heap.size w w' := by
  by_cases hk : chk k a n = 0
  · have HK := Lib.hid hk
    by_cases hy : 1899 ≤ y ∧ y ≤ 2100 ∧ 1 ≤ m ∧ m ≤ 12
    · have hd : dim y m < n := by unfold fndE at h; simp [hk, hy] at h; omega
      have hE : Hid (fndE y m k a n = 2) := by show fndE y m k a n = 2; unfold fndE; simp [hk, hy, hd]
      obtain ⟨h1, h2, h3, h4⟩ := hy
      clear hk h
      go_enter Tryz.func69, Tryz.ntmps69
      go_wp2_with fail
      refine (checkday_ok _ _ _ _ HK.out).mono ?_; rintro e w1 ⟨rfl, hb1⟩
      obtain ⟨hc, hf⟩ := bcell hb1
      have hT1 : Tab w1 := (hT.alloc _).below hb1
      go_wp2_with fail
      refine (days_ok _ _ _ hT1 h1 h2 h3 h4).mono ?_; rintro e w' ⟨rfl, nn, rfl⟩
      go_wp2
      go_ret2
      exact ⟨by rw [hE.out]; rfl, below_draws (below_in hb1) _⟩
    · have hE : Hid (fndE y m k a n = 2) := by show fndE y m k a n = 2; unfold fndE; simp [hk, hy]
      have HY := Lib.hid hy
      clear hk h hy
      go_enter Tryz.func69, Tryz.ntmps69
      go_wp2_with fail
      refine (checkday_ok _ _ _ _ HK.out).mono ?_; rintro e w1 ⟨rfl, hb1⟩
      obtain ⟨hc, hf⟩ := bcell hb1
      go_wp2_with fail
      refine (days_bad _ _ _ HY.out).mono ?_; rintro e w' ⟨rfl, rfl⟩
      go_wp2
      go_ret2
      exact ⟨by rw [hE.out]; rfl, below_in hb1⟩
  · have hE : Hid (fndE y m k a n = chk k a n) := by show fndE y m k a n = chk k a n; unfold fndE; simp [hk]
    have hb : (chk k a n != 0) = true := by simp [hk]
    clear hk h
    go_enter Tryz.func69, Tryz.ntmps69
    go_wp2_with fail
    refine (checkday_any _ _ _ _).mono ?_; rintro e w1 ⟨rfl, hb1⟩
    go_wp2
    go_ret2
    exact ⟨by rw [hE.out]; rfl, below_in hb1⟩
set_option maxHeartbeats 400000 in
theorem find_ok (y m k a n : Int) (w : World) (hT : Tab w) (h : fndE y m k a n = 0) :
    Calls Tryz.prog 69 #[.int .i64 y, .int .i64 m, .agg #[.int .i64 k, .int .i64 a, .int .i64 n]] w fun e w' => e = .returned (.tuple #[.int .i64 (fnd y m k a n), .int .i64 0]) ∧ Below w.heap.size w w' := by
  obtain ⟨hk, h1, h2, h3, h4, h5⟩ := fndE_zero h
  obtain ⟨g1, g2, g3, g4, g5, g6, g7, g8⟩ := chk_zero hk
  have hd := dim_bd y m h3 h4
  have hb := fst_bd y (by omega) (by omega)
  have ha := ah_bd y m h3 (by omega)
  have HK := Lib.hid hk
  have H8 := Lib.hid g8
  clear hk h g7 g8
  have hw1 := wd_bd (fst y + ah y m - 1 + n)
  have hw2 := wd_bd (fst y + ah y m - 1 + dim y m)
  have hcase : k = 1 ∨ k = 2 ∨ k = 3 ∨ k = 4 := by omega
  rcases hcase with rfl | rfl | rfl | rfl
  all_goals
    go_enter Tryz.func69, Tryz.ntmps69
    go_wp2_with fail
    refine (checkday_ok _ _ _ _ HK.out).mono ?_; rintro e w1 ⟨rfl, hb1⟩
    obtain ⟨hc, hf⟩ := bcell hb1
    have hT1 : Tab w1 := (hT.alloc _).below hb1
    go_wp2_with fail
    refine (days_ok _ _ _ hT1 h1 h2 h3 h4).mono ?_; rintro e w' ⟨rfl, nn, rfl⟩
    go_wp2_with (first | (go_at_call 34; refine (first_any _ _ (by omega) (by omega)).mono ?_; rintro e w' ⟨rfl, rfl⟩) | (go_at_call 116; refine (ahead_any _ _ _ (hT1.drewN _) h3 h4).mono ?_; rintro e w' ⟨rfl, rfl⟩))
  · go_ret2
    exact ⟨ret_i2 (by simp [fnd]) rfl, below_draws (below_in hb1) _⟩
  all_goals
    go_quiet ((go_at_call 117; exact quiet_add_left (weekday_any _ _ (by omega) (by omega))))
    go_wp2
    go_ret2
    refine ⟨ret_i2 ?_ rfl, below_draws (below_draws (below_in hb1) _) _⟩
    go_light
    simp [fnd]
end Go.Proofs.YtbikdlcjbigafaaGreatDoor
namespace Go.Proofs.YtbikdlcjbigafaaGreatDoor
set_option linter.unusedVariables false
set_option linter.unusedSimpArgs false
open Go.ChangeShapes Go.WideShapes Go.ChangeAt Go.RowKit Civ

theorem checkmoment_ok (mo k a n t c : Int) (w : World) (h : chkM mo k a n t c = 0) :
    Calls Tryz.prog 99 #[.agg #[.int .i64 mo, .int .i64 k, .int .i64 a, .int .i64 n, .int .i64 t, .int .i64 c]] w fun e w' => e = .returned (.int .i64 0) ∧ Below w.heap.size w w' :=
  (checkmoment_any mo k a n t c w).mono fun e w' ⟨he, hb⟩ => ⟨by rw [he, h], hb⟩
theorem instant_ok (y mo k a n t c o s : Int) (w : World) (hT : Tab w) (h : insE y mo k a n t c o s = 0) :
    Calls Tryz.prog 64 #[.int .i64 y, .agg #[.int .i64 mo, .int .i64 k, .int .i64 a, .int .i64 n, .int .i64 t, .int .i64 c], .int .i64 o, .int .i64 s] w fun e w' => e = .returned (.tuple #[.int .i64 (ins y mo k a n t c o s), .int .i64 0]) ∧ Below w.heap.size w w' := by
  obtain ⟨hk, h1, h2, h3, h4, h5⟩ := insE_zero h
  obtain ⟨g0, g1, g2, g3, g4, g5, g6⟩ := chkM_zero hk
  have hbd := fnd_bd y mo k a n h5
  have HK := Lib.hid hk
  have H5 := Lib.hid h5
  clear hk h5 h g0
  have hcase : c = 0 ∨ c = 1 ∨ c = 2 := by omega
  rcases hcase with rfl | rfl | rfl
  all_goals
    go_enter Tryz.func64, Tryz.ntmps64
    go_wp2_with fail
    refine (checkmoment_ok _ _ _ _ _ _ _ HK.out).mono ?_; rintro e w1 ⟨rfl, hb1⟩
    obtain ⟨hc, hf⟩ := bcell hb1
    have hT1 : Tab w1 := (hT.alloc _).below hb1
    have hz : w.heap.size < w1.heap.size := by have := hb1.size; simp at this; omega
    go_wp2_with fail
    refine (find_ok _ _ _ _ _ _ hT1 H5.out).mono ?_; rintro e w2 ⟨rfl, hb2⟩
    obtain ⟨hc2, hf2⟩ := bcell hb2
    go_wp2
    go_ret2
    exact ⟨ret_i2 (by simp [ins]) rfl, below_two hb1 hb2⟩
end Go.Proofs.YtbikdlcjbigafaaGreatDoor
namespace Go.Proofs.YtbikdlcjbigafaaGreatDoor
set_option linter.unusedVariables false
set_option linter.unusedSimpArgs false
open Go.ChangeShapes Go.WideShapes Go.ChangeAt Go.RowKit Civ

end Go.Proofs.YtbikdlcjbigafaaGreatDoor
