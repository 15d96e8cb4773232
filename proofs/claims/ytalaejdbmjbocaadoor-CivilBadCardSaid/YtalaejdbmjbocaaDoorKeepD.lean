/-
  The law on what is no day: what the law's own function answers.
-/
import Derived.Test.YtalaejdbmjbocaaDoorKeepC
import Derived.Deep.RegionHeld3
namespace Go.Proofs.YtalaejdbmjbocaaDoor
set_option linter.unusedVariables false
set_option linter.unusedSimpArgs false
open Go.ChangeShapes Go.WideShapes Go.ChangeAt Go.RowKit Civ

theorem find_lit (k a n r : Int) (w : World) (hT : Tab w) (hk : chk k a n = r) (hr : r ≠ 0) :
    Calls Tryd.prog 23 #[.int .i64 2000, .int .i64 1, .agg #[.int .i64 k, .int .i64 a, .int .i64 n]] w fun e w' => e = .returned (.tuple #[.int .i64 0, .int .i64 r]) ∧ Below w.heap.size w w' := by
  have h : fndE 2000 1 k a n = r := by unfold fndE; rw [if_pos (by omega)]; exact hk
  exact (find_err 2000 1 k a n w hT (by omega)).mono fun e w' ⟨he, hb⟩ => ⟨by rw [he, h], hb⟩
theorem find_feb (w : World) (hT : Tab w) :
    Calls Tryd.prog 23 #[.int .i64 2000, .int .i64 2, .agg #[.int .i64 1, .int .i64 0, .int .i64 30]] w fun e w' => e = .returned (.tuple #[.int .i64 0, .int .i64 2]) ∧ Below w.heap.size w w' := by
  have h : fndE 2000 2 1 0 30 = 2 := by decide
  exact (find_err 2000 2 1 0 30 w hT (by omega)).mono fun e w' ⟨he, hb⟩ => ⟨by rw [he, h], hb⟩
theorem checkday_lit (k a n r : Int) (w : World) (hk : chk k a n = r) :
    Calls Tryd.prog 26 #[.agg #[.int .i64 k, .int .i64 a, .int .i64 n]] w fun e w' => e = .returned (.int .i64 r) ∧ Below w.heap.size w w' :=
  (checkday_any k a n w).mono fun e w' ⟨he, hb⟩ => ⟨by rw [he, hk], hb⟩
set_option maxHeartbeats 3200000 in
set_option maxRecDepth 100000 in
theorem walkCivilBad (a0 a1 : Int) (w : World) (w0 : (Lit.int .i64 a0).wf = true) (w1 : (Lit.int .i64 a1).wf = true) (hT : Tab w) :
    Calls Tryd.prog 10 #[.int .i64 a0, .int .i64 a1] w fun e w' => e = .returned (.bool true) ∧ Below w.heap.size w w' := by
  have W0 := Lib.hid w0
  have W1 := Lib.hid w1
  clear w0 w1
  go_enter Tryd.func10, Tryd.ntmps10
  go_wp2_with fail
  refine (picked_any _ _ _ W1.out (by omega) (by omega)).mono ?_
  rintro e w' ⟨p, hp1, hp2, rfl, rfl⟩
  go_wp2_with fail
  refine (picked_any _ _ _ W0.out (by omega) (by omega)).mono ?_
  rintro e w' ⟨i, hi1, hi2, rfl, rfl⟩
  have hi8 : i = 0 ∨ i = 1 ∨ i = 2 ∨ i = 3 ∨ i = 4 ∨ i = 5 ∨ i = 6 ∨ i = 7 := by omega
  have hT2 : ∀ o1 o2 : Obj, Tab ((w.alloc o1).alloc o2) := fun o1 o2 => (hT.alloc o1).alloc o2
  rcases hi8 with rfl | rfl | rfl | rfl | rfl | rfl | rfl | rfl
  · go_wp2_with fail
    refine (find_lit _ _ _ 3 _ (hT2 _ _) (by decide) (by omega)).mono ?_; rintro e u1 ⟨rfl, hb1⟩
    have hT3 := (hT2 _ _).below hb1
    go_wp2_with fail
    refine (find_feb _ hT3).mono ?_; rintro e u2 ⟨rfl, hb2⟩
    have hb3 := hb1.trans (hb2.mono hb1.size)
    have hT4 := hT3.below hb2
    clear hb1 hb2 hT3
    go_wp2_with fail
    refine (number_bad _ _ _ _ hT4 (fun h => by have := h.2.1; omega)).mono ?_; rintro e w' ⟨rfl, n1, rfl⟩
    go_wp2_with fail
    refine (days_bad _ _ _ (fun h => by have := h.2.2.2; omega)).mono ?_; rintro e w' ⟨rfl, rfl⟩
    go_wp2
    have hb4 := below_draws hb3 n1
    clear hb3 hT4
    generalize u2.drewN n1 = u3 at hb4 ⊢
    have q0 : u3.cell? ⟨w.heap.size, 0, none⟩ = some (.int .i64 (0)) := by rw [hb4.cell (p := ⟨w.heap.size, 0, none⟩) (by simp; try omega)]; simp [go_sem]
    have q1 : u3.cell? ⟨w.heap.size, 1, none⟩ = some (.int .i64 (0)) := by rw [hb4.cell (p := ⟨w.heap.size, 1, none⟩) (by simp; try omega)]; simp [go_sem]
    have q2 : u3.cell? ⟨w.heap.size, 2, none⟩ = some (.int .i64 (0)) := by rw [hb4.cell (p := ⟨w.heap.size, 2, none⟩) (by simp; try omega)]; simp [go_sem]
    have q3 : u3.cell? ⟨w.heap.size + 1, 0, none⟩ = some (.int .i64 3) := by rw [hb4.cell (p := ⟨w.heap.size + 1, 0, none⟩) (by simp; try omega)]; simp [go_sem]
    have hz : w.heap.size + 1 < u3.heap.size := by have := hb4.size; simp at this; omega
    have hbw : Below w.heap.size w u3 := (((Below.refl _ _).alloc (Nat.le_refl _) _).alloc (by simp) _).trans (hb4.mono (by simp; omega))
    clear hb4
    go_region_held3 (fun w' => w'.cell? ⟨w.heap.size, 0, none⟩ = some (.int .i64 (0)) ∧ w'.cell? ⟨w.heap.size, 1, none⟩ = some (.int .i64 (0)) ∧ w'.cell? ⟨w.heap.size, 2, none⟩ = some (.int .i64 (0)) ∧ w'.cell? ⟨w.heap.size + 1, 0, none⟩ = some (.int .i64 3) ∧ w.heap.size + 1 < w'.heap.size ∧ Below w.heap.size w w')
      (first | exact ⟨s0, s1, s2, s3, sz, sb⟩ | exact ⟨q0, q1, q2, q3, hz, hbw⟩ | exact ⟨q0, q1, q2, q3, hz, hbw.drew⟩)
      (first | (go_at_call 26; refine (checkday_lit _ _ _ 3 _ (by decide)).mono ?_; rintro e w9 ⟨rfl, hb9⟩; have s0 := (hb9.cell (p := ⟨w.heap.size, 0, none⟩) (show w.heap.size < u3.heap.size by omega)).trans q0; have s1 := (hb9.cell (p := ⟨w.heap.size, 1, none⟩) (show w.heap.size < u3.heap.size by omega)).trans q1; have s2 := (hb9.cell (p := ⟨w.heap.size, 2, none⟩) (show w.heap.size < u3.heap.size by omega)).trans q2; have s3 := (hb9.cell (p := ⟨w.heap.size + 1, 0, none⟩) (show w.heap.size + 1 < u3.heap.size by omega)).trans q3; have sz : w.heap.size + 1 < w9.heap.size := Nat.lt_of_lt_of_le hz hb9.size; have sb : Below w.heap.size w w9 := hbw.drew.trans (hb9.mono hbw.size); clear hb9))
    go_wp2
    go_ret
    refine ⟨rfl, ?_⟩
    first | exact sb | assumption
  · go_wp2_with fail
    refine (find_lit _ _ _ 3 _ (hT2 _ _) (by unfold chk; rw [if_pos (by omega)]) (by omega)).mono ?_; rintro e u1 ⟨rfl, hb1⟩
    have hT3 := (hT2 _ _).below hb1
    go_wp2_with fail
    refine (find_feb _ hT3).mono ?_; rintro e u2 ⟨rfl, hb2⟩
    have hb3 := hb1.trans (hb2.mono hb1.size)
    have hT4 := hT3.below hb2
    clear hb1 hb2 hT3
    go_wp2_with fail
    refine (number_bad _ _ _ _ hT4 (fun h => by have := h.2.1; omega)).mono ?_; rintro e w' ⟨rfl, n1, rfl⟩
    go_wp2_with fail
    refine (days_bad _ _ _ (fun h => by have := h.2.2.2; omega)).mono ?_; rintro e w' ⟨rfl, rfl⟩
    go_wp2
    have hb4 := below_draws hb3 n1
    clear hb3 hT4
    generalize u2.drewN n1 = u3 at hb4 ⊢
    have q0 : u3.cell? ⟨w.heap.size, 3, none⟩ = some (.int .i64 (4 + (1 + p))) := by rw [hb4.cell (p := ⟨w.heap.size, 3, none⟩) (by simp; try omega)]; simp [go_sem]
    have q1 : u3.cell? ⟨w.heap.size, 4, none⟩ = some (.int .i64 (0)) := by rw [hb4.cell (p := ⟨w.heap.size, 4, none⟩) (by simp; try omega)]; simp [go_sem]
    have q2 : u3.cell? ⟨w.heap.size, 5, none⟩ = some (.int .i64 (0)) := by rw [hb4.cell (p := ⟨w.heap.size, 5, none⟩) (by simp; try omega)]; simp [go_sem]
    have q3 : u3.cell? ⟨w.heap.size + 1, 1, none⟩ = some (.int .i64 3) := by rw [hb4.cell (p := ⟨w.heap.size + 1, 1, none⟩) (by simp; try omega)]; simp [go_sem]
    have hz : w.heap.size + 1 < u3.heap.size := by have := hb4.size; simp at this; omega
    have hbw : Below w.heap.size w u3 := (((Below.refl _ _).alloc (Nat.le_refl _) _).alloc (by simp) _).trans (hb4.mono (by simp; omega))
    clear hb4
    go_region_held3 (fun w' => w'.cell? ⟨w.heap.size, 3, none⟩ = some (.int .i64 (4 + (1 + p))) ∧ w'.cell? ⟨w.heap.size, 4, none⟩ = some (.int .i64 (0)) ∧ w'.cell? ⟨w.heap.size, 5, none⟩ = some (.int .i64 (0)) ∧ w'.cell? ⟨w.heap.size + 1, 1, none⟩ = some (.int .i64 3) ∧ w.heap.size + 1 < w'.heap.size ∧ Below w.heap.size w w')
      (first | exact ⟨s0, s1, s2, s3, sz, sb⟩ | exact ⟨q0, q1, q2, q3, hz, hbw⟩ | exact ⟨q0, q1, q2, q3, hz, hbw.drew⟩)
      (first | (go_at_call 26; refine (checkday_lit _ _ _ 3 _ (by unfold chk; rw [if_pos (by omega)])).mono ?_; rintro e w9 ⟨rfl, hb9⟩; have s0 := (hb9.cell (p := ⟨w.heap.size, 3, none⟩) (show w.heap.size < u3.heap.size by omega)).trans q0; have s1 := (hb9.cell (p := ⟨w.heap.size, 4, none⟩) (show w.heap.size < u3.heap.size by omega)).trans q1; have s2 := (hb9.cell (p := ⟨w.heap.size, 5, none⟩) (show w.heap.size < u3.heap.size by omega)).trans q2; have s3 := (hb9.cell (p := ⟨w.heap.size + 1, 1, none⟩) (show w.heap.size + 1 < u3.heap.size by omega)).trans q3; have sz : w.heap.size + 1 < w9.heap.size := Nat.lt_of_lt_of_le hz hb9.size; have sb : Below w.heap.size w w9 := hbw.drew.trans (hb9.mono hbw.size); clear hb9))
    go_wp2
    go_ret
    refine ⟨rfl, ?_⟩
    first | exact sb | assumption
  · go_wp2_with fail
    refine (find_lit _ _ _ 2 _ (hT2 _ _) (by unfold chk; rw [if_neg (by omega), if_pos (by omega)]) (by omega)).mono ?_; rintro e u1 ⟨rfl, hb1⟩
    have hT3 := (hT2 _ _).below hb1
    go_wp2_with fail
    refine (find_feb _ hT3).mono ?_; rintro e u2 ⟨rfl, hb2⟩
    have hb3 := hb1.trans (hb2.mono hb1.size)
    have hT4 := hT3.below hb2
    clear hb1 hb2 hT3
    go_wp2_with fail
    refine (number_bad _ _ _ _ hT4 (fun h => by have := h.2.1; omega)).mono ?_; rintro e w' ⟨rfl, n1, rfl⟩
    go_wp2_with fail
    refine (days_bad _ _ _ (fun h => by have := h.2.2.2; omega)).mono ?_; rintro e w' ⟨rfl, rfl⟩
    go_wp2
    have hb4 := below_draws hb3 n1
    clear hb3 hT4
    generalize u2.drewN n1 = u3 at hb4 ⊢
    have q0 : u3.cell? ⟨w.heap.size, 6, none⟩ = some (.int .i64 (1)) := by rw [hb4.cell (p := ⟨w.heap.size, 6, none⟩) (by simp; try omega)]; simp [go_sem]
    have q1 : u3.cell? ⟨w.heap.size, 7, none⟩ = some (.int .i64 (0)) := by rw [hb4.cell (p := ⟨w.heap.size, 7, none⟩) (by simp; try omega)]; simp [go_sem]
    have q2 : u3.cell? ⟨w.heap.size, 8, none⟩ = some (.int .i64 (31 + (1 + p))) := by rw [hb4.cell (p := ⟨w.heap.size, 8, none⟩) (by simp; try omega)]; simp [go_sem]
    have q3 : u3.cell? ⟨w.heap.size + 1, 2, none⟩ = some (.int .i64 2) := by rw [hb4.cell (p := ⟨w.heap.size + 1, 2, none⟩) (by simp; try omega)]; simp [go_sem]
    have hz : w.heap.size + 1 < u3.heap.size := by have := hb4.size; simp at this; omega
    have hbw : Below w.heap.size w u3 := (((Below.refl _ _).alloc (Nat.le_refl _) _).alloc (by simp) _).trans (hb4.mono (by simp; omega))
    clear hb4
    go_region_held3 (fun w' => w'.cell? ⟨w.heap.size, 6, none⟩ = some (.int .i64 (1)) ∧ w'.cell? ⟨w.heap.size, 7, none⟩ = some (.int .i64 (0)) ∧ w'.cell? ⟨w.heap.size, 8, none⟩ = some (.int .i64 (31 + (1 + p))) ∧ w'.cell? ⟨w.heap.size + 1, 2, none⟩ = some (.int .i64 2) ∧ w.heap.size + 1 < w'.heap.size ∧ Below w.heap.size w w')
      (first | exact ⟨s0, s1, s2, s3, sz, sb⟩ | exact ⟨q0, q1, q2, q3, hz, hbw⟩ | exact ⟨q0, q1, q2, q3, hz, hbw.drew⟩)
      (first | (go_at_call 26; refine (checkday_lit _ _ _ 2 _ (by unfold chk; rw [if_neg (by omega), if_pos (by omega)])).mono ?_; rintro e w9 ⟨rfl, hb9⟩; have s0 := (hb9.cell (p := ⟨w.heap.size, 6, none⟩) (show w.heap.size < u3.heap.size by omega)).trans q0; have s1 := (hb9.cell (p := ⟨w.heap.size, 7, none⟩) (show w.heap.size < u3.heap.size by omega)).trans q1; have s2 := (hb9.cell (p := ⟨w.heap.size, 8, none⟩) (show w.heap.size < u3.heap.size by omega)).trans q2; have s3 := (hb9.cell (p := ⟨w.heap.size + 1, 2, none⟩) (show w.heap.size + 1 < u3.heap.size by omega)).trans q3; have sz : w.heap.size + 1 < w9.heap.size := Nat.lt_of_lt_of_le hz hb9.size; have sb : Below w.heap.size w w9 := hbw.drew.trans (hb9.mono hbw.size); clear hb9))
    go_wp2
    go_ret
    refine ⟨rfl, ?_⟩
    first | exact sb | assumption
  · go_wp2_with fail
    refine (find_lit _ _ _ 2 _ (hT2 _ _) (by unfold chk; rw [if_neg (by omega), if_pos (by omega)]) (by omega)).mono ?_; rintro e u1 ⟨rfl, hb1⟩
    have hT3 := (hT2 _ _).below hb1
    go_wp2_with fail
    refine (find_feb _ hT3).mono ?_; rintro e u2 ⟨rfl, hb2⟩
    have hb3 := hb1.trans (hb2.mono hb1.size)
    have hT4 := hT3.below hb2
    clear hb1 hb2 hT3
    go_wp2_with fail
    refine (number_bad _ _ _ _ hT4 (fun h => by have := h.2.1; omega)).mono ?_; rintro e w' ⟨rfl, n1, rfl⟩
    go_wp2_with fail
    refine (days_bad _ _ _ (fun h => by have := h.2.2.2; omega)).mono ?_; rintro e w' ⟨rfl, rfl⟩
    go_wp2
    have hb4 := below_draws hb3 n1
    clear hb3 hT4
    generalize u2.drewN n1 = u3 at hb4 ⊢
    have q0 : u3.cell? ⟨w.heap.size, 9, none⟩ = some (.int .i64 (1)) := by rw [hb4.cell (p := ⟨w.heap.size, 9, none⟩) (by simp; try omega)]; simp [go_sem]
    have q1 : u3.cell? ⟨w.heap.size, 10, none⟩ = some (.int .i64 (1)) := by rw [hb4.cell (p := ⟨w.heap.size, 10, none⟩) (by simp; try omega)]; simp [go_sem]
    have q2 : u3.cell? ⟨w.heap.size, 11, none⟩ = some (.int .i64 ((1 + p) % 31)) := by rw [hb4.cell (p := ⟨w.heap.size, 11, none⟩) (by simp; try omega)]; simp [go_sem]
    have q3 : u3.cell? ⟨w.heap.size + 1, 3, none⟩ = some (.int .i64 2) := by rw [hb4.cell (p := ⟨w.heap.size + 1, 3, none⟩) (by simp; try omega)]; simp [go_sem]
    have hz : w.heap.size + 1 < u3.heap.size := by have := hb4.size; simp at this; omega
    have hbw : Below w.heap.size w u3 := (((Below.refl _ _).alloc (Nat.le_refl _) _).alloc (by simp) _).trans (hb4.mono (by simp; omega))
    clear hb4
    go_region_held3 (fun w' => w'.cell? ⟨w.heap.size, 9, none⟩ = some (.int .i64 (1)) ∧ w'.cell? ⟨w.heap.size, 10, none⟩ = some (.int .i64 (1)) ∧ w'.cell? ⟨w.heap.size, 11, none⟩ = some (.int .i64 ((1 + p) % 31)) ∧ w'.cell? ⟨w.heap.size + 1, 3, none⟩ = some (.int .i64 2) ∧ w.heap.size + 1 < w'.heap.size ∧ Below w.heap.size w w')
      (first | exact ⟨s0, s1, s2, s3, sz, sb⟩ | exact ⟨q0, q1, q2, q3, hz, hbw⟩ | exact ⟨q0, q1, q2, q3, hz, hbw.drew⟩)
      (first | (go_at_call 26; refine (checkday_lit _ _ _ 2 _ (by unfold chk; rw [if_neg (by omega), if_pos (by omega)])).mono ?_; rintro e w9 ⟨rfl, hb9⟩; have s0 := (hb9.cell (p := ⟨w.heap.size, 9, none⟩) (show w.heap.size < u3.heap.size by omega)).trans q0; have s1 := (hb9.cell (p := ⟨w.heap.size, 10, none⟩) (show w.heap.size < u3.heap.size by omega)).trans q1; have s2 := (hb9.cell (p := ⟨w.heap.size, 11, none⟩) (show w.heap.size < u3.heap.size by omega)).trans q2; have s3 := (hb9.cell (p := ⟨w.heap.size + 1, 3, none⟩) (show w.heap.size + 1 < u3.heap.size by omega)).trans q3; have sz : w.heap.size + 1 < w9.heap.size := Nat.lt_of_lt_of_le hz hb9.size; have sb : Below w.heap.size w w9 := hbw.drew.trans (hb9.mono hbw.size); clear hb9))
    go_wp2
    go_ret
    refine ⟨rfl, ?_⟩
    first | exact sb | assumption
  · go_wp2_with fail
    refine (find_lit _ _ _ 2 _ (hT2 _ _) (by decide) (by omega)).mono ?_; rintro e u1 ⟨rfl, hb1⟩
    have hT3 := (hT2 _ _).below hb1
    go_wp2_with fail
    refine (find_feb _ hT3).mono ?_; rintro e u2 ⟨rfl, hb2⟩
    have hb3 := hb1.trans (hb2.mono hb1.size)
    have hT4 := hT3.below hb2
    clear hb1 hb2 hT3
    go_wp2_with fail
    refine (number_bad _ _ _ _ hT4 (fun h => by have := h.2.1; omega)).mono ?_; rintro e w' ⟨rfl, n1, rfl⟩
    go_wp2_with fail
    refine (days_bad _ _ _ (fun h => by have := h.2.2.2; omega)).mono ?_; rintro e w' ⟨rfl, rfl⟩
    go_wp2
    have hb4 := below_draws hb3 n1
    clear hb3 hT4
    generalize u2.drewN n1 = u3 at hb4 ⊢
    have q0 : u3.cell? ⟨w.heap.size, 12, none⟩ = some (.int .i64 (2)) := by rw [hb4.cell (p := ⟨w.heap.size, 12, none⟩) (by simp; try omega)]; simp [go_sem]
    have q1 : u3.cell? ⟨w.heap.size, 13, none⟩ = some (.int .i64 (0)) := by rw [hb4.cell (p := ⟨w.heap.size, 13, none⟩) (by simp; try omega)]; simp [go_sem]
    have q2 : u3.cell? ⟨w.heap.size, 14, none⟩ = some (.int .i64 (1)) := by rw [hb4.cell (p := ⟨w.heap.size, 14, none⟩) (by simp; try omega)]; simp [go_sem]
    have q3 : u3.cell? ⟨w.heap.size + 1, 4, none⟩ = some (.int .i64 2) := by rw [hb4.cell (p := ⟨w.heap.size + 1, 4, none⟩) (by simp; try omega)]; simp [go_sem]
    have hz : w.heap.size + 1 < u3.heap.size := by have := hb4.size; simp at this; omega
    have hbw : Below w.heap.size w u3 := (((Below.refl _ _).alloc (Nat.le_refl _) _).alloc (by simp) _).trans (hb4.mono (by simp; omega))
    clear hb4
    go_region_held3 (fun w' => w'.cell? ⟨w.heap.size, 12, none⟩ = some (.int .i64 (2)) ∧ w'.cell? ⟨w.heap.size, 13, none⟩ = some (.int .i64 (0)) ∧ w'.cell? ⟨w.heap.size, 14, none⟩ = some (.int .i64 (1)) ∧ w'.cell? ⟨w.heap.size + 1, 4, none⟩ = some (.int .i64 2) ∧ w.heap.size + 1 < w'.heap.size ∧ Below w.heap.size w w')
      (first | exact ⟨s0, s1, s2, s3, sz, sb⟩ | exact ⟨q0, q1, q2, q3, hz, hbw⟩ | exact ⟨q0, q1, q2, q3, hz, hbw.drew⟩)
      (first | (go_at_call 26; refine (checkday_lit _ _ _ 2 _ (by decide)).mono ?_; rintro e w9 ⟨rfl, hb9⟩; have s0 := (hb9.cell (p := ⟨w.heap.size, 12, none⟩) (show w.heap.size < u3.heap.size by omega)).trans q0; have s1 := (hb9.cell (p := ⟨w.heap.size, 13, none⟩) (show w.heap.size < u3.heap.size by omega)).trans q1; have s2 := (hb9.cell (p := ⟨w.heap.size, 14, none⟩) (show w.heap.size < u3.heap.size by omega)).trans q2; have s3 := (hb9.cell (p := ⟨w.heap.size + 1, 4, none⟩) (show w.heap.size + 1 < u3.heap.size by omega)).trans q3; have sz : w.heap.size + 1 < w9.heap.size := Nat.lt_of_lt_of_le hz hb9.size; have sb : Below w.heap.size w w9 := hbw.drew.trans (hb9.mono hbw.size); clear hb9))
    go_wp2
    go_ret
    refine ⟨rfl, ?_⟩
    first | exact sb | assumption
  · go_wp2_with fail
    refine (find_lit _ _ _ 2 _ (hT2 _ _) (by unfold chk; rw [if_neg (by omega), if_pos (by omega)]) (by omega)).mono ?_; rintro e u1 ⟨rfl, hb1⟩
    have hT3 := (hT2 _ _).below hb1
    go_wp2_with fail
    refine (find_feb _ hT3).mono ?_; rintro e u2 ⟨rfl, hb2⟩
    have hb3 := hb1.trans (hb2.mono hb1.size)
    have hT4 := hT3.below hb2
    clear hb1 hb2 hT3
    go_wp2_with fail
    refine (number_bad _ _ _ _ hT4 (fun h => by have := h.2.1; omega)).mono ?_; rintro e w' ⟨rfl, n1, rfl⟩
    go_wp2_with fail
    refine (days_bad _ _ _ (fun h => by have := h.2.2.2; omega)).mono ?_; rintro e w' ⟨rfl, rfl⟩
    go_wp2
    have hb4 := below_draws hb3 n1
    clear hb3 hT4
    generalize u2.drewN n1 = u3 at hb4 ⊢
    have q0 : u3.cell? ⟨w.heap.size, 15, none⟩ = some (.int .i64 (3)) := by rw [hb4.cell (p := ⟨w.heap.size, 15, none⟩) (by simp; try omega)]; simp [go_sem]
    have q1 : u3.cell? ⟨w.heap.size, 16, none⟩ = some (.int .i64 (6 + (1 + p))) := by rw [hb4.cell (p := ⟨w.heap.size, 16, none⟩) (by simp; try omega)]; simp [go_sem]
    have q2 : u3.cell? ⟨w.heap.size, 17, none⟩ = some (.int .i64 (1)) := by rw [hb4.cell (p := ⟨w.heap.size, 17, none⟩) (by simp; try omega)]; simp [go_sem]
    have q3 : u3.cell? ⟨w.heap.size + 1, 5, none⟩ = some (.int .i64 2) := by rw [hb4.cell (p := ⟨w.heap.size + 1, 5, none⟩) (by simp; try omega)]; simp [go_sem]
    have hz : w.heap.size + 1 < u3.heap.size := by have := hb4.size; simp at this; omega
    have hbw : Below w.heap.size w u3 := (((Below.refl _ _).alloc (Nat.le_refl _) _).alloc (by simp) _).trans (hb4.mono (by simp; omega))
    clear hb4
    go_region_held3 (fun w' => w'.cell? ⟨w.heap.size, 15, none⟩ = some (.int .i64 (3)) ∧ w'.cell? ⟨w.heap.size, 16, none⟩ = some (.int .i64 (6 + (1 + p))) ∧ w'.cell? ⟨w.heap.size, 17, none⟩ = some (.int .i64 (1)) ∧ w'.cell? ⟨w.heap.size + 1, 5, none⟩ = some (.int .i64 2) ∧ w.heap.size + 1 < w'.heap.size ∧ Below w.heap.size w w')
      (first | exact ⟨s0, s1, s2, s3, sz, sb⟩ | exact ⟨q0, q1, q2, q3, hz, hbw⟩ | exact ⟨q0, q1, q2, q3, hz, hbw.drew⟩)
      (first | (go_at_call 26; refine (checkday_lit _ _ _ 2 _ (by unfold chk; rw [if_neg (by omega), if_pos (by omega)])).mono ?_; rintro e w9 ⟨rfl, hb9⟩; have s0 := (hb9.cell (p := ⟨w.heap.size, 15, none⟩) (show w.heap.size < u3.heap.size by omega)).trans q0; have s1 := (hb9.cell (p := ⟨w.heap.size, 16, none⟩) (show w.heap.size < u3.heap.size by omega)).trans q1; have s2 := (hb9.cell (p := ⟨w.heap.size, 17, none⟩) (show w.heap.size < u3.heap.size by omega)).trans q2; have s3 := (hb9.cell (p := ⟨w.heap.size + 1, 5, none⟩) (show w.heap.size + 1 < u3.heap.size by omega)).trans q3; have sz : w.heap.size + 1 < w9.heap.size := Nat.lt_of_lt_of_le hz hb9.size; have sb : Below w.heap.size w w9 := hbw.drew.trans (hb9.mono hbw.size); clear hb9))
    go_wp2
    go_ret
    refine ⟨rfl, ?_⟩
    first | exact sb | assumption
  · go_wp2_with fail
    refine (find_lit _ _ _ 2 _ (hT2 _ _) (by unfold chk; rw [if_neg (by omega), if_pos (by omega)]) (by omega)).mono ?_; rintro e u1 ⟨rfl, hb1⟩
    have hT3 := (hT2 _ _).below hb1
    go_wp2_with fail
    refine (find_feb _ hT3).mono ?_; rintro e u2 ⟨rfl, hb2⟩
    have hb3 := hb1.trans (hb2.mono hb1.size)
    have hT4 := hT3.below hb2
    clear hb1 hb2 hT3
    go_wp2_with fail
    refine (number_bad _ _ _ _ hT4 (fun h => by have := h.2.1; omega)).mono ?_; rintro e w' ⟨rfl, n1, rfl⟩
    go_wp2_with fail
    refine (days_bad _ _ _ (fun h => by have := h.2.2.2; omega)).mono ?_; rintro e w' ⟨rfl, rfl⟩
    go_wp2
    have hb4 := below_draws hb3 n1
    clear hb3 hT4
    generalize u2.drewN n1 = u3 at hb4 ⊢
    have q0 : u3.cell? ⟨w.heap.size, 18, none⟩ = some (.int .i64 (4)) := by rw [hb4.cell (p := ⟨w.heap.size, 18, none⟩) (by simp; try omega)]; simp [go_sem]
    have q1 : u3.cell? ⟨w.heap.size, 19, none⟩ = some (.int .i64 (-(1 + p))) := by rw [hb4.cell (p := ⟨w.heap.size, 19, none⟩) (by simp; try omega)]; simp [go_sem]
    have q2 : u3.cell? ⟨w.heap.size, 20, none⟩ = some (.int .i64 (1)) := by rw [hb4.cell (p := ⟨w.heap.size, 20, none⟩) (by simp; try omega)]; simp [go_sem]
    have q3 : u3.cell? ⟨w.heap.size + 1, 6, none⟩ = some (.int .i64 2) := by rw [hb4.cell (p := ⟨w.heap.size + 1, 6, none⟩) (by simp; try omega)]; simp [go_sem]
    have hz : w.heap.size + 1 < u3.heap.size := by have := hb4.size; simp at this; omega
    have hbw : Below w.heap.size w u3 := (((Below.refl _ _).alloc (Nat.le_refl _) _).alloc (by simp) _).trans (hb4.mono (by simp; omega))
    clear hb4
    go_region_held3 (fun w' => w'.cell? ⟨w.heap.size, 18, none⟩ = some (.int .i64 (4)) ∧ w'.cell? ⟨w.heap.size, 19, none⟩ = some (.int .i64 (-(1 + p))) ∧ w'.cell? ⟨w.heap.size, 20, none⟩ = some (.int .i64 (1)) ∧ w'.cell? ⟨w.heap.size + 1, 6, none⟩ = some (.int .i64 2) ∧ w.heap.size + 1 < w'.heap.size ∧ Below w.heap.size w w')
      (first | exact ⟨s0, s1, s2, s3, sz, sb⟩ | exact ⟨q0, q1, q2, q3, hz, hbw⟩ | exact ⟨q0, q1, q2, q3, hz, hbw.drew⟩)
      (first | (go_at_call 26; refine (checkday_lit _ _ _ 2 _ (by unfold chk; rw [if_neg (by omega), if_pos (by omega)])).mono ?_; rintro e w9 ⟨rfl, hb9⟩; have s0 := (hb9.cell (p := ⟨w.heap.size, 18, none⟩) (show w.heap.size < u3.heap.size by omega)).trans q0; have s1 := (hb9.cell (p := ⟨w.heap.size, 19, none⟩) (show w.heap.size < u3.heap.size by omega)).trans q1; have s2 := (hb9.cell (p := ⟨w.heap.size, 20, none⟩) (show w.heap.size < u3.heap.size by omega)).trans q2; have s3 := (hb9.cell (p := ⟨w.heap.size + 1, 6, none⟩) (show w.heap.size + 1 < u3.heap.size by omega)).trans q3; have sz : w.heap.size + 1 < w9.heap.size := Nat.lt_of_lt_of_le hz hb9.size; have sb : Below w.heap.size w w9 := hbw.drew.trans (hb9.mono hbw.size); clear hb9))
    go_wp2
    go_ret
    refine ⟨rfl, ?_⟩
    first | exact sb | assumption
  · go_wp2_with fail
    refine (find_lit _ _ _ 2 _ (hT2 _ _) (by decide) (by omega)).mono ?_; rintro e u1 ⟨rfl, hb1⟩
    have hT3 := (hT2 _ _).below hb1
    go_wp2_with fail
    refine (find_feb _ hT3).mono ?_; rintro e u2 ⟨rfl, hb2⟩
    have hb3 := hb1.trans (hb2.mono hb1.size)
    have hT4 := hT3.below hb2
    clear hb1 hb2 hT3
    go_wp2_with fail
    refine (number_bad _ _ _ _ hT4 (fun h => by have := h.2.1; omega)).mono ?_; rintro e w' ⟨rfl, n1, rfl⟩
    go_wp2_with fail
    refine (days_bad _ _ _ (fun h => by have := h.2.2.2; omega)).mono ?_; rintro e w' ⟨rfl, rfl⟩
    go_wp2
    have hb4 := below_draws hb3 n1
    clear hb3 hT4
    generalize u2.drewN n1 = u3 at hb4 ⊢
    have q0 : u3.cell? ⟨w.heap.size, 21, none⟩ = some (.int .i64 (3)) := by rw [hb4.cell (p := ⟨w.heap.size, 21, none⟩) (by simp; try omega)]; simp [go_sem]
    have q1 : u3.cell? ⟨w.heap.size, 22, none⟩ = some (.int .i64 (0)) := by rw [hb4.cell (p := ⟨w.heap.size, 22, none⟩) (by simp; try omega)]; simp [go_sem]
    have q2 : u3.cell? ⟨w.heap.size, 23, none⟩ = some (.int .i64 (0)) := by rw [hb4.cell (p := ⟨w.heap.size, 23, none⟩) (by simp; try omega)]; simp [go_sem]
    have q3 : u3.cell? ⟨w.heap.size + 1, 7, none⟩ = some (.int .i64 2) := by rw [hb4.cell (p := ⟨w.heap.size + 1, 7, none⟩) (by simp; try omega)]; simp [go_sem]
    have hz : w.heap.size + 1 < u3.heap.size := by have := hb4.size; simp at this; omega
    have hbw : Below w.heap.size w u3 := (((Below.refl _ _).alloc (Nat.le_refl _) _).alloc (by simp) _).trans (hb4.mono (by simp; omega))
    clear hb4
    go_region_held3 (fun w' => w'.cell? ⟨w.heap.size, 21, none⟩ = some (.int .i64 (3)) ∧ w'.cell? ⟨w.heap.size, 22, none⟩ = some (.int .i64 (0)) ∧ w'.cell? ⟨w.heap.size, 23, none⟩ = some (.int .i64 (0)) ∧ w'.cell? ⟨w.heap.size + 1, 7, none⟩ = some (.int .i64 2) ∧ w.heap.size + 1 < w'.heap.size ∧ Below w.heap.size w w')
      (first | exact ⟨s0, s1, s2, s3, sz, sb⟩ | exact ⟨q0, q1, q2, q3, hz, hbw⟩ | exact ⟨q0, q1, q2, q3, hz, hbw.drew⟩)
      (first | (go_at_call 26; refine (checkday_lit _ _ _ 2 _ (by decide)).mono ?_; rintro e w9 ⟨rfl, hb9⟩; have s0 := (hb9.cell (p := ⟨w.heap.size, 21, none⟩) (show w.heap.size < u3.heap.size by omega)).trans q0; have s1 := (hb9.cell (p := ⟨w.heap.size, 22, none⟩) (show w.heap.size < u3.heap.size by omega)).trans q1; have s2 := (hb9.cell (p := ⟨w.heap.size, 23, none⟩) (show w.heap.size < u3.heap.size by omega)).trans q2; have s3 := (hb9.cell (p := ⟨w.heap.size + 1, 7, none⟩) (show w.heap.size + 1 < u3.heap.size by omega)).trans q3; have sz : w.heap.size + 1 < w9.heap.size := Nat.lt_of_lt_of_le hz hb9.size; have sb : Below w.heap.size w w9 := hbw.drew.trans (hb9.mono hbw.size); clear hb9))
    go_wp2
    go_ret
    refine ⟨rfl, ?_⟩
    first | exact sb | assumption
end Go.Proofs.YtalaejdbmjbocaaDoor
