/-
  What the function of package civil on instants answers.
-/
import Derived.Test.YtdpbedkppomffaaDoorCivilD
namespace Go.Proofs.YtdpbedkppomffaaDoor
set_option linter.unusedVariables false
set_option linter.unusedSimpArgs false
open Go.ChangeShapes Go.WideShapes Go.ChangeAt Go.RowKit Civ

theorem checkmoment_ok (mo k a n t c : Int) (w : World) (h : chkM mo k a n t c = 0) :
    Calls Tryd.prog 49 #[.agg #[.int .i64 mo, .int .i64 k, .int .i64 a, .int .i64 n, .int .i64 t, .int .i64 c]] w fun e w' => e = .returned (.int .i64 0) ∧ Below w.heap.size w w' :=
  (checkmoment_any mo k a n t c w).mono fun e w' ⟨he, hb⟩ => ⟨by rw [he, h], hb⟩
theorem instant_err (y mo k a n t c o s : Int) (w : World) (hT : Tab w) (h : insE y mo k a n t c o s ≠ 0) :
    Calls Tryd.prog 73 #[.int .i64 y, .agg #[.int .i64 mo, .int .i64 k, .int .i64 a, .int .i64 n, .int .i64 t, .int .i64 c], .int .i64 o, .int .i64 s] w fun e w' => e = .returned (.tuple #[.int .i64 0, .int .i64 (insE y mo k a n t c o s)]) ∧ Below w.heap.size w w' := by
  by_cases hk : chkM mo k a n t c = 0
  · have HK := Lib.hid hk
    by_cases hy : -86400 ≤ o ∧ o ≤ 86400 ∧ -86400 ≤ s ∧ s ≤ 86400
    · have hE : Hid (insE y mo k a n t c o s = fndE y mo k a n) := by show insE y mo k a n t c o s = _; unfold insE; simp [hk, hy]
      rw [hE.out] at h
      have hb : (fndE y mo k a n != 0) = true := by simp [h]
      have H := Lib.hid h
      obtain ⟨h1, h2, h3, h4⟩ := hy
      clear hk h
      go_enter Tryd.func73, Tryd.ntmps73
      go_wp2_with fail
      refine (checkmoment_ok _ _ _ _ _ _ _ HK.out).mono ?_; rintro e w1 ⟨rfl, hb1⟩
      obtain ⟨hc, hf⟩ := bcell hb1
      have hT1 : Tab w1 := (hT.alloc _).below hb1
      go_wp2_with fail
      refine (find_err _ _ _ _ _ _ hT1 H.out).mono ?_; rintro e w2 ⟨rfl, hb2⟩
      go_wp2
      go_ret2
      exact ⟨by rw [hE.out]; rfl, below_two hb1 hb2⟩
    · have hE : Hid (insE y mo k a n t c o s = 2) := by show insE y mo k a n t c o s = _; unfold insE; simp [hk, hy]
      have hcase : o < -86400 ∨ (-86400 ≤ o ∧ 86400 < o) ∨ (-86400 ≤ o ∧ o ≤ 86400 ∧ s < -86400) ∨ (-86400 ≤ o ∧ o ≤ 86400 ∧ -86400 ≤ s ∧ 86400 < s) := by omega
      clear hk h hy
      rcases hcase with q1 | ⟨q1, q2⟩ | ⟨q1, q2, q3⟩ | ⟨q1, q2, q3, q4⟩
      all_goals
        go_enter Tryd.func73, Tryd.ntmps73
        go_wp2_with fail
        refine (checkmoment_ok _ _ _ _ _ _ _ HK.out).mono ?_; rintro e w1 ⟨rfl, hb1⟩
        obtain ⟨hc, hf⟩ := bcell hb1
        go_wp2
        go_ret2
        exact ⟨by rw [hE.out]; rfl, below_in hb1⟩
  · have hE : Hid (insE y mo k a n t c o s = chkM mo k a n t c) := by show insE y mo k a n t c o s = _; unfold insE; simp [hk]
    have hb : (chkM mo k a n t c != 0) = true := by simp [hk]
    clear hk h
    go_enter Tryd.func73, Tryd.ntmps73
    go_wp2_with fail
    refine (checkmoment_any _ _ _ _ _ _ _).mono ?_; rintro e w1 ⟨rfl, hb1⟩
    go_wp2
    go_ret2
    exact ⟨by rw [hE.out]; rfl, below_in hb1⟩
theorem instant_ok (y mo k a n t c o s : Int) (w : World) (hT : Tab w) (h : insE y mo k a n t c o s = 0) :
    Calls Tryd.prog 73 #[.int .i64 y, .agg #[.int .i64 mo, .int .i64 k, .int .i64 a, .int .i64 n, .int .i64 t, .int .i64 c], .int .i64 o, .int .i64 s] w fun e w' => e = .returned (.tuple #[.int .i64 (ins y mo k a n t c o s), .int .i64 0]) ∧ Below w.heap.size w w' := by
  obtain ⟨hk, h1, h2, h3, h4, h5⟩ := insE_zero h
  obtain ⟨g0, g1, g2, g3, g4, g5, g6⟩ := chkM_zero hk
  have hbd := fnd_bd y mo k a n h5
  have HK := Lib.hid hk
  have H5 := Lib.hid h5
  clear hk h5 h g0
  have hcase : c = 0 ∨ c = 1 ∨ c = 2 := by omega
  rcases hcase with rfl | rfl | rfl
  all_goals
    go_enter Tryd.func73, Tryd.ntmps73
    go_wp2_with fail
    refine (checkmoment_ok _ _ _ _ _ _ _ HK.out).mono ?_; rintro e w1 ⟨rfl, hb1⟩
    obtain ⟨hc, hf⟩ := bcell hb1
    have hT1 : Tab w1 := (hT.alloc _).below hb1
    have hz : w.heap.size < w1.heap.size := by have := hb1.size; simp at this; omega
    go_wp2_with fail
    refine (find_ok _ _ _ _ _ _ hT1 H5.out).mono ?_; rintro e w2 ⟨rfl, hb2⟩
    obtain ⟨hc2, hf2⟩ := bcell hb2
    go_wp2
    go_ret2
    exact ⟨ret_i2 (by simp [ins]) rfl, below_two hb1 hb2⟩
end Go.Proofs.YtdpbedkppomffaaDoor
