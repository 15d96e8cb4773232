/-
  The law on days that are found: what the law's own function answers.
-/
import Derived.Test.YtalaejdbmjbocaaDoorKeep
namespace Go.Proofs.YtalaejdbmjbocaaDoor
set_option linter.unusedVariables false
set_option linter.unusedSimpArgs false
open Go.ChangeShapes Go.WideShapes Go.ChangeAt Go.RowKit Civ

theorem below_next {w w1 w2 : World} (h : Below w.heap.size w w1) (g : Below w1.heap.size w1 w2) : Below w.heap.size w w2 :=
  h.trans (g.mono h.size)
theorem lit3_0 (u : World) (n : Nat) (x y z : Int) : ((u.drewN n).alloc (.cells #[.int .i64 x, .int .i64 y, .int .i64 z] 3)).cell? ⟨u.heap.size, 0, none⟩ = some (.int .i64 x) :=
  (World.cell?_alloc_at (w := u.drewN n) _ _ u.heap.size 0 rfl).trans rfl
theorem lit3_1 (u : World) (n : Nat) (x y z : Int) : ((u.drewN n).alloc (.cells #[.int .i64 x, .int .i64 y, .int .i64 z] 3)).cell? ⟨u.heap.size, 1, none⟩ = some (.int .i64 y) :=
  (World.cell?_alloc_at (w := u.drewN n) _ _ u.heap.size 1 rfl).trans rfl
theorem lit3_2 (u : World) (n : Nat) (x y z : Int) : ((u.drewN n).alloc (.cells #[.int .i64 x, .int .i64 y, .int .i64 z] 3)).cell? ⟨u.heap.size, 2, none⟩ = some (.int .i64 z) :=
  (World.cell?_alloc_at (w := u.drewN n) _ _ u.heap.size 2 rfl).trans rfl
set_option maxHeartbeats 1600000 in
set_option maxRecDepth 100000 in
theorem walkDaysFound (a0 a1 a2 a3 : Int) (w : World) (w0 : (Lit.int .i64 a0).wf = true) (w1 : (Lit.int .i64 a1).wf = true) (w2 : (Lit.int .i64 a2).wf = true) (w3 : (Lit.int .i64 a3).wf = true) (hT : Tab w) :
    Calls Tryd.prog 9 #[.int .i64 a0, .int .i64 a1, .int .i64 a2, .int .i64 a3] w fun e w' => e = .returned (.bool true) ∧ Below w.heap.size w w' := by
  have W0 := Lib.hid w0
  have W1 := Lib.hid w1
  have W2 := Lib.hid w2
  have W3 := Lib.hid w3
  clear w0 w1 w2 w3
  go_enter Tryd.func9, Tryd.ntmps9
  go_wp2_with fail
  refine (picked_any _ _ _ W0.out (by omega) (by omega)).mono ?_
  rintro e w' ⟨p, hp1, hp2, rfl, rfl⟩
  go_wp2_with fail
  refine (picked_any _ _ _ W1.out (by omega) (by omega)).mono ?_
  rintro e w' ⟨q, hq1, hq2, rfl, rfl⟩
  go_wp2_with fail
  refine (picked_any _ _ _ W2.out (by omega) (by omega)).mono ?_
  rintro e w' ⟨k, hk1, hk2, rfl, rfl⟩
  go_wp2_with fail
  refine (picked_any _ _ _ W3.out (by omega) (by omega)).mono ?_
  rintro e w' ⟨r, hr1, hr2, rfl, rfl⟩
  have hdd := dim_bd (1900 + p) (1 + q) (by omega) (by omega)
  have HE3 := Lib.hid (fndE_ok (y := 1900 + p) (m := 1 + q) (k := 3) (a := k) (n := 1 + r) (by omega) (by omega) (by omega) (by omega) (by omega) (chk_ok (by omega) (by omega) (by omega) (by omega) (by omega) (by omega) (by omega) (by omega)))
  have HE4 := Lib.hid (fndE_ok (y := 1900 + p) (m := 1 + q) (k := 4) (a := k) (n := 1 + r) (by omega) (by omega) (by omega) (by omega) (by omega) (chk_ok (by omega) (by omega) (by omega) (by omega) (by omega) (by omega) (by omega) (by omega)))
  have HE2 := Lib.hid (fndE_ok (y := 1900 + p) (m := 1 + q) (k := 2) (a := k) (n := 0) (by omega) (by omega) (by omega) (by omega) (by omega) (chk_ok (by omega) (by omega) (by omega) (by omega) (by omega) (by omega) (by omega) (by omega)))
  have HE1 := Lib.hid (fndE_ok (y := 1900 + p) (m := 1 + q) (k := 1) (a := 0) (n := 1 + r) (by omega) (by omega) (by omega) (by omega) (by omega) (chk_ok (by omega) (by omega) (by omega) (by omega) (by omega) (by omega) (by omega) (by omega)))
  have OK : Hid (numOk (1900 + p) (1 + q) (1 + r)) := ⟨by omega, by omega, by omega, by omega, by omega, by omega⟩
  have OL : Hid (numOk (1900 + p) (1 + q) (dim (1900 + p) (1 + q))) := ⟨by omega, by omega, by omega, by omega, by omega, by omega⟩
  go_wp2_with fail
  refine (number_ok _ _ _ _ hT OK.out).mono ?_; rintro e w' ⟨rfl, n1, rfl⟩
  have hb0 : Below w.heap.size w (w.drewN n1) := below_draws (Below.refl _ _) _
  have hT0 := hT.below hb0
  generalize w.drewN n1 = u0 at hb0 hT0 ⊢
  go_wp2_with fail
  refine (find_ok _ _ _ _ _ _ hT0 HE3.out).mono ?_; rintro e u1 ⟨rfl, hc1⟩
  have hb1 := below_next hb0 hc1
  have hT1 := hT.below hb1
  clear hc1 hb0 hT0
  go_wp2_with fail
  refine (find_ok _ _ _ _ _ _ hT1 HE4.out).mono ?_; rintro e u2 ⟨rfl, hc2⟩
  have hb2 := below_next hb1 hc2
  have hT2 := hT.below hb2
  clear hc2 hb1 hT1
  go_wp2_with fail
  refine (find_ok _ _ _ _ _ _ hT2 HE2.out).mono ?_; rintro e u3 ⟨rfl, hc3⟩
  have hb3 := below_next hb2 hc3
  have hT3 := hT.below hb3
  clear hc3 hb2 hT2
  go_wp2_with fail
  refine (find_ok _ _ _ _ _ _ hT3 HE1.out).mono ?_; rintro e u4 ⟨rfl, hc4⟩
  have hb4 := below_next hb3 hc4
  have hT4 := hT.below hb4
  clear hc4 hb3 hT3
  go_wp2_with fail
  refine (days_ok _ _ _ hT4 (by omega) (by omega) (by omega) (by omega)).mono ?_; rintro e w' ⟨rfl, n2, rfl⟩
  go_wp2_with fail
  refine (number_ok _ _ _ _ (hT4.drewN _) OL.out).mono ?_; rintro e w' ⟨rfl, n3, rfl⟩
  have hb5 : Below w.heap.size w (u4.drewN (n2 + n3)) := below_draws hb4 _
  clear hb4 hT4
  have s3 := fnd_wd HE3.out (by omega)
  have s4 := fnd_wd HE4.out (by omega)
  have s2 := fnd_wd HE2.out (by omega)
  have b3 := fnd_bd _ _ _ _ _ HE3.out
  have b4 := fnd_bd _ _ _ _ _ HE4.out
  have b2 := fnd_bd _ _ _ _ _ HE2.out
  have bn := num_bd _ _ _ OK.out
  have bl := num_bd _ _ _ OL.out
  have r1 := fnd_on (1900 + p) (1 + q) 0 (1 + r)
  have r3 := fnd_after (1900 + p) (1 + q) k (1 + r)
  have r4 := fnd_before (1900 + p) (1 + q) k (1 + r)
  have r2 := fnd_last (1900 + p) (1 + q) k 0
  clear HE1 HE2 HE3 HE4 OK OL hdd
  generalize fnd (1900 + p) (1 + q) 3 k (1 + r) = after at *
  generalize fnd (1900 + p) (1 + q) 4 k (1 + r) = before at *
  generalize fnd (1900 + p) (1 + q) 2 k 0 = last at *
  generalize fnd (1900 + p) (1 + q) 1 0 (1 + r) = on at *
  generalize num (1900 + p) (1 + q) (1 + r) = atn at *
  generalize num (1900 + p) (1 + q) (dim (1900 + p) (1 + q)) = fin at *
  obtain rfl := r1
  have t3 : (wd after != k) = false := by rw [s3]; simp
  have t4 : (wd before != k) = false := by rw [s4]; simp
  have t2 : (wd last != k) = false := by rw [s2]; simp
  clear s2 s3 s4
  go_wp2_with fail
  have hl0 := lit3_0 u4 (n2 + n3) after before last
  have hl1 := lit3_1 u4 (n2 + n3) after before last
  have hl2 := lit3_2 u4 (n2 + n3) after before last
  go_loop [125] (fun t => ∃ j : Nat, j ≤ 3 ∧ t = .int .i64 j) (fun t => (3 - intOf t).toNat)
  case atStart => exact ⟨0, by omega, rfl⟩
  case round =>
    obtain ⟨j, hj, rfl⟩ := hrel
    have hj4 : j = 0 ∨ j = 1 ∨ j = 2 ∨ j = 3 := by omega
    rcases hj4 with rfl | rfl | rfl | rfl
    · go_wp2_with (go_at_call 25; refine (weekday_any _ _ (by omega) (by omega)).mono ?_; rintro e w' ⟨rfl, rfl⟩)
      go_round
      case rel => exact ⟨1, by omega, by go_num⟩
      case measure => simp [intOf]
    · go_wp2_with (go_at_call 25; refine (weekday_any _ _ (by omega) (by omega)).mono ?_; rintro e w' ⟨rfl, rfl⟩)
      go_round
      case rel => exact ⟨2, by omega, by go_num⟩
      case measure => simp [intOf]
    · go_wp2_with (go_at_call 25; refine (weekday_any _ _ (by omega) (by omega)).mono ?_; rintro e w' ⟨rfl, rfl⟩)
      go_round
      case rel => exact ⟨3, by omega, by go_num⟩
      case measure => simp [intOf]
    · obtain ⟨x1, x2⟩ := r3
      obtain ⟨y1, y2⟩ := r4
      obtain ⟨z1, z2⟩ := r2
      go_wp2
      go_ret
      exact ⟨ret_bool (by first | (simp; done) | (simp; omega)), hb5.alloc hb5.size _⟩
end Go.Proofs.YtalaejdbmjbocaaDoor
