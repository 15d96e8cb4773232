/-
  SourceReads: the walk.
-/
import Derived.BigQuiet
import Derived.Test.YtbciennhcdabeaaGreatDoorLnT
import Derived.Test.YtbciennhcdabeaaGreatDoorRdT
import Derived.Test.YtbciennhcdabeaaGreatDoorRdY
namespace Go.Proofs.YtbciennhcdabeaaGreatDoor
set_option linter.unusedVariables false
set_option linter.unusedSimpArgs false
open Go.ChangeShapes Go.WideShapes Go.ChangeAt Go.RowKit Civ

set_option maxRecDepth 100000 in
set_option maxHeartbeats 2000000 in
theorem walkSourceReads (s : ByteArray) (W : World) (hs : s.size ≤ maxLen) (hV : SrV W) :
    Calls Tryz.prog 3 #[.string s] W fun e w' => e = .returned (.bool true) ∧ Below W.heap.size W w' := by
  have HA := Lib.hid (Read_any s W hV hs)
  have HB := Lib.hid (fun wx => SourceOf_any_s s wx hs)
  generalize srcL s = L at *
  generalize srcX s = E at *
  generalize srcV s = V at *
  clear hV hs
  go_enter Tryz.func3, Tryz.ntmps3
  go_wp2_with fail
  refine HA.out.mono ?_; rintro e w1 ⟨vr, vz, vl, rfl, hx, hb⟩
  obtain ⟨W1, hW1⟩ : ∃ W1, W1 = w1.alloc (.cells #[vr, vz, vl] 26) := ⟨_, rfl⟩
  have B1 : Hid (Below W.heap.size W W1) := by show Below _ _ _; rw [hW1]; exact hb.alloc hb.size _
  have X1 : Hid (BxO W1 w1.heap.size #[vr, vz, vl] 26) := by show BxO _ _ _ _; rw [hW1]; exact BxO.new _ _ _
  have S1 : Hid (SrX W1 vr vz vl V) := by show SrX _ _ _ _ _; rw [hW1]; exact hx.mono ((Below.refl _ _).alloc (Nat.le_refl _) _)
  have HW1 := Lib.hid hW1
  obtain ⟨a0, c0, rfl, -⟩ := hx.1.shape
  obtain ⟨a1, c1, rfl, -⟩ := hx.2.1.shape
  obtain ⟨a2, c2, rfl, -⟩ := hx.2.2.shape
  clear hW1 hx hb HA
  go_upto_region 2 with fail
  rw [← HW1.out]
  clear HW1
  go_wp2_with fail
  refine (HB.out _).mono ?_; rintro e w2 ⟨ur, uz, ul, rfl, hy, hb⟩
  obtain ⟨W2, hW2⟩ : ∃ W2, W2 = w2.alloc (.cells #[ur, uz, ul] 26) := ⟨_, rfl⟩
  have B12 : Hid (Below W1.heap.size W1 W2) := by show Below _ _ _; rw [hW2]; exact hb.alloc hb.size _
  have B2 : Hid (Below W.heap.size W W2) := B1.out.trans (B12.out.mono B1.out.size)
  have X2 : Hid (BxO W2 w1.heap.size #[.slice a0 V.rules.length c0, .slice a1 V.zones.length c1, .slice a2 V.links.length c2] 26) := (B12.out.block _ X1.out.lt).trans X1.out
  have Y2 : Hid (BxO W2 w2.heap.size #[ur, uz, ul] 26) := by show BxO _ _ _ _; rw [hW2]; exact BxO.new _ _ _
  have S2 := Lib.hid (S1.out.mono B12.out)
  have T2 : Hid (SrX W2 ur uz ul V) := by show SrX _ _ _ _ _; rw [hW2]; exact hy.mono ((Below.refl _ _).alloc (Nat.le_refl _) _)
  have HW2 := Lib.hid hW2
  obtain ⟨d0, e0, rfl, -⟩ := hy.1.shape
  obtain ⟨d1, e1, rfl, -⟩ := hy.2.1.shape
  obtain ⟨d2, e2, rfl, -⟩ := hy.2.2.shape
  clear hW2 hy hb HB X1 S1
  go_upto_region 3 with fail
  rw [← HW2.out]
  clear HW2
  have HC := Lib.hid (fun wx (h : Below W2.heap.size W2 wx) => sameSource_any V _ _ _ _ _ _ wx (S2.out.mono h) (T2.out.mono h))
  have x0 : W2.cell? ⟨w1.heap.size, 0, none⟩ = some (.slice a0 V.rules.length c0) := X2.out.cell 0
  have x1 : W2.cell? ⟨w1.heap.size, 1, none⟩ = some (.slice a1 V.zones.length c1) := X2.out.cell 1
  have x2 : W2.cell? ⟨w1.heap.size, 2, none⟩ = some (.slice a2 V.links.length c2) := X2.out.cell 2
  have y0 : W2.cell? ⟨w2.heap.size, 0, none⟩ = some (.slice d0 V.rules.length e0) := Y2.out.cell 0
  have y1 : W2.cell? ⟨w2.heap.size, 1, none⟩ = some (.slice d1 V.zones.length e1) := Y2.out.cell 1
  have y2 : W2.cell? ⟨w2.heap.size, 2, none⟩ = some (.slice d2 V.links.length e2) := Y2.out.cell 2
  have hx2 := X2.out.lt
  have hy2 := Y2.out.lt
  go_wp2_with fail
  refine (HC.out _ (Below.refl _ _)).mono ?_; rintro e w3 ⟨rfl, hb3⟩
  go_wp2
  go_ret
  exact ⟨ret_bool (by simp), B2.out.trans (hb3.mono B2.out.size)⟩
end Go.Proofs.YtbciennhcdabeaaGreatDoor
