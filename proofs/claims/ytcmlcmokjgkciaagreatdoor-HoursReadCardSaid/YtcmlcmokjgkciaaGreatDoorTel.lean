/-
  The library tells: civil and zones (the walks of CivilTells and ZonesTells).
-/
import Derived.BigQuiet
import Derived.Test.YtcmlcmokjgkciaaGreatDoorJLnT
import Derived.Test.YtcmlcmokjgkciaaGreatDoorJSpF
import Derived.Test.YtcmlcmokjgkciaaGreatDoorJSbd
import Derived.Test.YtcmlcmokjgkciaaGreatDoorJHrA
namespace Go.Proofs.YtcmlcmokjgkciaaGreatDoor
set_option linter.unusedVariables false
set_option linter.unusedSimpArgs false
open Go.ChangeShapes Go.WideShapes Go.ChangeAt Go.RowKit Civ

theorem telE : spE (zoS 3600) (bx [65]) = 0 := by decide +kernel
theorem telV : spV (zoS 3600) (bx [65]) = [⟨-2208988800, ⟨3600, false, bx [88]⟩⟩] := by kernel_rfl
theorem civil_tells (w : World) (hT : Tab w) : Calls Tryz.prog 13 #[] w fun e w' => e = .returned (.bool true) ∧ Below w.heap.size w w' := by
  have HD := Lib.hid (days_ok 2000 2 w hT (by omega) (by omega) (by omega) (by omega))
  rw [show dim 2000 2 = 29 from by decide] at HD
  clear hT
  go_enter Tryz.func13, Tryz.ntmps13
  go_wp2_with fail
  refine (winIn _).mono ?_; rintro e w' ⟨rfl, rfl⟩
  go_wp2_with fail
  refine HD.out.mono ?_; rintro e w1 ⟨rfl, n, rfl⟩
  go_wp2
  go_ret
  exact ⟨ret_bool (by simp), below_draws (Below.refl _ _) n⟩
set_option maxRecDepth 100000 in
set_option maxHeartbeats 4000000 in
theorem zones_tells (w : World) (hV : SrV w) (hT : Tab w) : Calls Tryz.prog 5 #[] w fun e w' => e = .returned (.bool true) ∧ Below w.heap.size w w' := by
  obtain ⟨r1, r2, r3⟩ := zo_read [49, 58, 48, 48] 3600 (by decide +kernel) (by decide +kernel)
  have HR := Lib.hid (Read_any (bx (zoT [49, 58, 48, 48])) w hV (by rw [bx_size]; decide))
  rw [r1, r2, r3, show bx (zoT [49, 58, 48, 48]) = ⟨#[90, 111, 110, 101, 32, 65, 32, 49, 58, 48, 48, 32, 45, 32, 88]⟩ from rfl] at HR
  have sb := srcV_bd (bx (zoT [49, 58, 48, 48])) (by rw [bx_size]; decide)
  rw [r3] at sb
  have HZ : Hid ((zoS 3600).zones.length = 1) := (show (zoS 3600).zones.length = 1 from rfl)
  have HRL : Hid ((zoS 3600).rules.length = 0) := (show (zoS 3600).rules.length = 0 from rfl)
  have HSP := Lib.hid (fun wx vr vz vl h hv => Spans_any (zoS 3600) (bx [65]) vr vz vl wx h hv)
  rw [telE, telV, show bx [65] = ⟨#[65]⟩ from rfl] at HSP
  have HCT := Lib.hid (fun wx (hb : Below w.heap.size w wx) => civil_tells wx (hT.below hb))
  have HTM := Lib.hid (fun wx (hb : Below w.heap.size w wx) => And.intro (hT.below hb) (hV.mx.below hb))
  obtain ⟨O, hO⟩ : ∃ o, zoS 3600 = o := ⟨_, rfl⟩
  rw [hO] at HR HSP HZ HRL sb
  clear hV hT r1 r2 r3 hO
  go_enter Tryz.func5, Tryz.ntmps5
  go_wp2_with fail
  refine HR.out.mono ?_; rintro e w1 ⟨vr, vz, vl, rfl, hx, b1⟩
  obtain ⟨W1, hW1⟩ : ∃ W1, W1 = w1.alloc (.cells #[vr, vz, vl] 29) := ⟨_, rfl⟩
  have B1 : Hid (Below w.heap.size w W1) := by show Below _ _ _; rw [hW1]; exact b1.alloc b1.size _
  have X1 : Hid (BxO W1 w1.heap.size #[vr, vz, vl] 29) := by show BxO _ _ _ _; rw [hW1]; exact BxO.new _ _ _
  have S1 : Hid (SrcAt W1 vr vz vl O) := by show SrcAt _ _ _ _ _; rw [hW1]; exact srcAt_of (hx.mono ((Below.refl _ _).alloc (Nat.le_refl _) _)) sb
  have H1 := Lib.hid hW1
  obtain ⟨a0, c0, rfl, -⟩ := hx.1.shape
  obtain ⟨a1, c1, rfl, -⟩ := hx.2.1.shape
  obtain ⟨a2, c2, rfl, -⟩ := hx.2.2.shape
  clear hW1 hx b1 HR sb
  go_upto_region 2 with fail
  rw [← H1.out]
  clear H1
  have x0 : W1.cell? ⟨w1.heap.size, 0, none⟩ = some (.slice a0 O.rules.length c0) := X1.out.cell 0
  have x1 : W1.cell? ⟨w1.heap.size, 1, none⟩ = some (.slice a1 1 c1) := by
    have := X1.out.cell 1
    rw [HZ.out] at this
    exact this
  have x2 : W1.cell? ⟨w1.heap.size, 2, none⟩ = some (.slice a2 O.links.length c2) := X1.out.cell 2
  have xl := X1.out.lt
  rw [HZ.out] at S1
  go_wp2_with fail
  refine (HSP.out _ _ _ _ S1.out (HTM.out _ B1.out)).mono ?_; rintro e w2 ⟨v, rfl, ho, b2⟩
  have B2 : Hid (Below w.heap.size w w2) := B1.out.trans (b2.mono B1.out.size)
  have ho : w2.ownsRow W1.heap.size 54 4 v 1 [.int .i64 (-2208988800), .int .i64 3600, .bool false, .string (bx [88])] := ho
  obtain ⟨g, cap, rfl⟩ : ∃ g cap, v = .slice (some ⟨g, 0, none⟩) 1 cap := by
    rcases ho.2 with ⟨_, h0⟩ | ⟨g, cap, _, rfl, _⟩
    · exact absurd h0 (by decide)
    · exact ⟨g, cap, rfl⟩
  have hg := ho.lt g rfl
  have k0 : w2.cell? ⟨g, 1, none⟩ = some (.int .i64 3600) := ho.cellAt 1 (by decide)
  have y1 := (b2.cell (p := ⟨w1.heap.size, 1, none⟩) xl).trans x1
  have yl := Nat.lt_of_lt_of_le xl b2.size
  clear x0 x1 x2 xl ho b2 HSP HTM S1 X1
  go_wp2_with fail
  refine (HCT.out _ B2.out).mono ?_; rintro e w3 ⟨rfl, b3⟩
  have B3 : Hid (Below w.heap.size w w3) := B2.out.trans (b3.mono B2.out.size)
  have z1 := (b3.cell (p := ⟨w1.heap.size, 1, none⟩) yl).trans y1
  have z0 := (b3.cell (p := ⟨g, 1, none⟩) hg.2).trans k0
  clear y1 yl k0 b3 HCT
  go_wp2
  go_ret
  exact ⟨ret_bool (by simp), B3.out⟩
end Go.Proofs.YtcmlcmokjgkciaaGreatDoor
