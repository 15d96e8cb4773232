/-
  ZonesChecks: the walk.
-/
import Derived.Test.YtdpbedkppomffaaDoorZonY
namespace Go.Proofs.YtdpbedkppomffaaDoor
set_option linter.unusedVariables false
set_option linter.unusedSimpArgs false
open Go.ChangeShapes Go.WideShapes Go.ChangeAt Go.RowKit Civ

set_option maxRecDepth 100000 in
set_option maxHeartbeats 2000000 in
theorem walkZonesChecks (vr vz vl : Value) (s : Src) (W : World) (hs : SrcAt W vr vz vl s) (hV : Tab W ∧ MxL W) :
    Calls Tryd.prog 3 #[.agg #[vr, vz, vl]] W fun e w' => e = .returned (.bool true) ∧ Below W.heap.size W w' := by
  have B0 := Lib.hid (SrB.new W vr vz vl)
  have HS := Lib.hid hs
  have HV := Lib.hid hV
  obtain ⟨W0, hW0⟩ : ∃ W0, W0 = W.alloc (.cells #[vr, vz, vl] 26) := ⟨_, rfl⟩
  rw [← hW0] at B0
  have HW := Lib.hid hW0
  have HC := Lib.hid (fun wx (hb : Below W.heap.size W wx) => check_any s vr vz vl wx (HS.out.mono hb) ⟨HV.out.1.below hb, HV.out.2.below hb⟩)
  have HF := Lib.hid (fun wx (hb : Below W.heap.size W wx) => sourceFault_any s vr vz vl wx (HS.out.mono hb))
  clear hs hV hW0
  generalize srcE s = E at *
  go_enter Tryd.func3, Tryd.ntmps3
  go_upto_region 1 with fail
  rw [← HW.out]
  obtain ⟨q0, q1, q2⟩ := B0.out.1
  go_wp2_with fail
  refine (HC.out _ B0.out.2.1).mono ?_; rintro e w1 ⟨rfl, hb1⟩
  have B1 := Lib.hid (B0.out.next hb1)
  clear hb1 q0 q1 q2
  obtain ⟨q0, q1, q2⟩ := B1.out.1
  go_wp2_with fail
  refine (HF.out _ B1.out.2.1).mono ?_; rintro e w2 ⟨rfl, hb2⟩
  have B2 := Lib.hid (B1.out.next hb2)
  clear hb2 q0 q1 q2
  go_wp2
  go_ret
  exact ⟨ret_bool (by simp), B2.out.2.1⟩
end Go.Proofs.YtdpbedkppomffaaDoor
