/-
  ZonesAt: the walk.
-/
import Derived.Test.YtdpbedkppomffaaGreatDoorAtG
namespace Go.Proofs.YtdpbedkppomffaaGreatDoor
set_option linter.unusedVariables false
set_option linter.unusedSimpArgs false
open Go.ChangeShapes Go.WideShapes Go.ChangeAt Go.RowKit Civ

set_option maxRecDepth 100000 in
set_option maxHeartbeats 2000000 in
theorem walkZonesAt (vr vz vl : Value) (s : Src) (n : ByteArray) (t : Int) (W : World) (hs : SrcAt W vr vz vl s) (hn : n.size ≤ maxLen) (ht : I64 t) (hV : Tab W ∧ MxL W) :
    Calls Tryz.prog 3 #[.agg #[vr, vz, vl], .string n, .int .i64 t] W fun e w' => e = .returned (.bool true) ∧ Below W.heap.size W w' := by
  have B0 := Lib.hid (SrB.new W vr vz vl)
  have HS := Lib.hid hs
  have HV := Lib.hid hV
  obtain ⟨W0, hW0⟩ : ∃ W0, W0 = W.alloc (.cells #[vr, vz, vl] 26) := ⟨_, rfl⟩
  rw [← hW0] at B0
  have HW := Lib.hid hW0
  have HC := Lib.hid (fun wx (hb : Below W.heap.size W wx) => At_any s n t vr vz vl wx (HS.out.mono hb) ⟨HV.out.1.below hb, HV.out.2.below hb⟩)
  have HF := Lib.hid (fun wx (hb : Below W.heap.size W wx) => AtOf_any s n t vr vz vl wx (HS.out.mono hb))
  clear hs hV hW0
  generalize atE s n t = E at *
  generalize atC s n t = ck at *
  obtain ⟨ko, ks, kn⟩ := ck
  dsimp only at HC HF
  go_enter Tryz.func3, Tryz.ntmps3
  go_upto_region 1 with fail
  rw [← HW.out]
  obtain ⟨q0, q1, q2⟩ := B0.out.1
  go_wp2_with fail
  refine (HC.out _ B0.out.2.1).mono ?_; rintro e w1 ⟨rfl, hb1⟩
  have B1 := Lib.hid (B0.out.next hb1)
  clear hb1 q0 q1 q2
  obtain ⟨W1, hW1⟩ : ∃ W1, W1 = w1.alloc (.cells #[.int .i64 ko, .bool ks, .string kn] 28) := ⟨_, rfl⟩
  have B2 : Hid (SrB W W1 vr vz vl) := by show SrB _ _ _ _ _; rw [hW1]; exact B1.out.next ((Below.refl _ _).alloc (Nat.le_refl _) _)
  have X1 : Hid (BxO W1 w1.heap.size #[.int .i64 ko, .bool ks, .string kn] 28) := by show BxO _ _ _ _; rw [hW1]; exact BxO.new _ _ _
  have HW1 := Lib.hid hW1
  clear hW1
  go_upto_region 2 with fail
  rw [← HW1.out]
  obtain ⟨q0, q1, q2⟩ := B2.out.1
  go_wp2_with fail
  refine (HF.out _ B2.out.2.1).mono ?_; rintro e w2 ⟨rfl, hb2⟩
  have B3 := Lib.hid (B2.out.next hb2)
  have X2 : Hid (BxO w2 w1.heap.size #[.int .i64 ko, .bool ks, .string kn] 28) := (hb2.block _ X1.out.lt).trans X1.out
  clear hb2 q0 q1 q2
  have c0 : w2.cell? ⟨w1.heap.size, 0, none⟩ = some (.int .i64 ko) := X2.out.cell 0
  have c1 : w2.cell? ⟨w1.heap.size, 1, none⟩ = some (.bool ks) := X2.out.cell 1
  have c2 : w2.cell? ⟨w1.heap.size, 2, none⟩ = some (.string kn) := X2.out.cell 2
  have hl : w1.heap.size < w2.heap.size := X2.out.lt
  go_wp2
  go_ret
  exact ⟨ret_bool (by simp), B3.out.2.1.alloc (by have := B3.out.2.2; omega) _⟩
end Go.Proofs.YtdpbedkppomffaaGreatDoor
