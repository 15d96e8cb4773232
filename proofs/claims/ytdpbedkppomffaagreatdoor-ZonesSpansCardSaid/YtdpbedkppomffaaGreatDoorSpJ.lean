/-
  ZonesSpans: the walk.
-/
import Derived.BigQuiet
import Derived.Test.YtdpbedkppomffaaGreatDoorSpI
namespace Go.Proofs.YtdpbedkppomffaaGreatDoor
set_option linter.unusedVariables false
set_option linter.unusedSimpArgs false
open Go.ChangeShapes Go.WideShapes Go.ChangeAt Go.RowKit Civ

set_option maxHeartbeats 1000000 in
set_option maxRecDepth 100000 in
theorem sameSpans_same (v u : Value) (D D' : Nat) (xs : List Spn) (w : World) (hv : w.ownsRow D 102 4 v xs.length (xs.flatMap encQ)) (hu : w.ownsRow D' 102 4 u xs.length (xs.flatMap encQ)) (hl : xs.length ≤ 1000) :
    Calls Tryz.prog 14 #[v, u] w fun e w' => e = .returned (.bool true) ∧ ∃ q, w' = w.drewN q := by
  obtain ⟨av, cv, rfl⟩ := own_shape hv
  obtain ⟨au, cu, rfl⟩ := own_shape hu
  have HV := Lib.hid hv
  have HU := Lib.hid hu
  clear hv hu
  go_enter Tryz.func14, Tryz.ntmps14
  go_wp2
  go_loopw [5] (fun i wr => ∃ k q : Nat, k ≤ xs.length ∧ i = .int .i64 k ∧ wr = w.drewN q) (fun i _ => (xs.length - intOf i).toNat)
  case atStart => exact ⟨0, 0, Nat.zero_le _, rfl, rfl⟩
  case round =>
    obtain ⟨k, q, hk, rfl, rfl⟩ := hrel
    by_cases hlt : k < xs.length
    · obtain ⟨b, rfl, hb, c0, c1, c2, c3⟩ := spn_of_own HV.out k hlt
      obtain ⟨b2, rfl, hb2, d0, d1, d2, d3⟩ := spn_of_own HU.out k hlt
      generalize xs[k] = x at *
      obtain ⟨xf, ⟨xo, xv, xn⟩⟩ := x
      dsimp only at c0 c1 c2 c3 d0 d1 d2 d3
      have hlti : (k : Int) < (xs.length : Int) := by omega
      go_wp2
      go_quiet (fail)
      go_wp2
      go_roundw
      case rel => exact ⟨k + 1, _, by omega, by go_num, rfl⟩
      case measure => simp [intOf]; omega
    · obtain rfl : k = xs.length := by omega
      have hnl : ¬ (xs.length : Int) < (xs.length : Int) := by omega
      go_wp2
      go_ret
      exact ⟨rfl, q, rfl⟩
theorem spV_len (s : Src) (n : ByteArray) : (spV s n).length ≤ 1000 := by
  by_cases h : spE s n = 0
  · rw [spV_z h]
    by_cases h2 : 1000 < (spS s n).length
    · exfalso
      by_cases h3 : fndS s n = 0
      · rw [spE_l h3 h2] at h; cases h
      · rw [spE_f h3] at h; exact h3 h
    · omega
  · rw [spV_n h]; exact Nat.zero_le _
set_option maxRecDepth 100000 in
set_option maxHeartbeats 2000000 in
theorem walkZonesSpans (vr vz vl : Value) (s : Src) (n : ByteArray) (W : World) (hs : SrcAt W vr vz vl s) (hn : n.size ≤ maxLen) (hV : Tab W ∧ MxL W) :
    Calls Tryz.prog 5 #[.agg #[vr, vz, vl], .string n] W fun e w' => e = .returned (.bool true) ∧ Below W.heap.size W w' := by
  have B0 := Lib.hid (SrB.new W vr vz vl)
  have HS := Lib.hid hs
  have HV := Lib.hid hV
  obtain ⟨W0, hW0⟩ : ∃ W0, W0 = W.alloc (.cells #[vr, vz, vl] 26) := ⟨_, rfl⟩
  rw [← hW0] at B0
  have HW := Lib.hid hW0
  have HC := Lib.hid (fun wx (hb : Below W.heap.size W wx) => Spans_any s n vr vz vl wx (HS.out.mono hb) ⟨HV.out.1.below hb, HV.out.2.below hb⟩)
  have HF := Lib.hid (fun wx (hb : Below W.heap.size W wx) => SpansOf_any s n vr vz vl wx (HS.out.mono hb))
  have HL := Lib.hid (spV_len s n)
  clear hs hV hW0
  generalize spE s n = E at *
  generalize spV s n = L at *
  go_enter Tryz.func5, Tryz.ntmps5
  go_upto_region 1 with fail
  rw [← HW.out]
  obtain ⟨q0, q1, q2⟩ := B0.out.1
  go_wp2_with fail
  refine (HC.out _ B0.out.2.1).mono ?_; rintro e w1 ⟨v1, rfl, h1, hb1⟩
  have B1 := Lib.hid (B0.out.next hb1)
  have R1 := Lib.hid h1
  clear hb1 q0 q1 q2 h1
  obtain ⟨q0, q1, q2⟩ := B1.out.1
  have hz1 : W.heap.size < w1.heap.size := B1.out.2.2
  go_wp2_with fail
  refine (HF.out _ B1.out.2.1).mono ?_; rintro e w2 ⟨v2, rfl, h2, hb2⟩
  have B2 := Lib.hid (B1.out.next hb2)
  have R2 := Lib.hid h2
  have R3 := Lib.hid (ownsRow_below R1.out hb2 (Nat.le_refl _))
  clear hb2 q0 q1 q2 h2 hz1
  have HSS := Lib.hid (sameSpans_same v1 v2 _ _ L w2 R3.out R2.out HL.out)
  have hEE : (E == E) = true := by simp
  go_wp2_with fail
  refine HSS.out.mono ?_; rintro e w3 ⟨rfl, q, rfl⟩
  go_wp2
  go_ret
  exact ⟨rfl, below_draws B2.out.2.1 q⟩
end Go.Proofs.YtdpbedkppomffaaGreatDoor
