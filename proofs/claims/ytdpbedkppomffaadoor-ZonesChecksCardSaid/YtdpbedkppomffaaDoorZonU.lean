/-
  sundialref.ledTo: where a name leads.
-/
import Derived.Test.YtdpbedkppomffaaDoorZonT
namespace Go.Proofs.YtdpbedkppomffaaDoor
set_option linter.unusedVariables false
set_option linter.unusedSimpArgs false
open Go.ChangeShapes Go.WideShapes Go.ChangeAt Go.RowKit Civ

set_option maxHeartbeats 4000000 in
set_option maxRecDepth 100000 in
theorem ledTo_any (s : Src) (vr vz vl : Value) : ∀ (k : Nat) (hk : k ≤ 8) (n : ByteArray) (w : World) (hs : SrcAt w vr vz vl s),
    Calls Tryd.prog 26 #[.agg #[vr, vz, vl], .string n, .int .i64 (k : Int)] w fun e w' => e = .returned (.int .i64 (folL s k n)) ∧ Below w.heap.size w w' := by
  intro k
  induction k with
  | zero =>
    intro hk n w hs
    have B0 := Lib.hid (SrB.new w vr vz vl)
    have HZ := Lib.hid (fun wx (hb : Below w.heap.size w wx) => zoneNamed_any s n vr vz vl wx (hs.mono hb))
    obtain ⟨W0, hW0⟩ : ∃ W0, W0 = w.alloc (.cells #[vr, vz, vl] 26) := ⟨_, rfl⟩
    rw [← hW0] at B0
    have HW := Lib.hid hW0
    have HF : Hid (folL s 0 n = zIdx s n) := rfl
    clear hs hW0 hk
    generalize zIdx s n = z at *
    by_cases hz : 0 ≤ z
    · go_enter Tryd.func26, Tryd.ntmps26
      go_upto_region 1 with fail
      rw [← HW.out]
      obtain ⟨q0, q1, q2⟩ := B0.out.1
      have hz0 : w.heap.size < W0.heap.size := B0.out.2.2
      go_wp2_with fail
      refine (HZ.out _ B0.out.2.1).mono ?_; rintro e w1 ⟨rfl, hb1⟩
      have B1 := Lib.hid (B0.out.next hb1)
      clear hb1 q0 q1 q2
      go_wp2
      go_ret
      exact ⟨ret_int HF.out.symm, B1.out.2.1⟩
    · go_enter Tryd.func26, Tryd.ntmps26
      go_upto_region 1 with fail
      rw [← HW.out]
      obtain ⟨q0, q1, q2⟩ := B0.out.1
      have hz0 : w.heap.size < W0.heap.size := B0.out.2.2
      go_wp2_with fail
      refine (HZ.out _ B0.out.2.1).mono ?_; rintro e w1 ⟨rfl, hb1⟩
      have B1 := Lib.hid (B0.out.next hb1)
      clear hb1 q0 q1 q2
      go_wp2
      go_ret
      exact ⟨ret_int HF.out.symm, B1.out.2.1⟩
  | succ k ih =>
    intro hk n w hs
    have B0 := Lib.hid (SrB.new w vr vz vl)
    have HZ := Lib.hid (fun wx (hb : Below w.heap.size w wx) => zoneNamed_any s n vr vz vl wx (hs.mono hb))
    have HL := Lib.hid (fun wx (hb : Below w.heap.size w wx) => linkNamed_any s n vr vz vl wx (hs.mono hb))
    have HI := Lib.hid (fun wx m (hb : Below w.heap.size w wx) => ih (by omega) m wx (hs.mono hb))
    obtain ⟨W0, hW0⟩ : ∃ W0, W0 = w.alloc (.cells #[vr, vz, vl] 26) := ⟨_, rfl⟩
    rw [← hW0] at B0
    have HW := Lib.hid hW0
    have HF : Hid (folL s (k + 1) n = if 0 ≤ zIdx s n then zIdx s n else if (lnkP s n).2 = false then -1 else folL s k (lnkP s n).1) := by
      show folL s (k + 1) n = _
      unfold lnkP
      show (if 0 ≤ zIdx s n then zIdx s n else if lIdx s n < 0 then -1 else folL s k ((s.links[(lIdx s n).toNat]?).elim ByteArray.empty Lnk.of)) = _
      by_cases h1 : 0 ≤ zIdx s n
      · rw [if_pos h1, if_pos h1]
      · rw [if_neg h1, if_neg h1]
        by_cases h2 : lIdx s n < 0
        · rw [if_pos h2, if_pos h2, if_pos rfl]
        · rw [if_neg h2, if_neg h2, if_neg (by simp)]
    clear hs hW0 ih
    generalize zIdx s n = z at *
    obtain ⟨P, hP⟩ : ∃ P, P = lnkP s n := ⟨_, rfl⟩
    rw [← hP] at HL HF
    clear hP
    obtain ⟨of, th⟩ := P
    have hk0 : (((k : Int) + 1) == 0) = false := by rw [beq_eq_false_iff_ne]; omega
    have hk1 : ¬ (k : Int) + 1 = 0 := by omega
    by_cases hz : 0 ≤ z
    · have HF2 : Hid (folL s (k + 1) n = z) := by show _ = _; rw [HF.out, if_pos hz]
      clear HF HI
      go_enter Tryd.func26, Tryd.ntmps26
      go_upto_region 1 with fail
      rw [← HW.out]
      obtain ⟨q0, q1, q2⟩ := B0.out.1
      have hz0 : w.heap.size < W0.heap.size := B0.out.2.2
      go_wp2_with fail
      refine (HZ.out _ B0.out.2.1).mono ?_; rintro e w1 ⟨rfl, hb1⟩
      have B1 := Lib.hid (B0.out.next hb1)
      clear hb1 q0 q1 q2
      go_wp2
      go_ret
      exact ⟨ret_int HF2.out.symm, B1.out.2.1⟩
    · cases th with
      | false =>
        have HF2 : Hid (folL s (k + 1) n = -1) := by show _ = _; rw [HF.out, if_neg hz, if_pos rfl]
        clear HF HI
        go_enter Tryd.func26, Tryd.ntmps26
        go_upto_region 1 with fail
        rw [← HW.out]
        obtain ⟨q0, q1, q2⟩ := B0.out.1
        have hz0 : w.heap.size < W0.heap.size := B0.out.2.2
        go_wp2_with fail
        refine (HZ.out _ B0.out.2.1).mono ?_; rintro e w1 ⟨rfl, hb1⟩
        have B1 := Lib.hid (B0.out.next hb1)
        clear hb1 q0 q1 q2
        obtain ⟨q0, q1, q2⟩ := B1.out.1
        have hz1 : w.heap.size < w1.heap.size := B1.out.2.2
        go_wp2_with fail
        refine (HL.out _ B1.out.2.1).mono ?_; rintro e w2 ⟨rfl, hb2⟩
        have B2 := Lib.hid (B1.out.next hb2)
        clear hb2 q0 q1 q2
        go_wp2
        go_ret
        exact ⟨ret_int HF2.out.symm, B2.out.2.1⟩
      | true =>
        have HF2 : Hid (folL s (k + 1) n = folL s k of) := by show _ = _; rw [HF.out, if_neg hz, if_neg (by simp)]
        clear HF
        go_enter Tryd.func26, Tryd.ntmps26
        go_upto_region 1 with fail
        rw [← HW.out]
        obtain ⟨q0, q1, q2⟩ := B0.out.1
        have hz0 : w.heap.size < W0.heap.size := B0.out.2.2
        go_wp2_with fail
        refine (HZ.out _ B0.out.2.1).mono ?_; rintro e w1 ⟨rfl, hb1⟩
        have B1 := Lib.hid (B0.out.next hb1)
        clear hb1 q0 q1 q2
        obtain ⟨q0, q1, q2⟩ := B1.out.1
        have hz1 : w.heap.size < w1.heap.size := B1.out.2.2
        go_wp2_with fail
        refine (HL.out _ B1.out.2.1).mono ?_; rintro e w2 ⟨rfl, hb2⟩
        have B2 := Lib.hid (B1.out.next hb2)
        clear hb2 q0 q1 q2
        obtain ⟨q0, q1, q2⟩ := B2.out.1
        have hz2 : w.heap.size < w2.heap.size := B2.out.2.2
        go_wp2_with fail
        refine (HI.out _ _ B2.out.2.1).mono ?_; rintro e w3 ⟨rfl, hb3⟩
        have B3 := Lib.hid (B2.out.next hb3)
        clear hb3 q0 q1 q2
        go_wp2
        go_ret
        exact ⟨ret_int HF2.out.symm, B3.out.2.1⟩
end Go.Proofs.YtdpbedkppomffaaDoor
