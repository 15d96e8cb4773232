/-
  source: two digits; a text that is split; clocks, offsets. · A block that is known whole.
-/
import Derived.Lib.SplitLaws
import Derived.RegionTactic
import Derived.RangeFuncRecord
import Derived.Test.YtcmlcmokjgkciaaGreatDoorJRdC
import Derived.Test.YtcmlcmokjgkciaaGreatDoorJShSpl
import Derived.Test.YtcmlcmokjgkciaaGreatDoorJTreeT
namespace Go.Proofs.YtcmlcmokjgkciaaGreatDoor
set_option linter.unusedVariables false
set_option linter.unusedSimpArgs false
open Go.ChangeShapes Go.WideShapes Go.ChangeAt Go.RowKit Civ

theorem byI_at (s : ByteArray) (k : Nat) (h : k < s.size) : byI s k = ((s[k]).toNat : Int) := by
  unfold byI
  rw [List.getD_eq_getElem?_getD, List.getElem?_eq_getElem (by rw [bl_len]; exact h), ← bl_get s k h]
  rfl
theorem digB_bd {x : Int} (h : digB x = true) : 48 ≤ x ∧ x ≤ 57 := (digB_iff x).1 h
def twoE (s : ByteArray) : Int := if twoB s = true then 0 else 4
theorem twoE_no {s : ByteArray} (h : twoB s = false) : twoE s = 4 := by unfold twoE; rw [h]; rfl
theorem twoE_yes {s : ByteArray} (h : twoB s = true) : twoE s = 0 := by unfold twoE; rw [h]; rfl
set_option maxRecDepth 100000 in
set_option maxHeartbeats 1000000 in
theorem two_any (s : ByteArray) (w : World) (hs : s.size ≤ maxLen) :
    Calls Tryz.prog 137 #[.string s] w fun e w' => e = PnE (twoE s) (.int .i64 (twoV s)) ∧ Below w.heap.size w w' := by
  have hs' := maxLen_eq _ hs
  clear hs
  by_cases h2 : s.size = 2
  · have h0 : 0 < s.size := by omega
    have h1 : 1 < s.size := by omega
    have hsz : ((s.size : Int) == 2) = true := by rw [h2]; rfl
    have h00 : (0 : Int) < (s.size : Int) := by omega
    have h11 : (1 : Int) < (s.size : Int) := by omega
    have HT : Hid (twoB s = ((decide (48 ≤ byI s 0) && decide (byI s 0 ≤ 53)) && digB (byI s 1))) := by show _ = _; unfold twoB; rw [decide_eq_true h2, Bool.true_and]
    have HV : Hid (twoV s = 10 * (byI s 0 - 48) + (byI s 1 - 48)) := rfl
    rw [byI_at s 0 h0, byI_at s 1 h1] at HT HV
    obtain ⟨a, ha⟩ : ∃ a : Int, ((s[0]).toNat : Int) = a := ⟨_, rfl⟩
    obtain ⟨b, hb⟩ : ∃ b : Int, ((s[1]).toNat : Int) = b := ⟨_, rfl⟩
    rw [ha, hb] at HT HV
    clear h2
    obtain ⟨ra, hra⟩ : ∃ r, digB a = r := ⟨_, rfl⟩
    obtain ⟨rb, hrb⟩ : ∃ r, digB b = r := ⟨_, rfl⟩
    have HA := Lib.hid (fun w => digit_lit a ra w hra)
    have HB := Lib.hid (fun w => digit_lit b rb w hrb)
    cases ra with
    | false =>
      have HN : Hid (twoE s = 4) := by
        refine twoE_no ?_
        rw [HT.out]
        have : ¬ (48 ≤ a ∧ a ≤ 57) := fun h => by rw [(digB_iff a).2 h] at hra; cases hra
        by_cases e : 48 ≤ a
        · rw [decide_eq_false (show ¬ a ≤ 53 by omega)]; simp
        · rw [decide_eq_false e]; simp
      clear hra hrb HB HT HV
      go_enter Tryz.func137, Tryz.ntmps137
      go_wp2_with (first | (go_at_call 68; refine (HA.out _).mono ?_; rintro e w' ⟨rfl, rfl⟩) | (go_at_call 30; refine (need_no _ _).mono ?_; rintro e w' ⟨rfl, rfl⟩))
      go_wp2
      exact ⟨rfl, by rw [HN.out]; rfl, Below.refl _ _⟩
    | true =>
      obtain ⟨a1, a2⟩ := digB_bd hra
      cases rb with
      | false =>
        have HN : Hid (twoE s = 4) := twoE_no (by rw [HT.out, hrb]; simp)
        clear hra hrb HT HV
        go_enter Tryz.func137, Tryz.ntmps137
        go_wp2_with fail
        refine (HA.out _).mono ?_; rintro e w' ⟨rfl, rfl⟩
        go_wp2_with fail
        refine (HB.out _).mono ?_; rintro e w' ⟨rfl, rfl⟩
        go_wp2_with fail
        refine (need_no _ _).mono ?_; rintro e w' ⟨rfl, rfl⟩
        go_wp2
        exact ⟨rfl, by rw [HN.out]; rfl, Below.refl _ _⟩
      | true =>
        obtain ⟨b1, b2⟩ := digB_bd hrb
        by_cases h6 : a < 54
        · have HN : Hid (twoE s = 0) := twoE_yes (by rw [HT.out, hrb, decide_eq_true (show 48 ≤ a by omega), decide_eq_true (show a ≤ 53 by omega)]; rfl)
          clear hra hrb HT
          go_enter Tryz.func137, Tryz.ntmps137
          go_wp2_with fail
          refine (HA.out _).mono ?_; rintro e w' ⟨rfl, rfl⟩
          go_wp2_with fail
          refine (HB.out _).mono ?_; rintro e w' ⟨rfl, rfl⟩
          go_wp2_with fail
          refine (need_yes _ _).mono ?_; rintro e w' ⟨rfl, rfl⟩
          go_wp2_with fail
          go_quiet (fail)
          go_wp2
          go_ret
          refine ⟨?_, below_draws (Below.refl _ _) _⟩
          rw [HN.out, PnE_ok rfl]
          show Ending.returned (Value.int .i64 ((a - 48) * 10 + (b - 48))) = _
          exact ret_int (by rw [HV.out]; omega)
        · have HN : Hid (twoE s = 4) := twoE_no (by rw [HT.out, hrb, decide_eq_false (show ¬ a ≤ 53 by omega)]; simp)
          have d6 : decide (a < 54) = false := decide_eq_false h6
          clear hra hrb HT HV h6
          go_enter Tryz.func137, Tryz.ntmps137
          go_wp2_with fail
          refine (HA.out _).mono ?_; rintro e w' ⟨rfl, rfl⟩
          go_wp2_with fail
          refine (HB.out _).mono ?_; rintro e w' ⟨rfl, rfl⟩
          go_wp2_with fail
          refine (need_no _ _).mono ?_; rintro e w' ⟨rfl, rfl⟩
          go_wp2
          exact ⟨rfl, by rw [HN.out]; rfl, Below.refl _ _⟩
  · have HN : Hid (twoE s = 4) := twoE_no (by unfold twoB; rw [decide_eq_false h2]; rfl)
    have hsz : ((s.size : Int) == 2) = false := by rw [beq_eq_false_iff_ne]; omega
    clear h2
    go_enter Tryz.func137, Tryz.ntmps137
    go_wp2_with (go_at_call 30; refine (need_no _ _).mono ?_; rintro e w' ⟨rfl, rfl⟩)
    go_wp2
    exact ⟨rfl, by rw [HN.out]; rfl, Below.refl _ _⟩
end Go.Proofs.YtcmlcmokjgkciaaGreatDoor

namespace Go.Proofs.YtcmlcmokjgkciaaGreatDoor
set_option linter.unusedVariables false
set_option linter.unusedSimpArgs false
open Go.ChangeShapes Go.WideShapes Go.ChangeAt Go.RowKit

def BxO (W : World) (b : Nat) (cs : Array Value) (t : TypeId) : Prop := W.heap[b]? = some (.cells cs t (0, 0))
theorem BxO.lt {W : World} {b : Nat} {cs : Array Value} {t : TypeId} (h : BxO W b cs t) : b < W.heap.size := (Array.getElem?_eq_some_iff.1 h).1
theorem BxO.cell {W : World} {b : Nat} {cs : Array Value} {t : TypeId} (h : BxO W b cs t) (i : Nat) : W.cell? ⟨b, i, none⟩ = cs[i]? := by
  unfold World.cell?
  rw [show W.heap[b]? = _ from h]
  rfl
theorem BxO.frozen {W : World} {b : Nat} {cs : Array Value} {t : TypeId} (h : BxO W b cs t) (i : Nat) : W.frozen? ⟨b, i, none⟩ = false := by simp [World.frozen?, show W.heap[b]? = _ from h]
theorem BxO.kept {W W' : World} {b : Nat} {cs : Array Value} {t : TypeId} {row : Option Nat} (h : BxO W b cs t) (hg : W.grownBy W' row) (hne : some b ≠ row) : BxO W' b cs t := (hg.block b h.lt hne).trans h
theorem BxO.new (W : World) (cs : Array Value) (t : TypeId) : BxO (W.alloc (.cells cs t)) W.heap.size cs t := World.alloc_heap_new W _
theorem BxO.alloc {W : World} {b : Nat} {cs : Array Value} {t : TypeId} (h : BxO W b cs t) (o : Obj) : BxO (W.alloc o) b cs t := h.kept (World.grownBy_alloc W o none) (by simp)
theorem BxO.other {W : World} {b : Nat} {cs : Array Value} {t : TypeId} (h : BxO W b cs t) {b' : Nat} (hne : b ≠ b') (i : Nat) (u : Value) : BxO (W.setCell ⟨b', i, none⟩ u) b cs t := (Below.heap_setCell _ _ _ _ hne).trans h
theorem BxO.drew {W : World} {b : Nat} {cs : Array Value} {t : TypeId} (h : BxO W b cs t) : BxO W.drew b cs t := h
theorem BxO.set0 {W : World} {b : Nat} {v : Value} {t : TypeId} (h : BxO W b #[v] t) (u : Value) : BxO (W.setCell ⟨b, 0, none⟩ u) b #[u] t := by
  simp [BxO, World.setCell, Array.getElem?_modify, show W.heap[b]? = _ from h]
theorem BxO.set3 {W : World} {b : Nat} {u0 u1 u2 : Value} {t : TypeId} (h : BxO W b #[u0, u1, u2] t) (v0 v1 v2 : Value) : BxO (((W.setCell ⟨b, 0, none⟩ v0).setCell ⟨b, 1, none⟩ v1).setCell ⟨b, 2, none⟩ v2) b #[v0, v1, v2] t := by
  simp [BxO, World.setCell, Array.getElem?_modify, show W.heap[b]? = _ from h]
theorem BxO.setAt2 {W : World} {b : Nat} {u0 u1 u2 : Value} {t : TypeId} (h : BxO W b #[u0, u1, u2] t) (v2 : Value) : BxO (W.setCell ⟨b, 2, none⟩ v2) b #[u0, u1, v2] t := by
  simp [BxO, World.setCell, Array.getElem?_modify, show W.heap[b]? = _ from h]
end Go.Proofs.YtcmlcmokjgkciaaGreatDoor
