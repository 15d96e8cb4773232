/-
  sundialref.zoneNamed, linkNamed.
-/
import Derived.Test.YtdpbedkppomffaaDoorZonS
namespace Go.Proofs.YtdpbedkppomffaaDoor
set_option linter.unusedVariables false
set_option linter.unusedSimpArgs false
open Go.ChangeShapes Go.WideShapes Go.ChangeAt Go.RowKit Civ

/-- a source's box. -/
def SrB (w wx : World) (vr vz vl : Value) : Prop := (wx.cell? ⟨w.heap.size, 0, none⟩ = some vr ∧ wx.cell? ⟨w.heap.size, 1, none⟩ = some vz ∧ wx.cell? ⟨w.heap.size, 2, none⟩ = some vl) ∧ Below w.heap.size w wx ∧ w.heap.size + 1 ≤ wx.heap.size
theorem SrB.new (w : World) (vr vz vl : Value) : SrB w (w.alloc (.cells #[vr, vz, vl] 26)) vr vz vl :=
  ⟨⟨(World.cell?_alloc_at (w := w) _ _ w.heap.size 0 rfl).trans rfl, (World.cell?_alloc_at (w := w) _ _ w.heap.size 1 rfl).trans rfl, (World.cell?_alloc_at (w := w) _ _ w.heap.size 2 rfl).trans rfl⟩, (Below.refl _ _).alloc (Nat.le_refl _) _, by rw [size_alloc]; exact Nat.le_refl _⟩
theorem SrB.next {w wx w' : World} {vr vz vl : Value} (h : SrB w wx vr vz vl) (hb : Below wx.heap.size wx w') : SrB w w' vr vz vl := by
  obtain ⟨⟨h1, h2, h3⟩, h6, h7⟩ := h
  have k : ∀ b j, b < wx.heap.size → w'.cell? ⟨b, j, none⟩ = wx.cell? ⟨b, j, none⟩ := fun b j hb' => hb.cell (p := ⟨b, j, none⟩) hb'
  exact ⟨⟨(k _ _ (by omega)).trans h1, (k _ _ (by omega)).trans h2, (k _ _ (by omega)).trans h3⟩, h6.trans (hb.mono (by omega)), Nat.le_trans h7 hb.size⟩
set_option maxHeartbeats 4000000 in
set_option maxRecDepth 100000 in
theorem zoneNamed_any (s : Src) (n : ByteArray) (vr vz vl : Value) (w : World) (hs : SrcAt w vr vz vl s) :
    Calls Tryd.prog 23 #[.agg #[vr, vz, vl], .string n] w fun e w' => e = .returned (.int .i64 (zIdx s n)) ∧ Below w.heap.size w w' := by
  have B0 := Lib.hid (SrB.new w vr vz vl)
  have HS := Lib.hid hs
  obtain ⟨W0, hW0⟩ : ∃ W0, W0 = w.alloc (.cells #[vr, vz, vl] 26) := ⟨_, rfl⟩
  rw [← hW0] at B0
  have HW := Lib.hid hW0
  obtain ⟨az, cz, rfl, hl⟩ := hs.2.1.shape
  have hml := maxLen_eq _ hl
  clear hs hl hW0
  go_enter Tryd.func23, Tryd.ntmps23
  go_upto_region 1 with fail
  rw [← HW.out]
  go_wp2
  go_loopw [5] (fun i wr => ∃ k : Nat, k ≤ s.zones.length ∧ i = .int .i64 k ∧ Hid (∀ (j : Nat) (hj : j < s.zones.length), j < k → decide (s.zones[j].nm = n) = false) ∧ wr = W0) (fun i _ => (s.zones.length - intOf i).toNat)
  case atStart => exact ⟨0, Nat.zero_le _, rfl, fun j hj h => by omega, rfl⟩
  case round =>
    obtain ⟨k, hk, rfl, HN, rfl⟩ := hrel
    obtain ⟨q0, q1, q2⟩ := B0.out.1
    by_cases hlt : k < s.zones.length
    · have hki : (k : Int) < (s.zones.length : Int) := by omega
      obtain ⟨b, off, v, rfl, hb, ⟨d0, d1⟩, -, -⟩ := elemZon (HS.out.mono B0.out.2.1).2.1 k hlt
      have HAT : Hid (decide (s.zones[k].nm = n) = true → zIdx s n = (k : Int)) := by
        show _ → _
        exact fun h => fidx_at _ s.zones k hlt (fun i hi => HN.out i (by omega) hi) h
      have HN2 : Hid (decide (s.zones[k].nm = n) = false → ∀ (j : Nat) (hj : j < s.zones.length), j < k + 1 → decide (s.zones[j].nm = n) = false) := by
        show _ → ∀ (j : Nat) (hj : j < s.zones.length), _
        intro h j hj hjk
        by_cases e : j = k
        · subst e; exact h
        · exact HN.out j hj (by omega)
      generalize s.zones[k] = z at *
      have tw : IntKind.i64.wrap ((k : Int) + 1) = (k : Int) + 1 := IntWalk.i64_in _ (by omega)
      by_cases he : z.nm = n
      · have hq : (z.nm.toList == n.toList) = true := by rw [streq]; exact decide_eq_true he
        have HA := Lib.hid (HAT.out (decide_eq_true he))
        clear he HAT HN2
        go_wp2
        go_ret
        exact ⟨ret_int HA.out.symm, B0.out.2.1⟩
      · have hq : (z.nm.toList == n.toList) = false := by rw [streq]; exact decide_eq_false he
        have HA := Lib.hid (HN2.out (decide_eq_false he))
        clear he HAT HN2
        go_wp2
        go_roundw
        case rel => exact ⟨k + 1, by omega, by go_num, HA, trivial⟩
        case measure => simp [intOf]; omega
    · obtain rfl : k = s.zones.length := by omega
      have hnl : ¬ (s.zones.length : Int) < (s.zones.length : Int) := by omega
      have HA : Hid (zIdx s n = -1) := fidx_none _ s.zones fun i hi => HN.out i hi hi
      clear hlt hk HN
      go_wp2
      go_ret
      exact ⟨ret_int HA.out.symm, B0.out.2.1⟩
/-- what a name is a link to. -/
def lnkP (s : Src) (n : ByteArray) : ByteArray × Bool := if lIdx s n < 0 then (ByteArray.empty, false) else ((s.links[(lIdx s n).toNat]?).elim ByteArray.empty Lnk.of, true)
set_option maxHeartbeats 4000000 in
set_option maxRecDepth 100000 in
theorem linkNamed_any (s : Src) (n : ByteArray) (vr vz vl : Value) (w : World) (hs : SrcAt w vr vz vl s) :
    Calls Tryd.prog 25 #[.agg #[vr, vz, vl], .string n] w fun e w' => e = .returned (.tuple #[.string (lnkP s n).1, .bool (lnkP s n).2]) ∧ Below w.heap.size w w' := by
  have B0 := Lib.hid (SrB.new w vr vz vl)
  have HS := Lib.hid hs
  obtain ⟨W0, hW0⟩ : ∃ W0, W0 = w.alloc (.cells #[vr, vz, vl] 26) := ⟨_, rfl⟩
  rw [← hW0] at B0
  have HW := Lib.hid hW0
  obtain ⟨al, cl, rfl, hl⟩ := hs.2.2.shape
  have hml := maxLen_eq _ hl
  clear hs hl hW0
  go_enter Tryd.func25, Tryd.ntmps25
  go_upto_region 1 with fail
  rw [← HW.out]
  go_wp2
  go_loopw [6] (fun i wr => ∃ k : Nat, k ≤ s.links.length ∧ i = .int .i64 k ∧ Hid (∀ (j : Nat) (hj : j < s.links.length), j < k → decide (s.links[j].nm = n) = false) ∧ wr = W0) (fun i _ => (s.links.length - intOf i).toNat)
  case atStart => exact ⟨0, Nat.zero_le _, rfl, fun j hj h => by omega, rfl⟩
  case round =>
    obtain ⟨k, hk, rfl, HN, rfl⟩ := hrel
    obtain ⟨q0, q1, q2⟩ := B0.out.1
    by_cases hlt : k < s.links.length
    · have hki : (k : Int) < (s.links.length : Int) := by omega
      obtain ⟨b, off, rfl, hb, ⟨d0, d1⟩, -⟩ := elemLnk (HS.out.mono B0.out.2.1).2.2 k hlt
      have HAT : Hid (decide (s.links[k].nm = n) = true → lnkP s n = (s.links[k].of, true)) := by
        show _ → _
        intro h
        have e : lIdx s n = (k : Int) := fidx_at _ s.links k hlt (fun i hi => HN.out i (by omega) hi) h
        unfold lnkP
        rw [if_neg (by omega), e, Int.toNat_natCast, List.getElem?_eq_getElem hlt]
        rfl
      have HN2 : Hid (decide (s.links[k].nm = n) = false → ∀ (j : Nat) (hj : j < s.links.length), j < k + 1 → decide (s.links[j].nm = n) = false) := by
        show _ → ∀ (j : Nat) (hj : j < s.links.length), _
        intro h j hj hjk
        by_cases e : j = k
        · subst e; exact h
        · exact HN.out j hj (by omega)
      generalize s.links[k] = z at *
      have tw : IntKind.i64.wrap ((k : Int) + 1) = (k : Int) + 1 := IntWalk.i64_in _ (by omega)
      by_cases he : z.nm = n
      · have hq : (z.nm.toList == n.toList) = true := by rw [streq]; exact decide_eq_true he
        have HA := Lib.hid (HAT.out (decide_eq_true he))
        clear he HAT HN2
        go_wp2
        go_ret2
        exact ⟨by rw [HA.out]; rfl, B0.out.2.1⟩
      · have hq : (z.nm.toList == n.toList) = false := by rw [streq]; exact decide_eq_false he
        have HA := Lib.hid (HN2.out (decide_eq_false he))
        clear he HAT HN2
        go_wp2
        go_roundw
        case rel => exact ⟨k + 1, by omega, by go_num, HA, trivial⟩
        case measure => simp [intOf]; omega
    · obtain rfl : k = s.links.length := by omega
      have hnl : ¬ (s.links.length : Int) < (s.links.length : Int) := by omega
      have HA : Hid (lnkP s n = (ByteArray.empty, false)) := by
        show _ = _
        have e : lIdx s n = -1 := fidx_none _ s.links fun i hi => HN.out i hi hi
        unfold lnkP
        rw [if_pos (by omega)]
      clear hlt hk HN
      go_wp2
      go_ret2
      exact ⟨by rw [HA.out]; rfl, B0.out.2.1⟩
end Go.Proofs.YtdpbedkppomffaaDoor
