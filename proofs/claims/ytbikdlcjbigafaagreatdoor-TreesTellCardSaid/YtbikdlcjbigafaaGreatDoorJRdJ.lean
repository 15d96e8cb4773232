/-
  source: eras.
-/
import Derived.Test.YtbikdlcjbigafaaGreatDoorJRdH
import Derived.Test.YtbikdlcjbigafaaGreatDoorJMxl
namespace Go.Proofs.YtbikdlcjbigafaaGreatDoor
set_option linter.unusedVariables false
set_option linter.unusedSimpArgs false
open Go.ChangeShapes Go.WideShapes Go.ChangeAt Go.RowKit Civ

def eaA (o : Int) (rl : ByteArray) (sv : Int) (fm : ByteArray) (en : Bool) (yr mo k a n t c : Int) : Array Value := #[.int .i64 o, .string rl, .int .i64 sv, .string fm, .bool en, .int .i64 yr, .int .i64 mo, .int .i64 k, .int .i64 a, .int .i64 n, .int .i64 t, .int .i64 c]
/-- an era's box, beside the one of the result. -/
structure ErX (w wx : World) (B : Nat) (cs : Array Value) : Prop where
  r : BxO wx w.heap.size (eaA 0 ⟨#[]⟩ 0 ⟨#[]⟩ false 0 0 0 0 0 0 0) 68
  x : BxO wx B cs 68
  b : Below w.heap.size w wx
  n : w.heap.size < B
theorem ErX.next {w wx w' : World} {B : Nat} {cs : Array Value} (h : ErX w wx B cs) (hb : Below wx.heap.size wx w') : ErX w w' B cs :=
  ⟨(hb.block _ h.r.lt).trans h.r, (hb.block _ h.x.lt).trans h.x, h.b.trans (hb.mono h.b.size), h.n⟩
theorem ErX.put {w wx : World} {B : Nat} {cs cs' : Array Value} (h : ErX w wx B cs) (i : Nat) (u : Value) (hx : BxO (wx.setCell ⟨B, i, none⟩ u) B cs' 68) : ErX w (wx.setCell ⟨B, i, none⟩ u) B cs' :=
  ⟨h.r.other (Nat.ne_of_lt h.n) _ _, hx, h.b.setCell (p := ⟨B, i, none⟩) (Nat.le_of_lt h.n) _, h.n⟩
section
variable {w wx : World} {B : Nat} {rl fm : ByteArray} {en : Bool} {o sv yr mo k a n t c : Int}
theorem ErX.s1 (h : ErX w wx B (eaA o rl sv fm en yr mo k a n t c)) (u : ByteArray) : ErX w (wx.setCell ⟨B, 1, none⟩ (.string u)) B (eaA o u sv fm en yr mo k a n t c) :=
  h.put _ _ (by simp [BxO, World.setCell, Array.getElem?_modify, show wx.heap[B]? = _ from h.x, eaA])
theorem ErX.s2 (h : ErX w wx B (eaA o rl sv fm en yr mo k a n t c)) (u : Int) : ErX w (wx.setCell ⟨B, 2, none⟩ (.int .i64 u)) B (eaA o rl u fm en yr mo k a n t c) :=
  h.put _ _ (by simp [BxO, World.setCell, Array.getElem?_modify, show wx.heap[B]? = _ from h.x, eaA])
theorem ErX.s3 (h : ErX w wx B (eaA o rl sv fm en yr mo k a n t c)) (u : ByteArray) : ErX w (wx.setCell ⟨B, 3, none⟩ (.string u)) B (eaA o rl sv u en yr mo k a n t c) :=
  h.put _ _ (by simp [BxO, World.setCell, Array.getElem?_modify, show wx.heap[B]? = _ from h.x, eaA])
theorem ErX.s4 (h : ErX w wx B (eaA o rl sv fm en yr mo k a n t c)) (u : Bool) : ErX w (wx.setCell ⟨B, 4, none⟩ (.bool u)) B (eaA o rl sv fm u yr mo k a n t c) :=
  h.put _ _ (by simp [BxO, World.setCell, Array.getElem?_modify, show wx.heap[B]? = _ from h.x, eaA])
theorem ErX.s5 (h : ErX w wx B (eaA o rl sv fm en yr mo k a n t c)) (u : Int) : ErX w (wx.setCell ⟨B, 5, none⟩ (.int .i64 u)) B (eaA o rl sv fm en u mo k a n t c) :=
  h.put _ _ (by simp [BxO, World.setCell, Array.getElem?_modify, show wx.heap[B]? = _ from h.x, eaA])
theorem ErX.s6 (h : ErX w wx B (eaA o rl sv fm en yr mo k a n t c)) (u : Int) : ErX w (wx.setCell ⟨B, 6, none⟩ (.int .i64 u)) B (eaA o rl sv fm en yr u k a n t c) :=
  h.put _ _ (by simp [BxO, World.setCell, Array.getElem?_modify, show wx.heap[B]? = _ from h.x, eaA])
theorem ErX.s7 (h : ErX w wx B (eaA o rl sv fm en yr mo k a n t c)) (u : Int) : ErX w (wx.setCell ⟨B, 7, none⟩ (.int .i64 u)) B (eaA o rl sv fm en yr mo u a n t c) :=
  h.put _ _ (by simp [BxO, World.setCell, Array.getElem?_modify, show wx.heap[B]? = _ from h.x, eaA])
theorem ErX.s8 (h : ErX w wx B (eaA o rl sv fm en yr mo k a n t c)) (u : Int) : ErX w (wx.setCell ⟨B, 8, none⟩ (.int .i64 u)) B (eaA o rl sv fm en yr mo k u n t c) :=
  h.put _ _ (by simp [BxO, World.setCell, Array.getElem?_modify, show wx.heap[B]? = _ from h.x, eaA])
theorem ErX.s9 (h : ErX w wx B (eaA o rl sv fm en yr mo k a n t c)) (u : Int) : ErX w (wx.setCell ⟨B, 9, none⟩ (.int .i64 u)) B (eaA o rl sv fm en yr mo k a u t c) :=
  h.put _ _ (by simp [BxO, World.setCell, Array.getElem?_modify, show wx.heap[B]? = _ from h.x, eaA])
theorem ErX.s10 (h : ErX w wx B (eaA o rl sv fm en yr mo k a n t c)) (u : Int) : ErX w (wx.setCell ⟨B, 10, none⟩ (.int .i64 u)) B (eaA o rl sv fm en yr mo k a n u c) :=
  h.put _ _ (by simp [BxO, World.setCell, Array.getElem?_modify, show wx.heap[B]? = _ from h.x, eaA])
theorem ErX.s11 (h : ErX w wx B (eaA o rl sv fm en yr mo k a n t c)) (u : Int) : ErX w (wx.setCell ⟨B, 11, none⟩ (.int .i64 u)) B (eaA o rl sv fm en yr mo k a n t u) :=
  h.put _ _ (by simp [BxO, World.setCell, Array.getElem?_modify, show wx.heap[B]? = _ from h.x, eaA])
theorem ErX.twelve {w : World} {b : Nat} (h : BxO w b (eaA o rl sv fm en yr mo k a n t c) 68) : (w.cell? ⟨b, 0, none⟩ = some (.int .i64 o) ∧ w.cell? ⟨b, 1, none⟩ = some (.string rl) ∧ w.cell? ⟨b, 2, none⟩ = some (.int .i64 sv) ∧ w.cell? ⟨b, 3, none⟩ = some (.string fm) ∧ w.cell? ⟨b, 4, none⟩ = some (.bool en) ∧ w.cell? ⟨b, 5, none⟩ = some (.int .i64 yr) ∧ w.cell? ⟨b, 6, none⟩ = some (.int .i64 mo) ∧ w.cell? ⟨b, 7, none⟩ = some (.int .i64 k) ∧ w.cell? ⟨b, 8, none⟩ = some (.int .i64 a) ∧ w.cell? ⟨b, 9, none⟩ = some (.int .i64 n) ∧ w.cell? ⟨b, 10, none⟩ = some (.int .i64 t) ∧ w.cell? ⟨b, 11, none⟩ = some (.int .i64 c)) ∧ (w.frozen? ⟨b, 0, none⟩ = false ∧ w.frozen? ⟨b, 1, none⟩ = false ∧ w.frozen? ⟨b, 2, none⟩ = false ∧ w.frozen? ⟨b, 3, none⟩ = false ∧ w.frozen? ⟨b, 4, none⟩ = false ∧ w.frozen? ⟨b, 5, none⟩ = false ∧ w.frozen? ⟨b, 6, none⟩ = false ∧ w.frozen? ⟨b, 7, none⟩ = false ∧ w.frozen? ⟨b, 8, none⟩ = false ∧ w.frozen? ⟨b, 9, none⟩ = false ∧ w.frozen? ⟨b, 10, none⟩ = false ∧ w.frozen? ⟨b, 11, none⟩ = false) ∧ b < w.heap.size :=
  ⟨⟨h.cell 0, h.cell 1, h.cell 2, h.cell 3, h.cell 4, h.cell 5, h.cell 6, h.cell 7, h.cell 8, h.cell 9, h.cell 10, h.cell 11⟩, ⟨h.frozen 0, h.frozen 1, h.frozen 2, h.frozen 3, h.frozen 4, h.frozen 5, h.frozen 6, h.frozen 7, h.frozen 8, h.frozen 9, h.frozen 10, h.frozen 11⟩, h.lt⟩
theorem ErX.done {cs : Array Value} (h : ErX w wx B cs) (u0 u1 u2 u3 u4 u5 u6 u7 u8 u9 u10 u11 : Value) : Below w.heap.size w ((((((((((((wx.setCell ⟨w.heap.size, 0, none⟩ u0).setCell ⟨w.heap.size, 1, none⟩ u1).setCell ⟨w.heap.size, 2, none⟩ u2).setCell ⟨w.heap.size, 3, none⟩ u3).setCell ⟨w.heap.size, 4, none⟩ u4).setCell ⟨w.heap.size, 5, none⟩ u5).setCell ⟨w.heap.size, 6, none⟩ u6).setCell ⟨w.heap.size, 7, none⟩ u7).setCell ⟨w.heap.size, 8, none⟩ u8).setCell ⟨w.heap.size, 9, none⟩ u9).setCell ⟨w.heap.size, 10, none⟩ u10).setCell ⟨w.heap.size, 11, none⟩ u11) :=
  ((((((((((((h.b.setCell (p := ⟨w.heap.size, 0, none⟩) (Nat.le_refl _) _).setCell (p := ⟨w.heap.size, 1, none⟩) (Nat.le_refl _) _).setCell (p := ⟨w.heap.size, 2, none⟩) (Nat.le_refl _) _).setCell (p := ⟨w.heap.size, 3, none⟩) (Nat.le_refl _) _).setCell (p := ⟨w.heap.size, 4, none⟩) (Nat.le_refl _) _).setCell (p := ⟨w.heap.size, 5, none⟩) (Nat.le_refl _) _).setCell (p := ⟨w.heap.size, 6, none⟩) (Nat.le_refl _) _).setCell (p := ⟨w.heap.size, 7, none⟩) (Nat.le_refl _) _).setCell (p := ⟨w.heap.size, 8, none⟩) (Nat.le_refl _) _).setCell (p := ⟨w.heap.size, 9, none⟩) (Nat.le_refl _) _).setCell (p := ⟨w.heap.size, 10, none⟩) (Nat.le_refl _) _).setCell (p := ⟨w.heap.size, 11, none⟩) (Nat.le_refl _) _)
theorem ErX.made {W0 w2 : World} (h : BxO W0 w.heap.size (eaA 0 ⟨#[]⟩ 0 ⟨#[]⟩ false 0 0 0 0 0 0 0) 68) (hb : Below w.heap.size w W0) (hb2 : Below W0.heap.size W0 w2) (o : Int) :
    ErX w (w2.alloc (.cells #[.int .i64 o, .string ⟨#[]⟩, .int .i64 0, .string ⟨#[]⟩, .bool false, .int .i64 0, .int .i64 0, .int .i64 0, .int .i64 0, .int .i64 0, .int .i64 0, .int .i64 0] 68)) w2.heap.size (eaA o ⟨#[]⟩ 0 ⟨#[]⟩ false 0 0 0 0 0 0 0) :=
  ⟨BxO.alloc (show BxO _ _ _ _ from (hb2.block _ h.lt).trans h) _, BxO.new _ _ _, (hb.trans (hb2.mono hb.size)).alloc (Nat.le_trans hb.size hb2.size) _, Nat.lt_of_lt_of_le h.lt hb2.size⟩
end
theorem ErX.start {w : World} : BxO (w.alloc (.cells #[.int .i64 0, .string ⟨#[]⟩, .int .i64 0, .string ⟨#[]⟩, .bool false, .int .i64 0, .int .i64 0, .int .i64 0, .int .i64 0, .int .i64 0, .int .i64 0, .int .i64 0] 68)) w.heap.size (eaA 0 ⟨#[]⟩ 0 ⟨#[]⟩ false 0 0 0 0 0 0 0) 68 := BxO.new _ _ _
theorem wAt_get {l : List ByteArray} {k : Nat} (h : k < l.length) : wAt l k = l[k] := by
  unfold wAt
  rw [List.getD_eq_getElem?_getD, List.getElem?_eq_getElem h]
  rfl
set_option maxRecDepth 100000 in
set_option maxHeartbeats 8000000 in
theorem era_any_s (ws : List ByteArray) (v : Value) (w : World) (hV : SrV w) (hv : SlAt w 1 RSt v ws) (hz : ∀ x ∈ ws, 0 < x.size ∧ x.size ≤ 1000000) :
    Calls Tryz.prog 82 #[v] w fun e w' => e = PnE (erE ws) (.agg (eaA (erV ws).off (erV ws).rl (erV ws).sv (erV ws).fm (erV ws).en (erV ws).yr (erV ws).un.mo (erV ws).un.k (erV ws).un.a (erV ws).un.n (erV ws).un.t (erV ws).un.c)) ∧ Below w.heap.size w w' := by
  obtain ⟨W0, hW0⟩ : ∃ W0, W0 = w.alloc (.cells #[.int .i64 0, .string ⟨#[]⟩, .int .i64 0, .string ⟨#[]⟩, .bool false, .int .i64 0, .int .i64 0, .int .i64 0, .int .i64 0, .int .i64 0, .int .i64 0, .int .i64 0] 68) := ⟨_, rfl⟩
  have R0 : Hid (BxO W0 w.heap.size (eaA 0 ⟨#[]⟩ 0 ⟨#[]⟩ false 0 0 0 0 0 0 0) 68) := by show BxO _ _ _ _; rw [hW0]; exact ErX.start
  have B0 : Hid (Below w.heap.size w W0) := by show Below _ _ _; rw [hW0]; exact (Below.refl _ _).alloc (Nat.le_refl _) _
  have HW := Lib.hid hW0
  have HV := Lib.hid hV
  obtain ⟨aa, cc, rfl, hc⟩ := hv.shape
  clear hW0 hV
  by_cases hlen : ws.length < 3 ∨ 7 < ws.length
  · have HR : Hid (erE ws = 4) := by show _ = _; unfold erE; rw [if_pos hlen]
    have hc1 : (∃ q : Bool, decide ((3 : Int) ≤ (ws.length : Int)) = q ∧ (q = true → decide ((ws.length : Int) ≤ 7) = false)) := by
      rcases hlen with h | h
      · exact ⟨false, decide_eq_false (by omega), fun e => by cases e⟩
      · exact ⟨true, decide_eq_true (by omega), fun _ => decide_eq_false (by omega)⟩
    obtain ⟨q, hq, hq2⟩ := hc1
    clear hlen hv hz
    cases q with
    | false =>
      go_enter Tryz.func82, Tryz.ntmps82
      go_upto_region 1 with fail
      rw [← HW.out]
      go_wp2_with (go_at_call 80; refine (need_no _ _).mono ?_; rintro e w' ⟨rfl, rfl⟩)
      go_wp2
      exact ⟨rfl, by rw [HR.out]; rfl, B0.out⟩
    | true =>
      have hq3 := hq2 rfl
      go_enter Tryz.func82, Tryz.ntmps82
      go_upto_region 1 with fail
      rw [← HW.out]
      go_wp2_with (go_at_call 80; refine (need_no _ _).mono ?_; rintro e w' ⟨rfl, rfl⟩)
      go_wp2
      exact ⟨rfl, by rw [HR.out]; rfl, B0.out⟩
  · have hq : decide ((3 : Int) ≤ (ws.length : Int)) = true := decide_eq_true (by omega)
    have hq3 : decide ((ws.length : Int) ≤ 7) = true := decide_eq_true (by omega)
    have hn3 : 3 ≤ ws.length := by omega
    have hn7 : ws.length ≤ 7 := by omega
    obtain ⟨b, off, rfl, hb, -⟩ := entS hv 0 (by omega)
    have HB := Lib.hid hb
    have HWC : Hid (∀ wx, Below w.heap.size w wx → ∀ k (h : k < ws.length), wx.cell? ⟨b, off + k, none⟩ = some (.string (wAt ws k))) := by
      show ∀ wx, _ → _
      intro wx hx k h
      obtain ⟨b', o', e, -, q⟩ := entS hv k h
      simp only [Option.some.injEq, Addr.mk.injEq, and_true] at e
      obtain ⟨rfl, rfl⟩ := e
      rw [wAt_get h]
      exact (hx.cell (p := ⟨b, off + k, none⟩) hb).trans q
    have HZ : Hid (∀ k (h : k < ws.length), 0 < (wAt ws k).size ∧ (wAt ws k).size ≤ 1000000 ∧ (wAt ws k).size ≤ maxLen) := fun k h => by rw [wAt_get h]; exact ⟨(hz _ (List.getElem_mem h)).1, (hz _ (List.getElem_mem h)).2, by have := (hz _ (List.getElem_mem h)).2; unfold maxLen; omega⟩
    have HE0 : Hid (erE ws = if (offS (wAt ws 0)).2 ≠ 0 then (offS (wAt ws 0)).2 else if er1S ws ≠ 0 then er1S ws else if fmtL (wAt ws 2).data.toList = false then 4 else if ws.length = 3 then 0 else if (yrS (wAt ws 3)).2 ≠ 0 then (yrS (wAt ws 3)).2 else if 4 < ws.length ∧ (monS (wAt ws 4)).2 ≠ 0 then (monS (wAt ws 4)).2 else if 5 < ws.length ∧ (dyS (wAt ws 5)).2 ≠ 0 then (dyS (wAt ws 5)).2 else if 6 < ws.length then (tmS (wAt ws 6)).2 else 0) := by
      show _ = _
      have hl2 := hlen
      unfold erE
      rw [if_neg hl2]
    have HOF := Lib.hid (fun wx (h : SrV wx) => offset_any (wAt ws 0) wx h (HZ.out 0 (by omega)).2.1)
    have k0 := HWC.out _ B0.out 0 (by omega)
    rw [Nat.add_zero] at k0
    clear hlen hv hz hc hb
    obtain ⟨OF, hOF⟩ : ∃ OF, offS (wAt ws 0) = OF := ⟨_, rfl⟩
    rw [hOF] at HE0 HOF
    have HOFV := Lib.hid hOF
    clear hOF
    obtain ⟨o, Eo⟩ := OF
    dsimp only at HE0 HOF
    go_enter Tryz.func82, Tryz.ntmps82
    go_upto_region 1 with fail
    rw [← HW.out]
    clear HW
    go_wp2_with (go_at_call 80; refine (need_yes _ _).mono ?_; rintro e w' ⟨rfl, rfl⟩)
    refine (HOF.out _ (HV.out.below B0.out)).mono ?_; rintro e w5 ⟨he, hb5⟩
    by_cases hEo : Eo = 0
    · subst hEo
      rw [PnE_ok rfl] at he
      subst he
      have HE1 := Lib.hid (HE0.out.trans (if_neg (by simp)))
      have RA := Lib.hid (ErX.made R0.out B0.out hb5 o)
      obtain ⟨W6, hW6⟩ : ∃ W6, W6 = w5.alloc (.cells #[.int .i64 o, .string ⟨#[]⟩, .int .i64 0, .string ⟨#[]⟩, .bool false, .int .i64 0, .int .i64 0, .int .i64 0, .int .i64 0, .int .i64 0, .int .i64 0, .int .i64 0] 68) := ⟨_, rfl⟩
      rw [← hW6] at RA
      have HW6 := Lib.hid hW6
      clear hW6 hb5 HE0 k0
      have HS1 : Hid (er1S ws = if wAt ws 1 = dashS then 0 else if digB (byI (wAt ws 1) 0) = true ∨ byI (wAt ws 1) 0 = 45 then (offS (wAt ws 1)).2 else if nameS (wAt ws 1) = false then 4 else 0) := rfl
      have HS2 : Hid (erSv ws = if wAt ws 1 = dashS then 0 else if digB (byI (wAt ws 1) 0) = true ∨ byI (wAt ws 1) 0 = 45 then (offS (wAt ws 1)).1 else 0) := rfl
      have HS3 : Hid (erRl ws = if wAt ws 1 = dashS then ByteArray.empty else if digB (byI (wAt ws 1) 0) = true ∨ byI (wAt ws 1) 0 = 45 then ByteArray.empty else wAt ws 1) := rfl
      have HO1 := Lib.hid (fun wx (h : SrV wx) => offset_any (wAt ws 1) wx h (HZ.out 1 (by omega)).2.1)
      have HN1 := Lib.hid (fun wx => name_any_s (wAt ws 1) wx (HZ.out 1 (by omega)).2.2)
      have hs1z := (HZ.out 1 (by omega)).1
      have hi1 : (1 : Int) < (ws.length : Int) := by omega
      have hi1z : (0 : Int) < ((wAt ws 1).size : Int) := by omega
      go_upto_block 0 with fail
      rw [← HW6.out]
      clear HW6
      generalize w5.heap.size = B at *
      have k1 := HWC.out _ RA.out.b 1 (by omega)
      have hby := byI_at (wAt ws 1) 0 hs1z
      obtain ⟨s1, hs1⟩ : ∃ s1, wAt ws 1 = s1 := ⟨_, rfl⟩
      have HS1V := Lib.hid hs1
      simp only [hs1] at *
      clear hs1
      have l1 : (bx [45]).toList = [45] := by rw [ByteArray.toList_eq]; rfl
      have g1 := streqS s1 (bx [45])
      rw [l1] at g1
      obtain ⟨p1, hp1⟩ : ∃ q : Bool, (s1.toList == [45]) = q := ⟨_, rfl⟩
      have H1 : Hid (p1 = true ↔ s1 = dashS) := by show _ ↔ _; rw [← hp1, g1, decide_eq_true_iff]; rfl
      clear g1 l1
      go_cut [] (fun wx => ∃ (sv : Int) (rl : ByteArray), Hid (er1S ws = 0 ∧ erSv ws = sv ∧ erRl ws = rl) ∧ Hid (ErX w wx B (eaA o rl sv ⟨#[]⟩ false 0 0 0 0 0 0 0)))
      case first =>
        cases p1 with
        | true =>
          have hs : s1 = dashS := H1.out.1 rfl
          have HC : Hid (er1S ws = 0 ∧ erSv ws = 0 ∧ erRl ws = ⟨#[]⟩) := ⟨by rw [HS1.out, if_pos hs], by rw [HS2.out, if_pos hs], by rw [HS3.out, if_pos hs]; rfl⟩
          clear hs
          go_wp2_with fail
          go_meet
          exact ⟨0, ⟨#[]⟩, HC, RA⟩
        | false =>
          have hs : s1 ≠ dashS := fun e => by have := H1.out.2 e; cases this
          obtain ⟨d, hd0⟩ : ∃ d, digB (byI s1 0) = d := ⟨_, rfl⟩
          have hd := hd0
          rw [hby] at hd
          have HDG := Lib.hid (fun w => digit_lit _ d w hd)
          go_wp2_with fail
          refine (HDG.out _).mono ?_; rintro e w' ⟨rfl, rfl⟩
          cases d with
          | true =>
            have hcond : digB (byI s1 0) = true ∨ byI s1 0 = 45 := .inl hd0
            clear hd hd0 HDG
            have HC1 : Hid (er1S ws = (offS s1).2) := by show _ = _; rw [HS1.out, if_neg hs, if_pos hcond]
            have HC2 : Hid (erSv ws = (offS s1).1) := by show _ = _; rw [HS2.out, if_neg hs, if_pos hcond]
            have HC3 : Hid (erRl ws = ⟨#[]⟩) := by show _ = _; rw [HS3.out, if_neg hs, if_pos hcond]; rfl
            clear hcond HS1 HS2 HS3 HN1
            generalize offS s1 = OS at *
            obtain ⟨sv, Es⟩ := OS
            dsimp only at HC1 HC2 HO1
            go_wp2_with fail
            refine (HO1.out _ (HV.out.below RA.out.b)).mono ?_; rintro e w7 ⟨he, hb⟩
            have R7 := Lib.hid (RA.out.next hb)
            clear hb
            by_cases hEs : Es = 0
            · rw [PnE_ok hEs] at he
              subst he
              obtain ⟨⟨x0, x1, x2, x3, x4, x5, x6, x7, x8, x9, x10, x11⟩, ⟨xf0, xf1, xf2, xf3, xf4, xf5, xf6, xf7, xf8, xf9, xf10, xf11⟩, xl⟩ := ErX.twelve R7.out.x
              go_wp2_with fail
              go_meet
              exact ⟨sv, ⟨#[]⟩, ⟨by rw [HC1.out, hEs], HC2.out, HC3.out⟩, R7.out.s2 sv⟩
            · rw [PnE_no hEs] at he
              subst he
              have HRS : Hid (erE ws = Es) := by show _ = _; rw [HE1.out, HC1.out]; exact if_pos hEs
              go_wp2
              exact ⟨rfl, by rw [HRS.out, PnE_no hEs], R7.out.b⟩
          | false =>
            obtain ⟨pm, hpm0⟩ : ∃ q : Bool, (byI s1 0 == 45) = q := ⟨_, rfl⟩
            have hpm := hpm0
            rw [hby] at hpm
            cases pm with
            | true =>
              have hcond : digB (byI s1 0) = true ∨ byI s1 0 = 45 := .inr (beq_iff_eq.1 hpm0)
              clear hd hd0 HDG
              have HC1 : Hid (er1S ws = (offS s1).2) := by show _ = _; rw [HS1.out, if_neg hs, if_pos hcond]
              have HC2 : Hid (erSv ws = (offS s1).1) := by show _ = _; rw [HS2.out, if_neg hs, if_pos hcond]
              have HC3 : Hid (erRl ws = ⟨#[]⟩) := by show _ = _; rw [HS3.out, if_neg hs, if_pos hcond]; rfl
              clear hcond HS1 HS2 HS3 HN1
              generalize offS s1 = OS at *
              obtain ⟨sv, Es⟩ := OS
              dsimp only at HC1 HC2 HO1
              go_wp2_with fail
              refine (HO1.out _ (HV.out.below RA.out.b)).mono ?_; rintro e w7 ⟨he, hb⟩
              have R7 := Lib.hid (RA.out.next hb)
              clear hb
              by_cases hEs : Es = 0
              · rw [PnE_ok hEs] at he
                subst he
                obtain ⟨⟨x0, x1, x2, x3, x4, x5, x6, x7, x8, x9, x10, x11⟩, ⟨xf0, xf1, xf2, xf3, xf4, xf5, xf6, xf7, xf8, xf9, xf10, xf11⟩, xl⟩ := ErX.twelve R7.out.x
                go_wp2_with fail
                go_meet
                exact ⟨sv, ⟨#[]⟩, ⟨by rw [HC1.out, hEs], HC2.out, HC3.out⟩, R7.out.s2 sv⟩
              · rw [PnE_no hEs] at he
                subst he
                have HRS : Hid (erE ws = Es) := by show _ = _; rw [HE1.out, HC1.out]; exact if_pos hEs
                go_wp2
                exact ⟨rfl, by rw [HRS.out, PnE_no hEs], R7.out.b⟩
            | false =>
              have hcond : ¬ (digB (byI s1 0) = true ∨ byI s1 0 = 45) := by
                rintro (h | h)
                · rw [hd0] at h; cases h
                · rw [hby] at h
                  have := beq_eq_false_iff_ne.1 hpm
                  exact this h
              have HC1 : Hid (er1S ws = nmE s1) := by show _ = _; rw [HS1.out, if_neg hs, if_neg hcond]; unfold nmE; rcases nameS s1 with _ | _ <;> rfl
              have HC2 : Hid (erSv ws = 0) := by show _ = _; rw [HS2.out, if_neg hs, if_neg hcond]
              have HC3 : Hid (erRl ws = s1) := by show _ = _; rw [HS3.out, if_neg hs, if_neg hcond]
              clear hcond HS1 HS2 HS3 HO1 hd HDG
              generalize nmE s1 = Es at *
              go_wp2_with fail
              refine (HN1.out _).mono ?_; rintro e w7 ⟨he, hb⟩
              have R7 := Lib.hid (RA.out.next hb)
              clear hb
              by_cases hEs : Es = 0
              · rw [PnE_ok hEs] at he
                subst he
                obtain ⟨⟨x0, x1, x2, x3, x4, x5, x6, x7, x8, x9, x10, x11⟩, ⟨xf0, xf1, xf2, xf3, xf4, xf5, xf6, xf7, xf8, xf9, xf10, xf11⟩, xl⟩ := ErX.twelve R7.out.x
                go_wp2_with fail
                go_meet
                exact ⟨0, s1, ⟨by rw [HC1.out, hEs], HC2.out, HC3.out⟩, R7.out.s1 s1⟩
              · rw [PnE_no hEs] at he
                subst he
                have HRS : Hid (erE ws = Es) := by show _ = _; rw [HE1.out, HC1.out]; exact if_pos hEs
                go_wp2
                exact ⟨rfl, by rw [HRS.out, PnE_no hEs], R7.out.b⟩
      case rest =>
        obtain ⟨sv, rl', HER, RX⟩ := hcut
        have HE2 := Lib.hid (HE1.out.trans (if_neg (by rw [HER.out.1]; simp)))
        clear k1 hby HO1 HN1 HS1 HS2 HS3 RA H1 HE1 hs1z hi1z hp1
        have k2 := HWC.out _ RX.out.b 2 (by omega)
        have HFM := Lib.hid (fun wx (h : SrV wx) => format_lit (wAt ws 2) wx (HZ.out 2 (by omega)).2.2 h.mx)
        have hi2 : (2 : Int) < (ws.length : Int) := by omega
        obtain ⟨s2, hs2⟩ : ∃ s2, wAt ws 2 = s2 := ⟨_, rfl⟩
        have HS2V := Lib.hid hs2
        rw [hs2] at k2 HFM HE2
        clear hs2
        obtain ⟨fb, hfb⟩ : ∃ q, fmtL s2.data.toList = q := ⟨_, rfl⟩
        rw [hfb] at HFM HE2
        clear hfb
        go_wp2_with fail
        refine (HFM.out _ (HV.out.below RX.out.b)).mono ?_; rintro e w8 ⟨rfl, hb⟩
        have R8 := Lib.hid (RX.out.next hb)
        clear hb k2 RX HFM
        have k2 := HWC.out _ R8.out.b 2 (by omega)
        rw [HS2V.out] at k2
        cases fb with
        | false =>
          have HRS : Hid (erE ws = 4) := HE2.out.trans (if_pos rfl)
          go_wp2_with (go_at_call 80; refine (need_no _ _).mono ?_; rintro e w' ⟨rfl, rfl⟩)
          go_wp2
          exact ⟨rfl, by rw [HRS.out]; rfl, R8.out.b⟩
        | true =>
          have HE3 := Lib.hid (HE2.out.trans (if_neg (by decide)))
          clear HE2
          obtain ⟨⟨x0, x1, x2, x3, x4, x5, x6, x7, x8, x9, x10, x11⟩, ⟨xf0, xf1, xf2, xf3, xf4, xf5, xf6, xf7, xf8, xf9, xf10, xf11⟩, xl⟩ := ErX.twelve R8.out.x
          have R9 := Lib.hid (R8.out.s3 s2)
          obtain ⟨W9, hW9⟩ : ∃ W9, W9 = w8.setCell ⟨B, 3, none⟩ (.string s2) := ⟨_, rfl⟩
          rw [← hW9] at R9
          have HW9 := Lib.hid hW9
          clear hW9
          go_upto_region 9 with (go_at_call 80; refine (need_yes _ _).mono ?_; rintro e w' ⟨rfl, rfl⟩)
          rw [← HW9.out]
          clear HW9 k2 R8
          clear x0 x1 x2 x3 x4 x5 x6 x7 x8 x9 x10 x11 xf0 xf1 xf2 xf3 xf4 xf5 xf6 xf7 xf8 xf9 xf10 xf11 xl
          have hBn : w.heap.size ≠ B := Nat.ne_of_lt R9.out.n
          have hBn2 : B ≠ w.heap.size := fun e => hBn e.symm
          by_cases hl3 : ws.length = 3
          · have hl3b : ((ws.length : Int) == 3) = true := by rw [hl3]; rfl
            have HRS : Hid (erE ws = 0) := HE3.out.trans (if_pos hl3)
            have HRV : Hid (erV ws = ⟨o, rl', sv, s2, false, 0, ⟨0, 0, 0, 0, 0, 0⟩⟩) := by
              show _ = _
              unfold erV erUn
              rw [HOFV.out, HER.out.2.1, HER.out.2.2, HS2V.out, if_pos hl3, if_pos hl3, decide_eq_false (fun h => h hl3)]
            clear hl3 HE3
            obtain ⟨⟨x0, x1, x2, x3, x4, x5, x6, x7, x8, x9, x10, x11⟩, ⟨xf0, xf1, xf2, xf3, xf4, xf5, xf6, xf7, xf8, xf9, xf10, xf11⟩, xl⟩ := ErX.twelve R9.out.x
            obtain ⟨⟨r0, r1, r2, r3, r4, r5, r6, r7, r8, r9, r10, r11⟩, ⟨rf0, rf1, rf2, rf3, rf4, rf5, rf6, rf7, rf8, rf9, rf10, rf11⟩, rl⟩ := ErX.twelve R9.out.r
            go_wp2
            refine bodyPost_ret (v := .agg #[.int .i64 o, .string rl', .int .i64 sv, .string s2, .bool false, .int .i64 0, .int .i64 0, .int .i64 0, .int .i64 0, .int .i64 0, .int .i64 0, .int .i64 0]) (by simp [results, Tryz.results82, go_sem, r0, r1, r2, r3, r4, r5, r6, r7, r8, r9, r10, r11, rl]) rfl ⟨by rw [HRS.out, HRV.out]; rfl, R9.out.done _ _ _ _ _ _ _ _ _ _ _ _⟩
          · have hl3b : ((ws.length : Int) == 3) = false := beq_eq_false_iff_ne.2 (by omega)
            have HE4 := Lib.hid (HE3.out.trans (if_neg hl3))
            have HNL3 := Lib.hid hl3
            have hn4 : 3 < ws.length := by omega
            have hi3 : (3 : Int) < (ws.length : Int) := by omega
            clear hl3 HE3
            have k3 := HWC.out _ R9.out.b 3 hn4
            have HYR := Lib.hid (fun wx => ryear_any (wAt ws 3) wx (HZ.out 3 hn4).2.2)
            obtain ⟨YR, hYR⟩ : ∃ q, yrS (wAt ws 3) = q := ⟨_, rfl⟩
            rw [hYR] at HYR HE4
            have HYV := Lib.hid hYR
            clear hYR
            obtain ⟨yr, Ey⟩ := YR
            dsimp only at HYR HE4
            go_wp2_with fail
            refine (HYR.out _).mono ?_; rintro e w10 ⟨he, hb⟩
            have RA := Lib.hid (R9.out.next hb)
            clear hb k3 R9 HYR
            by_cases hEy : Ey = 0
            · subst hEy
              rw [PnE_ok rfl] at he
              subst he
              have HE5 := Lib.hid (HE4.out.trans (if_neg (by simp)))
              clear HE4
              obtain ⟨⟨x0, x1, x2, x3, x4, x5, x6, x7, x8, x9, x10, x11⟩, ⟨xf0, xf1, xf2, xf3, xf4, xf5, xf6, xf7, xf8, xf9, xf10, xf11⟩, xl⟩ := ErX.twelve RA.out.x
              have RB := Lib.hid ((((((((RA.out.s4 true).s5 yr).s6 1).s7 1).s8 0).s9 1).s10 0).s11 0)
              obtain ⟨WB, hWB⟩ : ∃ WB, WB = ((((((((w10.setCell ⟨B, 4, none⟩ (.bool true)).setCell ⟨B, 5, none⟩ (.int .i64 yr)).setCell ⟨B, 6, none⟩ (.int .i64 1)).setCell ⟨B, 7, none⟩ (.int .i64 1)).setCell ⟨B, 8, none⟩ (.int .i64 0)).setCell ⟨B, 9, none⟩ (.int .i64 1)).setCell ⟨B, 10, none⟩ (.int .i64 0)).setCell ⟨B, 11, none⟩ (.int .i64 0)) := ⟨_, rfl⟩
              rw [← hWB] at RB
              have HWB := Lib.hid hWB
              clear hWB
              go_upto_region 13 with fail
              rw [← HWB.out]
              clear HWB RA
              clear x0 x1 x2 x3 x4 x5 x6 x7 x8 x9 x10 x11 xf0 xf1 xf2 xf3 xf4 xf5 xf6 xf7 xf8 xf9 xf10 xf11 xl
              go_upto_if 70 with fail
              go_cut [] (fun wx => ∃ mo : Int, Hid (¬ (4 < ws.length ∧ (monS (wAt ws 4)).2 ≠ 0) ∧ (if 4 < ws.length then (monS (wAt ws 4)).1 else 1) = mo) ∧ Hid (ErX w wx B (eaA o rl' sv s2 true yr mo 1 0 1 0 0)))
              case first =>
                by_cases h4 : 4 < ws.length
                · have hi4 : (4 : Int) < (ws.length : Int) := by omega
                  have k4 := HWC.out _ RB.out.b 4 h4
                  have HMO := Lib.hid (month_any (wAt ws 4) WB (HV.out.below RB.out.b))
                  have HX : Hid (∀ mo Em, monS (wAt ws 4) = (mo, Em) → (Em = 0 → ¬ (4 < ws.length ∧ (monS (wAt ws 4)).2 ≠ 0) ∧ (if 4 < ws.length then (monS (wAt ws 4)).1 else 1) = mo) ∧ (Em ≠ 0 → erE ws = Em)) := by
                    show ∀ mo Em, _ → _
                    intro mo Em e
                    refine ⟨fun h0 => ⟨?_, ?_⟩, fun h0 => ?_⟩
                    · rw [e]; exact fun h => h.2 h0
                    · rw [if_pos h4, e]
                    · rw [HE5.out, e]; exact if_pos ⟨h4, h0⟩
                  obtain ⟨MO, hMO⟩ : ∃ q, monS (wAt ws 4) = q := ⟨_, rfl⟩
                  obtain ⟨mo, Em⟩ := MO
                  have HX2 := Lib.hid (HX.out mo Em hMO)
                  rw [hMO] at HMO
                  clear HX hMO h4
                  dsimp only at HMO
                  go_wp2_with fail
                  refine HMO.out.mono ?_; rintro e w' ⟨he, rfl⟩
                  by_cases hEm : Em = 0
                  · rw [PnE_ok hEm] at he
                    subst he
                    obtain ⟨⟨x0, x1, x2, x3, x4, x5, x6, x7, x8, x9, x10, x11⟩, ⟨xf0, xf1, xf2, xf3, xf4, xf5, xf6, xf7, xf8, xf9, xf10, xf11⟩, xl⟩ := ErX.twelve RB.out.x
                    go_wp2_with fail
                    go_meet
                    exact ⟨mo, HX2.out.1 hEm, RB.out.s6 mo⟩
                  · rw [PnE_no hEm] at he
                    subst he
                    have HRS := Lib.hid (HX2.out.2 hEm)
                    go_wp2
                    exact ⟨rfl, by rw [HRS.out, PnE_no hEm], RB.out.b⟩
                · have hi4 : ¬ (4 : Int) < (ws.length : Int) := by omega
                  have HX2 : Hid (¬ (4 < ws.length ∧ (monS (wAt ws 4)).2 ≠ 0) ∧ (if 4 < ws.length then (monS (wAt ws 4)).1 else 1) = 1) := ⟨fun h => h4 h.1, if_neg h4⟩
                  clear h4
                  go_wp2_with fail
                  go_meet
                  exact ⟨1, HX2, RB⟩
              case rest =>
                obtain ⟨mo, HMV, RC⟩ := hcut
                have HE6 := Lib.hid (HE5.out.trans (if_neg HMV.out.1))
                clear RB HE5
                go_upto_if 79 with fail
                go_cut [] (fun wx => ∃ dk da dn : Int, Hid (¬ (5 < ws.length ∧ (dyS (wAt ws 5)).2 ≠ 0) ∧ (if 5 < ws.length then (dyS (wAt ws 5)).1.k else 1) = dk ∧ (if 5 < ws.length then (dyS (wAt ws 5)).1.a else 0) = da ∧ (if 5 < ws.length then (dyS (wAt ws 5)).1.n else 1) = dn) ∧ Hid (ErX w wx B (eaA o rl' sv s2 true yr mo dk da dn 0 0)))
                case first =>
                  by_cases h5 : 5 < ws.length
                  · have hi5 : (5 : Int) < (ws.length : Int) := by omega
                    have k5 := HWC.out _ RC.out.b 5 h5
                    have HDY := Lib.hid (day_any_s (wAt ws 5) wc (HV.out.below RC.out.b) (HZ.out 5 h5).2.1)
                    have HX : Hid (∀ dv Ed, dyS (wAt ws 5) = (dv, Ed) → (Ed = 0 → ¬ (5 < ws.length ∧ (dyS (wAt ws 5)).2 ≠ 0) ∧ (if 5 < ws.length then (dyS (wAt ws 5)).1.k else 1) = dv.k ∧ (if 5 < ws.length then (dyS (wAt ws 5)).1.a else 0) = dv.a ∧ (if 5 < ws.length then (dyS (wAt ws 5)).1.n else 1) = dv.n) ∧ (Ed ≠ 0 → erE ws = Ed)) := by
                      show ∀ dv Ed, _ → _
                      intro dv Ed e
                      refine ⟨fun h0 => ⟨?_, ?_, ?_, ?_⟩, fun h0 => ?_⟩
                      · rw [e]; exact fun h => h.2 h0
                      · rw [if_pos h5, e]
                      · rw [if_pos h5, e]
                      · rw [if_pos h5, e]
                      · rw [HE6.out, e]; exact if_pos ⟨h5, h0⟩
                    obtain ⟨DY, hDY⟩ : ∃ q, dyS (wAt ws 5) = q := ⟨_, rfl⟩
                    obtain ⟨dv, Ed⟩ := DY
                    have HX2 := Lib.hid (HX.out dv Ed hDY)
                    rw [hDY] at HDY
                    clear HX hDY h5
                    dsimp only at HDY
                    go_wp2_with fail
                    refine HDY.out.mono ?_; rintro e w11 ⟨he, hb⟩
                    have RD := Lib.hid (RC.out.next hb)
                    clear hb k5 HDY
                    by_cases hEd : Ed = 0
                    · rw [PnE_ok hEd] at he
                      subst he
                      obtain ⟨⟨x0, x1, x2, x3, x4, x5, x6, x7, x8, x9, x10, x11⟩, ⟨xf0, xf1, xf2, xf3, xf4, xf5, xf6, xf7, xf8, xf9, xf10, xf11⟩, xl⟩ := ErX.twelve RD.out.x
                      go_wp2_with fail
                      go_meet
                      exact ⟨dv.k, dv.a, dv.n, HX2.out.1 hEd, ((RD.out.s7 dv.k).s8 dv.a).s9 dv.n⟩
                    · rw [PnE_no hEd] at he
                      subst he
                      have HRS := Lib.hid (HX2.out.2 hEd)
                      go_wp2
                      exact ⟨rfl, by rw [HRS.out, PnE_no hEd], RD.out.b⟩
                  · have hi5 : ¬ (5 : Int) < (ws.length : Int) := by omega
                    have HX2 : Hid (¬ (5 < ws.length ∧ (dyS (wAt ws 5)).2 ≠ 0) ∧ (if 5 < ws.length then (dyS (wAt ws 5)).1.k else 1) = 1 ∧ (if 5 < ws.length then (dyS (wAt ws 5)).1.a else 0) = 0 ∧ (if 5 < ws.length then (dyS (wAt ws 5)).1.n else 1) = 1) := ⟨fun h => h5 h.1, if_neg h5, if_neg h5, if_neg h5⟩
                    clear h5
                    go_wp2_with fail
                    go_meet
                    exact ⟨1, 0, 1, HX2, RC⟩
                case rest =>
                  obtain ⟨dk, da, dn, HDV, RE⟩ := hcut
                  have HE7 := Lib.hid (HE6.out.trans (if_neg HDV.out.1))
                  clear RC HE6
                  by_cases h6 : 6 < ws.length
                  · have hi6 : (6 : Int) < (ws.length : Int) := by omega
                    have k6 := HWC.out _ RE.out.b 6 h6
                    have HTM := Lib.hid (time_any (wAt ws 6) wc (HV.out.below RE.out.b) (HZ.out 6 h6).2.1)
                    obtain ⟨TM, hTM⟩ : ∃ q, tmS (wAt ws 6) = q := ⟨_, rfl⟩
                    obtain ⟨⟨tt, tc⟩, Et⟩ := TM
                    have HRS : Hid (erE ws = Et) := by show _ = _; rw [HE7.out, if_pos h6, hTM]
                    have HT1 : Hid ((if 6 < ws.length then (tmS (wAt ws 6)).1.1 else 0) = tt) := by show _ = _; rw [if_pos h6, hTM]
                    have HT2 : Hid ((if 6 < ws.length then (tmS (wAt ws 6)).1.2 else 0) = tc) := by show _ = _; rw [if_pos h6, hTM]
                    rw [hTM] at HTM
                    clear hTM h6
                    dsimp only at HTM
                    go_wp2_with fail
                    refine HTM.out.mono ?_; rintro e w12 ⟨he, hb⟩
                    have RF := Lib.hid (RE.out.next hb)
                    clear hb k6 HTM
                    by_cases hEt : Et = 0
                    · rw [PnE_ok hEt] at he
                      subst he hEt
                      obtain ⟨⟨x0, x1, x2, x3, x4, x5, x6, x7, x8, x9, x10, x11⟩, ⟨xf0, xf1, xf2, xf3, xf4, xf5, xf6, xf7, xf8, xf9, xf10, xf11⟩, xl⟩ := ErX.twelve RF.out.x
                      have RG := Lib.hid ((RF.out.s10 tt).s11 tc)
                      obtain ⟨WG, hWG⟩ : ∃ WG, WG = (w12.setCell ⟨B, 10, none⟩ (.int .i64 tt)).setCell ⟨B, 11, none⟩ (.int .i64 tc) := ⟨_, rfl⟩
                      rw [← hWG] at RG
                      have HWG := Lib.hid hWG
                      clear hWG
                      go_upto_region 19 with fail
                      rw [← HWG.out]
                      clear HWG RF
                      clear x0 x1 x2 x3 x4 x5 x6 x7 x8 x9 x10 x11 xf0 xf1 xf2 xf3 xf4 xf5 xf6 xf7 xf8 xf9 xf10 xf11 xl
                      obtain ⟨⟨x0, x1, x2, x3, x4, x5, x6, x7, x8, x9, x10, x11⟩, ⟨xf0, xf1, xf2, xf3, xf4, xf5, xf6, xf7, xf8, xf9, xf10, xf11⟩, xl⟩ := ErX.twelve RG.out.x
                      obtain ⟨⟨r0, r1, r2, r3, r4, r5, r6, r7, r8, r9, r10, r11⟩, ⟨rf0, rf1, rf2, rf3, rf4, rf5, rf6, rf7, rf8, rf9, rf10, rf11⟩, rl⟩ := ErX.twelve RG.out.r
                      have HRV : Hid (erV ws = ⟨o, rl', sv, s2, true, yr, ⟨mo, dk, da, dn, tt, tc⟩⟩) := by
                        show _ = _
                        unfold erV erUn
                        rw [HOFV.out, HER.out.2.1, HER.out.2.2, HS2V.out, HYV.out, if_neg HNL3.out, if_neg HNL3.out, decide_eq_true HNL3.out, HMV.out.2, HDV.out.2.1, HDV.out.2.2.1, HDV.out.2.2.2, HT1.out, HT2.out]
                      go_wp2
                      refine bodyPost_ret (v := .agg #[.int .i64 o, .string rl', .int .i64 sv, .string s2, .bool true, .int .i64 yr, .int .i64 mo, .int .i64 dk, .int .i64 da, .int .i64 dn, .int .i64 tt, .int .i64 tc]) (by simp [results, Tryz.results82, go_sem, r0, r1, r2, r3, r4, r5, r6, r7, r8, r9, r10, r11, rl]) rfl ⟨by rw [HRS.out, HRV.out]; rfl, RG.out.done _ _ _ _ _ _ _ _ _ _ _ _⟩
                    · rw [PnE_no hEt] at he
                      subst he
                      go_wp2
                      exact ⟨rfl, by rw [HRS.out, PnE_no hEt], RF.out.b⟩
                  · have hi6 : ¬ (6 : Int) < (ws.length : Int) := by omega
                    have HRS : Hid (erE ws = 0) := HE7.out.trans (if_neg h6)
                    have HT1 : Hid ((if 6 < ws.length then (tmS (wAt ws 6)).1.1 else 0) = 0) := if_neg h6
                    have HT2 : Hid ((if 6 < ws.length then (tmS (wAt ws 6)).1.2 else 0) = 0) := if_neg h6
                    clear h6
                    obtain ⟨⟨x0, x1, x2, x3, x4, x5, x6, x7, x8, x9, x10, x11⟩, ⟨xf0, xf1, xf2, xf3, xf4, xf5, xf6, xf7, xf8, xf9, xf10, xf11⟩, xl⟩ := ErX.twelve RE.out.x
                    obtain ⟨⟨r0, r1, r2, r3, r4, r5, r6, r7, r8, r9, r10, r11⟩, ⟨rf0, rf1, rf2, rf3, rf4, rf5, rf6, rf7, rf8, rf9, rf10, rf11⟩, rl⟩ := ErX.twelve RE.out.r
                    have HRV : Hid (erV ws = ⟨o, rl', sv, s2, true, yr, ⟨mo, dk, da, dn, 0, 0⟩⟩) := by
                      show _ = _
                      unfold erV erUn
                      rw [HOFV.out, HER.out.2.1, HER.out.2.2, HS2V.out, HYV.out, if_neg HNL3.out, if_neg HNL3.out, decide_eq_true HNL3.out, HMV.out.2, HDV.out.2.1, HDV.out.2.2.1, HDV.out.2.2.2, HT1.out, HT2.out]
                    go_wp2
                    refine bodyPost_ret (v := .agg #[.int .i64 o, .string rl', .int .i64 sv, .string s2, .bool true, .int .i64 yr, .int .i64 mo, .int .i64 dk, .int .i64 da, .int .i64 dn, .int .i64 0, .int .i64 0]) (by simp [results, Tryz.results82, go_sem, r0, r1, r2, r3, r4, r5, r6, r7, r8, r9, r10, r11, rl]) rfl ⟨by rw [HRS.out, HRV.out]; rfl, RE.out.done _ _ _ _ _ _ _ _ _ _ _ _⟩
            · rw [PnE_no hEy] at he
              subst he
              have HRS : Hid (erE ws = Ey) := HE4.out.trans (if_pos hEy)
              go_wp2
              exact ⟨rfl, by rw [HRS.out, PnE_no hEy], RA.out.b⟩
    · rw [PnE_no hEo] at he
      subst he
      have HRS : Hid (erE ws = Eo) := HE0.out.trans (if_pos hEo)
      go_wp2
      exact ⟨rfl, by rw [HRS.out, PnE_no hEo], B0.out.trans (hb5.mono B0.out.size)⟩
end Go.Proofs.YtbikdlcjbigafaaGreatDoor
