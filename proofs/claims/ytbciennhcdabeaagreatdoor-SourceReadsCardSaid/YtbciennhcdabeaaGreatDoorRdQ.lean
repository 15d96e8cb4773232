/-
  The document's rules: the walk.
-/
import Derived.BigQuiet
import Derived.Laws.CopyOwn
import Derived.Test.YtbciennhcdabeaaGreatDoorRdH
import Derived.Test.YtbciennhcdabeaaGreatDoorRdP
namespace Go.Proofs.YtbciennhcdabeaaGreatDoor
set_option linter.unusedVariables false
set_option linter.unusedSimpArgs false
open Go.ChangeShapes Go.WideShapes Go.ChangeAt Go.RowKit Civ

theorem RuB.sNm {w wx : World} {B : Nat} {nm lt : ByteArray} {fr tq mo k a n t c sv : Int} (h : RuB w wx B (ruA nm fr tq mo k a n t c sv lt)) (u : ByteArray) : RuB w (wx.setCell ⟨B, 0, none⟩ (.string u)) B (ruA u fr tq mo k a n t c sv lt) :=
  h.put _ _ (by simp [BxO, World.setCell, Array.getElem?_modify, show wx.heap[B]? = _ from h.x, ruA])
theorem RuB.sFr {w wx : World} {B : Nat} {nm lt : ByteArray} {fr tq mo k a n t c sv : Int} (h : RuB w wx B (ruA nm fr tq mo k a n t c sv lt)) (u : Int) : RuB w (wx.setCell ⟨B, 1, none⟩ (.int .i64 u)) B (ruA nm u tq mo k a n t c sv lt) :=
  h.put _ _ (by simp [BxO, World.setCell, Array.getElem?_modify, show wx.heap[B]? = _ from h.x, ruA])
set_option maxRecDepth 100000 in
set_option maxHeartbeats 4000000 in
theorem ruleOf_any_s (ws : List ByteArray) (v : Value) (w : World) (hv : SlAt w 1 RSt v ws) (hz : ∀ x ∈ ws, x.size ≤ 1000000) :
    Calls Tryz.prog 16 #[v] w fun e w' => ∃ r : Rul, e = .returned (.tuple #[.agg (ruA r.nm r.fr r.to r.at'.mo r.at'.k r.at'.a r.at'.n r.at'.t r.at'.c r.sv r.lt), .int .i64 (rulS ws)]) ∧ (rulS ws = 0 → r = rulV ws) ∧ Below w.heap.size w w' := by
  obtain ⟨W0, hW0⟩ : ∃ W0, W0 = w.alloc (.cells #[.string ⟨#[]⟩, .int .i64 0, .int .i64 0, .int .i64 0, .int .i64 0, .int .i64 0, .int .i64 0, .int .i64 0, .int .i64 0, .int .i64 0, .string ⟨#[]⟩] 53) := ⟨_, rfl⟩
  have R00 : Hid (BxO W0 w.heap.size (ruA ⟨#[]⟩ 0 0 0 0 0 0 0 0 0 ⟨#[]⟩) 53) := by show BxO _ _ _ _; rw [hW0]; exact RuB.start
  have B00 : Hid (Below w.heap.size w W0) := by show Below _ _ _; rw [hW0]; exact (Below.refl _ _).alloc (Nat.le_refl _) _
  have HW := Lib.hid hW0
  clear hW0
  have R0 := Lib.hid (RuB.made R00.out B00.out (Below.refl _ _) ⟨#[]⟩ 0)
  obtain ⟨W1, hW1⟩ : ∃ W1, W1 = W0.alloc (.cells #[.string ⟨#[]⟩, .int .i64 0, .int .i64 0, .int .i64 0, .int .i64 0, .int .i64 0, .int .i64 0, .int .i64 0, .int .i64 0, .int .i64 0, .string ⟨#[]⟩] 53) := ⟨_, rfl⟩
  rw [← hW1] at R0
  have HW1 := Lib.hid hW1
  clear hW1 R00 B00
  generalize hB : W0.heap.size = B at *
  obtain ⟨aa, cc, rfl, hc⟩ := hv.shape
  by_cases hlen : ws.length = 10
  · obtain ⟨s0, s1, s2, s3, s4, s5, s6, s7, s8, s9, rfl⟩ := ten_of hlen
    obtain ⟨b, off, rfl, hb, -⟩ := entS hv 0 (by simp)
    have HB := Lib.hid hb
    have HWC : Hid (∀ wx, Below w.heap.size w wx → wx.cell? ⟨b, off + 1, none⟩ = some (.string s1) ∧ wx.cell? ⟨b, off + 2, none⟩ = some (.string s2) ∧ wx.cell? ⟨b, off + 3, none⟩ = some (.string s3) ∧ wx.cell? ⟨b, off + 4, none⟩ = some (.string s4) ∧ wx.cell? ⟨b, off + 5, none⟩ = some (.string s5) ∧ wx.cell? ⟨b, off + 6, none⟩ = some (.string s6) ∧ wx.cell? ⟨b, off + 7, none⟩ = some (.string s7) ∧ wx.cell? ⟨b, off + 8, none⟩ = some (.string s8) ∧ wx.cell? ⟨b, off + 9, none⟩ = some (.string s9)) := by
      show ∀ wx, _ → _
      intro wx hx
      have k : ∀ i (h : i < 10), wx.cell? ⟨b, off + i, none⟩ = some (.string ([s0, s1, s2, s3, s4, s5, s6, s7, s8, s9][i]'h)) := fun i h => by
        obtain ⟨b', o', e, -, q⟩ := entS hv i h
        simp only [Option.some.injEq, Addr.mk.injEq, and_true] at e
        obtain ⟨rfl, rfl⟩ := e
        exact (hx.cell (p := ⟨b, off + i, none⟩) hb).trans q
      exact ⟨k 1 (by decide), k 2 (by decide), k 3 (by decide), k 4 (by decide), k 5 (by decide), k 6 (by decide), k 7 (by decide), k 8 (by decide), k 9 (by decide)⟩
    have HZ : Hid (∀ x ∈ [s0, s1, s2, s3, s4, s5, s6, s7, s8, s9], x.size ≤ 1000000 ∧ x.size ≤ maxLen) := fun x hx => ⟨hz x hx, by have := hz x hx; unfold maxLen; omega⟩
    have HNM := Lib.hid (fun wx => namemay_lit s1 wx (HZ.out s1 (by simp)).2)
    have HY2 := Lib.hid (fun wx => yearOf_any s2 wx (HZ.out s2 (by simp)).2)
    have HY3 := Lib.hid (fun wx => yearOf_any s3 wx (HZ.out s3 (by simp)).2)
    have HMO := Lib.hid (fun wx => monthOf_any s5 wx)
    have HDY := Lib.hid (fun wx => dayOf_any_s s6 wx (HZ.out s6 (by simp)).1)
    have HTM := Lib.hid (fun wx => timeOf_any_s s7 wx (HZ.out s7 (by simp)).1)
    have HOF := Lib.hid (fun wx => offsetOf_any_s s8 wx (HZ.out s8 (by simp)).1)
    have HLT := Lib.hid (fun wx => lettersmay_any s9 wx (HZ.out s9 (by simp)).2)
    have HRU : Hid (rulS [s0, s1, s2, s3, s4, s5, s6, s7, s8, s9] = if nameS s1 = false then 4 else if (yrS s2).2 ≠ 0 then (yrS s2).2 else if (toS [s0, s1, s2, s3, s4, s5, s6, s7, s8, s9]).2 ≠ 0 then (toS [s0, s1, s2, s3, s4, s5, s6, s7, s8, s9]).2 else if (toS [s0, s1, s2, s3, s4, s5, s6, s7, s8, s9]).1 < (yrS s2).1 then 8 else if s4 ≠ dashS then 4 else if (monS s5).2 ≠ 0 then (monS s5).2 else if (dyS s6).2 ≠ 0 then (dyS s6).2 else if (tmS s7).2 ≠ 0 then (tmS s7).2 else if (offS s8).2 ≠ 0 then (offS s8).2 else if s9 ≠ dashS ∧ letsB s9 = false then 4 else 0) := by
      show _ = _
      unfold rulS
      rcases hn : nameS s1 with _ | _
      · rw [if_pos (.inr hn), if_pos rfl]
      · have e2 : ¬ ([s0, s1, s2, s3, s4, s5, s6, s7, s8, s9].length ≠ 10 ∨ nameS (wAt [s0, s1, s2, s3, s4, s5, s6, s7, s8, s9] 1) = false) := by
          rintro (h | h)
          · exact h rfl
          · rw [show wAt [s0, s1, s2, s3, s4, s5, s6, s7, s8, s9] 1 = s1 from rfl, hn] at h; cases h
        exact (if_neg e2).trans (if_neg (show ¬ (true = false) by decide)).symm
    have HTO : Hid (toS [s0, s1, s2, s3, s4, s5, s6, s7, s8, s9] = if s3 = bx [111, 110, 108, 121] then ((yrS s2).1, 0) else if s3 = bx [109, 97, 120] then (2099, 0) else yrS s3) := rfl
    have HRV : Hid (rulV [s0, s1, s2, s3, s4, s5, s6, s7, s8, s9] = ⟨s1, (yrS s2).1, (toS [s0, s1, s2, s3, s4, s5, s6, s7, s8, s9]).1, ⟨(monS s5).1, (dyS s6).1.k, (dyS s6).1.a, (dyS s6).1.n, (tmS s7).1.1, (tmS s7).1.2⟩, (offS s8).1, if s9 = dashS then ByteArray.empty else s9⟩) := rfl
    generalize toS [s0, s1, s2, s3, s4, s5, s6, s7, s8, s9] = TO at *
    generalize yrS s2 = Y2 at *
    generalize yrS s3 = Y3 at *
    generalize monS s5 = MO at *
    generalize dyS s6 = DY at *
    generalize tmS s7 = TM at *
    generalize offS s8 = OF at *
    generalize rulS [s0, s1, s2, s3, s4, s5, s6, s7, s8, s9] = RS at *
    generalize rulV [s0, s1, s2, s3, s4, s5, s6, s7, s8, s9] = RV at *
    generalize hnb : nameS s1 = nb at *
    clear hv hz hlen hc HZ hb hnb
    obtain ⟨y, Ey⟩ := Y2
    dsimp only at HRU HTO HRV HY2
    have l3 : (bx [45]).toList = [45] := by rw [ByteArray.toList_eq]; rfl
    obtain ⟨k1, k2, k3, k4, k5, k6, k7, k8, k9⟩ := HWC.out _ R0.out.b
    obtain ⟨⟨x0, x1, x2, x3, x4, x5, x6, x7, x8, x9, x10⟩, ⟨xf0, xf1, xf2, xf3, xf4, xf5, xf6, xf7, xf8, xf9, xf10⟩, xl⟩ := RuB.eleven R0.out.x
    go_enter Tryz.func16, Tryz.ntmps16
    go_upto_region 1 with fail
    rw [← HW.out]
    go_upto_region 2 with fail
    rw [← HW1.out]
    clear HW HW1 hB
    cases nb with
    | false =>
      have HRS : Hid (RS = 4) := HRU.out.trans (if_pos rfl)
      have HEN : Hid ((4 : Int) ≠ 0) := by show _ ≠ _; decide
      go_wp2_with fail
      refine (HNM.out _).mono ?_; rintro e w' ⟨rfl, rfl⟩
      have HLX := Lib.hid (show (_ : World).heap[B]? = some (Obj.cells #[.string ⟨#[]⟩, .int .i64 0, .int .i64 0, .int .i64 0, .int .i64 0, .int .i64 0, .int .i64 0, .int .i64 0, .int .i64 0, .int .i64 0, .string ⟨#[]⟩] 53 (0, 0)) from R0.out.x)
      have HLR := Lib.hid (show (_ : World).heap[w.heap.size]? = some (Obj.cells #[.string ⟨#[]⟩, .int .i64 0, .int .i64 0, .int .i64 0, .int .i64 0, .int .i64 0, .int .i64 0, .int .i64 0, .int .i64 0, .int .i64 0, .string ⟨#[]⟩] 53 (0, 0)) from R0.out.r)
      have HLS := setRow_heap _ w.heap.size _ #[.string ⟨#[]⟩, .int .i64 0, .int .i64 0, .int .i64 0, .int .i64 0, .int .i64 0, .int .i64 0, .int .i64 0, .int .i64 0, .int .i64 0, .string ⟨#[]⟩] 53 (0, 0) HLR.out
      obtain ⟨⟨c0, c1, c2, c3, c4, c5, c6, c7, c8, c9, c10⟩, -, cl⟩ := RuB.eleven (show BxO _ w.heap.size (ruA ⟨#[]⟩ 0 0 0 0 0 0 0 0 0 ⟨#[]⟩) 53 from HLS)
      go_upto_region 3 with fail
      apply wp_region_lit
      refine wpList_load_row rfl 53 _ rfl B rfl 53 #[.string ⟨#[]⟩, .int .i64 0, .int .i64 0, .int .i64 0, .int .i64 0, .int .i64 0, .int .i64 0, .int .i64 0, .int .i64 0, .int .i64 0, .string ⟨#[]⟩] (0, 0) _ HLX.out Tryz.underlying53 rfl (by kernel_rfl) ?_
      refine wpList_store_row rfl 53 _ _ rfl w.heap.size #[.string ⟨#[]⟩, .int .i64 0, .int .i64 0, .int .i64 0, .int .i64 0, .int .i64 0, .int .i64 0, .int .i64 0, .int .i64 0, .int .i64 0, .string ⟨#[]⟩] rfl rfl 53 _ HLR.out (by kernel_rfl) rfl (by simp [Value.oneCell']) ?_
      go_wp2_with fail
      refine bodyPost_ret (v := .tuple #[.agg #[.string ⟨#[]⟩, .int .i64 0, .int .i64 0, .int .i64 0, .int .i64 0, .int .i64 0, .int .i64 0, .int .i64 0, .int .i64 0, .int .i64 0, .string ⟨#[]⟩], .int .i64 4]) (by simp [results, Tryz.results16, go_sem, c0, c1, c2, c3, c4, c5, c6, c7, c8, c9, c10, cl]) rfl ⟨⟨⟨#[]⟩, 0, 0, ⟨0, 0, 0, 0, 0, 0⟩, 0, ⟨#[]⟩⟩, by rw [HRS.out]; rfl, fun h => absurd (HRS.out.symm.trans h) HEN.out, below_setRow R0.out.b (Nat.le_refl _) _⟩
    | true =>
      have HRU1 := Lib.hid (HRU.out.trans (if_neg (by decide)))
      clear HRU
      go_wp2_with fail
      refine (HNM.out _).mono ?_; rintro e w' ⟨rfl, rfl⟩
      have R2 := Lib.hid (R0.out.sNm s1)
      go_wp2_with fail
      refine (HY2.out _).mono ?_; rintro e w5 ⟨rfl, rfl⟩
      obtain ⟨wn, hwn⟩ : ∃ wn, wn = W1.setCell ⟨B, 0, none⟩ (.string s1) := ⟨_, rfl⟩
      rw [← hwn] at R2
      have HWN := Lib.hid hwn
      clear hwn
      go_upto_region 6 with fail
      rw [← HWN.out]
      clear HWN R0
      clear k1 k2 k3 k4 k5 k6 k7 k8 k9
      clear x0 x1 x2 x3 x4 x5 x6 x7 x8 x9 x10 xf0 xf1 xf2 xf3 xf4 xf5 xf6 xf7 xf8 xf9 xf10 xl
      obtain ⟨k1, k2, k3, k4, k5, k6, k7, k8, k9⟩ := HWC.out _ R2.out.b
      obtain ⟨⟨x0, x1, x2, x3, x4, x5, x6, x7, x8, x9, x10⟩, ⟨xf0, xf1, xf2, xf3, xf4, xf5, xf6, xf7, xf8, xf9, xf10⟩, xl⟩ := RuB.eleven R2.out.x
      by_cases hE : Ey = 0
      · subst hE
        have HRU2 := Lib.hid (HRU1.out.trans (if_neg (by simp)))
        clear HRU1
        have R3 := Lib.hid ((R2.out.sFr y).sTo y)
        obtain ⟨wm, hwn⟩ : ∃ wm, wm = (wn.setCell ⟨B, 1, none⟩ (.int .i64 y)).setCell ⟨B, 2, none⟩ (.int .i64 y) := ⟨_, rfl⟩
        rw [← hwn] at R3
        have HWN := Lib.hid hwn
        clear hwn
        go_upto_region 10 with fail
        rw [← HWN.out]
        clear HWN R2
        clear k1 k2 k3 k4 k5 k6 k7 k8 k9
        clear x0 x1 x2 x3 x4 x5 x6 x7 x8 x9 x10 xf0 xf1 xf2 xf3 xf4 xf5 xf6 xf7 xf8 xf9 xf10 xl
        obtain ⟨k1, k2, k3, k4, k5, k6, k7, k8, k9⟩ := HWC.out _ R3.out.b
        obtain ⟨⟨x0, x1, x2, x3, x4, x5, x6, x7, x8, x9, x10⟩, ⟨xf0, xf1, xf2, xf3, xf4, xf5, xf6, xf7, xf8, xf9, xf10⟩, xl⟩ := RuB.eleven R3.out.x
        have g1 := streqS s3 (bx [111, 110, 108, 121])
        have g2 := streqS s3 (bx [109, 97, 120])
        have g4 := streqS s4 (bx [45])
        have g9 := streqS s9 (bx [45])
        have l1 : (bx [111, 110, 108, 121]).toList = [111, 110, 108, 121] := by rw [ByteArray.toList_eq]; rfl
        have l2 : (bx [109, 97, 120]).toList = [109, 97, 120] := by rw [ByteArray.toList_eq]; rfl
        rw [l1] at g1
        rw [l2] at g2
        rw [l3] at g4 g9
        obtain ⟨p1, hp1⟩ : ∃ c : Bool, (s3.toList == [111, 110, 108, 121]) = c := ⟨_, rfl⟩
        obtain ⟨p2, hp2⟩ : ∃ c : Bool, (s3.toList == [109, 97, 120]) = c := ⟨_, rfl⟩
        obtain ⟨p4, hp4⟩ : ∃ c : Bool, (s4.toList == [45]) = c := ⟨_, rfl⟩
        obtain ⟨p9, hp9⟩ : ∃ c : Bool, (s9.toList == [45]) = c := ⟨_, rfl⟩
        have HTO2 : Hid (TO = if p1 = true then (y, 0) else if p2 = true then (2099, 0) else Y3) := by
          show _ = _
          rw [HTO.out]
          rw [← hp1, ← hp2, g1, g2]
          simp only [decide_eq_true_eq]
        have HX : Hid (p1 = true → p2 = false) := by
          show _ → _
          intro h
          rw [← hp1, g1, decide_eq_true_iff] at h
          rw [← hp2, g2, decide_eq_false_iff_not, h]
          intro e
          have := bx_inj e
          cases this
        have H4 : Hid (p4 = true ↔ s4 = dashS) := by show _ ↔ _; rw [← hp4, g4, decide_eq_true_iff]; rfl
        have H9 : Hid (p9 = true ↔ s9 = dashS) := by show _ ↔ _; rw [← hp9, g9, decide_eq_true_iff]; rfl
        clear g1 g2 g4 g9 l1 l2 l3 HTO
        obtain ⟨y3, Ey3⟩ := Y3
        dsimp only at HY3
        go_upto_if 41 with fail
        go_cut [6] (fun ve wx => ∃ tq, ve = .int .i64 0 ∧ Hid (TO = (tq, 0)) ∧ Hid (RuB w wx B (ruA s1 y tq 0 0 0 0 0 0 0 ⟨#[]⟩)))
        case first =>
          as_aux_lemma =>
            cases p2 with
            | true =>
              have HT : Hid (TO = (2099, 0)) := by
                show _ = _
                rw [HTO2.out, if_neg (by intro e; have := HX.out e; cases this), if_pos rfl]
              go_wp2_with fail
              go_meet
              exact ⟨2099, rfl, HT, R3.out.sTo 2099⟩
            | false =>
              cases p1 with
              | true =>
                have HT : Hid (TO = (y, 0)) := HTO2.out.trans (if_pos rfl)
                go_wp2_with fail
                go_meet
                exact ⟨y, rfl, HT, R3.out⟩
              | false =>
                have HT : Hid (TO = (y3, Ey3)) := (HTO2.out.trans (if_neg (by decide))).trans (if_neg (by decide))
                go_wp2_with fail
                refine (HY3.out _).mono ?_; rintro e w5 ⟨rfl, rfl⟩
                have R4 := Lib.hid (R3.out.sTo y3)
                obtain ⟨wn, hwn⟩ : ∃ wn, wn = wm.setCell ⟨B, 2, none⟩ (.int .i64 y3) := ⟨_, rfl⟩
                rw [← hwn] at R4
                have HWN := Lib.hid hwn
                clear hwn
                go_upto_region 14 with fail
                rw [← HWN.out]
                clear HWN R3
                clear k1 k2 k3 k4 k5 k6 k7 k8 k9
                clear x0 x1 x2 x3 x4 x5 x6 x7 x8 x9 x10 xf0 xf1 xf2 xf3 xf4 xf5 xf6 xf7 xf8 xf9 xf10 xl
                obtain ⟨k1, k2, k3, k4, k5, k6, k7, k8, k9⟩ := HWC.out _ R4.out.b
                obtain ⟨⟨x0, x1, x2, x3, x4, x5, x6, x7, x8, x9, x10⟩, ⟨xf0, xf1, xf2, xf3, xf4, xf5, xf6, xf7, xf8, xf9, xf10⟩, xl⟩ := RuB.eleven R4.out.x
                by_cases hE3 : Ey3 = 0
                · subst hE3
                  go_wp2_with fail
                  go_meet
                  exact ⟨y3, rfl, HT, R4.out⟩
                · have HRS : Hid (RS = Ey3) := HRU2.out.trans (by rw [HT.out]; exact if_pos hE3)
                  have HEN := Lib.hid hE3
                  have hEb : (Ey3 != 0) = true := by rw [bne_iff_ne]; exact hE3
                  clear hE3
                  have HLX := Lib.hid (show (_ : World).heap[B]? = some (Obj.cells #[.string s1, .int .i64 y, .int .i64 y3, .int .i64 0, .int .i64 0, .int .i64 0, .int .i64 0, .int .i64 0, .int .i64 0, .int .i64 0, .string ⟨#[]⟩] 53 (0, 0)) from R4.out.x)
                  have HLR := Lib.hid (show (_ : World).heap[w.heap.size]? = some (Obj.cells #[.string ⟨#[]⟩, .int .i64 0, .int .i64 0, .int .i64 0, .int .i64 0, .int .i64 0, .int .i64 0, .int .i64 0, .int .i64 0, .int .i64 0, .string ⟨#[]⟩] 53 (0, 0)) from R4.out.r)
                  have HLS := setRow_heap _ w.heap.size _ #[.string s1, .int .i64 y, .int .i64 y3, .int .i64 0, .int .i64 0, .int .i64 0, .int .i64 0, .int .i64 0, .int .i64 0, .int .i64 0, .string ⟨#[]⟩] 53 (0, 0) HLR.out
                  obtain ⟨⟨c0, c1, c2, c3, c4, c5, c6, c7, c8, c9, c10⟩, -, cl⟩ := RuB.eleven (show BxO _ w.heap.size (ruA s1 y y3 0 0 0 0 0 0 0 ⟨#[]⟩) 53 from HLS)
                  go_upto_region 15 with fail
                  apply wp_region_lit
                  refine wpList_load_row rfl 53 _ rfl B rfl 53 #[.string s1, .int .i64 y, .int .i64 y3, .int .i64 0, .int .i64 0, .int .i64 0, .int .i64 0, .int .i64 0, .int .i64 0, .int .i64 0, .string ⟨#[]⟩] (0, 0) _ HLX.out Tryz.underlying53 rfl (by kernel_rfl) ?_
                  refine wpList_plain rfl (fun K hK => BigFrame.wp_move _ rfl (hK _ _ ?_))
                  refine wpList_store_row rfl 53 _ _ rfl w.heap.size #[.string s1, .int .i64 y, .int .i64 y3, .int .i64 0, .int .i64 0, .int .i64 0, .int .i64 0, .int .i64 0, .int .i64 0, .int .i64 0, .string ⟨#[]⟩] rfl rfl 53 _ HLR.out (by kernel_rfl) rfl (by simp [Value.oneCell']) ?_
                  go_wp2_with fail
                  refine bodyPost_ret (v := .tuple #[.agg #[.string s1, .int .i64 y, .int .i64 y3, .int .i64 0, .int .i64 0, .int .i64 0, .int .i64 0, .int .i64 0, .int .i64 0, .int .i64 0, .string ⟨#[]⟩], .int .i64 Ey3]) (by simp [results, Tryz.results16, go_sem, c0, c1, c2, c3, c4, c5, c6, c7, c8, c9, c10, cl]) rfl ⟨⟨s1, y, y3, ⟨0, 0, 0, 0, 0, 0⟩, 0, ⟨#[]⟩⟩, by rw [HRS.out]; rfl, fun h => absurd (HRS.out.symm.trans h) HEN.out, below_setRow R4.out.b (Nat.le_refl _) _⟩
        case rest =>
          as_aux_lemma =>
            obtain ⟨tq, rfl, HT, R9⟩ := hcut
            clear R3 HY3 HTO2 HX
            clear k1 k2 k3 k4 k5 k6 k7 k8 k9
            clear x0 x1 x2 x3 x4 x5 x6 x7 x8 x9 x10 xf0 xf1 xf2 xf3 xf4 xf5 xf6 xf7 xf8 xf9 xf10 xl
            have HRU3 := Lib.hid (HRU2.out.trans (if_neg (by rw [HT.out]; simp)))
            rw [HT.out] at HRU3 HRV
            clear HRU2 HT
            dsimp only at HRU3 HRV
            obtain ⟨k1, k2, k3, k4, k5, k6, k7, k8, k9⟩ := HWC.out _ R9.out.b
            obtain ⟨⟨x0, x1, x2, x3, x4, x5, x6, x7, x8, x9, x10⟩, ⟨xf0, xf1, xf2, xf3, xf4, xf5, xf6, xf7, xf8, xf9, xf10⟩, xl⟩ := RuB.eleven R9.out.x
            by_cases hty : tq < y
            · as_aux_lemma =>
                have HRS : Hid (RS = 8) := HRU3.out.trans (if_pos hty)
                have HEN : Hid ((8 : Int) ≠ 0) := by show _ ≠ _; decide
                have HLX := Lib.hid (show (_ : World).heap[B]? = some (Obj.cells #[.string s1, .int .i64 y, .int .i64 tq, .int .i64 0, .int .i64 0, .int .i64 0, .int .i64 0, .int .i64 0, .int .i64 0, .int .i64 0, .string ⟨#[]⟩] 53 (0, 0)) from R9.out.x)
                have HLR := Lib.hid (show (_ : World).heap[w.heap.size]? = some (Obj.cells #[.string ⟨#[]⟩, .int .i64 0, .int .i64 0, .int .i64 0, .int .i64 0, .int .i64 0, .int .i64 0, .int .i64 0, .int .i64 0, .int .i64 0, .string ⟨#[]⟩] 53 (0, 0)) from R9.out.r)
                have HLS := setRow_heap _ w.heap.size _ #[.string s1, .int .i64 y, .int .i64 tq, .int .i64 0, .int .i64 0, .int .i64 0, .int .i64 0, .int .i64 0, .int .i64 0, .int .i64 0, .string ⟨#[]⟩] 53 (0, 0) HLR.out
                obtain ⟨⟨c0, c1, c2, c3, c4, c5, c6, c7, c8, c9, c10⟩, -, cl⟩ := RuB.eleven (show BxO _ w.heap.size (ruA s1 y tq 0 0 0 0 0 0 0 ⟨#[]⟩) 53 from HLS)
                go_upto_region 17 with fail
                apply wp_region_lit
                refine wpList_load_row rfl 53 _ rfl B rfl 53 #[.string s1, .int .i64 y, .int .i64 tq, .int .i64 0, .int .i64 0, .int .i64 0, .int .i64 0, .int .i64 0, .int .i64 0, .int .i64 0, .string ⟨#[]⟩] (0, 0) _ HLX.out Tryz.underlying53 rfl (by kernel_rfl) ?_
                refine wpList_store_row rfl 53 _ _ rfl w.heap.size #[.string s1, .int .i64 y, .int .i64 tq, .int .i64 0, .int .i64 0, .int .i64 0, .int .i64 0, .int .i64 0, .int .i64 0, .int .i64 0, .string ⟨#[]⟩] rfl rfl 53 _ HLR.out (by kernel_rfl) rfl (by simp [Value.oneCell']) ?_
                go_wp2_with fail
                refine bodyPost_ret (v := .tuple #[.agg #[.string s1, .int .i64 y, .int .i64 tq, .int .i64 0, .int .i64 0, .int .i64 0, .int .i64 0, .int .i64 0, .int .i64 0, .int .i64 0, .string ⟨#[]⟩], .int .i64 8]) (by simp [results, Tryz.results16, go_sem, c0, c1, c2, c3, c4, c5, c6, c7, c8, c9, c10, cl]) rfl ⟨⟨s1, y, tq, ⟨0, 0, 0, 0, 0, 0⟩, 0, ⟨#[]⟩⟩, by rw [HRS.out]; rfl, fun h => absurd (HRS.out.symm.trans h) HEN.out, below_setRow R9.out.b (Nat.le_refl _) _⟩
            · have HRU4 := Lib.hid (HRU3.out.trans (if_neg hty))
              clear HRU3
              cases p4 with
              | false =>
                as_aux_lemma =>
                  have HRS : Hid (RS = 4) := HRU4.out.trans (if_pos (fun e => by have := H4.out.2 e; cases this))
                  have HEN : Hid ((4 : Int) ≠ 0) := by show _ ≠ _; decide
                  have HLX := Lib.hid (show (_ : World).heap[B]? = some (Obj.cells #[.string s1, .int .i64 y, .int .i64 tq, .int .i64 0, .int .i64 0, .int .i64 0, .int .i64 0, .int .i64 0, .int .i64 0, .int .i64 0, .string ⟨#[]⟩] 53 (0, 0)) from R9.out.x)
                  have HLR := Lib.hid (show (_ : World).heap[w.heap.size]? = some (Obj.cells #[.string ⟨#[]⟩, .int .i64 0, .int .i64 0, .int .i64 0, .int .i64 0, .int .i64 0, .int .i64 0, .int .i64 0, .int .i64 0, .int .i64 0, .string ⟨#[]⟩] 53 (0, 0)) from R9.out.r)
                  have HLS := setRow_heap _ w.heap.size _ #[.string s1, .int .i64 y, .int .i64 tq, .int .i64 0, .int .i64 0, .int .i64 0, .int .i64 0, .int .i64 0, .int .i64 0, .int .i64 0, .string ⟨#[]⟩] 53 (0, 0) HLR.out
                  obtain ⟨⟨c0, c1, c2, c3, c4, c5, c6, c7, c8, c9, c10⟩, -, cl⟩ := RuB.eleven (show BxO _ w.heap.size (ruA s1 y tq 0 0 0 0 0 0 0 ⟨#[]⟩) 53 from HLS)
                  go_upto_region 19 with fail
                  apply wp_region_lit
                  refine wpList_load_row rfl 53 _ rfl B rfl 53 #[.string s1, .int .i64 y, .int .i64 tq, .int .i64 0, .int .i64 0, .int .i64 0, .int .i64 0, .int .i64 0, .int .i64 0, .int .i64 0, .string ⟨#[]⟩] (0, 0) _ HLX.out Tryz.underlying53 rfl (by kernel_rfl) ?_
                  refine wpList_store_row rfl 53 _ _ rfl w.heap.size #[.string s1, .int .i64 y, .int .i64 tq, .int .i64 0, .int .i64 0, .int .i64 0, .int .i64 0, .int .i64 0, .int .i64 0, .int .i64 0, .string ⟨#[]⟩] rfl rfl 53 _ HLR.out (by kernel_rfl) rfl (by simp [Value.oneCell']) ?_
                  go_wp2_with fail
                  refine bodyPost_ret (v := .tuple #[.agg #[.string s1, .int .i64 y, .int .i64 tq, .int .i64 0, .int .i64 0, .int .i64 0, .int .i64 0, .int .i64 0, .int .i64 0, .int .i64 0, .string ⟨#[]⟩], .int .i64 4]) (by simp [results, Tryz.results16, go_sem, c0, c1, c2, c3, c4, c5, c6, c7, c8, c9, c10, cl]) rfl ⟨⟨s1, y, tq, ⟨0, 0, 0, 0, 0, 0⟩, 0, ⟨#[]⟩⟩, by rw [HRS.out]; rfl, fun h => absurd (HRS.out.symm.trans h) HEN.out, below_setRow R9.out.b (Nat.le_refl _) _⟩
              | true =>
                have HRU5 := Lib.hid (HRU4.out.trans (if_neg (fun e => e (H4.out.1 rfl))))
                clear HRU4
                obtain ⟨mo, Em⟩ := MO
                obtain ⟨DV, Ed⟩ := DY
                obtain ⟨TV, Et⟩ := TM
                obtain ⟨so, Eo⟩ := OF
                dsimp only at HRU5 HRV HMO HDY HTM HOF
                go_wp2_with fail
                refine (HMO.out _).mono ?_; rintro e w10 ⟨rfl, hb⟩
                have R9b := Lib.hid (R9.out.next hb)
                have RA := Lib.hid (R9b.out.sMo mo)
                clear hb R9
                clear k1 k2 k3 k4 k5 k6 k7 k8 k9
                clear x0 x1 x2 x3 x4 x5 x6 x7 x8 x9 x10 xf0 xf1 xf2 xf3 xf4 xf5 xf6 xf7 xf8 xf9 xf10 xl
                obtain ⟨k1, k2, k3, k4, k5, k6, k7, k8, k9⟩ := HWC.out _ R9b.out.b
                obtain ⟨⟨x0, x1, x2, x3, x4, x5, x6, x7, x8, x9, x10⟩, ⟨xf0, xf1, xf2, xf3, xf4, xf5, xf6, xf7, xf8, xf9, xf10⟩, xl⟩ := RuB.eleven R9b.out.x
                obtain ⟨wn, hwn⟩ : ∃ wn, wn = w10.setCell ⟨B, 3, none⟩ (.int .i64 mo) := ⟨_, rfl⟩
                rw [← hwn] at RA
                have HWN := Lib.hid hwn
                clear hwn
                go_upto_region 21 with fail
                rw [← HWN.out]
                clear HWN R9b
                clear k1 k2 k3 k4 k5 k6 k7 k8 k9
                clear x0 x1 x2 x3 x4 x5 x6 x7 x8 x9 x10 xf0 xf1 xf2 xf3 xf4 xf5 xf6 xf7 xf8 xf9 xf10 xl
                obtain ⟨k1, k2, k3, k4, k5, k6, k7, k8, k9⟩ := HWC.out _ RA.out.b
                obtain ⟨⟨x0, x1, x2, x3, x4, x5, x6, x7, x8, x9, x10⟩, ⟨xf0, xf1, xf2, xf3, xf4, xf5, xf6, xf7, xf8, xf9, xf10⟩, xl⟩ := RuB.eleven RA.out.x
                go_upto_if 80 with fail
                go_cut [6] (fun ve wx => ∃ (k a n E2 : Int), ve = .int .i64 E2 ∧ Hid (RS = if E2 ≠ 0 then E2 else if Et ≠ 0 then Et else if Eo ≠ 0 then Eo else if s9 ≠ dashS ∧ letsB s9 = false then 4 else 0) ∧ Hid (E2 = 0 → DV = ⟨k, a, n⟩) ∧ Hid (RuB w wx B (ruA s1 y tq mo k a n 0 0 0 ⟨#[]⟩)))
                case first =>
                  as_aux_lemma =>
                    by_cases hE : Em = 0
                    · have HIN := Lib.hid (HRU5.out.trans (if_neg (by simp [hE])))
                      have hEb : (Em == 0) = true := beq_iff_eq.2 hE
                      have HAC := Lib.hid (trivial)
                      clear hE HRU5
                      obtain ⟨k, a, n⟩ := DV
                      dsimp only at HDY
                      go_wp2_with fail
                      refine (HDY.out _).mono ?_; rintro e w9 ⟨rfl, hb⟩
                      have RZ := Lib.hid (RA.out.next hb)
                      clear hb
                      clear k1 k2 k3 k4 k5 k6 k7 k8 k9
                      clear x0 x1 x2 x3 x4 x5 x6 x7 x8 x9 x10 xf0 xf1 xf2 xf3 xf4 xf5 xf6 xf7 xf8 xf9 xf10 xl
                      obtain ⟨k1, k2, k3, k4, k5, k6, k7, k8, k9⟩ := HWC.out _ RZ.out.b
                      obtain ⟨⟨x0, x1, x2, x3, x4, x5, x6, x7, x8, x9, x10⟩, ⟨xf0, xf1, xf2, xf3, xf4, xf5, xf6, xf7, xf8, xf9, xf10⟩, xl⟩ := RuB.eleven RZ.out.x
                      go_wp2_with fail
                      go_meet
                      exact ⟨k, a, n, Ed, rfl, HIN, fun _ => rfl, ((RZ.out.sK k).sA a).sN n⟩
                    · have HIN : Hid (RS = if Em ≠ 0 then Em else if Et ≠ 0 then Et else if Eo ≠ 0 then Eo else if s9 ≠ dashS ∧ letsB s9 = false then 4 else 0) := by show _ = _; rw [HRU5.out, if_pos hE, if_pos hE]
                      have hEb : (Em == 0) = false := beq_eq_false_iff_ne.2 hE
                      have HEE := Lib.hid hE
                      clear hE HRU5
                      go_wp2_with fail
                      go_meet
                      exact ⟨0, 0, 0, Em, rfl, HIN, fun h => absurd h HEE.out, RA⟩
                case rest =>
                  as_aux_lemma =>
                    obtain ⟨k, a, n, E2, rfl, HRU6, HA1, RB⟩ := hcut
                    clear HRU5 RA HDY
                    clear k1 k2 k3 k4 k5 k6 k7 k8 k9
                    clear x0 x1 x2 x3 x4 x5 x6 x7 x8 x9 x10 xf0 xf1 xf2 xf3 xf4 xf5 xf6 xf7 xf8 xf9 xf10 xl
                    obtain ⟨k1, k2, k3, k4, k5, k6, k7, k8, k9⟩ := HWC.out _ RB.out.b
                    obtain ⟨⟨x0, x1, x2, x3, x4, x5, x6, x7, x8, x9, x10⟩, ⟨xf0, xf1, xf2, xf3, xf4, xf5, xf6, xf7, xf8, xf9, xf10⟩, xl⟩ := RuB.eleven RB.out.x
                    go_upto_if 91 with fail
                    go_cut [6] (fun ve wx => ∃ (t c E3 : Int), ve = .int .i64 E3 ∧ Hid (RS = if E3 ≠ 0 then E3 else if Eo ≠ 0 then Eo else if s9 ≠ dashS ∧ letsB s9 = false then 4 else 0) ∧ Hid (E3 = 0 → DV = ⟨k, a, n⟩ ∧ TV = (t, c)) ∧ Hid (RuB w wx B (ruA s1 y tq mo k a n t c 0 ⟨#[]⟩)))
                    case first =>
                      as_aux_lemma =>
                        by_cases hE : E2 = 0
                        · have HIN := Lib.hid (HRU6.out.trans (if_neg (by simp [hE])))
                          have hEb : (E2 == 0) = true := beq_iff_eq.2 hE
                          have HAC := Lib.hid (HA1.out hE)
                          clear hE HRU6
                          obtain ⟨t, c⟩ := TV
                          dsimp only at HTM
                          go_wp2_with fail
                          refine (HTM.out _).mono ?_; rintro e w9 ⟨rfl, hb⟩
                          have RZ := Lib.hid (RB.out.next hb)
                          clear hb
                          clear k1 k2 k3 k4 k5 k6 k7 k8 k9
                          clear x0 x1 x2 x3 x4 x5 x6 x7 x8 x9 x10 xf0 xf1 xf2 xf3 xf4 xf5 xf6 xf7 xf8 xf9 xf10 xl
                          obtain ⟨k1, k2, k3, k4, k5, k6, k7, k8, k9⟩ := HWC.out _ RZ.out.b
                          obtain ⟨⟨x0, x1, x2, x3, x4, x5, x6, x7, x8, x9, x10⟩, ⟨xf0, xf1, xf2, xf3, xf4, xf5, xf6, xf7, xf8, xf9, xf10⟩, xl⟩ := RuB.eleven RZ.out.x
                          go_wp2_with fail
                          go_meet
                          exact ⟨t, c, Et, rfl, HIN, fun _ => ⟨HAC.out, rfl⟩, (RZ.out.sT t).sC c⟩
                        · have HIN : Hid (RS = if E2 ≠ 0 then E2 else if Eo ≠ 0 then Eo else if s9 ≠ dashS ∧ letsB s9 = false then 4 else 0) := by show _ = _; rw [HRU6.out, if_pos hE, if_pos hE]
                          have hEb : (E2 == 0) = false := beq_eq_false_iff_ne.2 hE
                          have HEE := Lib.hid hE
                          clear hE HRU6
                          go_wp2_with fail
                          go_meet
                          exact ⟨0, 0, E2, rfl, HIN, fun h => absurd h HEE.out, RB⟩
                    case rest =>
                      as_aux_lemma =>
                        obtain ⟨t, c, E3, rfl, HRU7, HA2, RC⟩ := hcut
                        clear HRU6 RB HTM HA1
                        clear k1 k2 k3 k4 k5 k6 k7 k8 k9
                        clear x0 x1 x2 x3 x4 x5 x6 x7 x8 x9 x10 xf0 xf1 xf2 xf3 xf4 xf5 xf6 xf7 xf8 xf9 xf10 xl
                        obtain ⟨k1, k2, k3, k4, k5, k6, k7, k8, k9⟩ := HWC.out _ RC.out.b
                        obtain ⟨⟨x0, x1, x2, x3, x4, x5, x6, x7, x8, x9, x10⟩, ⟨xf0, xf1, xf2, xf3, xf4, xf5, xf6, xf7, xf8, xf9, xf10⟩, xl⟩ := RuB.eleven RC.out.x
                        go_upto_if 105 with fail
                        go_cut [6] (fun ve wx => ∃ (sv E4 : Int), ve = .int .i64 E4 ∧ Hid (RS = if E4 ≠ 0 then E4 else if s9 ≠ dashS ∧ letsB s9 = false then 4 else 0) ∧ Hid (E4 = 0 → DV = ⟨k, a, n⟩ ∧ TV = (t, c) ∧ so = sv) ∧ Hid (RuB w wx B (ruA s1 y tq mo k a n t c sv ⟨#[]⟩)))
                        case first =>
                          as_aux_lemma =>
                            by_cases hE : E3 = 0
                            · have HIN := Lib.hid (HRU7.out.trans (if_neg (by simp [hE])))
                              have hEb : (E3 == 0) = true := beq_iff_eq.2 hE
                              have HAC := Lib.hid (HA2.out hE)
                              clear hE HRU7
                              go_wp2_with fail
                              refine (HOF.out _).mono ?_; rintro e w9 ⟨rfl, hb⟩
                              have RZ := Lib.hid (RC.out.next hb)
                              clear hb
                              clear k1 k2 k3 k4 k5 k6 k7 k8 k9
                              clear x0 x1 x2 x3 x4 x5 x6 x7 x8 x9 x10 xf0 xf1 xf2 xf3 xf4 xf5 xf6 xf7 xf8 xf9 xf10 xl
                              obtain ⟨k1, k2, k3, k4, k5, k6, k7, k8, k9⟩ := HWC.out _ RZ.out.b
                              obtain ⟨⟨x0, x1, x2, x3, x4, x5, x6, x7, x8, x9, x10⟩, ⟨xf0, xf1, xf2, xf3, xf4, xf5, xf6, xf7, xf8, xf9, xf10⟩, xl⟩ := RuB.eleven RZ.out.x
                              go_wp2_with fail
                              go_meet
                              exact ⟨so, Eo, rfl, HIN, fun _ => ⟨HAC.out.1, HAC.out.2, rfl⟩, RZ.out.sSv so⟩
                            · have HIN : Hid (RS = if E3 ≠ 0 then E3 else if s9 ≠ dashS ∧ letsB s9 = false then 4 else 0) := by show _ = _; rw [HRU7.out, if_pos hE, if_pos hE]
                              have hEb : (E3 == 0) = false := beq_eq_false_iff_ne.2 hE
                              have HEE := Lib.hid hE
                              clear hE HRU7
                              go_wp2_with fail
                              go_meet
                              exact ⟨0, E3, rfl, HIN, fun h => absurd h HEE.out, RC⟩
                        case rest =>
                          as_aux_lemma =>
                            obtain ⟨sv, E4, rfl, HRU8, HA3, RD⟩ := hcut
                            clear HRU7 RC HOF HA2
                            clear k1 k2 k3 k4 k5 k6 k7 k8 k9
                            clear x0 x1 x2 x3 x4 x5 x6 x7 x8 x9 x10 xf0 xf1 xf2 xf3 xf4 xf5 xf6 xf7 xf8 xf9 xf10 xl
                            obtain ⟨k1, k2, k3, k4, k5, k6, k7, k8, k9⟩ := HWC.out _ RD.out.b
                            obtain ⟨⟨x0, x1, x2, x3, x4, x5, x6, x7, x8, x9, x10⟩, ⟨xf0, xf1, xf2, xf3, xf4, xf5, xf6, xf7, xf8, xf9, xf10⟩, xl⟩ := RuB.eleven RD.out.x
                            by_cases hE : E4 = 0
                            · have HIN := Lib.hid (HRU8.out.trans (if_neg (by simp [hE])))
                              have HAC := Lib.hid (HA3.out hE)
                              subst hE
                              clear HRU8
                              cases p9 with
                              | true =>
                                as_aux_lemma =>
                                  have HRS : Hid (RS = 0) := HIN.out.trans (if_neg fun h => h.1 (H9.out.1 rfl))
                                  have HFV : Hid ((⟨s1, y, tq, ⟨mo, k, a, n, t, c⟩, sv, ⟨#[]⟩⟩ : Rul) = RV) := by
                                    show _ = _
                                    rw [HRV.out, HAC.out.1, HAC.out.2.1, HAC.out.2.2, if_pos (H9.out.1 rfl)]
                                    rfl
                                  clear HIN
                                  have HLX := Lib.hid (show (_ : World).heap[B]? = some (Obj.cells #[.string s1, .int .i64 y, .int .i64 tq, .int .i64 mo, .int .i64 k, .int .i64 a, .int .i64 n, .int .i64 t, .int .i64 c, .int .i64 sv, .string ⟨#[]⟩] 53 (0, 0)) from RD.out.x)
                                  have HLR := Lib.hid (show (_ : World).heap[w.heap.size]? = some (Obj.cells #[.string ⟨#[]⟩, .int .i64 0, .int .i64 0, .int .i64 0, .int .i64 0, .int .i64 0, .int .i64 0, .int .i64 0, .int .i64 0, .int .i64 0, .string ⟨#[]⟩] 53 (0, 0)) from RD.out.r)
                                  have HLS := setRow_heap _ w.heap.size _ #[.string s1, .int .i64 y, .int .i64 tq, .int .i64 mo, .int .i64 k, .int .i64 a, .int .i64 n, .int .i64 t, .int .i64 c, .int .i64 sv, .string ⟨#[]⟩] 53 (0, 0) HLR.out
                                  obtain ⟨⟨c0, c1, c2, c3, c4, c5, c6, c7, c8, c9, c10⟩, -, cl⟩ := RuB.eleven (show BxO _ w.heap.size (ruA s1 y tq mo k a n t c sv ⟨#[]⟩) 53 from HLS)
                                  go_upto_region 31 with fail
                                  apply wp_region_lit
                                  refine wpList_load_row rfl 53 _ rfl B rfl 53 #[.string s1, .int .i64 y, .int .i64 tq, .int .i64 mo, .int .i64 k, .int .i64 a, .int .i64 n, .int .i64 t, .int .i64 c, .int .i64 sv, .string ⟨#[]⟩] (0, 0) _ HLX.out Tryz.underlying53 rfl (by kernel_rfl) ?_
                                  refine wpList_plain rfl (fun K hK => BigFrame.wp_move _ rfl (hK _ _ ?_))
                                  refine wpList_store_row rfl 53 _ _ rfl w.heap.size #[.string s1, .int .i64 y, .int .i64 tq, .int .i64 mo, .int .i64 k, .int .i64 a, .int .i64 n, .int .i64 t, .int .i64 c, .int .i64 sv, .string ⟨#[]⟩] rfl rfl 53 _ HLR.out (by kernel_rfl) rfl (by simp [Value.oneCell']) ?_
                                  go_wp2_with fail
                                  refine bodyPost_ret (v := .tuple #[.agg #[.string s1, .int .i64 y, .int .i64 tq, .int .i64 mo, .int .i64 k, .int .i64 a, .int .i64 n, .int .i64 t, .int .i64 c, .int .i64 sv, .string ⟨#[]⟩], .int .i64 0]) (by simp [results, Tryz.results16, go_sem, c0, c1, c2, c3, c4, c5, c6, c7, c8, c9, c10, cl]) rfl ⟨⟨s1, y, tq, ⟨mo, k, a, n, t, c⟩, sv, ⟨#[]⟩⟩, by rw [HRS.out]; rfl, fun _ => HFV.out, below_setRow RD.out.b (Nat.le_refl _) _⟩
                              | false =>
                                have h9 : s9 ≠ dashS := fun e => by have := H9.out.2 e; cases this
                                have HFV : Hid ((⟨s1, y, tq, ⟨mo, k, a, n, t, c⟩, sv, s9⟩ : Rul) = RV) := by
                                  show _ = _
                                  rw [HRV.out, HAC.out.1, HAC.out.2.1, HAC.out.2.2, if_neg h9]
                                have HLF : Hid (letsB s9 = false → RS = 4) := fun h => HIN.out.trans (if_pos ⟨h9, h⟩)
                                have HLT1 : Hid (letsB s9 = true → RS = 0) := fun h => HIN.out.trans (if_neg fun e => by rw [h] at e; cases e.2)
                                clear h9 HIN
                                generalize letsB s9 = lb at *
                                have RE := Lib.hid (RD.out.sLt s9)
                                have hBb : B ≠ b := by have := RD.out.n; have := HB.out; omega
                                have hBb2 : b ≠ B := fun e => hBb e.symm
                                go_wp2_with fail
                                refine (HLT.out _).mono ?_; rintro e w14 ⟨rfl, rfl⟩
                                cases lb with
                                | false =>
                                  as_aux_lemma =>
                                    have HRS := Lib.hid (HLF.out rfl)
                                    have HEN : Hid ((4 : Int) ≠ 0) := by show _ ≠ _; decide
                                    have HLX := Lib.hid (show (_ : World).heap[B]? = some (Obj.cells #[.string s1, .int .i64 y, .int .i64 tq, .int .i64 mo, .int .i64 k, .int .i64 a, .int .i64 n, .int .i64 t, .int .i64 c, .int .i64 sv, .string s9] 53 (0, 0)) from RE.out.x)
                                    have HLR := Lib.hid (show (_ : World).heap[w.heap.size]? = some (Obj.cells #[.string ⟨#[]⟩, .int .i64 0, .int .i64 0, .int .i64 0, .int .i64 0, .int .i64 0, .int .i64 0, .int .i64 0, .int .i64 0, .int .i64 0, .string ⟨#[]⟩] 53 (0, 0)) from RE.out.r)
                                    have HLS := setRow_heap _ w.heap.size _ #[.string s1, .int .i64 y, .int .i64 tq, .int .i64 mo, .int .i64 k, .int .i64 a, .int .i64 n, .int .i64 t, .int .i64 c, .int .i64 sv, .string s9] 53 (0, 0) HLR.out
                                    obtain ⟨⟨c0, c1, c2, c3, c4, c5, c6, c7, c8, c9, c10⟩, -, cl⟩ := RuB.eleven (show BxO _ w.heap.size (ruA s1 y tq mo k a n t c sv s9) 53 from HLS)
                                    go_upto_region 31 with fail
                                    apply wp_region_lit
                                    refine wpList_load_row rfl 53 _ rfl B rfl 53 #[.string s1, .int .i64 y, .int .i64 tq, .int .i64 mo, .int .i64 k, .int .i64 a, .int .i64 n, .int .i64 t, .int .i64 c, .int .i64 sv, .string s9] (0, 0) _ HLX.out Tryz.underlying53 rfl (by kernel_rfl) ?_
                                    refine wpList_plain rfl (fun K hK => BigFrame.wp_move _ rfl (hK _ _ ?_))
                                    refine wpList_store_row rfl 53 _ _ rfl w.heap.size #[.string s1, .int .i64 y, .int .i64 tq, .int .i64 mo, .int .i64 k, .int .i64 a, .int .i64 n, .int .i64 t, .int .i64 c, .int .i64 sv, .string s9] rfl rfl 53 _ HLR.out (by kernel_rfl) rfl (by simp [Value.oneCell']) ?_
                                    go_wp2_with fail
                                    refine bodyPost_ret (v := .tuple #[.agg #[.string s1, .int .i64 y, .int .i64 tq, .int .i64 mo, .int .i64 k, .int .i64 a, .int .i64 n, .int .i64 t, .int .i64 c, .int .i64 sv, .string s9], .int .i64 4]) (by simp [results, Tryz.results16, go_sem, c0, c1, c2, c3, c4, c5, c6, c7, c8, c9, c10, cl]) rfl ⟨⟨s1, y, tq, ⟨mo, k, a, n, t, c⟩, sv, s9⟩, by rw [HRS.out]; rfl, fun h => absurd (HRS.out.symm.trans h) HEN.out, below_setRow RE.out.b (Nat.le_refl _) _⟩
                                | true =>
                                  as_aux_lemma =>
                                    have HRS := Lib.hid (HLT1.out rfl)
                                    have HLX := Lib.hid (show (_ : World).heap[B]? = some (Obj.cells #[.string s1, .int .i64 y, .int .i64 tq, .int .i64 mo, .int .i64 k, .int .i64 a, .int .i64 n, .int .i64 t, .int .i64 c, .int .i64 sv, .string s9] 53 (0, 0)) from RE.out.x)
                                    have HLR := Lib.hid (show (_ : World).heap[w.heap.size]? = some (Obj.cells #[.string ⟨#[]⟩, .int .i64 0, .int .i64 0, .int .i64 0, .int .i64 0, .int .i64 0, .int .i64 0, .int .i64 0, .int .i64 0, .int .i64 0, .string ⟨#[]⟩] 53 (0, 0)) from RE.out.r)
                                    have HLS := setRow_heap _ w.heap.size _ #[.string s1, .int .i64 y, .int .i64 tq, .int .i64 mo, .int .i64 k, .int .i64 a, .int .i64 n, .int .i64 t, .int .i64 c, .int .i64 sv, .string s9] 53 (0, 0) HLR.out
                                    obtain ⟨⟨c0, c1, c2, c3, c4, c5, c6, c7, c8, c9, c10⟩, -, cl⟩ := RuB.eleven (show BxO _ w.heap.size (ruA s1 y tq mo k a n t c sv s9) 53 from HLS)
                                    go_upto_region 31 with fail
                                    apply wp_region_lit
                                    refine wpList_load_row rfl 53 _ rfl B rfl 53 #[.string s1, .int .i64 y, .int .i64 tq, .int .i64 mo, .int .i64 k, .int .i64 a, .int .i64 n, .int .i64 t, .int .i64 c, .int .i64 sv, .string s9] (0, 0) _ HLX.out Tryz.underlying53 rfl (by kernel_rfl) ?_
                                    refine wpList_plain rfl (fun K hK => BigFrame.wp_move _ rfl (hK _ _ ?_))
                                    refine wpList_store_row rfl 53 _ _ rfl w.heap.size #[.string s1, .int .i64 y, .int .i64 tq, .int .i64 mo, .int .i64 k, .int .i64 a, .int .i64 n, .int .i64 t, .int .i64 c, .int .i64 sv, .string s9] rfl rfl 53 _ HLR.out (by kernel_rfl) rfl (by simp [Value.oneCell']) ?_
                                    go_wp2_with fail
                                    refine bodyPost_ret (v := .tuple #[.agg #[.string s1, .int .i64 y, .int .i64 tq, .int .i64 mo, .int .i64 k, .int .i64 a, .int .i64 n, .int .i64 t, .int .i64 c, .int .i64 sv, .string s9], .int .i64 0]) (by simp [results, Tryz.results16, go_sem, c0, c1, c2, c3, c4, c5, c6, c7, c8, c9, c10, cl]) rfl ⟨⟨s1, y, tq, ⟨mo, k, a, n, t, c⟩, sv, s9⟩, by rw [HRS.out]; rfl, fun _ => HFV.out, below_setRow RE.out.b (Nat.le_refl _) _⟩
                            · as_aux_lemma =>
                                have HRS : Hid (RS = E4) := by show _ = _; rw [HRU8.out, if_pos hE]
                                have hEb : (E4 == 0) = false := beq_eq_false_iff_ne.2 hE
                                have HEN := Lib.hid hE
                                clear hE HRU8
                                have HLX := Lib.hid (show (_ : World).heap[B]? = some (Obj.cells #[.string s1, .int .i64 y, .int .i64 tq, .int .i64 mo, .int .i64 k, .int .i64 a, .int .i64 n, .int .i64 t, .int .i64 c, .int .i64 sv, .string ⟨#[]⟩] 53 (0, 0)) from RD.out.x)
                                have HLR := Lib.hid (show (_ : World).heap[w.heap.size]? = some (Obj.cells #[.string ⟨#[]⟩, .int .i64 0, .int .i64 0, .int .i64 0, .int .i64 0, .int .i64 0, .int .i64 0, .int .i64 0, .int .i64 0, .int .i64 0, .string ⟨#[]⟩] 53 (0, 0)) from RD.out.r)
                                have HLS := setRow_heap _ w.heap.size _ #[.string s1, .int .i64 y, .int .i64 tq, .int .i64 mo, .int .i64 k, .int .i64 a, .int .i64 n, .int .i64 t, .int .i64 c, .int .i64 sv, .string ⟨#[]⟩] 53 (0, 0) HLR.out
                                obtain ⟨⟨c0, c1, c2, c3, c4, c5, c6, c7, c8, c9, c10⟩, -, cl⟩ := RuB.eleven (show BxO _ w.heap.size (ruA s1 y tq mo k a n t c sv ⟨#[]⟩) 53 from HLS)
                                go_upto_region 31 with fail
                                apply wp_region_lit
                                refine wpList_load_row rfl 53 _ rfl B rfl 53 #[.string s1, .int .i64 y, .int .i64 tq, .int .i64 mo, .int .i64 k, .int .i64 a, .int .i64 n, .int .i64 t, .int .i64 c, .int .i64 sv, .string ⟨#[]⟩] (0, 0) _ HLX.out Tryz.underlying53 rfl (by kernel_rfl) ?_
                                refine wpList_plain rfl (fun K hK => BigFrame.wp_move _ rfl (hK _ _ ?_))
                                refine wpList_store_row rfl 53 _ _ rfl w.heap.size #[.string s1, .int .i64 y, .int .i64 tq, .int .i64 mo, .int .i64 k, .int .i64 a, .int .i64 n, .int .i64 t, .int .i64 c, .int .i64 sv, .string ⟨#[]⟩] rfl rfl 53 _ HLR.out (by kernel_rfl) rfl (by simp [Value.oneCell']) ?_
                                go_wp2_with fail
                                refine bodyPost_ret (v := .tuple #[.agg #[.string s1, .int .i64 y, .int .i64 tq, .int .i64 mo, .int .i64 k, .int .i64 a, .int .i64 n, .int .i64 t, .int .i64 c, .int .i64 sv, .string ⟨#[]⟩], .int .i64 E4]) (by simp [results, Tryz.results16, go_sem, c0, c1, c2, c3, c4, c5, c6, c7, c8, c9, c10, cl]) rfl ⟨⟨s1, y, tq, ⟨mo, k, a, n, t, c⟩, sv, ⟨#[]⟩⟩, by rw [HRS.out]; rfl, fun h => absurd (HRS.out.symm.trans h) HEN.out, below_setRow RD.out.b (Nat.le_refl _) _⟩
      · as_aux_lemma =>
          have HRS : Hid (RS = Ey) := HRU1.out.trans (if_pos hE)
          have HEN := Lib.hid hE
          have hEb : (Ey != 0) = true := by rw [bne_iff_ne]; exact hE
          clear hE
          have HLX := Lib.hid (show (_ : World).heap[B]? = some (Obj.cells #[.string s1, .int .i64 0, .int .i64 0, .int .i64 0, .int .i64 0, .int .i64 0, .int .i64 0, .int .i64 0, .int .i64 0, .int .i64 0, .string ⟨#[]⟩] 53 (0, 0)) from R2.out.x)
          have HLR := Lib.hid (show (_ : World).heap[w.heap.size]? = some (Obj.cells #[.string ⟨#[]⟩, .int .i64 0, .int .i64 0, .int .i64 0, .int .i64 0, .int .i64 0, .int .i64 0, .int .i64 0, .int .i64 0, .int .i64 0, .string ⟨#[]⟩] 53 (0, 0)) from R2.out.r)
          have HLS := setRow_heap _ w.heap.size _ #[.string s1, .int .i64 0, .int .i64 0, .int .i64 0, .int .i64 0, .int .i64 0, .int .i64 0, .int .i64 0, .int .i64 0, .int .i64 0, .string ⟨#[]⟩] 53 (0, 0) HLR.out
          obtain ⟨⟨c0, c1, c2, c3, c4, c5, c6, c7, c8, c9, c10⟩, -, cl⟩ := RuB.eleven (show BxO _ w.heap.size (ruA s1 0 0 0 0 0 0 0 0 0 ⟨#[]⟩) 53 from HLS)
          go_upto_region 7 with fail
          apply wp_region_lit
          refine wpList_load_row rfl 53 _ rfl B rfl 53 #[.string s1, .int .i64 0, .int .i64 0, .int .i64 0, .int .i64 0, .int .i64 0, .int .i64 0, .int .i64 0, .int .i64 0, .int .i64 0, .string ⟨#[]⟩] (0, 0) _ HLX.out Tryz.underlying53 rfl (by kernel_rfl) ?_
          refine wpList_plain rfl (fun K hK => BigFrame.wp_move _ rfl (hK _ _ ?_))
          refine wpList_store_row rfl 53 _ _ rfl w.heap.size #[.string s1, .int .i64 0, .int .i64 0, .int .i64 0, .int .i64 0, .int .i64 0, .int .i64 0, .int .i64 0, .int .i64 0, .int .i64 0, .string ⟨#[]⟩] rfl rfl 53 _ HLR.out (by kernel_rfl) rfl (by simp [Value.oneCell']) ?_
          go_wp2_with fail
          refine bodyPost_ret (v := .tuple #[.agg #[.string s1, .int .i64 0, .int .i64 0, .int .i64 0, .int .i64 0, .int .i64 0, .int .i64 0, .int .i64 0, .int .i64 0, .int .i64 0, .string ⟨#[]⟩], .int .i64 Ey]) (by simp [results, Tryz.results16, go_sem, c0, c1, c2, c3, c4, c5, c6, c7, c8, c9, c10, cl]) rfl ⟨⟨s1, 0, 0, ⟨0, 0, 0, 0, 0, 0⟩, 0, ⟨#[]⟩⟩, by rw [HRS.out]; rfl, fun h => absurd (HRS.out.symm.trans h) HEN.out, below_setRow R2.out.b (Nat.le_refl _) _⟩
  · have HRS := Lib.hid (rulS_len hlen)
    have hn : ((ws.length : Int) != 10) = true := by rw [bne_iff_ne]; omega
    have HEN : Hid ((4 : Int) ≠ 0) := by show _ ≠ _; decide
    clear hlen hv hz hc
    obtain ⟨⟨x0, x1, x2, x3, x4, x5, x6, x7, x8, x9, x10⟩, ⟨xf0, xf1, xf2, xf3, xf4, xf5, xf6, xf7, xf8, xf9, xf10⟩, xl⟩ := RuB.eleven R0.out.x
    go_enter Tryz.func16, Tryz.ntmps16
    go_upto_region 1 with fail
    rw [← HW.out]
    go_upto_region 2 with fail
    rw [← HW1.out]
    clear HW HW1 hB
    have HLX := Lib.hid (show (_ : World).heap[B]? = some (Obj.cells #[.string ⟨#[]⟩, .int .i64 0, .int .i64 0, .int .i64 0, .int .i64 0, .int .i64 0, .int .i64 0, .int .i64 0, .int .i64 0, .int .i64 0, .string ⟨#[]⟩] 53 (0, 0)) from R0.out.x)
    have HLR := Lib.hid (show (_ : World).heap[w.heap.size]? = some (Obj.cells #[.string ⟨#[]⟩, .int .i64 0, .int .i64 0, .int .i64 0, .int .i64 0, .int .i64 0, .int .i64 0, .int .i64 0, .int .i64 0, .int .i64 0, .string ⟨#[]⟩] 53 (0, 0)) from R0.out.r)
    have HLS := setRow_heap _ w.heap.size _ #[.string ⟨#[]⟩, .int .i64 0, .int .i64 0, .int .i64 0, .int .i64 0, .int .i64 0, .int .i64 0, .int .i64 0, .int .i64 0, .int .i64 0, .string ⟨#[]⟩] 53 (0, 0) HLR.out
    obtain ⟨⟨c0, c1, c2, c3, c4, c5, c6, c7, c8, c9, c10⟩, -, cl⟩ := RuB.eleven (show BxO _ w.heap.size (ruA ⟨#[]⟩ 0 0 0 0 0 0 0 0 0 ⟨#[]⟩) 53 from HLS)
    go_upto_region 3 with fail
    apply wp_region_lit
    refine wpList_load_row rfl 53 _ rfl B rfl 53 #[.string ⟨#[]⟩, .int .i64 0, .int .i64 0, .int .i64 0, .int .i64 0, .int .i64 0, .int .i64 0, .int .i64 0, .int .i64 0, .int .i64 0, .string ⟨#[]⟩] (0, 0) _ HLX.out Tryz.underlying53 rfl (by kernel_rfl) ?_
    refine wpList_store_row rfl 53 _ _ rfl w.heap.size #[.string ⟨#[]⟩, .int .i64 0, .int .i64 0, .int .i64 0, .int .i64 0, .int .i64 0, .int .i64 0, .int .i64 0, .int .i64 0, .int .i64 0, .string ⟨#[]⟩] rfl rfl 53 _ HLR.out (by kernel_rfl) rfl (by simp [Value.oneCell']) ?_
    go_wp2_with fail
    refine bodyPost_ret (v := .tuple #[.agg #[.string ⟨#[]⟩, .int .i64 0, .int .i64 0, .int .i64 0, .int .i64 0, .int .i64 0, .int .i64 0, .int .i64 0, .int .i64 0, .int .i64 0, .string ⟨#[]⟩], .int .i64 4]) (by simp [results, Tryz.results16, go_sem, c0, c1, c2, c3, c4, c5, c6, c7, c8, c9, c10, cl]) rfl ⟨⟨⟨#[]⟩, 0, 0, ⟨0, 0, 0, 0, 0, 0⟩, 0, ⟨#[]⟩⟩, by rw [HRS.out]; rfl, fun h => absurd (HRS.out.symm.trans h) HEN.out, below_setRow R0.out.b (Nat.le_refl _) _⟩
end Go.Proofs.YtbciennhcdabeaaGreatDoor
