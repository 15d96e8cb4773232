/-
  The document's eras: the walk.
-/
import Derived.Laws.CopyOwn
import Derived.BigQuiet
import Derived.Test.YtbciennhcdabeaaGreatDoorRdP
import Derived.Test.YtbciennhcdabeaaGreatDoorRdJ
namespace Go.Proofs.YtbciennhcdabeaaGreatDoor
set_option linter.unusedVariables false
set_option linter.unusedSimpArgs false
open Go.ChangeShapes Go.WideShapes Go.ChangeAt Go.RowKit Civ

theorem ErX.s0 {w wx : World} {B : Nat} {rl fm : ByteArray} {en : Bool} {o sv yr mo k a n t c : Int} (h : ErX w wx B (eaA o rl sv fm en yr mo k a n t c)) (u : Int) : ErX w (wx.setCell ⟨B, 0, none⟩ (.int .i64 u)) B (eaA u rl sv fm en yr mo k a n t c) :=
  h.put _ _ (by simp [BxO, World.setCell, Array.getElem?_modify, show wx.heap[B]? = _ from h.x, eaA])
theorem ErX.start2 {w W0 : World} (h : BxO W0 w.heap.size (eaA 0 ⟨#[]⟩ 0 ⟨#[]⟩ false 0 0 0 0 0 0 0) 59) (hb : Below w.heap.size w W0) : ErX w (W0.alloc (.cells #[.int .i64 0, .string ⟨#[]⟩, .int .i64 0, .string ⟨#[]⟩, .bool false, .int .i64 0, .int .i64 0, .int .i64 0, .int .i64 0, .int .i64 0, .int .i64 0, .int .i64 0] 59)) W0.heap.size (eaA 0 ⟨#[]⟩ 0 ⟨#[]⟩ false 0 0 0 0 0 0 0) :=
  ErX.made h hb (Below.refl _ _) 0
/-- one dash: no offset. -/
theorem dash_one {s : ByteArray} (h0 : 0 < s.size) (h : byI s 0 = 45) : s = dashS ↔ ¬ 1 < s.size := by
  obtain ⟨⟨l⟩⟩ := s
  cases l with
  | nil => exact absurd h0 (by decide)
  | cons a l =>
    have ha : a = 45 := by
      have e : (a.toNat : Int) = 45 := h
      have : a.toNat = 45 := by omega
      exact UInt8.toNat_inj.1 this
    subst ha
    constructor
    · intro e
      have e2 : (45 :: l : List UInt8) = [45] := bx_inj e
      have : l = [] := by simpa using e2
      subst this
      decide
    · intro h1
      have : l = [] := by
        cases l with
        | nil => rfl
        | cons b l => exfalso; apply h1; show 1 < (b :: l).length + 1; simp
      subst this
      rfl
theorem dash_byte : byI dashS 0 = 45 ∧ digB (byI dashS 0) = false := by decide
set_option maxRecDepth 100000 in
set_option maxHeartbeats 8000000 in
theorem eraOf_any_s (ws : List ByteArray) (v : Value) (w : World) (hv : SlAt w 1 RSt v ws) (hz : ∀ x ∈ ws, 0 < x.size ∧ x.size ≤ 1000000) :
    Calls Tryz.prog 18 #[v] w fun e w' => ∃ x : Ero, e = .returned (.tuple #[.agg (eaA x.off x.rl x.sv x.fm x.en x.yr x.un.mo x.un.k x.un.a x.un.n x.un.t x.un.c), .int .i64 (erE ws)]) ∧ (erE ws = 0 → x = erV ws) ∧ Below w.heap.size w w' := by
  obtain ⟨W0, hW0⟩ : ∃ W0, W0 = w.alloc (.cells #[.int .i64 0, .string ⟨#[]⟩, .int .i64 0, .string ⟨#[]⟩, .bool false, .int .i64 0, .int .i64 0, .int .i64 0, .int .i64 0, .int .i64 0, .int .i64 0, .int .i64 0] 59) := ⟨_, rfl⟩
  have R00 : Hid (BxO W0 w.heap.size (eaA 0 ⟨#[]⟩ 0 ⟨#[]⟩ false 0 0 0 0 0 0 0) 59) := by show BxO _ _ _ _; rw [hW0]; exact ErX.start
  have B00 : Hid (Below w.heap.size w W0) := by show Below _ _ _; rw [hW0]; exact (Below.refl _ _).alloc (Nat.le_refl _) _
  have HW := Lib.hid hW0
  clear hW0
  have R0 := Lib.hid (ErX.start2 R00.out B00.out)
  obtain ⟨W1, hW1⟩ : ∃ W1, W1 = W0.alloc (.cells #[.int .i64 0, .string ⟨#[]⟩, .int .i64 0, .string ⟨#[]⟩, .bool false, .int .i64 0, .int .i64 0, .int .i64 0, .int .i64 0, .int .i64 0, .int .i64 0, .int .i64 0] 59) := ⟨_, rfl⟩
  rw [← hW1] at R0
  have HW1 := Lib.hid hW1
  clear hW1 R00 B00
  generalize hB : W0.heap.size = B at *
  obtain ⟨aa, cc, rfl, hc⟩ := hv.shape
  by_cases hlen : 3 ≤ (ws.length : Int) ∧ (ws.length : Int) ≤ 7
  · have hd : decide (3 ≤ (ws.length : Int) ∧ (ws.length : Int) ≤ 7) = true := decide_eq_true hlen
    have hn3 : 3 ≤ ws.length := by omega
    have hn7 : ws.length ≤ 7 := by omega
    obtain ⟨b, off, rfl, hb, -⟩ := entS hv 0 (by omega)
    have HB := Lib.hid hb
    have hBb : B ≠ b := by have := R0.out.n; omega
    have hBb2 : b ≠ B := fun e => hBb e.symm
    have HWC : Hid (∀ wx, Below w.heap.size w wx → ∀ k (h : k < ws.length), wx.cell? ⟨b, off + k, none⟩ = some (.string (wAt ws k))) := by
      show ∀ wx, _ → _
      intro wx hx k h
      obtain ⟨b', o', e, -, q⟩ := entS hv k h
      simp only [Option.some.injEq, Addr.mk.injEq, and_true] at e
      obtain ⟨rfl, rfl⟩ := e
      rw [wAt_get h]
      exact (hx.cell (p := ⟨b, off + k, none⟩) hb).trans q
    have HZ : Hid (∀ k (h : k < ws.length), 0 < (wAt ws k).size ∧ (wAt ws k).size ≤ 1000000 ∧ (wAt ws k).size ≤ maxLen) := fun k h => by rw [wAt_get h]; exact ⟨(hz _ (List.getElem_mem h)).1, (hz _ (List.getElem_mem h)).2, by have := (hz _ (List.getElem_mem h)).2; unfold maxLen; omega⟩
    have HE0 : Hid (erE ws = if (offS (wAt ws 0)).2 ≠ 0 then (offS (wAt ws 0)).2 else if er1S ws ≠ 0 then er1S ws else if fmtL (wAt ws 2).data.toList = false then 4 else if ws.length = 3 then 0 else if (yrS (wAt ws 3)).2 ≠ 0 then (yrS (wAt ws 3)).2 else if 4 < ws.length ∧ (monS (wAt ws 4)).2 ≠ 0 then (monS (wAt ws 4)).2 else if 5 < ws.length ∧ (dyS (wAt ws 5)).2 ≠ 0 then (dyS (wAt ws 5)).2 else if 6 < ws.length then (tmS (wAt ws 6)).2 else 0) := by
      show _ = _
      unfold erE
      rw [if_neg (by omega)]
    have HOF := Lib.hid (fun wx => offsetOf_any_s (wAt ws 0) wx (HZ.out 0 (by omega)).2.1)
    have k0 := HWC.out _ R0.out.b 0 (by omega)
    rw [Nat.add_zero] at k0
    have hi0 : (0 : Int) < (ws.length : Int) := by omega
    clear hlen hv hz hc hb
    obtain ⟨OF, hOF⟩ : ∃ OF, offS (wAt ws 0) = OF := ⟨_, rfl⟩
    rw [hOF] at HE0 HOF
    have HOFV := Lib.hid hOF
    clear hOF
    obtain ⟨o, Eo⟩ := OF
    dsimp only at HE0 HOF
    obtain ⟨⟨x0, x1, x2, x3, x4, x5, x6, x7, x8, x9, x10, x11⟩, ⟨xf0, xf1, xf2, xf3, xf4, xf5, xf6, xf7, xf8, xf9, xf10, xf11⟩, xl⟩ := ErX.twelve R0.out.x
    go_enter Tryz.func18, Tryz.ntmps18
    go_upto_region 1 with fail
    rw [← HW.out]
    go_upto_region 2 with fail
    rw [← HW1.out]
    clear HW HW1 hB
    go_wp2_with fail
    refine (in_lit _ _ _ _ _ hd).mono ?_; rintro e w' ⟨rfl, rfl⟩
    clear hd
    go_wp2_with fail
    refine (HOF.out _).mono ?_; rintro e w5 ⟨rfl, hb5⟩
    have R1 := Lib.hid (R0.out.next hb5)
    clear hb5 R0 k0
    clear x0 x1 x2 x3 x4 x5 x6 x7 x8 x9 x10 x11 xf0 xf1 xf2 xf3 xf4 xf5 xf6 xf7 xf8 xf9 xf10 xf11 xl
    obtain ⟨⟨x0, x1, x2, x3, x4, x5, x6, x7, x8, x9, x10, x11⟩, ⟨xf0, xf1, xf2, xf3, xf4, xf5, xf6, xf7, xf8, xf9, xf10, xf11⟩, xl⟩ := ErX.twelve R1.out.x
    by_cases hEo : Eo = 0
    · subst hEo
      have HE1 := Lib.hid (HE0.out.trans (if_neg (by simp)))
      clear HE0 HOF
      have R2 := Lib.hid (R1.out.s0 o)
      have HS1 : Hid (er1S ws = if wAt ws 1 = dashS then 0 else if digB (byI (wAt ws 1) 0) = true ∨ byI (wAt ws 1) 0 = 45 then (offS (wAt ws 1)).2 else if nameS (wAt ws 1) = false then 4 else 0) := rfl
      have HS2 : Hid (erSv ws = if wAt ws 1 = dashS then 0 else if digB (byI (wAt ws 1) 0) = true ∨ byI (wAt ws 1) 0 = 45 then (offS (wAt ws 1)).1 else 0) := rfl
      have HS3 : Hid (erRl ws = if wAt ws 1 = dashS then ByteArray.empty else if digB (byI (wAt ws 1) 0) = true ∨ byI (wAt ws 1) 0 = 45 then ByteArray.empty else wAt ws 1) := rfl
      have HO1 := Lib.hid (fun wx => offsetOf_any_s (wAt ws 1) wx (HZ.out 1 (by omega)).2.1)
      have HN1 := Lib.hid (fun wx => namemay_lit (wAt ws 1) wx (HZ.out 1 (by omega)).2.2)
      have hs1z := (HZ.out 1 (by omega)).1
      have hs1y0 : ∀ s, wAt ws 1 = s → 0 < s.size := fun s h => h ▸ (HZ.out 1 (by omega)).1
      have hi1 : (1 : Int) < (ws.length : Int) := by omega
      have hi1z : (0 : Int) < ((wAt ws 1).size : Int) := by omega
      have hby := byI_at (wAt ws 1) 0 hs1z
      obtain ⟨WA, hWA⟩ : ∃ WA, WA = w5.setCell ⟨B, 0, none⟩ (.int .i64 o) := ⟨_, rfl⟩
      rw [← hWA] at R2
      have HWA := Lib.hid hWA
      clear hWA
      go_upto_region 8 with fail
      rw [← HWA.out]
      clear HWA R1
      clear x0 x1 x2 x3 x4 x5 x6 x7 x8 x9 x10 x11 xf0 xf1 xf2 xf3 xf4 xf5 xf6 xf7 xf8 xf9 xf10 xf11 xl
      have k1 := HWC.out _ R2.out.b 1 (by omega)
      obtain ⟨s1, hs1⟩ : ∃ s1, wAt ws 1 = s1 := ⟨_, rfl⟩
      have HS1V := Lib.hid hs1
      simp only [hs1] at *
      have hs1y : 0 < s1.size := hs1y0 s1 rfl
      clear hs1y0
      clear hs1
      have l1 : (bx [45]).toList = [45] := by rw [ByteArray.toList_eq]; rfl
      have g1 := streqS s1 (bx [45])
      rw [l1] at g1
      obtain ⟨p1, hp1⟩ : ∃ q : Bool, (s1.toList == [45]) = q := ⟨_, rfl⟩
      have H1 : Hid (p1 = true ↔ s1 = dashS) := by show _ ↔ _; rw [← hp1, g1, decide_eq_true_iff]; rfl
      clear g1 l1
      obtain ⟨q1, hq1⟩ : ∃ q : Bool, q = (digB (byI s1 0) || (decide (byI s1 0 = 45) && decide (1 < s1.size))) := ⟨_, rfl⟩
      have HQ1 := Lib.hid hq1
      clear hq1
      go_cut [44] (fun c wx => c = .bool q1 ∧ WA = wx)
      case first =>
        obtain ⟨d, hd0⟩ : ∃ d, digB (byI s1 0) = d := ⟨_, rfl⟩
        have hd := hd0
        rw [hby] at hd
        have HDG := Lib.hid (fun w => isdigit_lit _ d w hd)
        obtain ⟨pm, hpm0⟩ : ∃ q : Bool, (byI s1 0 == 45) = q := ⟨_, rfl⟩
        have hpm := hpm0
        rw [hby] at hpm
        have hsz : (1 : Int) < (s1.size : Int) ∨ ¬ (1 : Int) < (s1.size : Int) := by omega
        have HQ2 : Hid (q1 = (d || (pm && decide (1 < (s1.size : Int))))) := by
          show _ = _
          rw [HQ1.out, hd0, ← hpm0]
          congr 2
          rw [decide_eq_decide]
          omega
        clear hd hd0 hby hpm0
        cases d with
        | true =>
          go_wp2_with fail
          refine (HDG.out _).mono ?_; rintro e w' ⟨rfl, rfl⟩
          go_wp2
          go_meet
          exact ⟨by rw [HQ2.out]; rfl, rfl⟩
        | false =>
          cases pm with
          | false =>
            go_wp2_with fail
            refine (HDG.out _).mono ?_; rintro e w' ⟨rfl, rfl⟩
            go_wp2
            go_meet
            exact ⟨by rw [HQ2.out]; rfl, rfl⟩
          | true =>
            rcases hsz with h | h
            · have HQ3 : Hid (q1 = true) := by show _ = _; rw [HQ2.out, decide_eq_true h]; rfl
              go_wp2_with fail
              refine (HDG.out _).mono ?_; rintro e w' ⟨rfl, rfl⟩
              go_wp2
              go_meet
              exact ⟨by rw [HQ3.out], rfl⟩
            · have HQ3 : Hid (q1 = false) := by show _ = _; rw [HQ2.out, decide_eq_false h]; rfl
              go_wp2_with fail
              refine (HDG.out _).mono ?_; rintro e w' ⟨rfl, rfl⟩
              go_wp2
              go_meet
              exact ⟨by rw [HQ3.out]; simp [h], rfl⟩
      case rest =>
        obtain ⟨rfl, rfl⟩ := hcut
        have HQ4 : Hid (q1 = true ↔ s1 ≠ dashS ∧ (digB (byI s1 0) = true ∨ byI s1 0 = 45)) := by
          show _ ↔ _
          rw [HQ1.out]
          simp only [Bool.or_eq_true, Bool.and_eq_true, decide_eq_true_eq]
          constructor
          · rintro (h | ⟨h, h2⟩)
            · exact ⟨fun e => (by rw [e, dash_byte.2] at h; cases h), .inl h⟩
            · exact ⟨fun e => (dash_one hs1y h).1 e h2, .inr h⟩
          · rintro ⟨h1, h | h⟩
            · exact .inl h
            · refine .inr ⟨h, ?_⟩
              by_cases h3 : 1 < s1.size
              · exact h3
              · exact absurd ((dash_one hs1y h).2 h3) h1
        clear HQ1 hby hs1z hi1z hs1y
        obtain ⟨⟨x0, x1, x2, x3, x4, x5, x6, x7, x8, x9, x10, x11⟩, ⟨xf0, xf1, xf2, xf3, xf4, xf5, xf6, xf7, xf8, xf9, xf10, xf11⟩, xl⟩ := ErX.twelve R2.out.x
        go_upto_if 44 with fail
        go_cut [6] (fun ve wx => ∃ (sv : Int) (rl : ByteArray), ve = .int .i64 0 ∧ Hid (er1S ws = 0 ∧ erSv ws = sv ∧ erRl ws = rl) ∧ Hid (ErX w wx B (eaA o rl sv ⟨#[]⟩ false 0 0 0 0 0 0 0)))
        case first =>
          as_aux_lemma =>
            cases q1 with
            | true =>
              obtain ⟨hs, hcond⟩ := HQ4.out.1 rfl
              have HC1 : Hid (er1S ws = (offS s1).2) := by show _ = _; rw [HS1.out, if_neg hs, if_pos hcond]
              have HC2 : Hid (erSv ws = (offS s1).1) := by show _ = _; rw [HS2.out, if_neg hs, if_pos hcond]
              have HC3 : Hid (erRl ws = ⟨#[]⟩) := by show _ = _; rw [HS3.out, if_neg hs, if_pos hcond]; rfl
              clear hs hcond HS1 HS2 HS3 HN1
              generalize offS s1 = OS at *
              obtain ⟨sv, Es⟩ := OS
              dsimp only at HC1 HC2 HO1
              go_wp2_with fail
              refine (HO1.out _).mono ?_; rintro e w7 ⟨rfl, hb⟩
              have R7 := Lib.hid (R2.out.next hb)
              have R8 := Lib.hid (R7.out.s2 sv)
              clear hb
              clear x0 x1 x2 x3 x4 x5 x6 x7 x8 x9 x10 x11 xf0 xf1 xf2 xf3 xf4 xf5 xf6 xf7 xf8 xf9 xf10 xf11 xl
              obtain ⟨⟨x0, x1, x2, x3, x4, x5, x6, x7, x8, x9, x10, x11⟩, ⟨xf0, xf1, xf2, xf3, xf4, xf5, xf6, xf7, xf8, xf9, xf10, xf11⟩, xl⟩ := ErX.twelve R7.out.x
              by_cases hEs : Es = 0
              · subst hEs
                go_wp2_with fail
                go_meet
                exact ⟨sv, ⟨#[]⟩, rfl, ⟨HC1.out, HC2.out, HC3.out⟩, R8.out⟩
              · have HRS : Hid (erE ws = Es) := by show _ = _; rw [HE1.out, HC1.out]; exact if_pos hEs
                have HEN := Lib.hid hEs
                have hEb : (Es != 0) = true := by rw [bne_iff_ne]; exact hEs
                clear hEs
                have HLX := Lib.hid (show (_ : World).heap[B]? = some (Obj.cells #[.int .i64 o, .string ⟨#[]⟩, .int .i64 sv, .string ⟨#[]⟩, .bool false, .int .i64 0, .int .i64 0, .int .i64 0, .int .i64 0, .int .i64 0, .int .i64 0, .int .i64 0] 59 (0, 0)) from R8.out.x)
                have HLR := Lib.hid (show (_ : World).heap[w.heap.size]? = some (Obj.cells #[.int .i64 0, .string ⟨#[]⟩, .int .i64 0, .string ⟨#[]⟩, .bool false, .int .i64 0, .int .i64 0, .int .i64 0, .int .i64 0, .int .i64 0, .int .i64 0, .int .i64 0] 59 (0, 0)) from R8.out.r)
                have HLS := setRow_heap _ w.heap.size _ #[.int .i64 o, .string ⟨#[]⟩, .int .i64 sv, .string ⟨#[]⟩, .bool false, .int .i64 0, .int .i64 0, .int .i64 0, .int .i64 0, .int .i64 0, .int .i64 0, .int .i64 0] 59 (0, 0) HLR.out
                obtain ⟨⟨c0, c1, c2, c3, c4, c5, c6, c7, c8, c9, c10, c11⟩, -, cl⟩ := ErX.twelve (show BxO _ w.heap.size (eaA o ⟨#[]⟩ sv ⟨#[]⟩ false 0 0 0 0 0 0 0) 59 from HLS)
                go_upto_region 11 with fail
                apply wp_region_lit
                refine wpList_load_row rfl 59 _ rfl B rfl 59 #[.int .i64 o, .string ⟨#[]⟩, .int .i64 sv, .string ⟨#[]⟩, .bool false, .int .i64 0, .int .i64 0, .int .i64 0, .int .i64 0, .int .i64 0, .int .i64 0, .int .i64 0] (0, 0) _ HLX.out Tryz.underlying59 rfl (by kernel_rfl) ?_
                refine wpList_plain rfl (fun K hK => BigFrame.wp_move _ rfl (hK _ _ ?_))
                refine wpList_store_row rfl 59 _ _ rfl w.heap.size #[.int .i64 o, .string ⟨#[]⟩, .int .i64 sv, .string ⟨#[]⟩, .bool false, .int .i64 0, .int .i64 0, .int .i64 0, .int .i64 0, .int .i64 0, .int .i64 0, .int .i64 0] rfl rfl 59 _ HLR.out (by kernel_rfl) rfl (by simp [Value.oneCell']) ?_
                go_wp2_with fail
                refine bodyPost_ret (v := .tuple #[.agg #[.int .i64 o, .string ⟨#[]⟩, .int .i64 sv, .string ⟨#[]⟩, .bool false, .int .i64 0, .int .i64 0, .int .i64 0, .int .i64 0, .int .i64 0, .int .i64 0, .int .i64 0], .int .i64 Es]) (by simp [results, Tryz.results18, go_sem, c0, c1, c2, c3, c4, c5, c6, c7, c8, c9, c10, c11, cl]) rfl ⟨⟨o, ⟨#[]⟩, sv, ⟨#[]⟩, false, 0, ⟨0, 0, 0, 0, 0, 0⟩⟩, by rw [HRS.out]; rfl, fun h => absurd (HRS.out.symm.trans h) HEN.out, below_setRow R8.out.b (Nat.le_refl _) _⟩
            | false =>
              cases p1 with
              | true =>
                have hs : s1 = dashS := H1.out.1 rfl
                have HC : Hid (er1S ws = 0 ∧ erSv ws = 0 ∧ erRl ws = ⟨#[]⟩) := ⟨by rw [HS1.out, if_pos hs], by rw [HS2.out, if_pos hs], by rw [HS3.out, if_pos hs]; rfl⟩
                clear hs
                go_wp2_with fail
                go_meet
                exact ⟨0, ⟨#[]⟩, rfl, HC, R2⟩
              | false =>
                have hs : s1 ≠ dashS := fun e => by have := H1.out.2 e; cases this
                have hcond : ¬ (digB (byI s1 0) = true ∨ byI s1 0 = 45) := fun e => by have := HQ4.out.2 ⟨hs, e⟩; cases this
                have HC1 : Hid (er1S ws = if nameS s1 = false then 4 else 0) := by show _ = _; rw [HS1.out, if_neg hs, if_neg hcond]
                have HC2 : Hid (erSv ws = 0) := by show _ = _; rw [HS2.out, if_neg hs, if_neg hcond]
                have HC3 : Hid (erRl ws = s1) := by show _ = _; rw [HS3.out, if_neg hs, if_neg hcond]
                clear hs hcond HS1 HS2 HS3 HO1
                have R8 := Lib.hid (R2.out.s1 s1)
                generalize nameS s1 = nb at *
                go_wp2_with fail
                refine (HN1.out _).mono ?_; rintro e w7 ⟨rfl, rfl⟩
                cases nb with
                | true =>
                  go_wp2_with fail
                  go_meet
                  exact ⟨0, s1, rfl, ⟨HC1.out, HC2.out, HC3.out⟩, R8.out⟩
                | false =>
                  have HRS : Hid (erE ws = 4) := by show _ = _; rw [HE1.out, HC1.out]; rfl
                  have HEN : Hid ((4 : Int) ≠ 0) := by show _ ≠ _; decide
                  have HLX := Lib.hid (show (_ : World).heap[B]? = some (Obj.cells #[.int .i64 o, .string s1, .int .i64 0, .string ⟨#[]⟩, .bool false, .int .i64 0, .int .i64 0, .int .i64 0, .int .i64 0, .int .i64 0, .int .i64 0, .int .i64 0] 59 (0, 0)) from R8.out.x)
                  have HLR := Lib.hid (show (_ : World).heap[w.heap.size]? = some (Obj.cells #[.int .i64 0, .string ⟨#[]⟩, .int .i64 0, .string ⟨#[]⟩, .bool false, .int .i64 0, .int .i64 0, .int .i64 0, .int .i64 0, .int .i64 0, .int .i64 0, .int .i64 0] 59 (0, 0)) from R8.out.r)
                  have HLS := setRow_heap _ w.heap.size _ #[.int .i64 o, .string s1, .int .i64 0, .string ⟨#[]⟩, .bool false, .int .i64 0, .int .i64 0, .int .i64 0, .int .i64 0, .int .i64 0, .int .i64 0, .int .i64 0] 59 (0, 0) HLR.out
                  obtain ⟨⟨c0, c1, c2, c3, c4, c5, c6, c7, c8, c9, c10, c11⟩, -, cl⟩ := ErX.twelve (show BxO _ w.heap.size (eaA o s1 0 ⟨#[]⟩ false 0 0 0 0 0 0 0) 59 from HLS)
                  go_upto_region 15 with fail
                  apply wp_region_lit
                  refine wpList_load_row rfl 59 _ rfl B rfl 59 #[.int .i64 o, .string s1, .int .i64 0, .string ⟨#[]⟩, .bool false, .int .i64 0, .int .i64 0, .int .i64 0, .int .i64 0, .int .i64 0, .int .i64 0, .int .i64 0] (0, 0) _ HLX.out Tryz.underlying59 rfl (by kernel_rfl) ?_
                  refine wpList_store_row rfl 59 _ _ rfl w.heap.size #[.int .i64 o, .string s1, .int .i64 0, .string ⟨#[]⟩, .bool false, .int .i64 0, .int .i64 0, .int .i64 0, .int .i64 0, .int .i64 0, .int .i64 0, .int .i64 0] rfl rfl 59 _ HLR.out (by kernel_rfl) rfl (by simp [Value.oneCell']) ?_
                  go_wp2_with fail
                  refine bodyPost_ret (v := .tuple #[.agg #[.int .i64 o, .string s1, .int .i64 0, .string ⟨#[]⟩, .bool false, .int .i64 0, .int .i64 0, .int .i64 0, .int .i64 0, .int .i64 0, .int .i64 0, .int .i64 0], .int .i64 4]) (by simp [results, Tryz.results18, go_sem, c0, c1, c2, c3, c4, c5, c6, c7, c8, c9, c10, c11, cl]) rfl ⟨⟨o, s1, 0, ⟨#[]⟩, false, 0, ⟨0, 0, 0, 0, 0, 0⟩⟩, by rw [HRS.out]; rfl, fun h => absurd (HRS.out.symm.trans h) HEN.out, below_setRow R8.out.b (Nat.le_refl _) _⟩
        case rest =>
          as_aux_lemma =>
            obtain ⟨sv, rl', rfl, HER, RX⟩ := hcut
            have HE2 := Lib.hid (HE1.out.trans (if_neg (by rw [HER.out.1]; simp)))
            clear HO1 HN1 HS1 HS2 HS3 R2 H1 HE1 HQ4 k1
            clear x0 x1 x2 x3 x4 x5 x6 x7 x8 x9 x10 x11 xf0 xf1 xf2 xf3 xf4 xf5 xf6 xf7 xf8 xf9 xf10 xf11 xl
            obtain ⟨⟨x0, x1, x2, x3, x4, x5, x6, x7, x8, x9, x10, x11⟩, ⟨xf0, xf1, xf2, xf3, xf4, xf5, xf6, xf7, xf8, xf9, xf10, xf11⟩, xl⟩ := ErX.twelve RX.out.x
            have k2 := HWC.out _ RX.out.b 2 (by omega)
            have HFM := Lib.hid (fun wx => formatmay_lit (wAt ws 2) wx (HZ.out 2 (by omega)).2.2)
            have hi2 : (2 : Int) < (ws.length : Int) := by omega
            obtain ⟨s2, hs2⟩ : ∃ s2, wAt ws 2 = s2 := ⟨_, rfl⟩
            have HS2V := Lib.hid hs2
            rw [hs2] at k2 HFM HE2
            clear hs2
            obtain ⟨fb, hfb⟩ : ∃ q, fmtL s2.data.toList = q := ⟨_, rfl⟩
            rw [hfb] at HFM HE2
            clear hfb
            have R8 := Lib.hid (RX.out.s3 s2)
            go_wp2_with fail
            refine (HFM.out _).mono ?_; rintro e w8 ⟨rfl, rfl⟩
            clear HFM
            cases fb with
            | false =>
              have HRS : Hid (erE ws = 4) := HE2.out.trans (if_pos rfl)
              have HEN : Hid ((4 : Int) ≠ 0) := by show _ ≠ _; decide
              have HLX := Lib.hid (show (_ : World).heap[B]? = some (Obj.cells #[.int .i64 o, .string rl', .int .i64 sv, .string s2, .bool false, .int .i64 0, .int .i64 0, .int .i64 0, .int .i64 0, .int .i64 0, .int .i64 0, .int .i64 0] 59 (0, 0)) from R8.out.x)
              have HLR := Lib.hid (show (_ : World).heap[w.heap.size]? = some (Obj.cells #[.int .i64 0, .string ⟨#[]⟩, .int .i64 0, .string ⟨#[]⟩, .bool false, .int .i64 0, .int .i64 0, .int .i64 0, .int .i64 0, .int .i64 0, .int .i64 0, .int .i64 0] 59 (0, 0)) from R8.out.r)
              have HLS := setRow_heap _ w.heap.size _ #[.int .i64 o, .string rl', .int .i64 sv, .string s2, .bool false, .int .i64 0, .int .i64 0, .int .i64 0, .int .i64 0, .int .i64 0, .int .i64 0, .int .i64 0] 59 (0, 0) HLR.out
              obtain ⟨⟨c0, c1, c2, c3, c4, c5, c6, c7, c8, c9, c10, c11⟩, -, cl⟩ := ErX.twelve (show BxO _ w.heap.size (eaA o rl' sv s2 false 0 0 0 0 0 0 0) 59 from HLS)
              go_upto_region 18 with fail
              apply wp_region_lit
              refine wpList_load_row rfl 59 _ rfl B rfl 59 #[.int .i64 o, .string rl', .int .i64 sv, .string s2, .bool false, .int .i64 0, .int .i64 0, .int .i64 0, .int .i64 0, .int .i64 0, .int .i64 0, .int .i64 0] (0, 0) _ HLX.out Tryz.underlying59 rfl (by kernel_rfl) ?_
              refine wpList_store_row rfl 59 _ _ rfl w.heap.size #[.int .i64 o, .string rl', .int .i64 sv, .string s2, .bool false, .int .i64 0, .int .i64 0, .int .i64 0, .int .i64 0, .int .i64 0, .int .i64 0, .int .i64 0] rfl rfl 59 _ HLR.out (by kernel_rfl) rfl (by simp [Value.oneCell']) ?_
              go_wp2_with fail
              refine bodyPost_ret (v := .tuple #[.agg #[.int .i64 o, .string rl', .int .i64 sv, .string s2, .bool false, .int .i64 0, .int .i64 0, .int .i64 0, .int .i64 0, .int .i64 0, .int .i64 0, .int .i64 0], .int .i64 4]) (by simp [results, Tryz.results18, go_sem, c0, c1, c2, c3, c4, c5, c6, c7, c8, c9, c10, c11, cl]) rfl ⟨⟨o, rl', sv, s2, false, 0, ⟨0, 0, 0, 0, 0, 0⟩⟩, by rw [HRS.out]; rfl, fun h => absurd (HRS.out.symm.trans h) HEN.out, below_setRow R8.out.b (Nat.le_refl _) _⟩
            | true =>
              have HE3 := Lib.hid (HE2.out.trans (if_neg (by simp)))
              clear HE2
              by_cases h3 : ws.length = 3
              · have HRS : Hid (erE ws = 0) := HE3.out.trans (if_pos h3)
                have h3b : ((ws.length : Int) == 3) = true := by rw [h3]; rfl
                have HFV : Hid ((⟨o, rl', sv, s2, false, 0, ⟨0, 0, 0, 0, 0, 0⟩⟩ : Ero) = erV ws) := by
                  show _ = _
                  unfold erV erUn
                  rw [HOFV.out, HER.out.2.1, HER.out.2.2, HS2V.out, if_pos h3, if_pos h3, decide_eq_false (by simp [h3])]
                clear h3
                have HLX := Lib.hid (show (_ : World).heap[B]? = some (Obj.cells #[.int .i64 o, .string rl', .int .i64 sv, .string s2, .bool false, .int .i64 0, .int .i64 0, .int .i64 0, .int .i64 0, .int .i64 0, .int .i64 0, .int .i64 0] 59 (0, 0)) from R8.out.x)
                have HLR := Lib.hid (show (_ : World).heap[w.heap.size]? = some (Obj.cells #[.int .i64 0, .string ⟨#[]⟩, .int .i64 0, .string ⟨#[]⟩, .bool false, .int .i64 0, .int .i64 0, .int .i64 0, .int .i64 0, .int .i64 0, .int .i64 0, .int .i64 0] 59 (0, 0)) from R8.out.r)
                have HLS := setRow_heap _ w.heap.size _ #[.int .i64 o, .string rl', .int .i64 sv, .string s2, .bool false, .int .i64 0, .int .i64 0, .int .i64 0, .int .i64 0, .int .i64 0, .int .i64 0, .int .i64 0] 59 (0, 0) HLR.out
                obtain ⟨⟨c0, c1, c2, c3, c4, c5, c6, c7, c8, c9, c10, c11⟩, -, cl⟩ := ErX.twelve (show BxO _ w.heap.size (eaA o rl' sv s2 false 0 0 0 0 0 0 0) 59 from HLS)
                go_upto_region 20 with fail
                apply wp_region_lit
                refine wpList_load_row rfl 59 _ rfl B rfl 59 #[.int .i64 o, .string rl', .int .i64 sv, .string s2, .bool false, .int .i64 0, .int .i64 0, .int .i64 0, .int .i64 0, .int .i64 0, .int .i64 0, .int .i64 0] (0, 0) _ HLX.out Tryz.underlying59 rfl (by kernel_rfl) ?_
                refine wpList_store_row rfl 59 _ _ rfl w.heap.size #[.int .i64 o, .string rl', .int .i64 sv, .string s2, .bool false, .int .i64 0, .int .i64 0, .int .i64 0, .int .i64 0, .int .i64 0, .int .i64 0, .int .i64 0] rfl rfl 59 _ HLR.out (by kernel_rfl) rfl (by simp [Value.oneCell']) ?_
                go_wp2_with fail
                refine bodyPost_ret (v := .tuple #[.agg #[.int .i64 o, .string rl', .int .i64 sv, .string s2, .bool false, .int .i64 0, .int .i64 0, .int .i64 0, .int .i64 0, .int .i64 0, .int .i64 0, .int .i64 0], .int .i64 0]) (by simp [results, Tryz.results18, go_sem, c0, c1, c2, c3, c4, c5, c6, c7, c8, c9, c10, c11, cl]) rfl ⟨⟨o, rl', sv, s2, false, 0, ⟨0, 0, 0, 0, 0, 0⟩⟩, by rw [HRS.out]; rfl, fun _ => HFV.out, below_setRow R8.out.b (Nat.le_refl _) _⟩
              · have HE4 := Lib.hid (HE3.out.trans (if_neg h3))
                have h3b : ((ws.length : Int) == 3) = false := by rw [beq_eq_false_iff_ne]; omega
                have HY := Lib.hid (fun wx => yearOf_any (wAt ws 3) wx (HZ.out 3 (by omega)).2.2)
                have hi3 : (3 : Int) < (ws.length : Int) := by omega
                clear HE3
                have HN3 := Lib.hid h3
                obtain ⟨y, E1, hYV⟩ : ∃ y E1, yrS (wAt ws 3) = (y, E1) := ⟨_, _, rfl⟩
                rw [hYV] at HE4 HY
                have HYV := Lib.hid hYV
                clear hYV
                dsimp only at HE4 HY
                generalize hs3 : wAt ws 3 = s3 at *
                have HS3V := Lib.hid hs3
                clear hs3
                obtain ⟨wa, hwn⟩ : ∃ wn, wn = wc.setCell ⟨B, 3, none⟩ (.string s2) := ⟨_, rfl⟩
                rw [← hwn] at R8
                have HWN := Lib.hid hwn
                clear hwn
                go_upto_region 21 with fail
                rw [← HWN.out]
                clear HWN RX
                clear x0 x1 x2 x3 x4 x5 x6 x7 x8 x9 x10 x11 xf0 xf1 xf2 xf3 xf4 xf5 xf6 xf7 xf8 xf9 xf10 xf11 xl
                obtain ⟨⟨x0, x1, x2, x3, x4, x5, x6, x7, x8, x9, x10, x11⟩, ⟨xf0, xf1, xf2, xf3, xf4, xf5, xf6, xf7, xf8, xf9, xf10, xf11⟩, xl⟩ := ErX.twelve R8.out.x
                have RV := Lib.hid (R8.out.s4 true)
                obtain ⟨wb, hwn⟩ : ∃ wn, wn = wa.setCell ⟨B, 4, none⟩ (.bool true) := ⟨_, rfl⟩
                rw [← hwn] at RV
                have HWN := Lib.hid hwn
                clear hwn
                go_upto_region 22 with fail
                rw [← HWN.out]
                clear HWN R8
                clear x0 x1 x2 x3 x4 x5 x6 x7 x8 x9 x10 x11 xf0 xf1 xf2 xf3 xf4 xf5 xf6 xf7 xf8 xf9 xf10 xf11 xl
                obtain ⟨⟨x0, x1, x2, x3, x4, x5, x6, x7, x8, x9, x10, x11⟩, ⟨xf0, xf1, xf2, xf3, xf4, xf5, xf6, xf7, xf8, xf9, xf10, xf11⟩, xl⟩ := ErX.twelve RV.out.x
                have RW := Lib.hid ((((((RV.out.s6 1).s7 1).s8 0).s9 1).s10 0).s11 0)
                obtain ⟨wd, hwn⟩ : ∃ wn, wn = (((((wb.setCell ⟨B, 6, none⟩ (.int .i64 1)).setCell ⟨B, 7, none⟩ (.int .i64 1)).setCell ⟨B, 8, none⟩ (.int .i64 0)).setCell ⟨B, 9, none⟩ (.int .i64 1)).setCell ⟨B, 10, none⟩ (.int .i64 0)).setCell ⟨B, 11, none⟩ (.int .i64 0) := ⟨_, rfl⟩
                rw [← hwn] at RW
                have HWN := Lib.hid hwn
                clear hwn
                go_upto_region 23 with fail
                rw [← HWN.out]
                clear HWN RV
                clear x0 x1 x2 x3 x4 x5 x6 x7 x8 x9 x10 x11 xf0 xf1 xf2 xf3 xf4 xf5 xf6 xf7 xf8 xf9 xf10 xf11 xl
                obtain ⟨⟨x0, x1, x2, x3, x4, x5, x6, x7, x8, x9, x10, x11⟩, ⟨xf0, xf1, xf2, xf3, xf4, xf5, xf6, xf7, xf8, xf9, xf10, xf11⟩, xl⟩ := ErX.twelve RW.out.x
                have k3 := HWC.out _ RW.out.b 3 (by omega)
                rw [HS3V.out] at k3
                have RY := Lib.hid (RW.out.s5 y)
                go_wp2_with fail
                refine (HY.out _).mono ?_; rintro e w9 ⟨rfl, rfl⟩
                obtain ⟨wn, hwn⟩ : ∃ wn, wn = wd.setCell ⟨B, 5, none⟩ (.int .i64 y) := ⟨_, rfl⟩
                rw [← hwn] at RY
                have HWN := Lib.hid hwn
                clear hwn
                obtain ⟨q, hq⟩ : ∃ q : Bool, q = (decide (E1 = 0) && decide (4 < ws.length)) := ⟨_, rfl⟩
                have HQ := Lib.hid hq
                clear hq
                go_upto_region 24 with fail
                rw [← HWN.out]
                clear HWN RW
                clear x0 x1 x2 x3 x4 x5 x6 x7 x8 x9 x10 x11 xf0 xf1 xf2 xf3 xf4 xf5 xf6 xf7 xf8 xf9 xf10 xf11 xl
                obtain ⟨⟨x0, x1, x2, x3, x4, x5, x6, x7, x8, x9, x10, x11⟩, ⟨xf0, xf1, xf2, xf3, xf4, xf5, xf6, xf7, xf8, xf9, xf10, xf11⟩, xl⟩ := ErX.twelve RY.out.x
                obtain ⟨wo, hwo⟩ : ∃ wo : World, wo = wn := ⟨_, rfl⟩
                go_cut [103] (fun c wx => c = .bool q ∧ wo = wx)
                case first =>
                  as_aux_lemma =>
                    subst hwo
                    by_cases hE : E1 = 0
                    · have hEb : (E1 == 0) = true := beq_iff_eq.2 hE
                      by_cases hg : 4 < ws.length
                      · have hgi : (4 : Int) < (ws.length : Int) := by omega
                        have HQ2 : Hid (q = true) := by show _ = _; rw [HQ.out, decide_eq_true hE, decide_eq_true hg]; rfl
                        clear hE hg
                        go_wp2_with fail
                        go_meet
                        exact ⟨by rw [HQ2.out], rfl⟩
                      · have hgi : ¬ (4 : Int) < (ws.length : Int) := by omega
                        have HQ2 : Hid (q = false) := by show _ = _; rw [HQ.out, decide_eq_true hE, decide_eq_false hg]; rfl
                        clear hE hg
                        go_wp2_with fail
                        go_meet
                        exact ⟨by rw [HQ2.out], rfl⟩
                    · have hEb : (E1 == 0) = false := beq_eq_false_iff_ne.2 hE
                      have HQ2 : Hid (q = false) := by show _ = _; rw [HQ.out, decide_eq_false hE]; rfl
                      clear hE
                      go_wp2_with fail
                      go_meet
                      exact ⟨by rw [HQ2.out], rfl⟩
                case rest =>
                  obtain ⟨rfl, rfl⟩ := hcut
                  subst hwo
                  go_upto_if 103 with fail
                  go_cut [6] (fun ve wx => ∃ (mo E2 : Int), ve = .int .i64 E2 ∧ Hid (erE ws = if E2 ≠ 0 then E2 else if 5 < ws.length ∧ (dyS (wAt ws 5)).2 ≠ 0 then (dyS (wAt ws 5)).2 else if 6 < ws.length then (tmS (wAt ws 6)).2 else 0) ∧ Hid (E2 = 0 → (if 4 < ws.length then (monS (wAt ws 4)).1 else 1) = mo) ∧ Hid (ErX w wx B (eaA o rl' sv s2 true y mo 1 0 1 0 0)))
                  case first =>
                    as_aux_lemma =>
                      cases q with
                      | true =>
                        have hh : E1 = 0 ∧ 4 < ws.length := by have := HQ.out; simpa using this.symm
                        obtain ⟨hE, hg⟩ := hh
                        have HIN := Lib.hid (HE4.out.trans (if_neg (by simp [hE])))
                        have HAC := Lib.hid (trivial)
                        clear HE4
                        have hgi : (4 : Int) < (ws.length : Int) := by omega
                        have HCC := Lib.hid (fun wx => monthOf_any (wAt ws 4) wx)
                        have kk := HWC.out _ RY.out.b 4 (by omega)
                        have HIN2 : Hid (erE ws = if (monS (wAt ws 4)).2 ≠ 0 then (monS (wAt ws 4)).2 else if 5 < ws.length ∧ (dyS (wAt ws 5)).2 ≠ 0 then (dyS (wAt ws 5)).2 else if 6 < ws.length then (tmS (wAt ws 6)).2 else 0) := by
                          show _ = _
                          rw [HIN.out]
                          simp only [hg, true_and]
                        have HPV : Hid (∀ P, monS (wAt ws 4) = P → (if 4 < ws.length then (monS (wAt ws 4)).1 else 1) = P.1) := fun P h => by show _; rw [← h, if_pos hg]
                        clear hE HIN
                        generalize hP : monS (wAt ws 4) = P at *
                        have HPQ := Lib.hid (HPV.out P rfl)
                        clear hP HPV
                        obtain ⟨m1, Em⟩ := P
                        dsimp only at HIN2 HCC HPQ
                        generalize wAt ws 4 = sx at *
                        go_wp2_with fail
                        refine (HCC.out _).mono ?_; rintro e w9 ⟨rfl, hb⟩
                        have RZ := Lib.hid (RY.out.next hb)
                        clear hb
                        clear x0 x1 x2 x3 x4 x5 x6 x7 x8 x9 x10 x11 xf0 xf1 xf2 xf3 xf4 xf5 xf6 xf7 xf8 xf9 xf10 xf11 xl
                        obtain ⟨⟨x0, x1, x2, x3, x4, x5, x6, x7, x8, x9, x10, x11⟩, ⟨xf0, xf1, xf2, xf3, xf4, xf5, xf6, xf7, xf8, xf9, xf10, xf11⟩, xl⟩ := ErX.twelve RZ.out.x
                        go_wp2_with fail
                        go_meet
                        exact ⟨m1, Em, rfl, HIN2, fun h => HPQ.out, RZ.out.s6 m1⟩
                      | false =>
                        by_cases hE : E1 = 0
                        · have hg : ¬ 4 < ws.length := fun h => by have := HQ.out; rw [decide_eq_true hE, decide_eq_true h] at this; cases this
                          have HIN := Lib.hid (HE4.out.trans (if_neg (by simp [hE])))
                          have HAC := Lib.hid (trivial)
                          have HIN2 : Hid (erE ws = if (0 : Int) ≠ 0 then 0 else if 5 < ws.length ∧ (dyS (wAt ws 5)).2 ≠ 0 then (dyS (wAt ws 5)).2 else if 6 < ws.length then (tmS (wAt ws 6)).2 else 0) := by
                            show _ = _
                            rw [HIN.out, if_neg (show ¬ ((0 : Int) ≠ 0) by simp)]
                            simp only [hg, false_and, if_false]
                          have HE5 := Lib.hid hE
                          have HG5 := Lib.hid hg
                          clear hE hg
                          go_wp2_with fail
                          go_meet
                          exact ⟨1, 0, by rw [HE5.out], HIN2, fun _ => if_neg HG5.out, RY⟩
                        · have HIN2 : Hid (erE ws = if E1 ≠ 0 then E1 else if 5 < ws.length ∧ (dyS (wAt ws 5)).2 ≠ 0 then (dyS (wAt ws 5)).2 else if 6 < ws.length then (tmS (wAt ws 6)).2 else 0) := by show _ = _; rw [HE4.out, if_pos hE, if_pos hE]
                          have HEE := Lib.hid hE
                          clear hE
                          go_wp2_with fail
                          go_meet
                          exact ⟨1, E1, rfl, HIN2, fun h => absurd h HEE.out, RY⟩
                  case rest =>
                    as_aux_lemma =>
                      obtain ⟨mo, E2, rfl, HE5, HA4, RM⟩ := hcut
                      clear HE4 RY HQ
                      clear x0 x1 x2 x3 x4 x5 x6 x7 x8 x9 x10 x11 xf0 xf1 xf2 xf3 xf4 xf5 xf6 xf7 xf8 xf9 xf10 xf11 xl
                      obtain ⟨⟨x0, x1, x2, x3, x4, x5, x6, x7, x8, x9, x10, x11⟩, ⟨xf0, xf1, xf2, xf3, xf4, xf5, xf6, xf7, xf8, xf9, xf10, xf11⟩, xl⟩ := ErX.twelve RM.out.x
                      obtain ⟨q, hq⟩ : ∃ q : Bool, q = (decide (E2 = 0) && decide (5 < ws.length)) := ⟨_, rfl⟩
                      have HQ := Lib.hid hq
                      clear hq
                      go_upto_region 26 with fail
                      obtain ⟨wo, hwo⟩ : ∃ wo : World, wo = wc := ⟨_, rfl⟩
                      go_cut [119] (fun c wx => c = .bool q ∧ wo = wx)
                      case first =>
                        as_aux_lemma =>
                          subst hwo
                          by_cases hE : E2 = 0
                          · have hEb : (E2 == 0) = true := beq_iff_eq.2 hE
                            by_cases hg : 5 < ws.length
                            · have hgi : (5 : Int) < (ws.length : Int) := by omega
                              have HQ2 : Hid (q = true) := by show _ = _; rw [HQ.out, decide_eq_true hE, decide_eq_true hg]; rfl
                              clear hE hg
                              go_wp2_with fail
                              go_meet
                              exact ⟨by rw [HQ2.out], rfl⟩
                            · have hgi : ¬ (5 : Int) < (ws.length : Int) := by omega
                              have HQ2 : Hid (q = false) := by show _ = _; rw [HQ.out, decide_eq_true hE, decide_eq_false hg]; rfl
                              clear hE hg
                              go_wp2_with fail
                              go_meet
                              exact ⟨by rw [HQ2.out], rfl⟩
                          · have hEb : (E2 == 0) = false := beq_eq_false_iff_ne.2 hE
                            have HQ2 : Hid (q = false) := by show _ = _; rw [HQ.out, decide_eq_false hE]; rfl
                            clear hE
                            go_wp2_with fail
                            go_meet
                            exact ⟨by rw [HQ2.out], rfl⟩
                      case rest =>
                        obtain ⟨rfl, rfl⟩ := hcut
                        subst hwo
                        go_upto_if 119 with fail
                        go_cut [6] (fun ve wx => ∃ (mo dk da dn E3 : Int), ve = .int .i64 E3 ∧ Hid (erE ws = if E3 ≠ 0 then E3 else if 6 < ws.length then (tmS (wAt ws 6)).2 else 0) ∧ Hid (E3 = 0 → (if 4 < ws.length then (monS (wAt ws 4)).1 else 1) = mo ∧ ((if 5 < ws.length then (dyS (wAt ws 5)).1.k else 1) = dk ∧ (if 5 < ws.length then (dyS (wAt ws 5)).1.a else 0) = da ∧ (if 5 < ws.length then (dyS (wAt ws 5)).1.n else 1) = dn)) ∧ Hid (ErX w wx B (eaA o rl' sv s2 true y mo dk da dn 0 0)))
                        case first =>
                          as_aux_lemma =>
                            cases q with
                            | true =>
                              have hh : E2 = 0 ∧ 5 < ws.length := by have := HQ.out; simpa using this.symm
                              obtain ⟨hE, hg⟩ := hh
                              have HIN := Lib.hid (HE5.out.trans (if_neg (by simp [hE])))
                              have HAC := Lib.hid (HA4.out hE)
                              clear HE5
                              have hgi : (5 : Int) < (ws.length : Int) := by omega
                              have HCC := Lib.hid (fun wx => dayOf_any_s (wAt ws 5) wx (HZ.out 5 (by omega)).2.1)
                              have kk := HWC.out _ RM.out.b 5 (by omega)
                              have HIN2 : Hid (erE ws = if (dyS (wAt ws 5)).2 ≠ 0 then (dyS (wAt ws 5)).2 else if 6 < ws.length then (tmS (wAt ws 6)).2 else 0) := by
                                show _ = _
                                rw [HIN.out]
                                simp only [hg, true_and]
                              have HPV : Hid (∀ P, dyS (wAt ws 5) = P → ((if 5 < ws.length then (dyS (wAt ws 5)).1.k else 1) = P.1.k ∧ (if 5 < ws.length then (dyS (wAt ws 5)).1.a else 0) = P.1.a ∧ (if 5 < ws.length then (dyS (wAt ws 5)).1.n else 1) = P.1.n)) := fun P h => by show _; rw [← h, if_pos hg, if_pos hg, if_pos hg]; exact ⟨rfl, rfl, rfl⟩
                              clear hE HIN
                              generalize hP : dyS (wAt ws 5) = P at *
                              have HPQ := Lib.hid (HPV.out P rfl)
                              clear hP HPV
                              obtain ⟨⟨d1, d2, d3⟩, Ed⟩ := P
                              dsimp only at HIN2 HCC HPQ
                              generalize wAt ws 5 = sx at *
                              go_wp2_with fail
                              refine (HCC.out _).mono ?_; rintro e w9 ⟨rfl, hb⟩
                              have RZ := Lib.hid (RM.out.next hb)
                              clear hb
                              clear x0 x1 x2 x3 x4 x5 x6 x7 x8 x9 x10 x11 xf0 xf1 xf2 xf3 xf4 xf5 xf6 xf7 xf8 xf9 xf10 xf11 xl
                              obtain ⟨⟨x0, x1, x2, x3, x4, x5, x6, x7, x8, x9, x10, x11⟩, ⟨xf0, xf1, xf2, xf3, xf4, xf5, xf6, xf7, xf8, xf9, xf10, xf11⟩, xl⟩ := ErX.twelve RZ.out.x
                              go_wp2_with fail
                              go_meet
                              exact ⟨mo, d1, d2, d3, Ed, rfl, HIN2, fun h => ⟨HAC.out, HPQ.out⟩, ((RZ.out.s7 d1).s8 d2).s9 d3⟩
                            | false =>
                              by_cases hE : E2 = 0
                              · have hg : ¬ 5 < ws.length := fun h => by have := HQ.out; rw [decide_eq_true hE, decide_eq_true h] at this; cases this
                                have HIN := Lib.hid (HE5.out.trans (if_neg (by simp [hE])))
                                have HAC := Lib.hid (HA4.out hE)
                                have HIN2 : Hid (erE ws = if (0 : Int) ≠ 0 then 0 else if 6 < ws.length then (tmS (wAt ws 6)).2 else 0) := by
                                  show _ = _
                                  rw [HIN.out, if_neg (show ¬ ((0 : Int) ≠ 0) by simp)]
                                  simp only [hg, false_and, if_false]
                                have HE5 := Lib.hid hE
                                have HG5 := Lib.hid hg
                                clear hE hg
                                go_wp2_with fail
                                go_meet
                                exact ⟨mo, 1, 0, 1, 0, by rw [HE5.out], HIN2, fun _ => ⟨HAC.out, if_neg HG5.out, if_neg HG5.out, if_neg HG5.out⟩, RM⟩
                              · have HIN2 : Hid (erE ws = if E2 ≠ 0 then E2 else if 6 < ws.length then (tmS (wAt ws 6)).2 else 0) := by show _ = _; rw [HE5.out, if_pos hE, if_pos hE]
                                have HEE := Lib.hid hE
                                clear hE
                                go_wp2_with fail
                                go_meet
                                exact ⟨mo, 1, 0, 1, E2, rfl, HIN2, fun h => absurd h HEE.out, RM⟩
                        case rest =>
                          as_aux_lemma =>
                            obtain ⟨mo, dk, da, dn, E3, rfl, HE6, HA5, RN⟩ := hcut
                            clear HE5 HA4 RM HQ
                            clear x0 x1 x2 x3 x4 x5 x6 x7 x8 x9 x10 x11 xf0 xf1 xf2 xf3 xf4 xf5 xf6 xf7 xf8 xf9 xf10 xf11 xl
                            obtain ⟨⟨x0, x1, x2, x3, x4, x5, x6, x7, x8, x9, x10, x11⟩, ⟨xf0, xf1, xf2, xf3, xf4, xf5, xf6, xf7, xf8, xf9, xf10, xf11⟩, xl⟩ := ErX.twelve RN.out.x
                            obtain ⟨q, hq⟩ : ∃ q : Bool, q = (decide (E3 = 0) && decide (6 < ws.length)) := ⟨_, rfl⟩
                            have HQ := Lib.hid hq
                            clear hq
                            go_upto_region 28 with fail
                            obtain ⟨wo, hwo⟩ : ∃ wo : World, wo = wc := ⟨_, rfl⟩
                            go_cut [135] (fun c wx => c = .bool q ∧ wo = wx)
                            case first =>
                              as_aux_lemma =>
                                subst hwo
                                by_cases hE : E3 = 0
                                · have hEb : (E3 == 0) = true := beq_iff_eq.2 hE
                                  by_cases hg : 6 < ws.length
                                  · have hgi : (6 : Int) < (ws.length : Int) := by omega
                                    have HQ2 : Hid (q = true) := by show _ = _; rw [HQ.out, decide_eq_true hE, decide_eq_true hg]; rfl
                                    clear hE hg
                                    go_wp2_with fail
                                    go_meet
                                    exact ⟨by rw [HQ2.out], rfl⟩
                                  · have hgi : ¬ (6 : Int) < (ws.length : Int) := by omega
                                    have HQ2 : Hid (q = false) := by show _ = _; rw [HQ.out, decide_eq_true hE, decide_eq_false hg]; rfl
                                    clear hE hg
                                    go_wp2_with fail
                                    go_meet
                                    exact ⟨by rw [HQ2.out], rfl⟩
                                · have hEb : (E3 == 0) = false := beq_eq_false_iff_ne.2 hE
                                  have HQ2 : Hid (q = false) := by show _ = _; rw [HQ.out, decide_eq_false hE]; rfl
                                  clear hE
                                  go_wp2_with fail
                                  go_meet
                                  exact ⟨by rw [HQ2.out], rfl⟩
                            case rest =>
                              obtain ⟨rfl, rfl⟩ := hcut
                              subst hwo
                              go_upto_if 135 with fail
                              go_cut [6] (fun ve wx => ∃ (mo dk da dn tt tc E4 : Int), ve = .int .i64 E4 ∧ Hid (erE ws = if E4 ≠ 0 then E4 else (0 : Int)) ∧ Hid (E4 = 0 → (if 4 < ws.length then (monS (wAt ws 4)).1 else 1) = mo ∧ ((if 5 < ws.length then (dyS (wAt ws 5)).1.k else 1) = dk ∧ (if 5 < ws.length then (dyS (wAt ws 5)).1.a else 0) = da ∧ (if 5 < ws.length then (dyS (wAt ws 5)).1.n else 1) = dn) ∧ ((if 6 < ws.length then (tmS (wAt ws 6)).1.1 else 0) = tt ∧ (if 6 < ws.length then (tmS (wAt ws 6)).1.2 else 0) = tc)) ∧ Hid (ErX w wx B (eaA o rl' sv s2 true y mo dk da dn tt tc)))
                              case first =>
                                as_aux_lemma =>
                                  cases q with
                                  | true =>
                                    have hh : E3 = 0 ∧ 6 < ws.length := by have := HQ.out; simpa using this.symm
                                    obtain ⟨hE, hg⟩ := hh
                                    have HIN := Lib.hid (HE6.out.trans (if_neg (by simp [hE])))
                                    have HAC := Lib.hid (HA5.out hE)
                                    clear HE6
                                    have hgi : (6 : Int) < (ws.length : Int) := by omega
                                    have HCC := Lib.hid (fun wx => timeOf_any_s (wAt ws 6) wx (HZ.out 6 (by omega)).2.1)
                                    have kk := HWC.out _ RN.out.b 6 (by omega)
                                    have HIN2 : Hid (erE ws = if (tmS (wAt ws 6)).2 ≠ 0 then (tmS (wAt ws 6)).2 else (0 : Int)) := by
                                      show _ = _
                                      rw [HIN.out]
                                      rw [if_pos hg]
                                      split
                                      · rfl
                                      · rename_i h; exact Classical.not_not.1 h
                                    have HPV : Hid (∀ P, tmS (wAt ws 6) = P → ((if 6 < ws.length then (tmS (wAt ws 6)).1.1 else 0) = P.1.1 ∧ (if 6 < ws.length then (tmS (wAt ws 6)).1.2 else 0) = P.1.2)) := fun P h => by show _; rw [← h, if_pos hg, if_pos hg]; exact ⟨rfl, rfl⟩
                                    clear hE HIN
                                    generalize hP : tmS (wAt ws 6) = P at *
                                    have HPQ := Lib.hid (HPV.out P rfl)
                                    clear hP HPV
                                    obtain ⟨⟨t1, t2⟩, Et⟩ := P
                                    dsimp only at HIN2 HCC HPQ
                                    generalize wAt ws 6 = sx at *
                                    go_wp2_with fail
                                    refine (HCC.out _).mono ?_; rintro e w9 ⟨rfl, hb⟩
                                    have RZ := Lib.hid (RN.out.next hb)
                                    clear hb
                                    clear x0 x1 x2 x3 x4 x5 x6 x7 x8 x9 x10 x11 xf0 xf1 xf2 xf3 xf4 xf5 xf6 xf7 xf8 xf9 xf10 xf11 xl
                                    obtain ⟨⟨x0, x1, x2, x3, x4, x5, x6, x7, x8, x9, x10, x11⟩, ⟨xf0, xf1, xf2, xf3, xf4, xf5, xf6, xf7, xf8, xf9, xf10, xf11⟩, xl⟩ := ErX.twelve RZ.out.x
                                    go_wp2_with fail
                                    go_meet
                                    exact ⟨mo, dk, da, dn, t1, t2, Et, rfl, HIN2, fun h => ⟨HAC.out.1, HAC.out.2, HPQ.out⟩, (RZ.out.s10 t1).s11 t2⟩
                                  | false =>
                                    by_cases hE : E3 = 0
                                    · have hg : ¬ 6 < ws.length := fun h => by have := HQ.out; rw [decide_eq_true hE, decide_eq_true h] at this; cases this
                                      have HIN := Lib.hid (HE6.out.trans (if_neg (by simp [hE])))
                                      have HAC := Lib.hid (HA5.out hE)
                                      have HIN2 : Hid (erE ws = if (0 : Int) ≠ 0 then 0 else (0 : Int)) := by
                                        show _ = _
                                        rw [HIN.out, if_neg (show ¬ ((0 : Int) ≠ 0) by simp)]
                                        rw [if_neg hg]
                                      have HE5 := Lib.hid hE
                                      have HG5 := Lib.hid hg
                                      clear hE hg
                                      go_wp2_with fail
                                      go_meet
                                      exact ⟨mo, dk, da, dn, 0, 0, 0, by rw [HE5.out], HIN2, fun _ => ⟨HAC.out.1, HAC.out.2, if_neg HG5.out, if_neg HG5.out⟩, RN⟩
                                    · have HIN2 : Hid (erE ws = if E3 ≠ 0 then E3 else (0 : Int)) := by show _ = _; rw [HE6.out, if_pos hE, if_pos hE]
                                      have HEE := Lib.hid hE
                                      clear hE
                                      go_wp2_with fail
                                      go_meet
                                      exact ⟨mo, dk, da, dn, 0, 0, E3, rfl, HIN2, fun h => absurd h HEE.out, RN⟩
                              case rest =>
                                as_aux_lemma =>
                                  obtain ⟨mo, dk, da, dn, tt, tc, E4, rfl, HE7, HA6, RP⟩ := hcut
                                  clear HE6 HA5 RN HQ
                                  clear x0 x1 x2 x3 x4 x5 x6 x7 x8 x9 x10 x11 xf0 xf1 xf2 xf3 xf4 xf5 xf6 xf7 xf8 xf9 xf10 xf11 xl
                                  obtain ⟨⟨x0, x1, x2, x3, x4, x5, x6, x7, x8, x9, x10, x11⟩, ⟨xf0, xf1, xf2, xf3, xf4, xf5, xf6, xf7, xf8, xf9, xf10, xf11⟩, xl⟩ := ErX.twelve RP.out.x
                                  have HRS : Hid (erE ws = E4) := by
                                    show _ = _
                                    rw [HE7.out]
                                    split
                                    · rfl
                                    · rename_i h; exact (Classical.not_not.1 h).symm
                                  have HFV : Hid (erE ws = 0 → (⟨o, rl', sv, s2, true, y, ⟨mo, dk, da, dn, tt, tc⟩⟩ : Ero) = erV ws) := by
                                    show _ → _
                                    intro h
                                    obtain ⟨a1, a2, a3⟩ := HA6.out (HRS.out.symm.trans h)
                                    unfold erV erUn
                                    rw [HOFV.out, HER.out.2.1, HER.out.2.2, HS2V.out, HS3V.out, HYV.out, if_neg HN3.out, if_neg HN3.out, decide_eq_true HN3.out, a1, a2.1, a2.2.1, a2.2.2, a3.1, a3.2]
                                  have HLX := Lib.hid (show (_ : World).heap[B]? = some (Obj.cells #[.int .i64 o, .string rl', .int .i64 sv, .string s2, .bool true, .int .i64 y, .int .i64 mo, .int .i64 dk, .int .i64 da, .int .i64 dn, .int .i64 tt, .int .i64 tc] 59 (0, 0)) from RP.out.x)
                                  have HLR := Lib.hid (show (_ : World).heap[w.heap.size]? = some (Obj.cells #[.int .i64 0, .string ⟨#[]⟩, .int .i64 0, .string ⟨#[]⟩, .bool false, .int .i64 0, .int .i64 0, .int .i64 0, .int .i64 0, .int .i64 0, .int .i64 0, .int .i64 0] 59 (0, 0)) from RP.out.r)
                                  have HLS := setRow_heap _ w.heap.size _ #[.int .i64 o, .string rl', .int .i64 sv, .string s2, .bool true, .int .i64 y, .int .i64 mo, .int .i64 dk, .int .i64 da, .int .i64 dn, .int .i64 tt, .int .i64 tc] 59 (0, 0) HLR.out
                                  obtain ⟨⟨c0, c1, c2, c3, c4, c5, c6, c7, c8, c9, c10, c11⟩, -, cl⟩ := ErX.twelve (show BxO _ w.heap.size (eaA o rl' sv s2 true y mo dk da dn tt tc) 59 from HLS)
                                  go_upto_region 30 with fail
                                  apply wp_region_lit
                                  refine wpList_load_row rfl 59 _ rfl B rfl 59 #[.int .i64 o, .string rl', .int .i64 sv, .string s2, .bool true, .int .i64 y, .int .i64 mo, .int .i64 dk, .int .i64 da, .int .i64 dn, .int .i64 tt, .int .i64 tc] (0, 0) _ HLX.out Tryz.underlying59 rfl (by kernel_rfl) ?_
                                  refine wpList_plain rfl (fun K hK => BigFrame.wp_move _ rfl (hK _ _ ?_))
                                  refine wpList_store_row rfl 59 _ _ rfl w.heap.size #[.int .i64 o, .string rl', .int .i64 sv, .string s2, .bool true, .int .i64 y, .int .i64 mo, .int .i64 dk, .int .i64 da, .int .i64 dn, .int .i64 tt, .int .i64 tc] rfl rfl 59 _ HLR.out (by kernel_rfl) rfl (by simp [Value.oneCell']) ?_
                                  go_wp2_with fail
                                  refine bodyPost_ret (v := .tuple #[.agg #[.int .i64 o, .string rl', .int .i64 sv, .string s2, .bool true, .int .i64 y, .int .i64 mo, .int .i64 dk, .int .i64 da, .int .i64 dn, .int .i64 tt, .int .i64 tc], .int .i64 E4]) (by simp [results, Tryz.results18, go_sem, c0, c1, c2, c3, c4, c5, c6, c7, c8, c9, c10, c11, cl]) rfl ⟨⟨o, rl', sv, s2, true, y, ⟨mo, dk, da, dn, tt, tc⟩⟩, by rw [HRS.out]; rfl, HFV.out, below_setRow RP.out.b (Nat.le_refl _) _⟩
    · have HRS : Hid (erE ws = Eo) := HE0.out.trans (if_pos hEo)
      have HEN := Lib.hid hEo
      have hEb : (Eo != 0) = true := by rw [bne_iff_ne]; exact hEo
      clear hEo
      have HLX := Lib.hid (show (_ : World).heap[B]? = some (Obj.cells #[.int .i64 0, .string ⟨#[]⟩, .int .i64 0, .string ⟨#[]⟩, .bool false, .int .i64 0, .int .i64 0, .int .i64 0, .int .i64 0, .int .i64 0, .int .i64 0, .int .i64 0] 59 (0, 0)) from R1.out.x)
      have HLR := Lib.hid (show (_ : World).heap[w.heap.size]? = some (Obj.cells #[.int .i64 0, .string ⟨#[]⟩, .int .i64 0, .string ⟨#[]⟩, .bool false, .int .i64 0, .int .i64 0, .int .i64 0, .int .i64 0, .int .i64 0, .int .i64 0, .int .i64 0] 59 (0, 0)) from R1.out.r)
      have HLS := setRow_heap _ w.heap.size _ #[.int .i64 0, .string ⟨#[]⟩, .int .i64 0, .string ⟨#[]⟩, .bool false, .int .i64 0, .int .i64 0, .int .i64 0, .int .i64 0, .int .i64 0, .int .i64 0, .int .i64 0] 59 (0, 0) HLR.out
      obtain ⟨⟨c0, c1, c2, c3, c4, c5, c6, c7, c8, c9, c10, c11⟩, -, cl⟩ := ErX.twelve (show BxO _ w.heap.size (eaA 0 ⟨#[]⟩ 0 ⟨#[]⟩ false 0 0 0 0 0 0 0) 59 from HLS)
      go_upto_region 6 with fail
      apply wp_region_lit
      refine wpList_load_row rfl 59 _ rfl B rfl 59 #[.int .i64 0, .string ⟨#[]⟩, .int .i64 0, .string ⟨#[]⟩, .bool false, .int .i64 0, .int .i64 0, .int .i64 0, .int .i64 0, .int .i64 0, .int .i64 0, .int .i64 0] (0, 0) _ HLX.out Tryz.underlying59 rfl (by kernel_rfl) ?_
      refine wpList_plain rfl (fun K hK => BigFrame.wp_move _ rfl (hK _ _ ?_))
      refine wpList_store_row rfl 59 _ _ rfl w.heap.size #[.int .i64 0, .string ⟨#[]⟩, .int .i64 0, .string ⟨#[]⟩, .bool false, .int .i64 0, .int .i64 0, .int .i64 0, .int .i64 0, .int .i64 0, .int .i64 0, .int .i64 0] rfl rfl 59 _ HLR.out (by kernel_rfl) rfl (by simp [Value.oneCell']) ?_
      go_wp2_with fail
      refine bodyPost_ret (v := .tuple #[.agg #[.int .i64 0, .string ⟨#[]⟩, .int .i64 0, .string ⟨#[]⟩, .bool false, .int .i64 0, .int .i64 0, .int .i64 0, .int .i64 0, .int .i64 0, .int .i64 0, .int .i64 0], .int .i64 Eo]) (by simp [results, Tryz.results18, go_sem, c0, c1, c2, c3, c4, c5, c6, c7, c8, c9, c10, c11, cl]) rfl ⟨⟨0, ⟨#[]⟩, 0, ⟨#[]⟩, false, 0, ⟨0, 0, 0, 0, 0, 0⟩⟩, by rw [HRS.out]; rfl, fun h => absurd (HRS.out.symm.trans h) HEN.out, below_setRow R1.out.b (Nat.le_refl _) _⟩
  · have HRS : Hid (erE ws = 4) := by show _ = _; unfold erE; rw [if_pos (by omega)]
    have HEN : Hid ((4 : Int) ≠ 0) := by show _ ≠ _; decide
    have hd : decide (3 ≤ (ws.length : Int) ∧ (ws.length : Int) ≤ 7) = false := decide_eq_false hlen
    clear hlen hv hz hc
    obtain ⟨⟨x0, x1, x2, x3, x4, x5, x6, x7, x8, x9, x10, x11⟩, ⟨xf0, xf1, xf2, xf3, xf4, xf5, xf6, xf7, xf8, xf9, xf10, xf11⟩, xl⟩ := ErX.twelve R0.out.x
    go_enter Tryz.func18, Tryz.ntmps18
    go_upto_region 1 with fail
    rw [← HW.out]
    go_upto_region 2 with fail
    rw [← HW1.out]
    clear HW HW1 hB
    go_wp2_with fail
    refine (in_lit _ _ _ _ _ hd).mono ?_; rintro e w' ⟨rfl, rfl⟩
    have HLX := Lib.hid (show (_ : World).heap[B]? = some (Obj.cells #[.int .i64 0, .string ⟨#[]⟩, .int .i64 0, .string ⟨#[]⟩, .bool false, .int .i64 0, .int .i64 0, .int .i64 0, .int .i64 0, .int .i64 0, .int .i64 0, .int .i64 0] 59 (0, 0)) from R0.out.x)
    have HLR := Lib.hid (show (_ : World).heap[w.heap.size]? = some (Obj.cells #[.int .i64 0, .string ⟨#[]⟩, .int .i64 0, .string ⟨#[]⟩, .bool false, .int .i64 0, .int .i64 0, .int .i64 0, .int .i64 0, .int .i64 0, .int .i64 0, .int .i64 0] 59 (0, 0)) from R0.out.r)
    have HLS := setRow_heap _ w.heap.size _ #[.int .i64 0, .string ⟨#[]⟩, .int .i64 0, .string ⟨#[]⟩, .bool false, .int .i64 0, .int .i64 0, .int .i64 0, .int .i64 0, .int .i64 0, .int .i64 0, .int .i64 0] 59 (0, 0) HLR.out
    obtain ⟨⟨c0, c1, c2, c3, c4, c5, c6, c7, c8, c9, c10, c11⟩, -, cl⟩ := ErX.twelve (show BxO _ w.heap.size (eaA 0 ⟨#[]⟩ 0 ⟨#[]⟩ false 0 0 0 0 0 0 0) 59 from HLS)
    go_upto_region 3 with fail
    apply wp_region_lit
    refine wpList_load_row rfl 59 _ rfl B rfl 59 #[.int .i64 0, .string ⟨#[]⟩, .int .i64 0, .string ⟨#[]⟩, .bool false, .int .i64 0, .int .i64 0, .int .i64 0, .int .i64 0, .int .i64 0, .int .i64 0, .int .i64 0] (0, 0) _ HLX.out Tryz.underlying59 rfl (by kernel_rfl) ?_
    refine wpList_store_row rfl 59 _ _ rfl w.heap.size #[.int .i64 0, .string ⟨#[]⟩, .int .i64 0, .string ⟨#[]⟩, .bool false, .int .i64 0, .int .i64 0, .int .i64 0, .int .i64 0, .int .i64 0, .int .i64 0, .int .i64 0] rfl rfl 59 _ HLR.out (by kernel_rfl) rfl (by simp [Value.oneCell']) ?_
    go_wp2_with fail
    refine bodyPost_ret (v := .tuple #[.agg #[.int .i64 0, .string ⟨#[]⟩, .int .i64 0, .string ⟨#[]⟩, .bool false, .int .i64 0, .int .i64 0, .int .i64 0, .int .i64 0, .int .i64 0, .int .i64 0, .int .i64 0], .int .i64 4]) (by simp [results, Tryz.results18, go_sem, c0, c1, c2, c3, c4, c5, c6, c7, c8, c9, c10, c11, cl]) rfl ⟨⟨0, ⟨#[]⟩, 0, ⟨#[]⟩, false, 0, ⟨0, 0, 0, 0, 0, 0⟩⟩, by rw [HRS.out]; rfl, fun h => absurd (HRS.out.symm.trans h) HEN.out, below_setRow R0.out.b (Nat.le_refl _) _⟩
end Go.Proofs.YtbciennhcdabeaaGreatDoor
