/-
  The document's sources: the walk.
-/
import Derived.Maps.AppendAt
import Derived.Laws.OwnMore
import Derived.Deep.AppendLies
import Derived.BigQuiet
import Derived.Deep.WholeRow
import Derived.Great.BuildSlice
import Derived.Test.YtbciennhcdabeaaGreatDoorRdQ
import Derived.Test.YtbciennhcdabeaaGreatDoorRdR
import Derived.Test.YtbciennhcdabeaaGreatDoorRdU
import Derived.Test.YtbciennhcdabeaaGreatDoorRdZ
import Derived.Test.YtbciennhcdabeaaGreatDoorOrdB
namespace Go.Proofs.YtbciennhcdabeaaGreatDoor
set_option linter.unusedVariables false
set_option linter.unusedSimpArgs false
open Go.ChangeShapes Go.WideShapes Go.ChangeAt Go.RowKit Civ

theorem slAt_capY {w : World} {ws : List ByteArray} {a : Option Addr} {cw : Nat} (h : SlAt w 1 RSt (.slice a ws.length cw) ws) : ws.length ≤ cw := by
  rcases h with ⟨a', c', e, rfl⟩ | ⟨b, o, c', e, h0, h1, -⟩
  · simp
  · simp only [Value.slice.injEq] at e
    omega
set_option maxRecDepth 10000 in
theorem fill_zonY (c0 c1 : Value) : Instr.fill (fun i => some (i * 2, 2)) ((Array.range (1 * 2)).map ((Value.agg #[.string ⟨#[]⟩, .slice none 0 0]).cells[· % (Value.agg #[.string ⟨#[]⟩, .slice none 0 0]).cells.size]!)) [(0, .agg #[c0, c1])] = some #[c0, c1] := by kernel_rfl
set_option maxRecDepth 100000 in
set_option maxHeartbeats 16000000 in
theorem SourceOf_any_s (s : ByteArray) (w : World) (hs : s.size ≤ maxLen) :
    Calls Tryz.prog 6 #[.string s] w fun e w' => ∃ vr vz vl, e = .returned (.tuple #[.agg #[vr, vz, vl], .int .i64 (srcL s), .int .i64 (srcX s)]) ∧ SrX w' vr vz vl (srcV s) ∧ Below w.heap.size w w' := by
  obtain ⟨W0, hW0⟩ : ∃ W0, W0 = w.alloc (.cells #[.slice none 0 0, .slice none 0 0, .slice none 0 0] 26) := ⟨_, rfl⟩
  have R0 : Hid (BxO W0 w.heap.size #[.slice none 0 0, .slice none 0 0, .slice none 0 0] 26) := by show BxO _ _ _ _; rw [hW0]; exact BxO.new _ _ _
  have B0 : Hid (Below w.heap.size w W0) := by show Below _ _ _; rw [hW0]; exact (Below.refl _ _).alloc (Nat.le_refl _) _
  have HW := Lib.hid hW0
  have hs' := maxLen_eq _ hs
  clear hW0 hs
  by_cases hbig : 8000 < s.size
  · have HS : Hid (srcV s = src0 ∧ srcL s = 0 ∧ srcX s = 1) := src_big (.inl hbig)
    have hb : (8000 : Int) < (s.size : Int) := by omega
    clear hbig
    go_enter Tryz.func6, Tryz.ntmps6
    go_upto_region 1 with fail
    rw [← HW.out]
    have r0 : W0.cell? ⟨w.heap.size, 0, none⟩ = some (.slice none 0 0) := R0.out.cell 0
    have r1 : W0.cell? ⟨w.heap.size, 1, none⟩ = some (.slice none 0 0) := R0.out.cell 1
    have r2 : W0.cell? ⟨w.heap.size, 2, none⟩ = some (.slice none 0 0) := R0.out.cell 2
    have rf0 : W0.frozen? ⟨w.heap.size, 0, none⟩ = false := R0.out.frozen 0
    have rf1 : W0.frozen? ⟨w.heap.size, 1, none⟩ = false := R0.out.frozen 1
    have rf2 : W0.frozen? ⟨w.heap.size, 2, none⟩ = false := R0.out.frozen 2
    have rl : w.heap.size < W0.heap.size := R0.out.lt
    go_wp2
    refine bodyPost_ret (v := .tuple #[.agg #[.slice none 0 0, .slice none 0 0, .slice none 0 0], .int .i64 (0), .int .i64 1]) (by simp [results, Tryz.results6, go_sem, r0, r1, r2, rl]) rfl ⟨_, _, _, by rw [HS.out.2.1, HS.out.2.2], by rw [HS.out.1]; exact SrX.mt _, ((B0.out.setCell (p := ⟨w.heap.size, 0, none⟩) (Nat.le_refl _) _).setCell (p := ⟨w.heap.size, 1, none⟩) (Nat.le_refl _) _).setCell (p := ⟨w.heap.size, 2, none⟩) (Nat.le_refl _) _⟩
  · have hb : ¬ (8000 : Int) < (s.size : Int) := by omega
    have HPT : Hid (∀ wx, Calls Tryz.prog 14 #[.string s, .int .u8 10] wx fun e w' => ∃ v, e = .returned v ∧ StW w' wx.heap.size v (splB 10 [] s.data.toList) ∧ Below wx.heap.size wx w') := fun wx => parted_any s 10 wx (by omega)
    obtain ⟨LS, hLS⟩ : ∃ LS, splB 10 [] s.data.toList = LS := ⟨_, rfl⟩
    have HLS : Hid (linesS s = LS) := hLS
    have HLZ : Hid (∀ p ∈ LS, p.length ≤ 8000) := by
      show ∀ p ∈ LS, _
      intro p hp
      rw [← hLS] at hp
      have h1 := splB_size 10 s.data.toList [] p hp
      have h2 : s.data.toList.length = s.size := by simp
      simp only [List.length_nil] at h1
      omega
    have HBG := Lib.hid hbig
    rw [hLS] at HPT
    clear hLS hbig
    obtain ⟨iu, hiu, hu0, hu1, hu2⟩ := info_parts info_rul
    obtain ⟨il, hil, hl0, hl1, hl2⟩ := info_parts info_lnk
    obtain ⟨iz, hiz, hz0, hz1, hz2⟩ := info_parts info_zon
    obtain ⟨ie, hie, he0, he1, he2⟩ := info_parts info_ero
    go_enter Tryz.func6, Tryz.ntmps6
    go_upto_region 1 with fail
    rw [← HW.out]
    clear HW
    go_wp2_with fail
    refine (HPT.out _).mono ?_; rintro e w1 ⟨v, rfl, hst, hb1⟩
    have R1 : Hid (BxO w1 w.heap.size #[.slice none 0 0, .slice none 0 0, .slice none 0 0] 26) := (hb1.block _ R0.out.lt).trans R0.out
    have B1 : Hid (Below w.heap.size w w1) := B0.out.trans (hb1.mono B0.out.size)
    have HST := Lib.hid (stW_rst hst)
    obtain ⟨al, cl, rfl, hll⟩ := HST.out.shape
    rw [List.length_map] at hll
    clear hst hb1 R0 B0 HPT
    rw [List.length_map] at HST
    by_cases hmany : 200 < LS.length
    · have HS : Hid (srcV s = src0 ∧ srcL s = 0 ∧ srcX s = 1) := src_big (.inr (by rw [HLS.out]; exact hmany))
      have hm : (200 : Int) < (LS.length : Int) := by omega
      clear hmany
      have r0 : w1.cell? ⟨w.heap.size, 0, none⟩ = some (.slice none 0 0) := R1.out.cell 0
      have r1 : w1.cell? ⟨w.heap.size, 1, none⟩ = some (.slice none 0 0) := R1.out.cell 1
      have r2 : w1.cell? ⟨w.heap.size, 2, none⟩ = some (.slice none 0 0) := R1.out.cell 2
      have rf0 : w1.frozen? ⟨w.heap.size, 0, none⟩ = false := R1.out.frozen 0
      have rf1 : w1.frozen? ⟨w.heap.size, 1, none⟩ = false := R1.out.frozen 1
      have rf2 : w1.frozen? ⟨w.heap.size, 2, none⟩ = false := R1.out.frozen 2
      have rl : w.heap.size < w1.heap.size := R1.out.lt
      go_wp2
      refine bodyPost_ret (v := .tuple #[.agg #[.slice none 0 0, .slice none 0 0, .slice none 0 0], .int .i64 (0), .int .i64 1]) (by simp [results, Tryz.results6, go_sem, r0, r1, r2, rl]) rfl ⟨_, _, _, by rw [HS.out.2.1, HS.out.2.2], by rw [HS.out.1]; exact SrX.mt _, ((B1.out.setCell (p := ⟨w.heap.size, 0, none⟩) (Nat.le_refl _) _).setCell (p := ⟨w.heap.size, 1, none⟩) (Nat.le_refl _) _).setCell (p := ⟨w.heap.size, 2, none⟩) (Nat.le_refl _) _⟩
    · have hm : ¬ (200 : Int) < (LS.length : Int) := by omega
      have HNB : Hid (¬ (8000 < s.size ∨ 200 < (linesS s).length)) := by
        show ¬ _
        rw [HLS.out]
        rintro (h | h)
        · exact HBG.out h
        · omega
      have S7 := Lib.hid (SoM.start R1.out B1.out)
      obtain ⟨W7, hW7⟩ : ∃ W7, W7 = w1.alloc (.cells #[.slice none 0 0, .slice none 0 0, .slice none 0 0] 26) := ⟨_, rfl⟩
      rw [← hW7] at S7
      have HW7 := Lib.hid hW7
      obtain ⟨O, hO⟩ : ∃ O, w1.heap.size = O := ⟨_, rfl⟩
      rw [hO] at S7
      clear hW7 R1 B1 hll hmany
      go_upto_region 7 with fail
      rw [← HW7.out]
      clear HW7
      go_wp2_with fail
      go_loopw [7, 8] (fun vo vi wr => ∃ (k : Nat) (st : RdS) (vr vz vl : Value), vo = .bool st.op ∧ vi = .int .i64 k ∧ k ≤ LS.length ∧ Hid (linsF rd0 0 LS = linsF st k (LS.drop k)) ∧ Hid (SoM w w1 wr O vr vz vl st.s) ∧ Hid (cntS st.s ≤ k) ∧ Hid (st.op = true → st.s.zones ≠ []) ∧ Hid (ersB st.s k)) (fun vo vi _ => (LS.length - intOf vi).toNat)
      case atStart => exact ⟨0, rd0, _, _, _, rfl, rfl, Nat.zero_le _, rfl, S7, Nat.zero_le _, fun h => (by cases h), fun z hz => absurd hz (by simp [rd0, src0])⟩
      case round =>
        obtain ⟨k, st, vr, vz, vl, rfl, rfl, hk, HR, SM, HC, HO, HB⟩ := hrel
        by_cases hlt : k < LS.length
        · have hki : (k : Int) < (LS.length : Int) := by omega
          have tw : IntKind.i64.wrap ((k : Int) + 1) = (k : Int) + 1 := IntWalk.i64_in _ (by omega)
          obtain ⟨bl, ol, rfl, hbl, cl0⟩ := entS HST.out k (by rw [List.length_map]; exact hlt)
          rw [List.getElem_map] at cl0
          have cl1 : wr.cell? ⟨bl, ol + k, none⟩ = some (.string (bx LS[k])) := (SM.out.b.cell (p := ⟨bl, ol + k, none⟩) (by show bl < O; rw [← hO]; exact hbl)).trans cl0
          have HBAD : Hid (∀ E, linE st LS[k] = E → E ≠ 0 → srcV s = src0 ∧ srcL s = (k : Int) + 1 ∧ srcX s = E) := by
            show ∀ E, _
            intro E h1 h2
            have h3 := lins_bad HR.out hlt (by rw [h1]; exact h2)
            rw [h1] at h3
            have h4 := src_bad HNB.out (by rw [HLS.out]; exact h3) h2
            refine ⟨h4.1, ?_, h4.2.2⟩
            rw [h4.2.1]
            push_cast
            rfl
          have HGOOD : Hid (linE st LS[k] = 0 → linsF rd0 0 LS = linsF (linV st LS[k]) (k + 1) (LS.drop (k + 1))) := lins_good HR.out hlt
          have HLN := Lib.hid (HLZ.out _ (List.getElem_mem hlt))
          clear cl0 hbl
          obtain ⟨l, hl⟩ : ∃ l, LS[k] = l := ⟨_, rfl⟩
          rw [hl] at cl1 HBAD HGOOD HLN
          clear hl
          have HE := Lib.hid (linE_lng st l)
          have HV : Hid (linV st l = lnV st (wdsS l)) := rfl
          have HWO : Hid (∀ wx, Calls Tryz.prog 15 #[.string (bx l)] wx fun e w' => ∃ v, e = .returned (.tuple #[v, .int .i64 (lngE (wdsS l))]) ∧ (lngE (wdsS l) = 0 → SlAt w' 1 RSt v (wdsS l)) ∧ Below wx.heap.size wx w') := fun wx => wordsOf_any_s (bx l) wx (by rw [bx_size]; have := HLN.out; omega)
          have HZ : Hid (∀ x ∈ wdsS l, 0 < x.size ∧ x.size ≤ 1000000) := fun x hx => ⟨wdsS_pos l x hx, by have := wdsS_size l x hx; have := HLN.out; omega⟩
          have HCN : Hid (cntS (lnV st (wdsS l)).s ≤ k + 1) := by have := lnV_cnt st (wdsS l); have := HC.out; show _ ≤ _; omega
          have HON : Hid ((lnV st (wdsS l)).op = true → (lnV st (wdsS l)).s.zones ≠ []) := lnV_op HO.out
          have HBN : Hid (ersB (lnV st (wdsS l)).s (k + 1)) := lnV_ers HB.out
          generalize wdsS l = ws at *
          generalize linE st l = LE at *
          generalize linV st l = LV at *
          have HV2 := HV.out
          subst HV2
          clear HV HLN
          go_wp2_with fail
          refine (HWO.out _).mono ?_; rintro e w2 ⟨v, rfl, hv, hb2⟩
          have S2 := Lib.hid (SM.out.next hb2)
          clear hb2 HWO SM cl1
          by_cases hL : lngE ws = 0
          · have HWS := Lib.hid (hv hL)
            have HE2 : Hid (LE = lnE st ws) := HE.out.trans (if_neg (by simp [hL]))
            have hLb : (lngE ws != 0) = false := by rw [hL]; rfl
            rw [hL]
            obtain ⟨aw, cw, rfl, hwl⟩ := HWS.out.shape
            clear hv HE hL
            by_cases hn0 : ws.length = 0
            · have hnb : ((ws.length : Int) == 0) = true := by rw [hn0]; rfl
              have HE3 : Hid (LE = 0) := by show _ = _; rw [HE2.out]; unfold lnE; rw [if_pos hn0]
              have HV3 : Hid (lnV st ws = st) := by show _ = _; unfold lnV; rw [if_pos hn0]
              have HG3 : Hid (linsF rd0 0 LS = linsF st (k + 1) (LS.drop (k + 1))) := by have := HGOOD.out HE3.out; rw [HV3.out] at this; exact this
              have HC3 : Hid (cntS st.s ≤ k + 1) := by have := HC.out; show _ ≤ _; omega
              have HB3 : Hid (ersB st.s (k + 1)) := fun z hz => Nat.le_succ_of_le (HB.out z hz)
              clear hn0
              go_wp2_with fail
              go_roundw
              case rel => exact ⟨k + 1, st, _, _, _, rfl, by go_num, by omega, HG3, S2, HC3, HO, HB3⟩
              case measure => simp [intOf]; omega
            · have hnb : ((ws.length : Int) == 0) = false := by rw [beq_eq_false_iff_ne]; omega
              have hi0 : (0 : Int) < (ws.length : Int) := by omega
              obtain ⟨b, off, rfl, hbw, -⟩ := entS HWS.out 0 (by omega)
              have HWC : Hid (∀ wx, Below w2.heap.size w2 wx → ∀ j (h : j < ws.length), wx.cell? ⟨b, off + j, none⟩ = some (.string (wAt ws j))) := by
                show ∀ wx, _ → _
                intro wx hx j h
                obtain ⟨b', o', e, -, q⟩ := entS HWS.out j h
                simp only [Option.some.injEq, Addr.mk.injEq, and_true] at e
                obtain ⟨rfl, rfl⟩ := e
                rw [wAt_get h]
                exact (hx.cell (p := ⟨b, off + j, none⟩) hbw).trans q
              have k0 := HWC.out w2 (Below.refl _ _) 0 (by omega)
              rw [Nat.add_zero] at k0
              obtain ⟨sx, op⟩ := st
              have hcs : sx.rules.length ≤ 200 ∧ sx.zones.length ≤ 200 ∧ sx.links.length ≤ 200 := by
                have h : sx.rules.length + sx.zones.length + sx.links.length ≤ k := HC.out
                omega
              obtain ⟨hcr, hcz, hcl⟩ := hcs
              obtain ⟨s0, hs0⟩ : ∃ s0, wAt ws 0 = s0 := ⟨_, rfl⟩
              rw [hs0] at k0
              have l1 : (bx [82, 117, 108, 101]).toList = [82, 117, 108, 101] := by rw [ByteArray.toList_eq]; rfl
              have l2 : (bx [90, 111, 110, 101]).toList = [90, 111, 110, 101] := by rw [ByteArray.toList_eq]; rfl
              have l3 : (bx [76, 105, 110, 107]).toList = [76, 105, 110, 107] := by rw [ByteArray.toList_eq]; rfl
              have g1 := streqS s0 (bx [82, 117, 108, 101])
              have g2 := streqS s0 (bx [90, 111, 110, 101])
              have g3 := streqS s0 (bx [76, 105, 110, 107])
              rw [l1] at g1
              rw [l2] at g2
              rw [l3] at g3
              obtain ⟨pR, hpR⟩ : ∃ c : Bool, (s0.toList == [82, 117, 108, 101]) = c := ⟨_, rfl⟩
              obtain ⟨pZ, hpZ⟩ : ∃ c : Bool, (s0.toList == [90, 111, 110, 101]) = c := ⟨_, rfl⟩
              obtain ⟨pL, hpL⟩ : ∃ c : Bool, (s0.toList == [76, 105, 110, 107]) = c := ⟨_, rfl⟩
              have PR : Hid (pR = true ↔ wAt ws 0 = ruleW) := by show _ ↔ _; rw [← hpR, g1, decide_eq_true_iff, hs0]; rfl
              have PZ : Hid (pZ = true ↔ wAt ws 0 = zoneW) := by show _ ↔ _; rw [← hpZ, g2, decide_eq_true_iff, hs0]; rfl
              have PL : Hid (pL = true ↔ wAt ws 0 = linkW) := by show _ ↔ _; rw [← hpL, g3, decide_eq_true_iff, hs0]; rfl
              have HS0 := Lib.hid hs0
              clear g1 g2 g3 l1 l2 l3 hs0
              cases op with
              | false =>
                have HE3 : Hid (LE = if wAt ws 0 = ruleW then rulS ws else if wAt ws 0 = zoneW then (if ws.length < 2 ∨ nameS (wAt ws 1) = false then 4 else erE (ws.drop 2)) else if wAt ws 0 = linkW then (if ws.length ≠ 3 ∨ nameS (wAt ws 1) = false ∨ nameS (wAt ws 2) = false then 4 else 0) else 4) := by
                  show _ = _
                  rw [HE2.out]
                  unfold lnE
                  rw [if_neg hn0, if_neg (by simp)]
                have HV3 : Hid (lnV ⟨sx, false⟩ ws = if wAt ws 0 = ruleW then ⟨⟨sx.rules ++ [rulV ws], sx.zones, sx.links⟩, false⟩ else if wAt ws 0 = zoneW then ⟨⟨sx.rules, sx.zones ++ [⟨wAt ws 1, [erV (ws.drop 2)]⟩], sx.links⟩, (erV (ws.drop 2)).en⟩ else ⟨⟨sx.rules, sx.zones, sx.links ++ [⟨wAt ws 1, wAt ws 2⟩]⟩, false⟩) := by
                  show _ = _
                  unfold lnV
                  rw [if_neg hn0, if_neg (by simp)]
                clear HE2
                cases pR with
                | true =>
                  as_aux_lemma =>
                    have h0 : wAt ws 0 = ruleW := PR.out.1 rfl
                    have HE4 : Hid (LE = rulS ws) := HE3.out.trans (if_pos h0)
                    have HV4 : Hid (lnV ⟨sx, false⟩ ws = ⟨⟨sx.rules ++ [rulV ws], sx.zones, sx.links⟩, false⟩) := HV3.out.trans (if_pos h0)
                    have HRU : Hid (Calls Tryz.prog 16 #[.slice (some ⟨b, off, none⟩) ws.length cw] w2 fun e w' => ∃ r : Rul, e = .returned (.tuple #[.agg #[.string r.nm, .int .i64 r.fr, .int .i64 r.to, .int .i64 r.at'.mo, .int .i64 r.at'.k, .int .i64 r.at'.a, .int .i64 r.at'.n, .int .i64 r.at'.t, .int .i64 r.at'.c, .int .i64 r.sv, .string r.lt], .int .i64 (rulS ws)]) ∧ (rulS ws = 0 → r = rulV ws) ∧ Below w2.heap.size w2 w') := (ruleOf_any_s ws (.slice (some ⟨b, off, none⟩) ws.length cw) w2 HWS.out (fun x hx => (HZ.out x hx).2))
                    clear h0 HE3 HV3 HWC
                    generalize rulS ws = E at *
                    go_wp2_with fail
                    refine HRU.out.mono ?_; rintro e w3 ⟨r, rfl, hr, hb3⟩
                    have S3 := Lib.hid (S2.out.next hb3)
                    have HRV := Lib.hid hr
                    clear hr hb3 HRU k0 hbw S2
                    obtain ⟨W4, hW4⟩ : ∃ W4, W4 = w3.alloc (.cells #[.string r.nm, .int .i64 r.fr, .int .i64 r.to, .int .i64 r.at'.mo, .int .i64 r.at'.k, .int .i64 r.at'.a, .int .i64 r.at'.n, .int .i64 r.at'.t, .int .i64 r.at'.c, .int .i64 r.sv, .string r.lt] 53) := ⟨_, rfl⟩
                    have S4 : Hid (SoM w w1 W4 O vr vz vl sx) := by show SoM _ _ _ _ _ _ _ _; rw [hW4]; exact S3.out.next ((Below.refl _ _).alloc (Nat.le_refl _) _)
                    have X4 : Hid (BxO W4 w3.heap.size (ruA r.nm r.fr r.to r.at'.mo r.at'.k r.at'.a r.at'.n r.at'.t r.at'.c r.sv r.lt) 53) := by show BxO _ _ _ _; rw [hW4]; exact BxO.new _ _ _
                    have HW4 := Lib.hid hW4
                    clear hW4 S3
                    go_upto_region 17 with (refine wpList_store_row rfl 53 _ _ rfl w3.heap.size #[.string r.nm, .int .i64 r.fr, .int .i64 r.to, .int .i64 r.at'.mo, .int .i64 r.at'.k, .int .i64 r.at'.a, .int .i64 r.at'.n, .int .i64 r.at'.t, .int .i64 r.at'.c, .int .i64 r.sv, .string r.lt] rfl rfl 53 _ (World.alloc_heap_new w3 _) (by kernel_rfl) rfl (by simp [Value.oneCell']) ?_; rw [World.setRow_alloc_new])
                    rw [← HW4.out]
                    clear HW4
                    obtain ⟨zs, ez, hs⟩ := S4.out.s
                    obtain ⟨ar, cr, rfl⟩ := own_shape hs.r
                    have HSR := Lib.hid hs
                    have HEZ := Lib.hid ez
                    clear hs ez
                    have o0 : W4.cell? ⟨O, 0, none⟩ = some (.slice ar sx.rules.length cr) := S4.out.o.cell 0
                    have of : W4.frozen? ⟨O, 0, none⟩ = false := S4.out.o.frozen 0
                    have oz : O < W4.heap.size := S4.out.o.lt
                    go_upto_region 18 with fail
                    apply wp_region_lit
                    refine wpList_plain rfl (fun K hK => ?_)
                    go_simp
                    refine hK _ _ ?_
                    refine wpList_plain rfl (fun K hK => ?_)
                    go_simp
                    refine hK _ _ ?_
                    refine wpList_load_row rfl 53 (.tmp 11) rfl w3.heap.size rfl 53 #[.string r.nm, .int .i64 r.fr, .int .i64 r.to, .int .i64 r.at'.mo, .int .i64 r.at'.k, .int .i64 r.at'.a, .int .i64 r.at'.n, .int .i64 r.at'.t, .int .i64 r.at'.c, .int .i64 r.sv, .string r.lt] (0, 0) _ X4.out Tryz.underlying53 rfl (by kernel_rfl) ?_
                    refine wpList_buildSlice rfl 22 53 1 _ rfl #[.string r.nm, .int .i64 r.fr, .int .i64 r.to, .int .i64 r.at'.mo, .int .i64 r.at'.k, .int .i64 r.at'.a, .int .i64 r.at'.n, .int .i64 r.at'.t, .int .i64 r.at'.c, .int .i64 r.sv, .string r.lt] iu _ Tryz.underlying22 hiu hu0 (by rw [hu1]; decide) (by rw [hu1]; decide) (by rw [hu1, Array.toList_map]; exact fill_rul _ _ _ _ _ _ _ _ _ _ _) ?_
                    refine wpList_append_own_at _ rfl (.tmp 66) (.tmp 68) 22 rfl (O + 1) 53 iu (.agg #[.string ⟨#[]⟩, .int .i64 0, .int .i64 0, .int .i64 0, .int .i64 0, .int .i64 0, .int .i64 0, .int .i64 0, .int .i64 0, .int .i64 0, .string ⟨#[]⟩]) 11 104 Tryz.underlying22 hiu hu0 hu1 hu2 rfl (by decide) (.slice ar sx.rules.length cr) sx.rules.length (sx.rules.flatMap RulV) rfl (HSR.out.r.alloc _) ⟨W4.heap.size, 0, none⟩ 1 1 (RulV r) rfl rfl (cells_at _ _ _ _ _ rfl rfl) (rulV_one _) (by unfold maxLen; omega) (by omega) (by rw [size_alloc]; omega) ?_
                    intro v' w5 hown hgrow _ hfr
                    have P5 := Lib.hid (S4.out.putR HEZ.out HSR.out hown hgrow)
                    obtain ⟨a5, c5, rfl⟩ := own_shape hown
                    have H5 := Lib.hid (BxO.sideV S4.out.o HSR.out.r (by decide) hgrow)
                    have o5 : w5.cell? ⟨O, 0, none⟩ = some (.slice ar sx.rules.length cr) := H5.out.cell 0
                    have f5 : w5.frozen? ⟨O, 0, none⟩ = false := H5.out.frozen 0
                    have z5 : O < w5.heap.size := H5.out.lt
                    clear hown hgrow hfr o0 of
                    go_upto_region 38 with fail
                    obtain ⟨W6, hW6⟩ : ∃ W6, W6 = w5.setCell ⟨O, 0, none⟩ (.slice a5 (sx.rules.length + 1) c5) := ⟨_, rfl⟩
                    rw [← hW6] at P5 ⊢
                    clear hW6 o5 f5 z5 H5
                    by_cases hE : E = 0
                    · have hEb : (E != 0) = false := by rw [hE]; rfl
                      have HV5 : Hid (lnV ⟨sx, false⟩ ws = ⟨⟨sx.rules ++ [r], sx.zones, sx.links⟩, false⟩) := by show _ = _; rw [HV4.out, HRV.out hE]
                      have HG3 : Hid (linsF rd0 0 LS = linsF ⟨⟨sx.rules ++ [r], sx.zones, sx.links⟩, false⟩ (k + 1) (LS.drop (k + 1))) := by have := HGOOD.out (HE4.out.trans hE); rw [HV5.out] at this; exact this
                      have HB3 : Hid (ersB ⟨sx.rules ++ [r], sx.zones, sx.links⟩ (k + 1)) := by have := HBN.out; rw [HV5.out] at this; exact this
                      have HC3 : Hid (cntS ⟨sx.rules ++ [r], sx.zones, sx.links⟩ ≤ k + 1) := by have := HCN.out; rw [HV5.out] at this; exact this
                      have HO3 : Hid ((⟨⟨sx.rules ++ [r], sx.zones, sx.links⟩, false⟩ : RdS).op = true → (⟨⟨sx.rules ++ [r], sx.zones, sx.links⟩, false⟩ : RdS).s.zones ≠ []) := fun h => by cases h
                      clear hE
                      go_wp2_with fail
                      go_roundw
                      case rel => exact ⟨k + 1, ⟨⟨sx.rules ++ [r], sx.zones, sx.links⟩, false⟩, _, _, _, rfl, by go_num, by omega, HG3, P5, HC3, HO3, HB3⟩
                      case measure => simp [intOf]; omega
                    · have HS := Lib.hid (HBAD.out E HE4.out hE)
                      have hEb : (E != 0) = true := by rw [bne_iff_ne]; exact hE
                      clear hE
                      have r0 : W6.cell? ⟨w.heap.size, 0, none⟩ = some (.slice none 0 0) := P5.out.r.cell 0
                      have r1 : W6.cell? ⟨w.heap.size, 1, none⟩ = some (.slice none 0 0) := P5.out.r.cell 1
                      have r2 : W6.cell? ⟨w.heap.size, 2, none⟩ = some (.slice none 0 0) := P5.out.r.cell 2
                      have rf0 : W6.frozen? ⟨w.heap.size, 0, none⟩ = false := P5.out.r.frozen 0
                      have rf1 : W6.frozen? ⟨w.heap.size, 1, none⟩ = false := P5.out.r.frozen 1
                      have rf2 : W6.frozen? ⟨w.heap.size, 2, none⟩ = false := P5.out.r.frozen 2
                      have rl : w.heap.size < W6.heap.size := P5.out.r.lt
                      go_wp2
                      refine bodyPost_ret (v := .tuple #[.agg #[.slice none 0 0, .slice none 0 0, .slice none 0 0], .int .i64 ((k : Int) + 1), .int .i64 E]) (by simp [results, Tryz.results6, go_sem, r0, r1, r2, rl]) rfl ⟨_, _, _, by rw [HS.out.2.1, HS.out.2.2], by rw [HS.out.1]; exact SrX.mt _, ((P5.out.all.setCell (p := ⟨w.heap.size, 0, none⟩) (Nat.le_refl _) _).setCell (p := ⟨w.heap.size, 1, none⟩) (Nat.le_refl _) _).setCell (p := ⟨w.heap.size, 2, none⟩) (Nat.le_refl _) _⟩
                | false =>
                  have hr : ¬ wAt ws 0 = ruleW := fun e => by have := PR.out.2 e; cases this
                  cases pL with
                  | true =>
                    as_aux_lemma =>
                      have hz : ¬ wAt ws 0 = zoneW := fun e => by
                        have h1 := PL.out.1 rfl
                        rw [h1] at e
                        have := bx_inj e
                        cases this
                      have HE4 : Hid (LE = if ws.length ≠ 3 ∨ nameS (wAt ws 1) = false ∨ nameS (wAt ws 2) = false then 4 else 0) := by show _ = _; rw [HE3.out, if_neg hr, if_neg hz, if_pos (PL.out.1 rfl)]
                      have HV4 : Hid (lnV ⟨sx, false⟩ ws = ⟨⟨sx.rules, sx.zones, sx.links ++ [⟨wAt ws 1, wAt ws 2⟩]⟩, false⟩) := by show _ = _; rw [HV3.out, if_neg hr, if_neg hz]
                      clear hr hz HE3 HV3
                      by_cases h3 : ws.length = 3
                      · have h3b : ((ws.length : Int) != 3) = false := by rw [h3]; rfl
                        have hi1 : (1 : Int) < (ws.length : Int) := by omega
                        have hi2 : (2 : Int) < (ws.length : Int) := by omega
                        have k1 := HWC.out w2 (Below.refl _ _) 1 (by omega)
                        have k2 := HWC.out w2 (Below.refl _ _) 2 (by omega)
                        have hm1 : (wAt ws 1).size ≤ maxLen := by rw [wAt_get (show 1 < ws.length by omega)]; have := (HZ.out _ (List.getElem_mem (show 1 < ws.length by omega))).2; unfold maxLen; omega
                        have hm2 : (wAt ws 2).size ≤ maxLen := by rw [wAt_get (show 2 < ws.length by omega)]; have := (HZ.out _ (List.getElem_mem (show 2 < ws.length by omega))).2; unfold maxLen; omega
                        have HE5 : Hid (LE = if nameS (wAt ws 1) = false ∨ nameS (wAt ws 2) = false then 4 else 0) := by
                          show _ = _
                          rw [HE4.out]
                          simp only [h3, ne_eq, not_true_eq_false, false_or]
                        have HWA := Lib.hid HWC.out
                        clear HE4 HWC
                        obtain ⟨u1, hu1'⟩ : ∃ u, wAt ws 1 = u := ⟨_, rfl⟩
                        obtain ⟨u2, hu2'⟩ : ∃ u, wAt ws 2 = u := ⟨_, rfl⟩
                        rw [hu1', hu2'] at HE5 HV4
                        rw [hu1'] at k1 hm1
                        rw [hu2'] at k2 hm2
                        clear hu1' hu2'
                        have HN1 := Lib.hid (fun wx => namemay_lit u1 wx hm1)
                        have HN2 := Lib.hid (fun wx => namemay_lit u2 wx hm2)
                        clear hm1 hm2 h3
                        generalize nameS u1 = n1 at *
                        generalize nameS u2 = n2 at *
                        cases n1 with
                        | false =>
                          have HS := Lib.hid (HBAD.out 4 (HE5.out.trans (if_pos (.inl rfl))) (by decide))
                          go_wp2_with fail
                          refine (HN1.out _).mono ?_; rintro e w' ⟨rfl, rfl⟩
                          have r0 : w2.cell? ⟨w.heap.size, 0, none⟩ = some (.slice none 0 0) := S2.out.r.cell 0
                          have r1 : w2.cell? ⟨w.heap.size, 1, none⟩ = some (.slice none 0 0) := S2.out.r.cell 1
                          have r2 : w2.cell? ⟨w.heap.size, 2, none⟩ = some (.slice none 0 0) := S2.out.r.cell 2
                          have rf0 : w2.frozen? ⟨w.heap.size, 0, none⟩ = false := S2.out.r.frozen 0
                          have rf1 : w2.frozen? ⟨w.heap.size, 1, none⟩ = false := S2.out.r.frozen 1
                          have rf2 : w2.frozen? ⟨w.heap.size, 2, none⟩ = false := S2.out.r.frozen 2
                          have rl : w.heap.size < w2.heap.size := S2.out.r.lt
                          go_wp2
                          refine bodyPost_ret (v := .tuple #[.agg #[.slice none 0 0, .slice none 0 0, .slice none 0 0], .int .i64 ((k : Int) + 1), .int .i64 4]) (by simp [results, Tryz.results6, go_sem, r0, r1, r2, rl]) rfl ⟨_, _, _, by rw [HS.out.2.1, HS.out.2.2], by rw [HS.out.1]; exact SrX.mt _, ((S2.out.all.setCell (p := ⟨w.heap.size, 0, none⟩) (Nat.le_refl _) _).setCell (p := ⟨w.heap.size, 1, none⟩) (Nat.le_refl _) _).setCell (p := ⟨w.heap.size, 2, none⟩) (Nat.le_refl _) _⟩
                        | true =>
                          cases n2 with
                          | false =>
                            have HS := Lib.hid (HBAD.out 4 (HE5.out.trans (if_pos (.inr rfl))) (by decide))
                            go_wp2_with fail
                            refine (HN1.out _).mono ?_; rintro e w' ⟨rfl, rfl⟩
                            go_wp2_with fail
                            refine (HN2.out _).mono ?_; rintro e w' ⟨rfl, rfl⟩
                            have r0 : w2.cell? ⟨w.heap.size, 0, none⟩ = some (.slice none 0 0) := S2.out.r.cell 0
                            have r1 : w2.cell? ⟨w.heap.size, 1, none⟩ = some (.slice none 0 0) := S2.out.r.cell 1
                            have r2 : w2.cell? ⟨w.heap.size, 2, none⟩ = some (.slice none 0 0) := S2.out.r.cell 2
                            have rf0 : w2.frozen? ⟨w.heap.size, 0, none⟩ = false := S2.out.r.frozen 0
                            have rf1 : w2.frozen? ⟨w.heap.size, 1, none⟩ = false := S2.out.r.frozen 1
                            have rf2 : w2.frozen? ⟨w.heap.size, 2, none⟩ = false := S2.out.r.frozen 2
                            have rl : w.heap.size < w2.heap.size := S2.out.r.lt
                            go_wp2
                            refine bodyPost_ret (v := .tuple #[.agg #[.slice none 0 0, .slice none 0 0, .slice none 0 0], .int .i64 ((k : Int) + 1), .int .i64 4]) (by simp [results, Tryz.results6, go_sem, r0, r1, r2, rl]) rfl ⟨_, _, _, by rw [HS.out.2.1, HS.out.2.2], by rw [HS.out.1]; exact SrX.mt _, ((S2.out.all.setCell (p := ⟨w.heap.size, 0, none⟩) (Nat.le_refl _) _).setCell (p := ⟨w.heap.size, 1, none⟩) (Nat.le_refl _) _).setCell (p := ⟨w.heap.size, 2, none⟩) (Nat.le_refl _) _⟩
                          | true =>
                            have HE6 : Hid (LE = 0) := HE5.out.trans (if_neg (by simp))
                            obtain ⟨zs, ez, hs⟩ := S2.out.s
                            obtain ⟨ak, ck, rfl⟩ := own_shape hs.l
                            have HSR := Lib.hid hs
                            have HEZ := Lib.hid ez
                            clear hs ez HE5
                            have o2 : w2.cell? ⟨O, 2, none⟩ = some (.slice ak sx.links.length ck) := S2.out.o.cell 2
                            have of : w2.frozen? ⟨O, 2, none⟩ = false := S2.out.o.frozen 2
                            have oz : O < w2.heap.size := S2.out.o.lt
                            go_wp2_with fail
                            refine (HN1.out _).mono ?_; rintro e w' ⟨rfl, rfl⟩
                            go_wp2_with fail
                            refine (HN2.out _).mono ?_; rintro e w' ⟨rfl, rfl⟩
                            go_upto_region 22 with fail
                            go_region_law (first | (refine step_append_lies _ (by rfl) _ _ _ (by rfl) (O + 1) 57 il (.agg #[.string ⟨#[]⟩, .string ⟨#[]⟩]) 2 32 Tryz.underlying24 hil hl0 hl1 hl2 rfl (by decide) (.slice ak sx.links.length ck) sx.links.length (sx.links.flatMap encK) (by rfl) ((HSR.out.l.alloc _).drew) ⟨w2.heap.size, 0, none⟩ 1 1 (encK ⟨u1, u2⟩) (by rfl) (by rfl) (cells_at _ _ _ _ _ rfl rfl) (encK_one _) (by omega) (by unfold maxLen; omega) (by omega) (Nat.le_trans oz (Nat.le_trans (Nat.le_succ _) (Nat.le_of_eq (size_alloc w2 _).symm))) (w2.heap.size + 1) (size_alloc _ _) ?_; intro gg cap6 w6 hown1 hgrow hat hltg; have P6 := Lib.hid (S2.out.putL HEZ.out HSR.out hown1 (grown_drew hgrow)); have H6 := Lib.hid (BxO.sideV S2.out.o HSR.out.l (by decide) (grown_drew hgrow)); have o6 : w6.cell? ⟨O, 2, none⟩ = some (.slice ak sx.links.length ck) := H6.out.cell 2; have f6 : w6.frozen? ⟨O, 2, none⟩ = false := H6.out.frozen 2; have z6 : O < w6.heap.size := H6.out.lt; clear hown1 hgrow hat))
                            all_goals
                              obtain ⟨W6, hW6⟩ : ∃ W6, W6 = w6.setCell ⟨O, 2, none⟩ (.slice (some ⟨gg, 0, none⟩) (sx.links.length + 1) cap6) := ⟨_, rfl⟩
                              rw [← hW6] at P6 ⊢
                              clear hW6 o6 f6 z6 H6 o2 of oz k0 k1 k2 hbw
                              have HG3 : Hid (linsF rd0 0 LS = linsF ⟨⟨sx.rules, sx.zones, sx.links ++ [⟨u1, u2⟩]⟩, false⟩ (k + 1) (LS.drop (k + 1))) := by have := HGOOD.out HE6.out; rw [HV4.out] at this; exact this
                              have HB3 : Hid (ersB ⟨sx.rules, sx.zones, sx.links ++ [⟨u1, u2⟩]⟩ (k + 1)) := by have := HBN.out; rw [HV4.out] at this; exact this
                              have HC3 : Hid (cntS ⟨sx.rules, sx.zones, sx.links ++ [⟨u1, u2⟩]⟩ ≤ k + 1) := by have := HCN.out; rw [HV4.out] at this; exact this
                              have HO3 : Hid ((⟨⟨sx.rules, sx.zones, sx.links ++ [⟨u1, u2⟩]⟩, false⟩ : RdS).op = true → (⟨⟨sx.rules, sx.zones, sx.links ++ [⟨u1, u2⟩]⟩, false⟩ : RdS).s.zones ≠ []) := fun h => by cases h
                              go_wp2_with fail
                              go_roundw
                              case rel => exact ⟨k + 1, ⟨⟨sx.rules, sx.zones, sx.links ++ [⟨u1, u2⟩]⟩, false⟩, _, _, _, rfl, by go_num, by omega, HG3, P6, HC3, HO3, HB3⟩
                              case measure => simp [intOf]; omega
                      · have h3b : ((ws.length : Int) != 3) = true := by rw [bne_iff_ne]; omega
                        have HS := Lib.hid (HBAD.out 4 (HE4.out.trans (if_pos (.inl h3))) (by decide))
                        clear h3 HE4 HV4
                        have r0 : w2.cell? ⟨w.heap.size, 0, none⟩ = some (.slice none 0 0) := S2.out.r.cell 0
                        have r1 : w2.cell? ⟨w.heap.size, 1, none⟩ = some (.slice none 0 0) := S2.out.r.cell 1
                        have r2 : w2.cell? ⟨w.heap.size, 2, none⟩ = some (.slice none 0 0) := S2.out.r.cell 2
                        have rf0 : w2.frozen? ⟨w.heap.size, 0, none⟩ = false := S2.out.r.frozen 0
                        have rf1 : w2.frozen? ⟨w.heap.size, 1, none⟩ = false := S2.out.r.frozen 1
                        have rf2 : w2.frozen? ⟨w.heap.size, 2, none⟩ = false := S2.out.r.frozen 2
                        have rl : w.heap.size < w2.heap.size := S2.out.r.lt
                        go_wp2
                        refine bodyPost_ret (v := .tuple #[.agg #[.slice none 0 0, .slice none 0 0, .slice none 0 0], .int .i64 ((k : Int) + 1), .int .i64 4]) (by simp [results, Tryz.results6, go_sem, r0, r1, r2, rl]) rfl ⟨_, _, _, by rw [HS.out.2.1, HS.out.2.2], by rw [HS.out.1]; exact SrX.mt _, ((S2.out.all.setCell (p := ⟨w.heap.size, 0, none⟩) (Nat.le_refl _) _).setCell (p := ⟨w.heap.size, 1, none⟩) (Nat.le_refl _) _).setCell (p := ⟨w.heap.size, 2, none⟩) (Nat.le_refl _) _⟩
                  | false =>
                    have hl : ¬ wAt ws 0 = linkW := fun e => by have := PL.out.2 e; cases this
                    cases pZ with
                    | false =>
                      as_aux_lemma =>
                        have hz : ¬ wAt ws 0 = zoneW := fun e => by have := PZ.out.2 e; cases this
                        have HE4 : Hid (LE = 4) := by show _ = _; rw [HE3.out, if_neg hr, if_neg hz, if_neg hl]
                        have HS := Lib.hid (HBAD.out 4 HE4.out (by decide))
                        clear hr hz hl HE3 HV3
                        have r0 : w2.cell? ⟨w.heap.size, 0, none⟩ = some (.slice none 0 0) := S2.out.r.cell 0
                        have r1 : w2.cell? ⟨w.heap.size, 1, none⟩ = some (.slice none 0 0) := S2.out.r.cell 1
                        have r2 : w2.cell? ⟨w.heap.size, 2, none⟩ = some (.slice none 0 0) := S2.out.r.cell 2
                        have rf0 : w2.frozen? ⟨w.heap.size, 0, none⟩ = false := S2.out.r.frozen 0
                        have rf1 : w2.frozen? ⟨w.heap.size, 1, none⟩ = false := S2.out.r.frozen 1
                        have rf2 : w2.frozen? ⟨w.heap.size, 2, none⟩ = false := S2.out.r.frozen 2
                        have rl : w.heap.size < w2.heap.size := S2.out.r.lt
                        go_wp2
                        refine bodyPost_ret (v := .tuple #[.agg #[.slice none 0 0, .slice none 0 0, .slice none 0 0], .int .i64 ((k : Int) + 1), .int .i64 4]) (by simp [results, Tryz.results6, go_sem, r0, r1, r2, rl]) rfl ⟨_, _, _, by rw [HS.out.2.1, HS.out.2.2], by rw [HS.out.1]; exact SrX.mt _, ((S2.out.all.setCell (p := ⟨w.heap.size, 0, none⟩) (Nat.le_refl _) _).setCell (p := ⟨w.heap.size, 1, none⟩) (Nat.le_refl _) _).setCell (p := ⟨w.heap.size, 2, none⟩) (Nat.le_refl _) _⟩
                    | true =>
                      as_aux_lemma =>
                        have hz := PZ.out.1 rfl
                        have HE4 : Hid (LE = if ws.length < 2 ∨ nameS (wAt ws 1) = false then 4 else erE (ws.drop 2)) := by show _ = _; rw [HE3.out, if_neg hr, if_pos hz]
                        have HV4 : Hid (lnV ⟨sx, false⟩ ws = ⟨⟨sx.rules, sx.zones ++ [⟨wAt ws 1, [erV (ws.drop 2)]⟩], sx.links⟩, (erV (ws.drop 2)).en⟩) := by show _ = _; rw [HV3.out, if_neg hr, if_pos hz]
                        clear hr hz hl HE3 HV3
                        by_cases h2 : ws.length < 2
                        · have h2i : (ws.length : Int) < 2 := by omega
                          have HS := Lib.hid (HBAD.out 4 (HE4.out.trans (if_pos (.inl h2))) (by decide))
                          clear h2 HE4 HV4
                          have r0 : w2.cell? ⟨w.heap.size, 0, none⟩ = some (.slice none 0 0) := S2.out.r.cell 0
                          have r1 : w2.cell? ⟨w.heap.size, 1, none⟩ = some (.slice none 0 0) := S2.out.r.cell 1
                          have r2 : w2.cell? ⟨w.heap.size, 2, none⟩ = some (.slice none 0 0) := S2.out.r.cell 2
                          have rf0 : w2.frozen? ⟨w.heap.size, 0, none⟩ = false := S2.out.r.frozen 0
                          have rf1 : w2.frozen? ⟨w.heap.size, 1, none⟩ = false := S2.out.r.frozen 1
                          have rf2 : w2.frozen? ⟨w.heap.size, 2, none⟩ = false := S2.out.r.frozen 2
                          have rl : w.heap.size < w2.heap.size := S2.out.r.lt
                          go_wp2
                          refine bodyPost_ret (v := .tuple #[.agg #[.slice none 0 0, .slice none 0 0, .slice none 0 0], .int .i64 ((k : Int) + 1), .int .i64 4]) (by simp [results, Tryz.results6, go_sem, r0, r1, r2, rl]) rfl ⟨_, _, _, by rw [HS.out.2.1, HS.out.2.2], by rw [HS.out.1]; exact SrX.mt _, ((S2.out.all.setCell (p := ⟨w.heap.size, 0, none⟩) (Nat.le_refl _) _).setCell (p := ⟨w.heap.size, 1, none⟩) (Nat.le_refl _) _).setCell (p := ⟨w.heap.size, 2, none⟩) (Nat.le_refl _) _⟩
                        · have h2i : ¬ (ws.length : Int) < 2 := by omega
                          have hi1 : (1 : Int) < (ws.length : Int) := by omega
                          have hi2 : (2 : Int) ≤ (ws.length : Int) := by omega
                          have k1 := HWC.out w2 (Below.refl _ _) 1 (by omega)
                          have hm1 : (wAt ws 1).size ≤ maxLen := by rw [wAt_get (show 1 < ws.length by omega)]; have := (HZ.out _ (List.getElem_mem (show 1 < ws.length by omega))).2; unfold maxLen; omega
                          have HE5 : Hid (LE = if nameS (wAt ws 1) = false then 4 else erE (ws.drop 2)) := by
                            show _ = _
                            rw [HE4.out]
                            simp only [h2, false_or]
                          have HWD := Lib.hid (slAt_dropW HWS.out 2 (by omega))
                          have HWC1 : Hid (∀ wx, Below w2.heap.size w2 wx → wx.cell? ⟨b, off + 1, none⟩ = some (.string (wAt ws 1))) := fun wx h => HWC.out wx h 1 (by omega)
                          have HZD : Hid (∀ x ∈ ws.drop 2, 0 < x.size ∧ x.size ≤ 1000000) := fun x hx => HZ.out x (List.drop_subset _ _ hx)
                          clear HE4 HWC
                          obtain ⟨u1, hu1'⟩ : ∃ u, wAt ws 1 = u := ⟨_, rfl⟩
                          rw [hu1'] at HE5 HV4 k1 hm1 HWC1
                          clear hu1'
                          have HN1 := Lib.hid (fun wx => namemay_lit u1 wx hm1)
                          have HERg := Lib.hid (fun vd (hvd : SlAt w2 1 RSt vd (ws.drop 2)) => eraOf_any_s (ws.drop 2) vd w2 hvd HZD.out)
                          have HE24 : Hid (cw = 2 → erE (ws.drop 2) = 4 ∧ SlAt w2 1 RSt (.slice (some ⟨b, off, none⟩) (ws.length - 2) 0) (ws.drop 2)) := by
                            show _ → _
                            intro hc
                            have hcap := slAt_capY HWS.out
                            have hl2 : ws.length - 2 = 0 := by omega
                            have e3 : ws.drop 2 = [] := List.drop_eq_nil_of_le (by omega)
                            rw [e3, hl2]
                            exact ⟨rfl, .inl ⟨_, _, rfl, rfl⟩⟩
                          clear hm1 h2 HZD
                          generalize nameS u1 = n1 at *
                          generalize erE (ws.drop 2) = E at *
                          generalize erV (ws.drop 2) = EV at *
                          cases n1 with
                          | false =>
                            have HS := Lib.hid (HBAD.out 4 (HE5.out.trans (if_pos rfl)) (by decide))
                            go_wp2_with fail
                            refine (HN1.out _).mono ?_; rintro e w' ⟨rfl, rfl⟩
                            have r0 : w2.cell? ⟨w.heap.size, 0, none⟩ = some (.slice none 0 0) := S2.out.r.cell 0
                            have r1 : w2.cell? ⟨w.heap.size, 1, none⟩ = some (.slice none 0 0) := S2.out.r.cell 1
                            have r2 : w2.cell? ⟨w.heap.size, 2, none⟩ = some (.slice none 0 0) := S2.out.r.cell 2
                            have rf0 : w2.frozen? ⟨w.heap.size, 0, none⟩ = false := S2.out.r.frozen 0
                            have rf1 : w2.frozen? ⟨w.heap.size, 1, none⟩ = false := S2.out.r.frozen 1
                            have rf2 : w2.frozen? ⟨w.heap.size, 2, none⟩ = false := S2.out.r.frozen 2
                            have rl : w.heap.size < w2.heap.size := S2.out.r.lt
                            go_wp2
                            refine bodyPost_ret (v := .tuple #[.agg #[.slice none 0 0, .slice none 0 0, .slice none 0 0], .int .i64 ((k : Int) + 1), .int .i64 4]) (by simp [results, Tryz.results6, go_sem, r0, r1, r2, rl]) rfl ⟨_, _, _, by rw [HS.out.2.1, HS.out.2.2], by rw [HS.out.1]; exact SrX.mt _, ((S2.out.all.setCell (p := ⟨w.heap.size, 0, none⟩) (Nat.le_refl _) _).setCell (p := ⟨w.heap.size, 1, none⟩) (Nat.le_refl _) _).setCell (p := ⟨w.heap.size, 2, none⟩) (Nat.le_refl _) _⟩
                          | true =>
                            have HE6' : Hid (LE = E) := HE5.out.trans (if_neg (by simp))
                            clear HE5
                            go_wp2_with fail
                            refine (HN1.out _).mono ?_; rintro e w' ⟨rfl, rfl⟩
                            by_cases hc2 : cw = 2
                            · subst hc2
                              obtain ⟨hE4', hsl⟩ := HE24.out rfl
                              have hE4 := Lib.hid hE4'
                              clear hE4'
                              go_wp2_with fail
                              refine (HERg.out (.slice (some ⟨b, off, none⟩) (ws.length - 2) 0) hsl).mono ?_; rintro e w3 ⟨x, rfl, hx, hb3⟩
                              have S3 := Lib.hid (S2.out.next hb3)
                              obtain ⟨W4, hW4⟩ : ∃ W4, W4 = w3.alloc (.cells #[.int .i64 x.off, .string x.rl, .int .i64 x.sv, .string x.fm, .bool x.en, .int .i64 x.yr, .int .i64 x.un.mo, .int .i64 x.un.k, .int .i64 x.un.a, .int .i64 x.un.n, .int .i64 x.un.t, .int .i64 x.un.c] 59) := ⟨_, rfl⟩
                              have S4 : Hid (SoM w w1 W4 O vr vz vl sx) := by show SoM _ _ _ _ _ _ _ _; rw [hW4]; exact S3.out.next ((Below.refl _ _).alloc (Nat.le_refl _) _)
                              have HW4 := Lib.hid hW4
                              clear hW4 S3 hx hb3 HERg HE24 HWD k0 k1 hbw S2 hsl
                              go_upto_region 29 with (refine wpList_store_row rfl 59 _ _ rfl w3.heap.size #[.int .i64 x.off, .string x.rl, .int .i64 x.sv, .string x.fm, .bool x.en, .int .i64 x.yr, .int .i64 x.un.mo, .int .i64 x.un.k, .int .i64 x.un.a, .int .i64 x.un.n, .int .i64 x.un.t, .int .i64 x.un.c] rfl rfl 59 _ (World.alloc_heap_new w3 _) (by kernel_rfl) rfl (by simp [Value.oneCell']) ?_; rw [World.setRow_alloc_new])
                              rw [← HW4.out]
                              clear HW4
                              have hE : E ≠ 0 := by rw [hE4.out]; decide
                              clear hE4
                              have hEb : (E == 0) = false := beq_eq_false_iff_ne.2 hE
                              have hEc : (E != 0) = true := by rw [bne_iff_ne]; exact hE
                              have HS := Lib.hid (HBAD.out E HE6'.out hE)
                              clear hE
                              have r0 : W4.cell? ⟨w.heap.size, 0, none⟩ = some (.slice none 0 0) := S4.out.r.cell 0
                              have r1 : W4.cell? ⟨w.heap.size, 1, none⟩ = some (.slice none 0 0) := S4.out.r.cell 1
                              have r2 : W4.cell? ⟨w.heap.size, 2, none⟩ = some (.slice none 0 0) := S4.out.r.cell 2
                              have rf0 : W4.frozen? ⟨w.heap.size, 0, none⟩ = false := S4.out.r.frozen 0
                              have rf1 : W4.frozen? ⟨w.heap.size, 1, none⟩ = false := S4.out.r.frozen 1
                              have rf2 : W4.frozen? ⟨w.heap.size, 2, none⟩ = false := S4.out.r.frozen 2
                              have rl : w.heap.size < W4.heap.size := S4.out.r.lt
                              go_wp2
                              refine bodyPost_ret (v := .tuple #[.agg #[.slice none 0 0, .slice none 0 0, .slice none 0 0], .int .i64 ((k : Int) + 1), .int .i64 E]) (by simp [results, Tryz.results6, go_sem, r0, r1, r2, rl]) rfl ⟨_, _, _, by rw [HS.out.2.1, HS.out.2.2], by rw [HS.out.1]; exact SrX.mt _, ((S4.out.all.setCell (p := ⟨w.heap.size, 0, none⟩) (Nat.le_refl _) _).setCell (p := ⟨w.heap.size, 1, none⟩) (Nat.le_refl _) _).setCell (p := ⟨w.heap.size, 2, none⟩) (Nat.le_refl _) _⟩
                            · go_wp2_with fail
                              refine (HERg.out (.slice (some ⟨b, off + 2, none⟩) (ws.length - 2) (cw - 2)) HWD.out).mono ?_; rintro e w3 ⟨x, rfl, hx, hb3⟩
                              have HXV := Lib.hid hx
                              obtain ⟨zs, ez, hs⟩ := S2.out.s
                              obtain ⟨az, cz0, rfl⟩ := own_shape hs.z
                              have S3 := Lib.hid (S2.out.next hb3)
                              obtain ⟨W4, hW4⟩ : ∃ W4, W4 = w3.alloc (.cells #[.int .i64 x.off, .string x.rl, .int .i64 x.sv, .string x.fm, .bool x.en, .int .i64 x.yr, .int .i64 x.un.mo, .int .i64 x.un.k, .int .i64 x.un.a, .int .i64 x.un.n, .int .i64 x.un.t, .int .i64 x.un.c] 59) := ⟨_, rfl⟩
                              have hb4 : Below w2.heap.size w2 W4 := by rw [hW4]; exact hb3.alloc hb3.size _
                              have S4 : Hid (SoM w w1 W4 O vr (.slice az zs.length cz0) vl sx) := by show SoM _ _ _ _ _ _ _ _; rw [hW4]; exact S3.out.next ((Below.refl _ _).alloc (Nat.le_refl _) _)
                              have X4 : Hid (BxO W4 w3.heap.size (eaA x.off x.rl x.sv x.fm x.en x.yr x.un.mo x.un.k x.un.a x.un.n x.un.t x.un.c) 59) := by show BxO _ _ _ _; rw [hW4]; exact BxO.new _ _ _
                              have HSR := Lib.hid (hs.next hb4)
                              have HEZ := Lib.hid ez
                              have hOB : O < w3.heap.size := Nat.lt_of_lt_of_le S2.out.z hb3.size
                              have HOB := Lib.hid hOB
                              have hzl : zs.length ≤ 200 := by have h := congrArg List.length ez; rw [List.length_map] at h; omega
                              have k1' := HWC1.out W4 hb4
                              have hbw4 : b < W4.heap.size := Nat.lt_of_lt_of_le hbw hb4.size
                              have HW4 := Lib.hid hW4
                              clear hW4 S3 hs ez hx hb3 hb4 HERg HE24 HWD k0 k1 hbw S2 hOB
                              go_upto_region 29 with (refine wpList_store_row rfl 59 _ _ rfl w3.heap.size #[.int .i64 x.off, .string x.rl, .int .i64 x.sv, .string x.fm, .bool x.en, .int .i64 x.yr, .int .i64 x.un.mo, .int .i64 x.un.k, .int .i64 x.un.a, .int .i64 x.un.n, .int .i64 x.un.t, .int .i64 x.un.c] rfl rfl 59 _ (World.alloc_heap_new w3 _) (by kernel_rfl) rfl (by simp [Value.oneCell']) ?_; rw [World.setRow_alloc_new])
                              rw [← HW4.out]
                              clear HW4
                              by_cases hE : E = 0
                              · have hEb : (E == 0) = true := beq_iff_eq.2 hE
                                have HX := Lib.hid (HXV.out hE)
                                have HLE : Hid (LE = 0) := HE6'.out.trans hE
                                subst hE
                                have o1 : W4.cell? ⟨O, 1, none⟩ = some (.slice az zs.length cz0) := S4.out.o.cell 1
                                have of : W4.frozen? ⟨O, 1, none⟩ = false := S4.out.o.frozen 1
                                have oz : O < W4.heap.size := S4.out.o.lt
                                clear HXV HE6'
                                go_upto_region 31 with fail
                                clear o1 of
                                refine wp_region_B (fun w' => w'.cell? ⟨O, 1, none⟩ = some (.slice az zs.length cz0) ∧ w'.cell? ⟨b, off + 1, none⟩ = some (.string u1)) [4, 5, 6] (by kernel_rfl) ?_
                                have DD : Below W4.heap.size W4 W4.drew := (Below.refl _ _).drew
                                obtain ⟨W5, hW5⟩ : ∃ W5, W4.drew = W5 := ⟨_, rfl⟩
                                rw [hW5] at DD ⊢
                                have S5 := Lib.hid (S4.out.next DD)
                                have SR5 := Lib.hid (HSR.out.next DD)
                                have X5 : Hid (BxO W5 w3.heap.size (eaA x.off x.rl x.sv x.fm x.en x.yr x.un.mo x.un.k x.un.a x.un.n x.un.t x.un.c) 59) := (DD.block _ X4.out.lt).trans X4.out
                                have k5 := (DD.cell (p := ⟨b, off + 1, none⟩) hbw4).trans k1'
                                have hb5 : b < W5.heap.size := Nat.lt_of_lt_of_le hbw4 DD.size
                                clear DD hW5
                                have HS0 : Hid (W5.cell? ⟨O, 1, none⟩ = some (.slice az zs.length cz0) ∧ W5.cell? ⟨b, off + 1, none⟩ = some (.string u1)) := ⟨S5.out.o.cell 1, k5⟩
                                have HS1 : Hid ((W5.alloc (.cells #[.string u1, .slice none 0 0] 64)).cell? ⟨O, 1, none⟩ = some (.slice az zs.length cz0) ∧ (W5.alloc (.cells #[.string u1, .slice none 0 0] 64)).cell? ⟨b, off + 1, none⟩ = some (.string u1)) := ⟨(S5.out.o.alloc _).cell 1, (((Below.refl _ _).alloc (Nat.le_refl _) _).cell (p := ⟨b, off + 1, none⟩) hb5).trans k5⟩
                                clear k5 hb5
                                refine wpAnyB_takeW (i := 0) (v := (.pointer (some ⟨O, 1, none⟩))) rfl (by kernel_rfl) (by kernel_rfl) (by kernel_rfl) (by rfl) (fun _ _ _ h => h) (by rfl) (fun _ => by go_simp) ?_
                                try simp only [Act.put, List.setIfInBounds_toArray, List.set_cons_zero, List.set_cons_succ]
                                refine wpAnyB_takeW (i := 2) (v := (.slice (some ⟨b, off, none⟩) ws.length cw)) rfl (by kernel_rfl) (by kernel_rfl) (by kernel_rfl) (by rfl) (fun _ _ _ h => h) (by rfl) (fun _ => by go_simp) ?_
                                try simp only [Act.put, List.setIfInBounds_toArray, List.set_cons_zero, List.set_cons_succ]
                                refine wpAnyB_takeW (i := 3) (v := (.pointer (some ⟨b, off + 1, none⟩))) rfl (by kernel_rfl) (by kernel_rfl) (by kernel_rfl) (by rfl) (fun _ _ _ h => h) (by rfl) (fun _ => by go_simp) ?_
                                try simp only [Act.put, List.setIfInBounds_toArray, List.set_cons_zero, List.set_cons_succ]
                                refine wpAnyB_take (i := 1) [7, 8, 9] (v := (.slice az zs.length cz0)) rfl (by kernel_rfl) (by kernel_rfl) (by kernel_rfl) (by kernel_rfl) (by kernel_rfl) (by kernel_rfl) (fun _ _ _ h => h) (.inl ⟨by rfl, fun w' hS => by have h1 := hS.1; go_simp⟩) HS0.out ?_
                                try simp only [Act.put, List.setIfInBounds_toArray, List.set_cons_zero, List.set_cons_succ]
                                refine wpAnyB_take (i := 4) [5, 6, 7, 8, 9] (v := (.string u1)) rfl (by kernel_rfl) (by kernel_rfl) (by kernel_rfl) (by kernel_rfl) (by kernel_rfl) (by kernel_rfl) (fun _ _ _ h => h) (.inl ⟨by rfl, fun w' hS => by have h1 := hS.2; go_simp⟩) HS0.out ?_
                                try simp only [Act.put, List.setIfInBounds_toArray, List.set_cons_zero, List.set_cons_succ]
                                refine wpAnyB_one (i := 5) rfl (by kernel_rfl) (fun K hK => ?_)
                                go_simp
                                refine hK _ _ (fun _ => HS0.out) ?_
                                try simp only [Act.put, List.setIfInBounds_toArray, List.set_cons_zero, List.set_cons_succ]
                                clear hK K
                                refine wpAnyB_one (i := 6) rfl (by kernel_rfl) (fun K hK => ?_)
                                refine step_wp rfl (wp_build1 23 64 (.tmp 154) rfl #[.string u1, .slice none 0 0] rfl iz _ Tryz.underlying23 hiz hz0 (by rw [hz1]; decide) (by rw [hz1]; decide) (by rw [hz1]; exact fill_zonY _ _) ?_)
                                refine hK _ _ (fun _ => HS1.out) ?_
                                try simp only [Act.put, List.setIfInBounds_toArray, List.set_cons_zero, List.set_cons_succ]
                                clear hK K
                                refine wpAnyB_tail _ 7 _ _ _ _ (by kernel_rfl) rfl rfl (by rfl) ?_
                                simp only [List.drop_succ_cons, List.drop_zero]
                                refine wpList_append_lies _ rfl (.tmp 150) (.tmp 155) 23 rfl (O + 1) 64 iz (.agg #[.string ⟨#[]⟩, .slice none 0 0]) 2 40 Tryz.underlying23 hiz hz0 hz1 hz2 rfl (by decide) (.slice az zs.length cz0) zs.length (zs.flatMap encZ) rfl (SR5.out.z.alloc _) ⟨W5.heap.size, 0, none⟩ 1 1 (encZ (⟨u1, []⟩, .slice none 0 0)) rfl rfl (cells_at _ _ _ _ _ rfl rfl) (encZ_one _ _ _ _ _) (by omega) (by unfold maxLen; omega) (by omega) (by rw [size_alloc]; have := S5.out.o.lt; omega) (W5.heap.size + 1) (size_alloc _ _) ?_
                                intro gg cap6 w6 hown1 hgrow hat hltg
                                have P6 := Lib.hid (S5.out.putZ HEZ.out SR5.out hown1 hgrow)
                                have X6 := Lib.hid (BxO.sideV X5.out SR5.out.z (by decide) hgrow)
                                have H6 := Lib.hid (BxO.sideV S5.out.o SR5.out.z (by decide) hgrow)
                                have o6 : w6.cell? ⟨O, 1, none⟩ = some (.slice az zs.length cz0) := H6.out.cell 1
                                have f6 : w6.frozen? ⟨O, 1, none⟩ = false := H6.out.frozen 1
                                have z6 : O < w6.heap.size := H6.out.lt
                                clear hown1 hgrow hat HS0 HS1 S5 SR5 X5 oz
                                go_upto_region 32 with fail
                                all_goals
                                  obtain ⟨W7, hW7⟩ : ∃ W7, W7 = w6.setCell ⟨O, 1, none⟩ (.slice (some ⟨gg, 0, none⟩) (zs.length + 1) cap6) := ⟨_, rfl⟩
                                  obtain ⟨es, hes⟩ : ∃ es : List Ero, es = [] := ⟨_, rfl⟩
                                  obtain ⟨ve, hve0⟩ : ∃ ve : Value, ve = .slice none 0 0 := ⟨_, rfl⟩
                                  obtain ⟨pre, hpre⟩ : ∃ pre, pre = zs := ⟨_, rfl⟩
                                  obtain ⟨G, hG⟩ : ∃ G, G = gg := ⟨_, rfl⟩
                                  obtain ⟨cz, hcz⟩ : ∃ cz, cz = cap6 := ⟨_, rfl⟩
                                  obtain ⟨nm, hnm⟩ : ∃ nm, nm = u1 := ⟨_, rfl⟩
                                  subst hG hcz hnm hpre
                                  have X7 : Hid (BxO W7 w3.heap.size (eaA x.off x.rl x.sv x.fm x.en x.yr x.un.mo x.un.k x.un.a x.un.n x.un.t x.un.c) 59) := by show BxO _ _ _ _; rw [hW7]; exact BxO.other X6.out (Nat.ne_of_gt HOB.out) _ _
                                  rw [← hW7] at P6 ⊢
                                  have S7 : Hid (SoM w w1 W7 O vr (.slice (some ⟨G, 0, none⟩) (pre.length + 1) cz) vl ⟨sx.rules, sx.zones ++ [⟨nm, es⟩], sx.links⟩) := by show SoM _ _ _ _ _ _ _ _; rw [hes]; exact P6.out.1
                                  have HSR7 : Hid (SrR W7 (O + 1) vr (.slice (some ⟨G, 0, none⟩) (pre.length + 1) cz) vl sx.rules (pre ++ [((⟨nm, es⟩ : Zon), ve)]) sx.links) := by show SrR _ _ _ _ _ _ _ _; rw [hes, hve0]; exact P6.out.2
                                  have HEZ7 : Hid ((pre ++ [((⟨nm, es⟩ : Zon), ve)]).map Prod.fst = sx.zones ++ [⟨nm, es⟩]) := by show _ = _; rw [List.map_append, HEZ.out]; rfl
                                  have HGE : Hid (∀ g, ve.ownBlock = some g → g ≠ w3.heap.size) := by show ∀ g, _; intro g hg; rw [hve0] at hg; simp [Value.ownBlock] at hg
                                  have HE6 : Hid (LE = if 20 ≤ es.length then 1 else 0) := by show _ = _; rw [HLE.out, hes]; rfl
                                  have HVF : Hid (lnV ⟨sx, false⟩ ws = ⟨⟨sx.rules, addE (sx.zones ++ [⟨nm, es⟩]) x, sx.links⟩, x.en⟩) := by
                                    show _ = _
                                    rw [HV4.out, addE_last, hes, HX.out]
                                    rfl
                                  have HEL : Hid (es.length ≤ 100000) := by show _ ≤ _; rw [hes]; exact Nat.zero_le _
                                  clear hW7 o6 f6 z6 H6 HSR HEZ X6 X4 S4 P6 hes hve0 HV4 HX k1' hbw4
                                  have X4 := X7
                                  have HSR := HSR7
                                  have HEZ := HEZ7
                                  clear X7 HSR7 HEZ7
                                  obtain ⟨nz, hnz⟩ : ∃ nz, pre.length + 1 = nz := ⟨_, rfl⟩
                                  have HNZ := Lib.hid hnz
                                  have tz : IntKind.i64.wrap ((nz : Int) - 1) = (pre.length : Int) := by rw [IntWalk.i64_in _ (by omega)]; omega
                                  have hiz2 : (pre.length : Int) < (nz : Int) := by omega
                                  have hiz0 : (0 : Int) ≤ (pre.length : Int) := by omega
                                  obtain ⟨zc, zf, zg⟩ := zon_own HSR.out.z
                                  obtain ⟨ae, ce, hve⟩ := own_shape (HSR.out.x (⟨nm, es⟩, ve) (by simp))
                                  have hve2 : ve = .slice ae es.length ce := hve
                                  clear hve
                                  subst hve2
                                  have o1 : W7.cell? ⟨O, 1, none⟩ = some (.slice (some ⟨G, 0, none⟩) nz cz) := by rw [← hnz]; exact S7.out.o.cell 1
                                  have oz : O < W7.heap.size := S7.out.o.lt
                                  clear hnz
                                  obtain ⟨E2, hE2⟩ : ∃ E2 : Int, E2 = if 20 ≤ es.length then 1 else 0 := ⟨_, rfl⟩
                                  have HE7 : Hid (LE = E2) := by show _ = _; rw [HE6.out, hE2]
                                  have HE8 := Lib.hid hE2
                                  clear hE2 HE6
                                  go_upto_if 172 with fail
                                  go_cut [10] (fun vq wx => vq = .int .i64 E2 ∧ W7 = wx)
                                  case first =>
                                    by_cases h20 : 20 ≤ es.length
                                    · have h20i : (20 : Int) ≤ (es.length : Int) := by omega
                                      have HQ : Hid (E2 = 1) := HE8.out.trans (if_pos h20)
                                      clear h20
                                      go_wp2_with fail
                                      go_meet
                                      exact ⟨by rw [HQ.out], rfl⟩
                                    · have h20i : ¬ (20 : Int) ≤ (es.length : Int) := by omega
                                      have HQ : Hid (E2 = 0) := HE8.out.trans (if_neg h20)
                                      clear h20
                                      go_wp2_with fail
                                      go_meet
                                      exact ⟨by rw [HQ.out], rfl⟩
                                  case rest =>
                                    obtain ⟨rfl, rfl⟩ := hcut
                                    obtain ⟨⟨x0, x1, x2, x3, x4, x5, x6, x7, x8, x9, x10, x11⟩, -, xl⟩ := ErX.twelve X4.out
                                    have HOX : Hid (W7.ownsRow (O + 1) 59 12 (.slice ae es.length ce) es.length (es.flatMap EroV)) := HSR.out.x (⟨nm, es⟩, .slice ae es.length ce) (by simp)
                                    have hel2 : es.length ≤ 100000 := HEL.out
                                    clear x0 x1 x2 x3 x4 x5 x6 x7 x8 x9 x10 x11 xl HOX
                                    go_upto_region 36 with fail
                                    clear zc zf zg o1 oz tz hiz2 hiz0
                                    refine wp_region_B (fun w' => w'.cell? ⟨G, pre.length * 2 + 1, none⟩ = some (.slice ae es.length ce) ∧ w'.heap[w3.heap.size]? = some (.cells #[.int .i64 x.off, .string x.rl, .int .i64 x.sv, .string x.fm, .bool x.en, .int .i64 x.yr, .int .i64 x.un.mo, .int .i64 x.un.k, .int .i64 x.un.a, .int .i64 x.un.n, .int .i64 x.un.t, .int .i64 x.un.c] 59 (0, 0))) [5, 6] (by kernel_rfl) ?_
                                    have DD : Below W7.heap.size W7 W7.drew := (Below.refl _ _).drew
                                    obtain ⟨W5, hW5⟩ : ∃ W5, W7.drew = W5 := ⟨_, rfl⟩
                                    rw [hW5] at DD ⊢
                                    have S5 := Lib.hid (S7.out.next DD)
                                    have SR5 := Lib.hid (HSR.out.next DD)
                                    have X5 : Hid (BxO W5 w3.heap.size (eaA x.off x.rl x.sv x.fm x.en x.yr x.un.mo x.un.k x.un.a x.un.n x.un.t x.un.c) 59) := (DD.block _ X4.out.lt).trans X4.out
                                    clear DD hW5
                                    obtain ⟨zc, zf, zg⟩ := zon_own SR5.out.z
                                    have HS0 : Hid (W5.cell? ⟨G, pre.length * 2 + 1, none⟩ = some (.slice ae es.length ce) ∧ W5.heap[w3.heap.size]? = some (.cells #[.int .i64 x.off, .string x.rl, .int .i64 x.sv, .string x.fm, .bool x.en, .int .i64 x.yr, .int .i64 x.un.mo, .int .i64 x.un.k, .int .i64 x.un.a, .int .i64 x.un.n, .int .i64 x.un.t, .int .i64 x.un.c] 59 (0, 0))) := ⟨zc, X5.out⟩
                                    have HS1 : Hid ((W5.alloc (.cells #[.int .i64 x.off, .string x.rl, .int .i64 x.sv, .string x.fm, .bool x.en, .int .i64 x.yr, .int .i64 x.un.mo, .int .i64 x.un.k, .int .i64 x.un.a, .int .i64 x.un.n, .int .i64 x.un.t, .int .i64 x.un.c] 59)).cell? ⟨G, pre.length * 2 + 1, none⟩ = some (.slice ae es.length ce) ∧ (W5.alloc (.cells #[.int .i64 x.off, .string x.rl, .int .i64 x.sv, .string x.fm, .bool x.en, .int .i64 x.yr, .int .i64 x.un.mo, .int .i64 x.un.k, .int .i64 x.un.a, .int .i64 x.un.n, .int .i64 x.un.t, .int .i64 x.un.c] 59)).heap[w3.heap.size]? = some (.cells #[.int .i64 x.off, .string x.rl, .int .i64 x.sv, .string x.fm, .bool x.en, .int .i64 x.yr, .int .i64 x.un.mo, .int .i64 x.un.k, .int .i64 x.un.a, .int .i64 x.un.n, .int .i64 x.un.t, .int .i64 x.un.c] 59 (0, 0))) := ⟨(((Below.refl _ _).alloc (Nat.le_refl _) _).cell (p := ⟨G, pre.length * 2 + 1, none⟩) zg).trans zc, X5.out.alloc _⟩
                                    clear zc zf zg
                                    refine wpAnyB_takeW (i := 0) (v := (.pointer (some ⟨G, pre.length * 2, none⟩))) rfl (by kernel_rfl) (by kernel_rfl) (by kernel_rfl) (by rfl) (fun _ _ _ h => h) (by rfl) (fun _ => by go_simp) ?_
                                    try simp only [Act.put, List.setIfInBounds_toArray, List.set_cons_zero, List.set_cons_succ]
                                    refine wpAnyB_takeW (i := 1) (v := (.pointer (some ⟨G, pre.length * 2, none⟩))) rfl (by kernel_rfl) (by kernel_rfl) (by kernel_rfl) (by rfl) (fun _ _ _ h => h) (by rfl) (fun _ => by go_simp) ?_
                                    try simp only [Act.put, List.setIfInBounds_toArray, List.set_cons_zero, List.set_cons_succ]
                                    refine wpAnyB_takeW (i := 2) (v := (.pointer (some ⟨G, pre.length * 2, none⟩))) rfl (by kernel_rfl) (by kernel_rfl) (by kernel_rfl) (by rfl) (fun _ _ _ h => h) (by rfl) (fun _ => by go_simp) ?_
                                    try simp only [Act.put, List.setIfInBounds_toArray, List.set_cons_zero, List.set_cons_succ]
                                    refine wpAnyB_takeW (i := 3) (v := (.pointer (some ⟨G, pre.length * 2 + 1, none⟩))) rfl (by kernel_rfl) (by kernel_rfl) (by kernel_rfl) (by rfl) (fun _ _ _ h => h) (by rfl) (fun _ => by go_simp) ?_
                                    try simp only [Act.put, List.setIfInBounds_toArray, List.set_cons_zero, List.set_cons_succ]
                                    refine wpAnyB_take (i := 4) [7, 8, 9, 10] (v := (.slice ae es.length ce)) rfl (by kernel_rfl) (by kernel_rfl) (by kernel_rfl) (by kernel_rfl) (by kernel_rfl) (by kernel_rfl) (fun _ _ _ h => h) (.inl ⟨by rfl, fun w' hS => by have h1 := hS.1; go_simp⟩) HS0.out ?_
                                    try simp only [Act.put, List.setIfInBounds_toArray, List.set_cons_zero, List.set_cons_succ]
                                    refine wpAnyB_take (i := 5) [6, 7, 8, 9, 10] (v := (.agg #[.int .i64 x.off, .string x.rl, .int .i64 x.sv, .string x.fm, .bool x.en, .int .i64 x.yr, .int .i64 x.un.mo, .int .i64 x.un.k, .int .i64 x.un.a, .int .i64 x.un.n, .int .i64 x.un.t, .int .i64 x.un.c])) rfl (by kernel_rfl) (by kernel_rfl) (by kernel_rfl) (by kernel_rfl) (by kernel_rfl) (by kernel_rfl) (fun _ _ _ h => h) (yieldsIf_row (by rfl) 59 (.tmp 14) rfl w3.heap.size rfl 59 #[.int .i64 x.off, .string x.rl, .int .i64 x.sv, .string x.fm, .bool x.en, .int .i64 x.yr, .int .i64 x.un.mo, .int .i64 x.un.k, .int .i64 x.un.a, .int .i64 x.un.n, .int .i64 x.un.t, .int .i64 x.un.c] (0, 0) _ (fun w' hS => hS.2) Tryz.underlying59 rfl (by kernel_rfl)) HS0.out ?_
                                    try simp only [Act.put, List.setIfInBounds_toArray, List.set_cons_zero, List.set_cons_succ]
                                    refine wpAnyB_one (i := 6) rfl (by kernel_rfl) (fun K hK => ?_)
                                    refine step_wp rfl (wp_build1 62 59 (.tmp 178) rfl #[.int .i64 x.off, .string x.rl, .int .i64 x.sv, .string x.fm, .bool x.en, .int .i64 x.yr, .int .i64 x.un.mo, .int .i64 x.un.k, .int .i64 x.un.a, .int .i64 x.un.n, .int .i64 x.un.t, .int .i64 x.un.c] rfl ie _ Tryz.underlying62 hie he0 (by rw [he1]; decide) (by rw [he1]; decide) (by rw [he1]; exact fill_ero _ _ _ _ _ _ _ _ _ _ _ _) ?_)
                                    refine hK _ _ (fun _ => HS1.out) ?_
                                    try simp only [Act.put, List.setIfInBounds_toArray, List.set_cons_zero, List.set_cons_succ]
                                    refine wpAnyB_tail _ 7 _ _ _ _ (by kernel_rfl) rfl rfl (by rfl) ?_
                                    simp only [List.drop_succ_cons, List.drop_zero]
                                    clear hK K
                                    refine wpList_append_lies _ rfl (.tmp 177) (.tmp 179) 62 rfl (O + 1) 59 ie (.agg #[.int .i64 0, .string ⟨#[]⟩, .int .i64 0, .string ⟨#[]⟩, .bool false, .int .i64 0, .int .i64 0, .int .i64 0, .int .i64 0, .int .i64 0, .int .i64 0, .int .i64 0]) 12 112 Tryz.underlying62 hie he0 he1 he2 rfl (by decide) (.slice ae es.length ce) es.length (es.flatMap EroV) rfl ((SR5.out.x (⟨nm, es⟩, .slice ae es.length ce) (by simp)).alloc _) ⟨W5.heap.size, 0, none⟩ 1 1 (EroV x) rfl rfl (cells_at _ _ _ _ _ rfl rfl) (eroV_one _) (by omega) (by unfold maxLen; omega) (by omega) (by rw [size_alloc]; have := S5.out.o.lt; omega) (W5.heap.size + 1) (size_alloc _ _) ?_
                                    intro gg cap6 w6 hown1 hgrow hat hltg
                                    have P6 := Lib.hid (S5.out.putE HEZ.out SR5.out hown1 hgrow (by rcases hat with h | h; exact .inl h.symm; exact .inr (by rw [size_alloc]; exact congrArg some h)))
                                    have X6 := Lib.hid (ero_kept X5.out SR5.out.z HGE.out hgrow)
                                    obtain ⟨y1, y2, y3⟩ := zon_kept SR5.out.z (SR5.out.x (⟨nm, es⟩, .slice ae es.length ce) (by simp)) hgrow
                                    clear hown1 hgrow hat HS0 HS1
                                    go_upto_region 37 with fail
                                    all_goals
                                      obtain ⟨W9, hW9⟩ : ∃ W9, W9 = w6.setCell ⟨G, pre.length * 2 + 1, none⟩ (.slice (some ⟨gg, 0, none⟩) (es.length + 1) cap6) := ⟨_, rfl⟩
                                      have X9 : Hid (BxO W9 w3.heap.size (eaA x.off x.rl x.sv x.fm x.en x.yr x.un.mo x.un.k x.un.a x.un.n x.un.t x.un.c) 59) := by show BxO _ _ _ _; rw [hW9]; exact BxO.other X6.out.1 X6.out.2 _ _
                                      rw [← hW9] at P6 ⊢
                                      have x4 : W9.cell? ⟨w3.heap.size, 4, none⟩ = some (.bool x.en) := X9.out.cell 4
                                      have xz : w3.heap.size < W9.heap.size := X9.out.lt
                                      have xl := trivial
                                      clear hW9 y1 y2 y3 X6
                                      by_cases h2 : E2 = 0
                                      · have hEb : (E2 != 0) = false := by rw [h2]; rfl
                                        have HG3 : Hid (linsF rd0 0 LS = linsF (⟨⟨(⟨sx.rules, sx.zones ++ [⟨nm, es⟩], sx.links⟩ : Src).rules, addE (⟨sx.rules, sx.zones ++ [⟨nm, es⟩], sx.links⟩ : Src).zones x, (⟨sx.rules, sx.zones ++ [⟨nm, es⟩], sx.links⟩ : Src).links⟩, x.en⟩ : RdS) (k + 1) (LS.drop (k + 1))) := by have := HGOOD.out (HE7.out.trans h2); rw [HVF.out] at this; exact this
                                        have HB3 : Hid (ersB (⟨⟨(⟨sx.rules, sx.zones ++ [⟨nm, es⟩], sx.links⟩ : Src).rules, addE (⟨sx.rules, sx.zones ++ [⟨nm, es⟩], sx.links⟩ : Src).zones x, (⟨sx.rules, sx.zones ++ [⟨nm, es⟩], sx.links⟩ : Src).links⟩, x.en⟩ : RdS).s (k + 1)) := by have := HBN.out; rw [HVF.out] at this; exact this
                                        have HC3 : Hid (cntS (⟨⟨(⟨sx.rules, sx.zones ++ [⟨nm, es⟩], sx.links⟩ : Src).rules, addE (⟨sx.rules, sx.zones ++ [⟨nm, es⟩], sx.links⟩ : Src).zones x, (⟨sx.rules, sx.zones ++ [⟨nm, es⟩], sx.links⟩ : Src).links⟩, x.en⟩ : RdS).s ≤ k + 1) := by have := HCN.out; rw [HVF.out] at this; exact this
                                        have HO3 : Hid ((⟨⟨(⟨sx.rules, sx.zones ++ [⟨nm, es⟩], sx.links⟩ : Src).rules, addE (⟨sx.rules, sx.zones ++ [⟨nm, es⟩], sx.links⟩ : Src).zones x, (⟨sx.rules, sx.zones ++ [⟨nm, es⟩], sx.links⟩ : Src).links⟩, x.en⟩ : RdS).op = true → (⟨⟨(⟨sx.rules, sx.zones ++ [⟨nm, es⟩], sx.links⟩ : Src).rules, addE (⟨sx.rules, sx.zones ++ [⟨nm, es⟩], sx.links⟩ : Src).zones x, (⟨sx.rules, sx.zones ++ [⟨nm, es⟩], sx.links⟩ : Src).links⟩, x.en⟩ : RdS).s.zones ≠ []) := by have := HON.out; rw [HVF.out] at this; exact this
                                        clear h2
                                        go_wp2_with fail
                                        go_roundw
                                        case rel => exact ⟨k + 1, (⟨⟨(⟨sx.rules, sx.zones ++ [⟨nm, es⟩], sx.links⟩ : Src).rules, addE (⟨sx.rules, sx.zones ++ [⟨nm, es⟩], sx.links⟩ : Src).zones x, (⟨sx.rules, sx.zones ++ [⟨nm, es⟩], sx.links⟩ : Src).links⟩, x.en⟩ : RdS), _, _, _, rfl, by go_num, by omega, HG3, P6, HC3, HO3, HB3⟩
                                        case measure => simp [intOf]; omega
                                      · have HS := Lib.hid (HBAD.out E2 HE7.out h2)
                                        have hEb : (E2 != 0) = true := by rw [bne_iff_ne]; exact h2
                                        clear h2
                                        have r0 : W9.cell? ⟨w.heap.size, 0, none⟩ = some (.slice none 0 0) := P6.out.r.cell 0
                                        have r1 : W9.cell? ⟨w.heap.size, 1, none⟩ = some (.slice none 0 0) := P6.out.r.cell 1
                                        have r2 : W9.cell? ⟨w.heap.size, 2, none⟩ = some (.slice none 0 0) := P6.out.r.cell 2
                                        have rf0 : W9.frozen? ⟨w.heap.size, 0, none⟩ = false := P6.out.r.frozen 0
                                        have rf1 : W9.frozen? ⟨w.heap.size, 1, none⟩ = false := P6.out.r.frozen 1
                                        have rf2 : W9.frozen? ⟨w.heap.size, 2, none⟩ = false := P6.out.r.frozen 2
                                        have rl : w.heap.size < W9.heap.size := P6.out.r.lt
                                        go_wp2
                                        refine bodyPost_ret (v := .tuple #[.agg #[.slice none 0 0, .slice none 0 0, .slice none 0 0], .int .i64 ((k : Int) + 1), .int .i64 E2]) (by simp [results, Tryz.results6, go_sem, r0, r1, r2, rl]) rfl ⟨_, _, _, by rw [HS.out.2.1, HS.out.2.2], by rw [HS.out.1]; exact SrX.mt _, ((P6.out.all.setCell (p := ⟨w.heap.size, 0, none⟩) (Nat.le_refl _) _).setCell (p := ⟨w.heap.size, 1, none⟩) (Nat.le_refl _) _).setCell (p := ⟨w.heap.size, 2, none⟩) (Nat.le_refl _) _⟩
                              · have hEb : (E == 0) = false := beq_eq_false_iff_ne.2 hE
                                have hEc : (E != 0) = true := by rw [bne_iff_ne]; exact hE
                                have HS := Lib.hid (HBAD.out E HE6'.out hE)
                                clear hE
                                have r0 : W4.cell? ⟨w.heap.size, 0, none⟩ = some (.slice none 0 0) := S4.out.r.cell 0
                                have r1 : W4.cell? ⟨w.heap.size, 1, none⟩ = some (.slice none 0 0) := S4.out.r.cell 1
                                have r2 : W4.cell? ⟨w.heap.size, 2, none⟩ = some (.slice none 0 0) := S4.out.r.cell 2
                                have rf0 : W4.frozen? ⟨w.heap.size, 0, none⟩ = false := S4.out.r.frozen 0
                                have rf1 : W4.frozen? ⟨w.heap.size, 1, none⟩ = false := S4.out.r.frozen 1
                                have rf2 : W4.frozen? ⟨w.heap.size, 2, none⟩ = false := S4.out.r.frozen 2
                                have rl : w.heap.size < W4.heap.size := S4.out.r.lt
                                go_wp2
                                refine bodyPost_ret (v := .tuple #[.agg #[.slice none 0 0, .slice none 0 0, .slice none 0 0], .int .i64 ((k : Int) + 1), .int .i64 E]) (by simp [results, Tryz.results6, go_sem, r0, r1, r2, rl]) rfl ⟨_, _, _, by rw [HS.out.2.1, HS.out.2.2], by rw [HS.out.1]; exact SrX.mt _, ((S4.out.all.setCell (p := ⟨w.heap.size, 0, none⟩) (Nat.le_refl _) _).setCell (p := ⟨w.heap.size, 1, none⟩) (Nat.le_refl _) _).setCell (p := ⟨w.heap.size, 2, none⟩) (Nat.le_refl _) _⟩
              | true =>
                as_aux_lemma =>
                  have HE4 : Hid (LE = if erE ws ≠ 0 then erE ws else if 20 ≤ lastN sx.zones then 1 else 0) := by
                    show _ = _
                    rw [HE2.out]
                    unfold lnE
                    rw [if_neg hn0, if_pos rfl]
                  have HV4 : Hid (lnV ⟨sx, true⟩ ws = ⟨⟨sx.rules, addE sx.zones (erV ws), sx.links⟩, (erV ws).en⟩) := by
                    show _ = _
                    unfold lnV
                    rw [if_neg hn0, if_pos rfl]
                  have HER : Hid (Calls Tryz.prog 18 #[.slice (some ⟨b, off, none⟩) ws.length cw] w2 fun e w' => ∃ x : Ero, e = .returned (.tuple #[.agg #[.int .i64 x.off, .string x.rl, .int .i64 x.sv, .string x.fm, .bool x.en, .int .i64 x.yr, .int .i64 x.un.mo, .int .i64 x.un.k, .int .i64 x.un.a, .int .i64 x.un.n, .int .i64 x.un.t, .int .i64 x.un.c], .int .i64 (erE ws)]) ∧ (erE ws = 0 → x = erV ws) ∧ Below w2.heap.size w2 w') := eraOf_any_s ws _ w2 HWS.out HZ.out
                  clear HE2 HWC
                  generalize erE ws = E at *
                  go_wp2_with fail
                  refine HER.out.mono ?_; rintro e w3 ⟨x, rfl, hx, hb3⟩
                  have HXV := Lib.hid hx
                  obtain ⟨zs, ez, hs⟩ := S2.out.s
                  obtain ⟨pre, z0, rfl⟩ : ∃ pre z0, zs = pre ++ [z0] := by
                    have hz : zs ≠ [] := by rintro rfl; exact HO.out (by first | rfl | trivial) ez.symm
                    exact ⟨_, _, (List.dropLast_concat_getLast hz).symm⟩
                  obtain ⟨⟨nm, es⟩, ve⟩ := z0
                  obtain ⟨G, cz, rfl, -, -⟩ := own_pos hs.z (by simp)
                  rw [List.length_append, List.length_singleton] at *
                  have S3 := Lib.hid (S2.out.next hb3)
                  obtain ⟨W4, hW4⟩ : ∃ W4, W4 = w3.alloc (.cells #[.int .i64 x.off, .string x.rl, .int .i64 x.sv, .string x.fm, .bool x.en, .int .i64 x.yr, .int .i64 x.un.mo, .int .i64 x.un.k, .int .i64 x.un.a, .int .i64 x.un.n, .int .i64 x.un.t, .int .i64 x.un.c] 59) := ⟨_, rfl⟩
                  have hb4 : Below w2.heap.size w2 W4 := by rw [hW4]; exact hb3.alloc hb3.size _
                  have S4 : Hid (SoM w w1 W4 O vr (.slice (some ⟨G, 0, none⟩) (pre.length + 1) cz) vl sx) := by show SoM _ _ _ _ _ _ _ _; rw [hW4]; exact S3.out.next ((Below.refl _ _).alloc (Nat.le_refl _) _)
                  have X4 : Hid (BxO W4 w3.heap.size (eaA x.off x.rl x.sv x.fm x.en x.yr x.un.mo x.un.k x.un.a x.un.n x.un.t x.un.c) 59) := by show BxO _ _ _ _; rw [hW4]; exact BxO.new _ _ _
                  have HSR := Lib.hid (hs.next hb4)
                  have HEZ := Lib.hid ez
                  have HGE : Hid (∀ g, ve.ownBlock = some g → g ≠ w3.heap.size) := by
                    show ∀ g, _
                    intro g hg e
                    have h1 := ((hs.x (⟨nm, es⟩, ve) (by simp)).lt g hg).2
                    have h2 := hb3.size
                    omega
                  have hzl : pre.length ≤ 200 := by have h := congrArg List.length ez; simp at h; omega
                  have HW4 := Lib.hid hW4
                  clear hW4 S3 hs ez hx hb3 hb4 HER k0 hbw S2
                  go_upto_region 29 with (refine wpList_store_row rfl 59 _ _ rfl w3.heap.size #[.int .i64 x.off, .string x.rl, .int .i64 x.sv, .string x.fm, .bool x.en, .int .i64 x.yr, .int .i64 x.un.mo, .int .i64 x.un.k, .int .i64 x.un.a, .int .i64 x.un.n, .int .i64 x.un.t, .int .i64 x.un.c] rfl rfl 59 _ (World.alloc_heap_new w3 _) (by kernel_rfl) rfl (by simp [Value.oneCell']) ?_; rw [World.setRow_alloc_new])
                  rw [← HW4.out]
                  clear HW4
                  by_cases hE : E = 0
                  · have hEb : (E == 0) = true := beq_iff_eq.2 hE
                    have HE6 : Hid (LE = if 20 ≤ es.length then 1 else 0) := by
                      show _ = _
                      rw [HE4.out, if_neg (by simp [hE]), ← HEZ.out, List.map_append]
                      show (if 20 ≤ lastN (_ ++ [(⟨nm, es⟩ : Zon)]) then _ else _) = _
                      rw [lastN_last]
                    have HVF : Hid (lnV ⟨sx, true⟩ ws = ⟨⟨sx.rules, addE sx.zones x, sx.links⟩, x.en⟩) := by show _ = _; rw [HV4.out, HXV.out hE]
                    have HEL : Hid (es.length ≤ 100000) := by
                      have h := HB.out ⟨nm, es⟩ (by rw [← HEZ.out]; simp)
                      show _ ≤ _
                      have h2 : es.length ≤ k := h
                      omega
                    rw [hE] at *
                    clear HE4 HV4 HXV
                    obtain ⟨nz, hnz⟩ : ∃ nz, pre.length + 1 = nz := ⟨_, rfl⟩
                    have HNZ := Lib.hid hnz
                    have tz : IntKind.i64.wrap ((nz : Int) - 1) = (pre.length : Int) := by rw [IntWalk.i64_in _ (by omega)]; omega
                    have hiz2 : (pre.length : Int) < (nz : Int) := by omega
                    have hiz0 : (0 : Int) ≤ (pre.length : Int) := by omega
                    obtain ⟨zc, zf, zg⟩ := zon_own HSR.out.z
                    obtain ⟨ae, ce, hve⟩ := own_shape (HSR.out.x (⟨nm, es⟩, ve) (by simp))
                    have hve2 : ve = .slice ae es.length ce := hve
                    clear hve
                    subst hve2
                    have o1 : W4.cell? ⟨O, 1, none⟩ = some (.slice (some ⟨G, 0, none⟩) nz cz) := by rw [← hnz]; exact S4.out.o.cell 1
                    have oz : O < W4.heap.size := S4.out.o.lt
                    clear hnz
                    obtain ⟨E2, hE2⟩ : ∃ E2 : Int, E2 = if 20 ≤ es.length then 1 else 0 := ⟨_, rfl⟩
                    have HE7 : Hid (LE = E2) := by show _ = _; rw [HE6.out, hE2]
                    have HE8 := Lib.hid hE2
                    clear hE2 HE6
                    go_upto_if 172 with fail
                    go_cut [10] (fun vq wx => vq = .int .i64 E2 ∧ W4 = wx)
                    case first =>
                      by_cases h20 : 20 ≤ es.length
                      · have h20i : (20 : Int) ≤ (es.length : Int) := by omega
                        have HQ : Hid (E2 = 1) := HE8.out.trans (if_pos h20)
                        clear h20
                        go_wp2_with fail
                        go_meet
                        exact ⟨by rw [HQ.out], rfl⟩
                      · have h20i : ¬ (20 : Int) ≤ (es.length : Int) := by omega
                        have HQ : Hid (E2 = 0) := HE8.out.trans (if_neg h20)
                        clear h20
                        go_wp2_with fail
                        go_meet
                        exact ⟨by rw [HQ.out], rfl⟩
                    case rest =>
                      obtain ⟨rfl, rfl⟩ := hcut
                      obtain ⟨⟨x0, x1, x2, x3, x4, x5, x6, x7, x8, x9, x10, x11⟩, -, xl⟩ := ErX.twelve X4.out
                      have HOX : Hid (W4.ownsRow (O + 1) 59 12 (.slice ae es.length ce) es.length (es.flatMap EroV)) := HSR.out.x (⟨nm, es⟩, .slice ae es.length ce) (by simp)
                      have hel2 : es.length ≤ 100000 := HEL.out
                      clear x0 x1 x2 x3 x4 x5 x6 x7 x8 x9 x10 x11 xl HOX
                      go_upto_region 36 with fail
                      clear zc zf zg o1 oz tz hiz2 hiz0
                      refine wp_region_B (fun w' => w'.cell? ⟨G, pre.length * 2 + 1, none⟩ = some (.slice ae es.length ce) ∧ w'.heap[w3.heap.size]? = some (.cells #[.int .i64 x.off, .string x.rl, .int .i64 x.sv, .string x.fm, .bool x.en, .int .i64 x.yr, .int .i64 x.un.mo, .int .i64 x.un.k, .int .i64 x.un.a, .int .i64 x.un.n, .int .i64 x.un.t, .int .i64 x.un.c] 59 (0, 0))) [5, 6] (by kernel_rfl) ?_
                      have DD : Below W4.heap.size W4 W4.drew := (Below.refl _ _).drew
                      obtain ⟨W5, hW5⟩ : ∃ W5, W4.drew = W5 := ⟨_, rfl⟩
                      rw [hW5] at DD ⊢
                      have S5 := Lib.hid (S4.out.next DD)
                      have SR5 := Lib.hid (HSR.out.next DD)
                      have X5 : Hid (BxO W5 w3.heap.size (eaA x.off x.rl x.sv x.fm x.en x.yr x.un.mo x.un.k x.un.a x.un.n x.un.t x.un.c) 59) := (DD.block _ X4.out.lt).trans X4.out
                      clear DD hW5
                      obtain ⟨zc, zf, zg⟩ := zon_own SR5.out.z
                      have HS0 : Hid (W5.cell? ⟨G, pre.length * 2 + 1, none⟩ = some (.slice ae es.length ce) ∧ W5.heap[w3.heap.size]? = some (.cells #[.int .i64 x.off, .string x.rl, .int .i64 x.sv, .string x.fm, .bool x.en, .int .i64 x.yr, .int .i64 x.un.mo, .int .i64 x.un.k, .int .i64 x.un.a, .int .i64 x.un.n, .int .i64 x.un.t, .int .i64 x.un.c] 59 (0, 0))) := ⟨zc, X5.out⟩
                      have HS1 : Hid ((W5.alloc (.cells #[.int .i64 x.off, .string x.rl, .int .i64 x.sv, .string x.fm, .bool x.en, .int .i64 x.yr, .int .i64 x.un.mo, .int .i64 x.un.k, .int .i64 x.un.a, .int .i64 x.un.n, .int .i64 x.un.t, .int .i64 x.un.c] 59)).cell? ⟨G, pre.length * 2 + 1, none⟩ = some (.slice ae es.length ce) ∧ (W5.alloc (.cells #[.int .i64 x.off, .string x.rl, .int .i64 x.sv, .string x.fm, .bool x.en, .int .i64 x.yr, .int .i64 x.un.mo, .int .i64 x.un.k, .int .i64 x.un.a, .int .i64 x.un.n, .int .i64 x.un.t, .int .i64 x.un.c] 59)).heap[w3.heap.size]? = some (.cells #[.int .i64 x.off, .string x.rl, .int .i64 x.sv, .string x.fm, .bool x.en, .int .i64 x.yr, .int .i64 x.un.mo, .int .i64 x.un.k, .int .i64 x.un.a, .int .i64 x.un.n, .int .i64 x.un.t, .int .i64 x.un.c] 59 (0, 0))) := ⟨(((Below.refl _ _).alloc (Nat.le_refl _) _).cell (p := ⟨G, pre.length * 2 + 1, none⟩) zg).trans zc, X5.out.alloc _⟩
                      clear zc zf zg
                      refine wpAnyB_takeW (i := 0) (v := (.pointer (some ⟨G, pre.length * 2, none⟩))) rfl (by kernel_rfl) (by kernel_rfl) (by kernel_rfl) (by rfl) (fun _ _ _ h => h) (by rfl) (fun _ => by go_simp) ?_
                      try simp only [Act.put, List.setIfInBounds_toArray, List.set_cons_zero, List.set_cons_succ]
                      refine wpAnyB_takeW (i := 1) (v := (.pointer (some ⟨G, pre.length * 2, none⟩))) rfl (by kernel_rfl) (by kernel_rfl) (by kernel_rfl) (by rfl) (fun _ _ _ h => h) (by rfl) (fun _ => by go_simp) ?_
                      try simp only [Act.put, List.setIfInBounds_toArray, List.set_cons_zero, List.set_cons_succ]
                      refine wpAnyB_takeW (i := 2) (v := (.pointer (some ⟨G, pre.length * 2, none⟩))) rfl (by kernel_rfl) (by kernel_rfl) (by kernel_rfl) (by rfl) (fun _ _ _ h => h) (by rfl) (fun _ => by go_simp) ?_
                      try simp only [Act.put, List.setIfInBounds_toArray, List.set_cons_zero, List.set_cons_succ]
                      refine wpAnyB_takeW (i := 3) (v := (.pointer (some ⟨G, pre.length * 2 + 1, none⟩))) rfl (by kernel_rfl) (by kernel_rfl) (by kernel_rfl) (by rfl) (fun _ _ _ h => h) (by rfl) (fun _ => by go_simp) ?_
                      try simp only [Act.put, List.setIfInBounds_toArray, List.set_cons_zero, List.set_cons_succ]
                      refine wpAnyB_take (i := 4) [7, 8, 9, 10] (v := (.slice ae es.length ce)) rfl (by kernel_rfl) (by kernel_rfl) (by kernel_rfl) (by kernel_rfl) (by kernel_rfl) (by kernel_rfl) (fun _ _ _ h => h) (.inl ⟨by rfl, fun w' hS => by have h1 := hS.1; go_simp⟩) HS0.out ?_
                      try simp only [Act.put, List.setIfInBounds_toArray, List.set_cons_zero, List.set_cons_succ]
                      refine wpAnyB_take (i := 5) [6, 7, 8, 9, 10] (v := (.agg #[.int .i64 x.off, .string x.rl, .int .i64 x.sv, .string x.fm, .bool x.en, .int .i64 x.yr, .int .i64 x.un.mo, .int .i64 x.un.k, .int .i64 x.un.a, .int .i64 x.un.n, .int .i64 x.un.t, .int .i64 x.un.c])) rfl (by kernel_rfl) (by kernel_rfl) (by kernel_rfl) (by kernel_rfl) (by kernel_rfl) (by kernel_rfl) (fun _ _ _ h => h) (yieldsIf_row (by rfl) 59 (.tmp 14) rfl w3.heap.size rfl 59 #[.int .i64 x.off, .string x.rl, .int .i64 x.sv, .string x.fm, .bool x.en, .int .i64 x.yr, .int .i64 x.un.mo, .int .i64 x.un.k, .int .i64 x.un.a, .int .i64 x.un.n, .int .i64 x.un.t, .int .i64 x.un.c] (0, 0) _ (fun w' hS => hS.2) Tryz.underlying59 rfl (by kernel_rfl)) HS0.out ?_
                      try simp only [Act.put, List.setIfInBounds_toArray, List.set_cons_zero, List.set_cons_succ]
                      refine wpAnyB_one (i := 6) rfl (by kernel_rfl) (fun K hK => ?_)
                      refine step_wp rfl (wp_build1 62 59 (.tmp 178) rfl #[.int .i64 x.off, .string x.rl, .int .i64 x.sv, .string x.fm, .bool x.en, .int .i64 x.yr, .int .i64 x.un.mo, .int .i64 x.un.k, .int .i64 x.un.a, .int .i64 x.un.n, .int .i64 x.un.t, .int .i64 x.un.c] rfl ie _ Tryz.underlying62 hie he0 (by rw [he1]; decide) (by rw [he1]; decide) (by rw [he1]; exact fill_ero _ _ _ _ _ _ _ _ _ _ _ _) ?_)
                      refine hK _ _ (fun _ => HS1.out) ?_
                      try simp only [Act.put, List.setIfInBounds_toArray, List.set_cons_zero, List.set_cons_succ]
                      refine wpAnyB_tail _ 7 _ _ _ _ (by kernel_rfl) rfl rfl (by rfl) ?_
                      simp only [List.drop_succ_cons, List.drop_zero]
                      clear hK K
                      refine wpList_append_lies _ rfl (.tmp 177) (.tmp 179) 62 rfl (O + 1) 59 ie (.agg #[.int .i64 0, .string ⟨#[]⟩, .int .i64 0, .string ⟨#[]⟩, .bool false, .int .i64 0, .int .i64 0, .int .i64 0, .int .i64 0, .int .i64 0, .int .i64 0, .int .i64 0]) 12 112 Tryz.underlying62 hie he0 he1 he2 rfl (by decide) (.slice ae es.length ce) es.length (es.flatMap EroV) rfl ((SR5.out.x (⟨nm, es⟩, .slice ae es.length ce) (by simp)).alloc _) ⟨W5.heap.size, 0, none⟩ 1 1 (EroV x) rfl rfl (cells_at _ _ _ _ _ rfl rfl) (eroV_one _) (by omega) (by unfold maxLen; omega) (by omega) (by rw [size_alloc]; have := S5.out.o.lt; omega) (W5.heap.size + 1) (size_alloc _ _) ?_
                      intro gg cap6 w6 hown1 hgrow hat hltg
                      have P6 := Lib.hid (S5.out.putE HEZ.out SR5.out hown1 hgrow (by rcases hat with h | h; exact .inl h.symm; exact .inr (by rw [size_alloc]; exact congrArg some h)))
                      have X6 := Lib.hid (ero_kept X5.out SR5.out.z HGE.out hgrow)
                      obtain ⟨y1, y2, y3⟩ := zon_kept SR5.out.z (SR5.out.x (⟨nm, es⟩, .slice ae es.length ce) (by simp)) hgrow
                      clear hown1 hgrow hat HS0 HS1
                      go_upto_region 37 with fail
                      all_goals
                        obtain ⟨W9, hW9⟩ : ∃ W9, W9 = w6.setCell ⟨G, pre.length * 2 + 1, none⟩ (.slice (some ⟨gg, 0, none⟩) (es.length + 1) cap6) := ⟨_, rfl⟩
                        have X9 : Hid (BxO W9 w3.heap.size (eaA x.off x.rl x.sv x.fm x.en x.yr x.un.mo x.un.k x.un.a x.un.n x.un.t x.un.c) 59) := by show BxO _ _ _ _; rw [hW9]; exact BxO.other X6.out.1 X6.out.2 _ _
                        rw [← hW9] at P6 ⊢
                        have x4 : W9.cell? ⟨w3.heap.size, 4, none⟩ = some (.bool x.en) := X9.out.cell 4
                        have xz : w3.heap.size < W9.heap.size := X9.out.lt
                        have xl := trivial
                        clear hW9 y1 y2 y3 X6
                        by_cases h2 : E2 = 0
                        · have hEb : (E2 != 0) = false := by rw [h2]; rfl
                          have HG3 : Hid (linsF rd0 0 LS = linsF (⟨⟨sx.rules, addE sx.zones x, sx.links⟩, x.en⟩ : RdS) (k + 1) (LS.drop (k + 1))) := by have := HGOOD.out (HE7.out.trans h2); rw [HVF.out] at this; exact this
                          have HB3 : Hid (ersB (⟨⟨sx.rules, addE sx.zones x, sx.links⟩, x.en⟩ : RdS).s (k + 1)) := by have := HBN.out; rw [HVF.out] at this; exact this
                          have HC3 : Hid (cntS (⟨⟨sx.rules, addE sx.zones x, sx.links⟩, x.en⟩ : RdS).s ≤ k + 1) := by have := HCN.out; rw [HVF.out] at this; exact this
                          have HO3 : Hid ((⟨⟨sx.rules, addE sx.zones x, sx.links⟩, x.en⟩ : RdS).op = true → (⟨⟨sx.rules, addE sx.zones x, sx.links⟩, x.en⟩ : RdS).s.zones ≠ []) := by have := HON.out; rw [HVF.out] at this; exact this
                          clear h2
                          go_wp2_with fail
                          go_roundw
                          case rel => exact ⟨k + 1, (⟨⟨sx.rules, addE sx.zones x, sx.links⟩, x.en⟩ : RdS), _, _, _, rfl, by go_num, by omega, HG3, P6, HC3, HO3, HB3⟩
                          case measure => simp [intOf]; omega
                        · have HS := Lib.hid (HBAD.out E2 HE7.out h2)
                          have hEb : (E2 != 0) = true := by rw [bne_iff_ne]; exact h2
                          clear h2
                          have r0 : W9.cell? ⟨w.heap.size, 0, none⟩ = some (.slice none 0 0) := P6.out.r.cell 0
                          have r1 : W9.cell? ⟨w.heap.size, 1, none⟩ = some (.slice none 0 0) := P6.out.r.cell 1
                          have r2 : W9.cell? ⟨w.heap.size, 2, none⟩ = some (.slice none 0 0) := P6.out.r.cell 2
                          have rf0 : W9.frozen? ⟨w.heap.size, 0, none⟩ = false := P6.out.r.frozen 0
                          have rf1 : W9.frozen? ⟨w.heap.size, 1, none⟩ = false := P6.out.r.frozen 1
                          have rf2 : W9.frozen? ⟨w.heap.size, 2, none⟩ = false := P6.out.r.frozen 2
                          have rl : w.heap.size < W9.heap.size := P6.out.r.lt
                          go_wp2
                          refine bodyPost_ret (v := .tuple #[.agg #[.slice none 0 0, .slice none 0 0, .slice none 0 0], .int .i64 ((k : Int) + 1), .int .i64 E2]) (by simp [results, Tryz.results6, go_sem, r0, r1, r2, rl]) rfl ⟨_, _, _, by rw [HS.out.2.1, HS.out.2.2], by rw [HS.out.1]; exact SrX.mt _, ((P6.out.all.setCell (p := ⟨w.heap.size, 0, none⟩) (Nat.le_refl _) _).setCell (p := ⟨w.heap.size, 1, none⟩) (Nat.le_refl _) _).setCell (p := ⟨w.heap.size, 2, none⟩) (Nat.le_refl _) _⟩
                  · have hEb : (E == 0) = false := beq_eq_false_iff_ne.2 hE
                    have hEc : (E != 0) = true := by rw [bne_iff_ne]; exact hE
                    have HS := Lib.hid (HBAD.out E (HE4.out.trans (if_pos hE)) hE)
                    clear hE
                    have r0 : W4.cell? ⟨w.heap.size, 0, none⟩ = some (.slice none 0 0) := S4.out.r.cell 0
                    have r1 : W4.cell? ⟨w.heap.size, 1, none⟩ = some (.slice none 0 0) := S4.out.r.cell 1
                    have r2 : W4.cell? ⟨w.heap.size, 2, none⟩ = some (.slice none 0 0) := S4.out.r.cell 2
                    have rf0 : W4.frozen? ⟨w.heap.size, 0, none⟩ = false := S4.out.r.frozen 0
                    have rf1 : W4.frozen? ⟨w.heap.size, 1, none⟩ = false := S4.out.r.frozen 1
                    have rf2 : W4.frozen? ⟨w.heap.size, 2, none⟩ = false := S4.out.r.frozen 2
                    have rl : w.heap.size < W4.heap.size := S4.out.r.lt
                    go_wp2
                    refine bodyPost_ret (v := .tuple #[.agg #[.slice none 0 0, .slice none 0 0, .slice none 0 0], .int .i64 ((k : Int) + 1), .int .i64 E]) (by simp [results, Tryz.results6, go_sem, r0, r1, r2, rl]) rfl ⟨_, _, _, by rw [HS.out.2.1, HS.out.2.2], by rw [HS.out.1]; exact SrX.mt _, ((S4.out.all.setCell (p := ⟨w.heap.size, 0, none⟩) (Nat.le_refl _) _).setCell (p := ⟨w.heap.size, 1, none⟩) (Nat.le_refl _) _).setCell (p := ⟨w.heap.size, 2, none⟩) (Nat.le_refl _) _⟩
          · have hEb : (lngE ws != 0) = true := by rw [bne_iff_ne]; exact hL
            have HS := Lib.hid (HBAD.out (lngE ws) (HE.out.trans (if_pos hL)) hL)
            clear hv hL HE HBAD HGOOD
            generalize lngE ws = E at *
            have r0 : w2.cell? ⟨w.heap.size, 0, none⟩ = some (.slice none 0 0) := S2.out.r.cell 0
            have r1 : w2.cell? ⟨w.heap.size, 1, none⟩ = some (.slice none 0 0) := S2.out.r.cell 1
            have r2 : w2.cell? ⟨w.heap.size, 2, none⟩ = some (.slice none 0 0) := S2.out.r.cell 2
            have rf0 : w2.frozen? ⟨w.heap.size, 0, none⟩ = false := S2.out.r.frozen 0
            have rf1 : w2.frozen? ⟨w.heap.size, 1, none⟩ = false := S2.out.r.frozen 1
            have rf2 : w2.frozen? ⟨w.heap.size, 2, none⟩ = false := S2.out.r.frozen 2
            have rl : w.heap.size < w2.heap.size := S2.out.r.lt
            go_wp2
            refine bodyPost_ret (v := .tuple #[.agg #[.slice none 0 0, .slice none 0 0, .slice none 0 0], .int .i64 ((k : Int) + 1), .int .i64 E]) (by simp [results, Tryz.results6, go_sem, r0, r1, r2, rl]) rfl ⟨_, _, _, by rw [HS.out.2.1, HS.out.2.2], by rw [HS.out.1]; exact SrX.mt _, ((S2.out.all.setCell (p := ⟨w.heap.size, 0, none⟩) (Nat.le_refl _) _).setCell (p := ⟨w.heap.size, 1, none⟩) (Nat.le_refl _) _).setCell (p := ⟨w.heap.size, 2, none⟩) (Nat.le_refl _) _⟩
        · obtain rfl : k = LS.length := by omega
          have hnl : ¬ (LS.length : Int) < (LS.length : Int) := by omega
          have HEND := Lib.hid (lins_end HR.out)
          obtain ⟨st, op⟩ := st
          cases op with
          | true =>
            have HS : Hid (srcV s = src0 ∧ srcL s = (LS.length : Int) ∧ srcX s = 5) := by
              have h := src_open HNB.out (by rw [HLS.out]; exact HEND.out) rfl
              rw [HLS.out] at h
              exact h
            have r0 : wr.cell? ⟨w.heap.size, 0, none⟩ = some (.slice none 0 0) := SM.out.r.cell 0
            have r1 : wr.cell? ⟨w.heap.size, 1, none⟩ = some (.slice none 0 0) := SM.out.r.cell 1
            have r2 : wr.cell? ⟨w.heap.size, 2, none⟩ = some (.slice none 0 0) := SM.out.r.cell 2
            have rf0 : wr.frozen? ⟨w.heap.size, 0, none⟩ = false := SM.out.r.frozen 0
            have rf1 : wr.frozen? ⟨w.heap.size, 1, none⟩ = false := SM.out.r.frozen 1
            have rf2 : wr.frozen? ⟨w.heap.size, 2, none⟩ = false := SM.out.r.frozen 2
            have rl : w.heap.size < wr.heap.size := SM.out.r.lt
            go_wp2
            refine bodyPost_ret (v := .tuple #[.agg #[.slice none 0 0, .slice none 0 0, .slice none 0 0], .int .i64 ((LS.length : Int)), .int .i64 5]) (by simp [results, Tryz.results6, go_sem, r0, r1, r2, rl]) rfl ⟨_, _, _, by rw [HS.out.2.1, HS.out.2.2], by rw [HS.out.1]; exact SrX.mt _, ((SM.out.all.setCell (p := ⟨w.heap.size, 0, none⟩) (Nat.le_refl _) _).setCell (p := ⟨w.heap.size, 1, none⟩) (Nat.le_refl _) _).setCell (p := ⟨w.heap.size, 2, none⟩) (Nat.le_refl _) _⟩
          | false =>
            have HS : Hid (srcV s = st ∧ srcL s = 0 ∧ srcX s = 0) := src_shut (st := ⟨st, false⟩) HNB.out (by rw [HLS.out]; exact HEND.out) rfl
            have o0 : wr.cell? ⟨O, 0, none⟩ = some vr := SM.out.o.cell 0
            have o1 : wr.cell? ⟨O, 1, none⟩ = some vz := SM.out.o.cell 1
            have o2 : wr.cell? ⟨O, 2, none⟩ = some vl := SM.out.o.cell 2
            have oz : O < wr.heap.size := SM.out.o.lt
            obtain ⟨ar, cr, rfl, -⟩ := SM.out.s.read.1.shape
            obtain ⟨az, cz, rfl, -⟩ := SM.out.s.read.2.1.shape
            obtain ⟨ak, ck, rfl, -⟩ := SM.out.s.read.2.2.shape
            have r0 : wr.cell? ⟨w.heap.size, 0, none⟩ = some (.slice none 0 0) := SM.out.r.cell 0
            have r1 : wr.cell? ⟨w.heap.size, 1, none⟩ = some (.slice none 0 0) := SM.out.r.cell 1
            have r2 : wr.cell? ⟨w.heap.size, 2, none⟩ = some (.slice none 0 0) := SM.out.r.cell 2
            have rf0 : wr.frozen? ⟨w.heap.size, 0, none⟩ = false := SM.out.r.frozen 0
            have rf1 : wr.frozen? ⟨w.heap.size, 1, none⟩ = false := SM.out.r.frozen 1
            have rf2 : wr.frozen? ⟨w.heap.size, 2, none⟩ = false := SM.out.r.frozen 2
            have rl : w.heap.size < wr.heap.size := SM.out.r.lt
            go_wp2
            refine bodyPost_ret (v := .tuple #[.agg #[.slice ar st.rules.length cr, .slice az st.zones.length cz, .slice ak st.links.length ck], .int .i64 0, .int .i64 0]) (by simp [results, Tryz.results6, go_sem, r0, r1, r2, rl]) rfl ⟨_, _, _, by rw [HS.out.2.1, HS.out.2.2], by rw [HS.out.1]; exact SM.out.out3 _ _ _, ((SM.out.all.setCell (p := ⟨w.heap.size, 0, none⟩) (Nat.le_refl _) _).setCell (p := ⟨w.heap.size, 1, none⟩) (Nat.le_refl _) _).setCell (p := ⟨w.heap.size, 2, none⟩) (Nat.le_refl _) _⟩
end Go.Proofs.YtbciennhcdabeaaGreatDoor
