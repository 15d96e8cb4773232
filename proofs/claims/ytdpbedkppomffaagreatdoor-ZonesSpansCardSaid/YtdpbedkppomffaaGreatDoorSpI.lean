/-
  sundialref.SpansOf: the walk.
-/
import Derived.Deep.AppendLies
import Derived.Test.YtdpbedkppomffaaGreatDoorSpH
namespace Go.Proofs.YtdpbedkppomffaaGreatDoor
set_option linter.unusedVariables false
set_option linter.unusedSimpArgs false
open Go.ChangeShapes Go.WideShapes Go.ChangeAt Go.RowKit Civ

set_option maxHeartbeats 8000000 in
set_option maxRecDepth 100000 in
theorem SpansOf_any (s : Src) (n : ByteArray) (vr vz vl : Value) (w : World) (hs : SrcAt w vr vz vl s) :
    Calls Tryz.prog 13 #[.agg #[vr, vz, vl], .string n] w fun e w' => ∃ v, e = .returned (.tuple #[v, .int .i64 (spE s n)]) ∧ w'.ownsRow w.heap.size 102 4 v (spV s n).length ((spV s n).flatMap encQ) ∧ Below w.heap.size w w' := by
  obtain ⟨ij, hij, hj0, hj1, hj2⟩ := info_parts info_intz
  have C0 := Lib.hid (SrB.new w vr vz vl)
  obtain ⟨W0, hW0⟩ : ∃ W0, W0 = w.alloc (.cells #[vr, vz, vl] 26) := ⟨_, rfl⟩
  have S0 : Hid (BxO W0 w.heap.size #[vr, vz, vl] 26) := by show BxO _ _ _ _; rw [hW0]; exact BxO.new _ _ _
  rw [← hW0] at C0
  have HW := Lib.hid hW0
  have HS := Lib.hid hs
  have HSF := Lib.hid (fun wx (hb : Below w.heap.size w wx) => sourceFault_any s vr vz vl wx (hs.mono hb))
  have HLT := Lib.hid (fun wx (hb : Below w.heap.size w wx) => ledTo_any s vr vz vl 8 (by decide) n wx (hs.mono hb))
  obtain ⟨az, cz, rfl, hlz⟩ := hs.2.1.shape
  clear hs hW0 hlz
  obtain ⟨E, hE⟩ : ∃ E, E = srcE s := ⟨_, rfl⟩
  have HE := Lib.hid hE
  rw [← hE] at HSF
  clear hE
  obtain ⟨q0, q1, q2⟩ := C0.out.1
  go_enter Tryz.func13, Tryz.ntmps13
  go_upto_region 1 with fail
  rw [← HW.out]
  clear HW
  go_wp2_with fail
  refine (HSF.out _ C0.out.2.1).mono ?_; rintro e w1 ⟨rfl, hb1⟩
  have C1 := Lib.hid (C0.out.next hb1)
  have S1 : Hid (BxO w1 w.heap.size #[vr, .slice az s.zones.length cz, vl] 26) := (hb1.block _ S0.out.lt).trans S0.out
  clear hb1 q0 q1 q2 C0 S0 HSF
  by_cases h0 : E = 0
  · subst h0
    obtain ⟨q0, q1, q2⟩ := C1.out.1
    have hz1 : w.heap.size < w1.heap.size := S1.out.lt
    go_wp2_with fail
    refine (HLT.out _ C1.out.2.1).mono ?_; rintro e w2 ⟨rfl, hb2⟩
    have C2 := Lib.hid (C1.out.next hb2)
    have S2 : Hid (BxO w2 w.heap.size #[vr, .slice az s.zones.length cz, vl] 26) := (hb2.block _ S1.out.lt).trans S1.out
    clear hb2 q0 q1 q2 C1 S1 HLT hz1
    obtain ⟨q0, q1, q2⟩ := C2.out.1
    rcases folL_rng s 8 n with h | ⟨i, hi, h⟩
    · have HF : Hid (fndS s n = 6) := by show _ = _; unfold fndS; rw [← HE.out, if_neg (by simp), if_pos h]
      have HD : Hid (spE s n = 6) := by show _ = _; rw [spE_f (by rw [HF.out]; decide), HF.out]
      have HK : Hid (spV s n = []) := spV_n (by rw [HD.out]; decide)
      generalize folL s 8 n = k at *
      go_wp2_with fail
      go_ret2
      exact ⟨_, by rw [HD.out]; rfl, by rw [HK.out]; exact World.ownsRow_nil _ _ _ _, C2.out.2.1⟩
    · have HF : Hid (fndS s n = 0) := by show _ = _; unfold fndS; rw [← HE.out, if_neg (by simp), if_neg (by omega)]
      have HSP : Hid (spS s n = spnZ s.rules s.zones[i].eras) := by
        show _ = _
        unfold spS
        rw [h, Int.toNat_natCast, List.getElem?_eq_getElem hi]
      rw [h]
      clear h
      have hin : ¬ (i : Int) < 0 := by omega
      have HGZ := Lib.hid (gdZ_of (by rw [← HE.out]) i hi)
      obtain ⟨b, off, v, rfl, hb, ⟨D0, D1⟩, hx, hn⟩ := elemZon HS.out.2.1 i hi
      have d0 := (C2.out.2.1.cell (p := ⟨b, off + i * 2, none⟩) hb).trans D0
      have d1 := (C2.out.2.1.cell (p := ⟨b, off + i * 2 + 1, none⟩) hb).trans D1
      have hki : (i : Int) < (s.zones.length : Int) := by omega
      have HX := Lib.hid hx
      clear D0 D1 hx hn
      generalize s.zones[i] = z at *
      clear HE
      obtain ⟨ae, ce, rfl, hle⟩ := HX.out.shape
      obtain ⟨W3, hW3⟩ : ∃ W3, W3 = w2.alloc (.cells #[.string z.nm, .slice ae z.eras.length ce] 52) := ⟨_, rfl⟩
      have Z3 : Hid (BxO W3 w2.heap.size #[.string z.nm, .slice ae z.eras.length ce] 52) := by show BxO _ _ _ _; rw [hW3]; exact BxO.new _ _ _
      have S3 : Hid (BxO W3 w.heap.size #[vr, .slice (some ⟨b, off, none⟩) s.zones.length cz, vl] 26) := by show BxO _ _ _ _; rw [hW3]; exact S2.out.alloc _
      have B3 : Hid (Below w.heap.size w W3) := by show Below _ _ _; rw [hW3]; exact C2.out.2.1.alloc C2.out.2.1.size _
      have HW3 := Lib.hid hW3
      clear hW3
      go_upto_region 8 with fail
      rw [← HW3.out]
      clear HW3 C2 S2 q0 q1 q2 d0 d1 hb hki hin hi
      go_wp2_with fail
      refine (winOf _).mono ?_; rintro e w' ⟨rfl, rfl⟩
      obtain ⟨W4, hW4⟩ : ∃ W4, W4 = W3.alloc (.cells #[.int .i64 (-2208988800)] 3) := ⟨_, rfl⟩
      have T4 : Hid (TwB w W4 w2.heap.size W3.heap.size vr (.slice (some ⟨b, off, none⟩) s.zones.length cz) vl z.nm (.slice ae z.eras.length ce) (.slice (some ⟨W3.heap.size, 0, none⟩) 1 1) (.slice none 0 0) (atR s.rules z.eras 0) ((untL s.rules z.eras).take 0)) := by
        show TwB _ _ _ _ _ _ _ _ _ _ _ _ _
        rw [hW4]
        exact ⟨S3.out.alloc _, Z3.out.alloc _, World.ownsRow_lit W3 #[.int .i64 (-2208988800)] 1 (Nat.le_refl _) (by unfold maxLen; omega) rfl, World.ownsRow_nil _ _ _ _, fun g _ e => (by cases e), B3.out.alloc B3.out.size _, S3.out.lt, Z3.out.lt, by rw [size_alloc]; exact Nat.le_succ _⟩
      have HW4 := Lib.hid hW4
      have HZL : Hid (w2.heap.size < W3.heap.size) := Z3.out.lt
      clear hW4 S3 Z3 B3
      go_upto_region 10 with fail
      rw [← HW4.out]
      clear HW4
      obtain ⟨nn, hn⟩ : ∃ nn, z.eras.length = nn := ⟨_, rfl⟩
      have HNE := Lib.hid hn
      have hn20 : nn ≤ 20 := by rw [← hn]; exact HGZ.out.n20
      have HTLE : Hid (∀ x ∈ z.eras, (trE s.rules x).length ≤ 40000) := fun x hx => trE_len (HGZ.out.rok hx)
      rw [hn] at T4
      clear hn hle
      generalize W3.heap.size = D at *
      generalize w2.heap.size = B at *
      go_wp2_with fail
      go_loopw [11, 12, 13] (fun va vn vk wr => ∃ k : Nat, k ≤ nn ∧ vk = .int .i64 k ∧ Hid (TwB w wr B D vr (.slice (some ⟨b, off, none⟩) s.zones.length cz) vl z.nm (.slice ae nn ce) va vn (atR s.rules z.eras k) ((untL s.rules z.eras).take k))) (fun _ _ vk _ => (nn - intOf vk).toNat)
      case atStart => exact ⟨0, Nat.zero_le _, rfl, T4⟩
      case round =>
        obtain ⟨k, hk, rfl, TK⟩ := hrel
        have hkz : (k : Int) ≤ (nn : Int) := by omega
        by_cases hlt : k < nn
        · have hki : (k : Int) < (nn : Int) := by omega
          have hkx : k < z.eras.length := by rw [HNE.out]; exact hlt
          obtain ⟨b2, o2, rfl, hb2, hxe, -⟩ := elemEro HX.out k hkx
          have HLB : Hid (b2 < w.heap.size) := hb2
          have hmem : z.eras[k] ∈ z.eras := List.getElem_mem hkx
          have HAT := Lib.hid (atR_succ s.rules z.eras k hkx)
          have hal := atR_len s.rules z.eras HTLE.out k (Nat.le_of_lt hkx)
          have HROK := Lib.hid (HGZ.out.rok hmem)
          have HTLX := Lib.hid (HTLE.out _ hmem)
          have HEK : Hid (k + 1 < nn → EOk s z.eras[k]) := fun h => HGZ.out.k k (by rw [HNE.out]; exact h)
          have HUS : Hid (k + 1 < nn → (untL s.rules z.eras).take (k + 1) = (untL s.rules z.eras).take k ++ [endE s.rules z.eras[k]]) := fun h => untL_succ s.rules z.eras k (by rw [HNE.out]; exact h)
          have HUE : Hid (¬ k + 1 < nn → (untL s.rules z.eras).take (k + 1) = (untL s.rules z.eras).take k) := fun h => by
            have e : (untL s.rules z.eras).length ≤ k := by rw [untL_len, HNE.out]; omega
            rw [List.take_of_length_le (by omega), List.take_of_length_le e]
          have HLk : Hid (((untL s.rules z.eras).take k).length = k) := by show _ = _; rw [List.length_take, untL_len, HNE.out]; omega
          have HXE := Lib.hid (hxe.below TK.out.b hb2)
          have HXW := Lib.hid hxe
          rw [HNE.out] at HAT
          generalize z.eras[k] = x at *
          generalize atR s.rules z.eras k = LA at *
          generalize (untL s.rules z.eras).take k = LN at *
          clear hb2 hxe hmem hkx
          have hal2 : LA.length ≤ 1000000 := by omega
          clear hal
          have tw1 : IntKind.i64.wrap ((k : Int) + 1) = (k : Int) + 1 := IntWalk.i64_in _ (by omega)
          have z1 : wr.cell? ⟨B, 1, none⟩ = some (.slice (some ⟨b2, o2, none⟩) nn ce) := TK.out.z.cell 1
          obtain ⟨d0, d1, d2, d3, d4, d5, d6, d7, d8, d9, d10, d11⟩ := HXE.out
          have q0 : wr.cell? ⟨w.heap.size, 0, none⟩ = some vr := TK.out.s.cell 0
          have q1 : wr.cell? ⟨w.heap.size, 1, none⟩ = some (.slice (some ⟨b, off, none⟩) s.zones.length cz) := TK.out.s.cell 1
          have q2 : wr.cell? ⟨w.heap.size, 2, none⟩ = some vl := TK.out.s.cell 2
          obtain ⟨aa, ca, rfl⟩ := own_shape TK.out.a
          obtain ⟨an, cn, rfl⟩ := own_shape TK.out.n
          go_upto_if 60 with fail
          go_cut [11, 12] (fun va vn wx => Hid (TwB w wx B D vr (.slice (some ⟨b, off, none⟩) s.zones.length cz) vl z.nm (.slice (some ⟨b2, o2, none⟩) nn ce) va vn (if k + 1 < nn then LA ++ [endE s.rules x] else LA) ((untL s.rules z.eras).take (k + 1))))
          case first => as_aux_lemma =>
            by_cases hl1 : k + 1 < nn
            · have hl1i : (k : Int) + 1 < (nn : Int) := by omega
              have HEO := Lib.hid (fun wx (h : Below w.heap.size w wx) => endOf_any s x vr (.slice (some ⟨b, off, none⟩) s.zones.length cz) vl wx (HS.out.mono h) (HEK.out hl1))
              have HU := Lib.hid (HUS.out hl1)
              have hln : LN.length ≤ 20 := by rw [HLk.out]; omega
              generalize endE s.rules x = E at *
              clear HUS HUE HEK
              go_wp2_with fail
              go_region_law (first | (refine step_append_lies _ (by rfl) _ _ _ (by rfl) D 3 ij (.int .i64 0) 1 8 Tryz.underlying64 hij hj0 hj1 hj2 rfl (by decide) (.slice an LN.length cn) LN.length (LN.flatMap encJ) (by rfl) (T9.out.n.alloc _) ⟨w9.heap.size, 0, none⟩ 1 1 (encJ E) (by rfl) (by rfl) (cells_at _ _ _ _ _ rfl rfl) (by intro u hu; simp [encJ] at hu; subst hu; rfl) (by omega) (by unfold maxLen; omega) (by omega) (Nat.le_trans T9.out.d (by rw [size_alloc]; exact Nat.le_succ _)) (w9.heap.size + 1) (size_alloc _ _) ?_; intro gg cap6 w6 hown1 hgrow hat hltg; have T6 := Lib.hid (T9.out.putN (y := E) (vn' := .slice (some ⟨gg, 0, none⟩) (LN.length + 1) cap6) hown1 hgrow (by rcases hat with h | h; exact .inl h; exact .inr (by rw [size_alloc]; exact congrArg some h))); clear hown1 hgrow hat) | (go_simp; refine (HEO.out _ (by first | exact TK.out.b | exact TK.out.b.drew)).mono ?_; rintro r5 w9 ⟨rfl, hb9⟩; have T9 := Lib.hid (TK.out.next (show Below wr.heap.size wr w9 from by first | exact hb9 | exact ((Below.refl _ _).drew).trans hb9)); clear hb9))
              all_goals
                obtain ⟨bn6, e6, hbn6, cn6⟩ := ent_of_own (show w6.ownsRow D 3 1 (.slice (some ⟨gg, 0, none⟩) (LN ++ [E]).length cap6) (LN ++ [E]).length ((LN ++ [E]).flatMap encJ) from by have h := T6.out.n; rw [List.length_append, List.length_singleton] at h ⊢; exact h) k (by rw [List.length_append, List.length_singleton, HLk.out]; exact Nat.lt_succ_self _)
                simp only [Option.some.injEq, Addr.mk.injEq, and_true] at e6
                subst e6
                have ce6 : w6.cell? ⟨gg, k, none⟩ = some (.int .i64 E) := by
                  rw [cn6]
                  congr 2
                  rw [List.getElem_append_right (by rw [HLk.out]; exact Nat.le_refl _)]
                  simp [HLk.out]
                have hk6 : (k : Int) < ((LN.length + 1 : Nat) : Int) := by rw [HLk.out]; omega
                have hk7 : (k : Int) < (LN.length : Int) + 1 := by rw [HLk.out]; omega
                clear cn6 q0 q1 q2 d0 d1 d2 d3 d4 d5 d6 d7 d8 d9 d10 d11 z1
                go_wp2_with (at_builtin; refine wpList_append_own_at _ rfl (.tmp 71) (.tmp 76) 64 rfl D 3 ij (.int .i64 0) 1 8 Tryz.underlying64 hij hj0 hj1 hj2 rfl (by decide) (.slice aa LA.length ca) LA.length (LA.flatMap encJ) rfl (T6.out.a.alloc _) ⟨w6.heap.size, 0, none⟩ 1 1 (encJ E) rfl rfl (cells_at _ _ _ _ _ rfl rfl) (by intro u hu; simp [encJ] at hu; subst hu; rfl) (by unfold maxLen; omega) (by omega) (Nat.le_trans T6.out.d (by rw [size_alloc]; exact Nat.le_succ _)) ?_; intro v7 w7 hown hgrow _ hfr; have T7 := Lib.hid (T6.out.putA (y := E) hown hgrow hfr); clear hown hgrow hfr)
                go_meet
                show TwB _ _ _ _ _ _ _ _ _ _ _ _ _
                rw [if_pos hl1, HU.out]
                exact T7.out
            · have hl1i : ¬ (k : Int) + 1 < (nn : Int) := by omega
              have HU := Lib.hid (HUE.out hl1)
              clear q0 q1 q2 d0 d1 d2 d3 d4 d5 d6 d7 d8 d9 d10 d11
              go_wp2_with fail
              go_meet
              show TwB _ _ _ _ _ _ _ _ _ _ _ _ _
              rw [if_neg hl1, HU.out]
              exact TK.out
          case rest => as_aux_lemma =>
            clear q0 q1 q2 d0 d1 d2 d3 d4 d5 d6 d7 d8 d9 d10 d11 z1
            have TC := Lib.hid hcut.out
            obtain ⟨L0, hL0⟩ : ∃ L0, (if k + 1 < nn then LA ++ [endE s.rules x] else LA) = L0 := ⟨_, rfl⟩
            obtain ⟨LN2, hLN⟩ : ∃ LN2, (untL s.rules z.eras).take (k + 1) = LN2 := ⟨_, rfl⟩
            rw [hL0, hLN] at TC
            rw [hL0] at HAT
            have hl0 : L0.length ≤ 1000001 := by
              rw [← hL0]
              split
              · rw [List.length_append, List.length_singleton]; omega
              · omega
            have HLN := Lib.hid hLN
            clear hcut hL0 hLN TK HUS HUE HEK HLk
            have XC := Lib.hid (HXW.out.below TC.out.b HLB.out)
            have q0 : wc.cell? ⟨w.heap.size, 0, none⟩ = some vr := TC.out.s.cell 0
            have q1 : wc.cell? ⟨w.heap.size, 1, none⟩ = some (.slice (some ⟨b, off, none⟩) s.zones.length cz) := TC.out.s.cell 1
            have q2 : wc.cell? ⟨w.heap.size, 2, none⟩ = some vl := TC.out.s.cell 2
            have z1 : wc.cell? ⟨B, 1, none⟩ = some (.slice (some ⟨b2, o2, none⟩) nn ce) := TC.out.z.cell 1
            obtain ⟨d0, d1, d2, d3, d4, d5, d6, d7, d8, d9, d10, d11⟩ := XC.out
            have HTU := Lib.hid (fun wx (h : Below w.heap.size w wx) => turns_own s x vr (.slice (some ⟨b, off, none⟩) s.zones.length cz) vl wx (HS.out.mono h) HROK.out)
            obtain ⟨T, hT⟩ : ∃ T, trE s.rules x = T := ⟨_, rfl⟩
            rw [hT] at HTU HTLX HAT
            have HTT := Lib.hid hT
            clear hT
            have hTl : T.length ≤ 40000 := HTLX.out
            go_wp2
            go_region_held3 (fun w' => w'.cell? ⟨w.heap.size, 0, none⟩ = some vr ∧ w'.cell? ⟨w.heap.size, 1, none⟩ = some (.slice (some ⟨b, off, none⟩) s.zones.length cz) ∧ w'.cell? ⟨w.heap.size, 2, none⟩ = some vl ∧ w'.cell? ⟨B, 1, none⟩ = some (.slice (some ⟨b2, o2, none⟩) nn ce) ∧ w'.cell? ⟨b2, o2 + k * 12, none⟩ = some (.int .i64 x.off) ∧ w'.cell? ⟨b2, o2 + k * 12 + 1, none⟩ = some (.string x.rl) ∧ w'.cell? ⟨b2, o2 + k * 12 + 2, none⟩ = some (.int .i64 x.sv) ∧ w'.cell? ⟨b2, o2 + k * 12 + 3, none⟩ = some (.string x.fm) ∧ w'.cell? ⟨b2, o2 + k * 12 + 4, none⟩ = some (.bool x.en) ∧ w'.cell? ⟨b2, o2 + k * 12 + 5, none⟩ = some (.int .i64 x.yr) ∧ w'.cell? ⟨b2, o2 + k * 12 + 6, none⟩ = some (.int .i64 x.un.mo) ∧ w'.cell? ⟨b2, o2 + k * 12 + 7, none⟩ = some (.int .i64 x.un.k) ∧ w'.cell? ⟨b2, o2 + k * 12 + 8, none⟩ = some (.int .i64 x.un.a) ∧ w'.cell? ⟨b2, o2 + k * 12 + 9, none⟩ = some (.int .i64 x.un.n) ∧ w'.cell? ⟨b2, o2 + k * 12 + 10, none⟩ = some (.int .i64 x.un.t) ∧ w'.cell? ⟨b2, o2 + k * 12 + 11, none⟩ = some (.int .i64 x.un.c)) (first | (with_reducible exact ⟨q0, q1, q2, z1, d0, d1, d2, d3, d4, d5, d6, d7, d8, d9, d10, d11⟩) | (with_reducible exact ⟨r0, r1, r2, z2, s0, s1, s2, s3, s4, s5, s6, s7, s8, s9, s10, s11⟩) | go_keep) ((go_at_call 40; refine (HTU.out _ (by first | exact TC.out.b | exact TC.out.b.drew)).mono ?_; rintro e w9 ⟨v9, rfl, ⟨h9, hf9⟩, hb9⟩; have HB9 : Hid (Below wc.heap.size wc w9) := (by first | exact hb9 | exact ((Below.refl _ _).drew).trans hb9); have T9 := Lib.hid (TC.out.next HB9.out); have TR9 := Lib.hid (TrA.new h9 hf9 TC.out.a); have X9 := Lib.hid (XC.out.below HB9.out (Nat.lt_of_lt_of_le HLB.out TC.out.b.size)); obtain ⟨s0, s1, s2, s3, s4, s5, s6, s7, s8, s9, s10, s11⟩ := X9.out; have r0 : w9.cell? ⟨w.heap.size, 0, none⟩ = some vr := T9.out.s.cell 0; have r1 : w9.cell? ⟨w.heap.size, 1, none⟩ = some (.slice (some ⟨b, off, none⟩) s.zones.length cz) := T9.out.s.cell 1; have r2 : w9.cell? ⟨w.heap.size, 2, none⟩ = some vl := T9.out.s.cell 2; have z2 : w9.cell? ⟨B, 1, none⟩ = some (.slice (some ⟨b2, o2, none⟩) nn ce) := T9.out.z.cell 1; clear hb9 h9 hf9))
            clear q0 q1 q2 z1 d0 d1 d2 d3 d4 d5 d6 d7 d8 d9 d10 d11 r0 r1 r2 z2 s0 s1 s2 s3 s4 s5 s6 s7 s8 s9 s10 s11
            obtain ⟨aT, cT, rfl, -⟩ := TR9.out.sl.shape
            go_wp2_with fail
            go_loopw [11, 15] (fun va vj wr => ∃ j : Nat, j ≤ T.length ∧ vj = .int .i64 j ∧ Hid (TwB w wr B D vr (.slice (some ⟨b, off, none⟩) s.zones.length cz) vl z.nm (.slice (some ⟨b2, o2, none⟩) nn ce) va u12 (L0 ++ (T.take j).map Trn.ins) LN2) ∧ Hid (TrA wr va (.slice aT T.length cT) T)) (fun _ vj _ => (T.length - intOf vj).toNat)
            case atStart => exact ⟨0, Nat.zero_le _, rfl, by simpa using T9, TR9⟩
            case round =>
              obtain ⟨j, hj, rfl, TJ, RJ⟩ := hrel
              by_cases hjt : j < T.length
              · have hji : (j : Int) < (T.length : Int) := by omega
                obtain ⟨bt, ot, rfl, hbt, ⟨-, -, -, -, -, -, -, -, -, -, -, -, y12⟩⟩ := elemTur RJ.out.sl j hjt
                have HN : Hid (L0 ++ (T.take (j + 1)).map Trn.ins = (L0 ++ (T.take j).map Trn.ins) ++ [T[j].ins]) := by
                  show _ = _
                  rw [List.take_succ_eq_append_getElem hjt, List.map_append, List.append_assoc]
                  rfl
                have hLl : (L0 ++ (T.take j).map Trn.ins).length ≤ 1050000 := by rw [List.length_append, List.length_map, List.length_take]; omega
                generalize L0 ++ (T.take j).map Trn.ins = L at *
                generalize T[j].ins = ti at *
                obtain ⟨aa, ca, rfl⟩ := own_shape TJ.out.a
                go_wp2_with (at_builtin; refine wpList_append_own_at _ rfl (.tmp 91) (.tmp 97) 64 rfl D 3 ij (.int .i64 0) 1 8 Tryz.underlying64 hij hj0 hj1 hj2 rfl (by decide) (.slice aa L.length ca) L.length (L.flatMap encJ) rfl (TJ.out.a.alloc _) ⟨wr.heap.size, 0, none⟩ 1 1 (encJ ti) rfl rfl (cells_at _ _ _ _ _ rfl rfl) (by intro u hu; simp [encJ] at hu; subst hu; rfl) (by unfold maxLen; omega) (by omega) (Nat.le_trans TJ.out.d (by rw [size_alloc]; exact Nat.le_succ _)) ?_; intro v7 w7 hown hgrow _ hfr; have T7 := Lib.hid (TJ.out.putA (y := ti) hown hgrow hfr); have R7 := Lib.hid (RJ.out.put hgrow hfr); clear hown hgrow hfr)
                go_roundw
                case rel => exact ⟨j + 1, by omega, by go_num, by rw [HN.out]; exact T7, R7⟩
                case measure => simp [intOf]; omega
              · obtain rfl : j = T.length := by omega
                have hnl : ¬ (T.length : Int) < (T.length : Int) := by omega
                have TJ2 := Lib.hid TJ.out
                rw [List.take_length, ← HAT.out, ← HLN.out] at TJ2
                go_wp2_with fail
                go_roundw
                case rel => exact ⟨k + 1, by omega, by go_num, TJ2⟩
                case measure => simp [intOf]; omega
        · obtain rfl : k = nn := by omega
          have hnl : ¬ (k : Int) < (k : Int) := by omega
          have z1 : wr.cell? ⟨B, 1, none⟩ = some (.slice ae k ce) := TK.out.z.cell 1
          have hBl : B < wr.heap.size := TK.out.z.lt
          have hal := atR_len s.rules z.eras HTLE.out k (by rw [HNE.out]; exact Nat.le_refl _)
          have HPA : Hid (spR s.rules z.eras (srtC (atR s.rules z.eras k)) (srtC (atR s.rules z.eras k)).length = spnR s.rules z.eras (untL s.rules z.eras)) := by
            show _ = _
            have := spR_all s.rules z.eras
            rw [HNE.out] at this
            exact this
          have TK1 := Lib.hid TK.out
          rw [List.take_of_length_le (by rw [untL_len, HNE.out]; omega)] at TK1
          have hPl := srtC_len (atR s.rules z.eras k)
          obtain ⟨aa, ca, rfl⟩ := own_shape TK1.out.a
          have HSO := Lib.hid (sorted_any _ _ wr (by omega) (rj_of_own TK1.out.a))
          generalize srtC (atR s.rules z.eras k) = P at *
          generalize atR s.rules z.eras k = LA at *
          have hP1 : P.length ≤ 1000000 := by omega
          clear TK hal hPl hlt hk hkz T4
          go_wp2_with fail
          refine HSO.out.mono ?_; rintro e w5 ⟨vP, rfl, hp5, hb5⟩
          have T5 := Lib.hid (TK1.out.next hb5)
          have P5 := Lib.hid hp5
          obtain ⟨aP, cP, rfl, -⟩ := hp5.shape
          clear hp5 hb5 z1 hBl TK1 HSO hnl
          have z1 : w5.cell? ⟨B, 1, none⟩ = some (.slice ae k ce) := T5.out.z.cell 1
          have hBl : B < w5.heap.size := T5.out.z.lt
          have hkc : (k : Int) ≤ 20 := by omega
          have hmkA := run_make_row' (P := Tryz.prog) 99 94 (.slice none 0 0) 24 Tryz.underlying99 info_tus rfl .i64 .i64 k (by omega) (by omega)
          have hmkS := run_make_row' (P := Tryz.prog) 64 3 (.int .i64 0) 8 Tryz.underlying64 info_int rfl .i64 .i64 k (by omega) (by omega)
          have hmkX := run_make_row' (P := Tryz.prog) 44 9 (.string ⟨#[]⟩) 16 Tryz.underlying44 info_str rfl .i64 .i64 k (by omega) (by omega)
          obtain ⟨an, cn, rfl⟩ := own_shape T5.out.n
          have A0 := Lib.hid (ArB.new w5 k)
          go_upto_region 27 with fail
          obtain ⟨W6, hW6⟩ : ∃ W6, W6 = ((w5.alloc (.cells (madeCells #[.slice none 0 0] k) 94)).alloc (.cells (madeCells #[.int .i64 0] k) 3)).alloc (.cells (madeCells #[.string ⟨#[]⟩] k) 9) := ⟨_, rfl⟩
          rw [← hW6] at A0 ⊢
          clear hW6 hmkA hmkS hmkX z1 hBl
          obtain ⟨N, hN⟩ : ∃ N, untL s.rules z.eras = N := ⟨_, rfl⟩
          rw [hN] at T5 HPA ⊢
          have HN := Lib.hid hN
          clear hN
          go_wp2_with fail
          go_loopw [20] (fun vk wr => ∃ (j : Nat) (vs : List Value), j ≤ k ∧ vk = .int .i64 j ∧ vs.length = j ∧ Hid (ArB w5 wr w5.heap.size k vs ((z.eras.take j).map (svV s.rules)) ((z.eras.take j).map (txV s.rules))) ∧ Hid (TrS s.rules z.eras wr vs)) (fun vk _ => (k - intOf vk).toNat)
          case atStart => exact ⟨0, [], Nat.zero_le _, rfl, rfl, A0, ⟨Nat.zero_le _, fun j h => absurd h (Nat.not_lt_zero _)⟩⟩
          case round =>
            clear A0
            obtain ⟨j, vs, hj, rfl, hvs, AJ, RJ⟩ := hrel
            have HBJ : Hid (Below w.heap.size w wr) := T5.out.b.trans (AJ.out.b.mono T5.out.b.size)
            have HSB : Hid (BxO wr w.heap.size #[vr, .slice (some ⟨b, off, none⟩) s.zones.length cz, vl] 26) := (AJ.out.b.block _ T5.out.s.lt).trans T5.out.s
            have HZB : Hid (BxO wr B #[.string z.nm, .slice ae k ce] 52) := (AJ.out.b.block _ T5.out.z.lt).trans T5.out.z
            have z1 : wr.cell? ⟨B, 1, none⟩ = some (.slice ae k ce) := HZB.out.cell 1
            by_cases hjk : j < k
            · as_aux_lemma =>
              have hji : (j : Int) < (k : Int) := by omega
              have hjx : j < z.eras.length := by rw [HNE.out]; exact hjk
              obtain ⟨b2, o2, rfl, hb2, hxe, -⟩ := elemEro HX.out j hjx
              have HLB : Hid (b2 < w.heap.size) := hb2
              have HROK := Lib.hid (HGZ.out.rok (List.getElem_mem hjx))
              have HTU := Lib.hid (fun wx (h : Below w.heap.size w wx) => turns_any s z.eras[j] vr (.slice (some ⟨b, off, none⟩) s.zones.length cz) vl wx (HS.out.mono h) HROK.out)
              have HSO := Lib.hid (fun wx (h : Below w.heap.size w wx) => stateOf_any s z.eras[j] farT vr (.slice (some ⟨b, off, none⟩) s.zones.length cz) vl wx (HS.out.mono h) HROK.out)
              have HTK1 : Hid ((z.eras.take (j + 1)).map (svV s.rules) = (z.eras.take j).map (svV s.rules) ++ [svV s.rules z.eras[j]]) := by show _ = _; rw [List.take_succ_eq_append_getElem hjx, List.map_append]; rfl
              have HTK2 : Hid ((z.eras.take (j + 1)).map (txV s.rules) = (z.eras.take j).map (txV s.rules) ++ [txV s.rules z.eras[j]]) := by show _ = _; rw [List.take_succ_eq_append_getElem hjx, List.map_append]; rfl
              have HSV : Hid (svV s.rules z.eras[j] = .int .i64 (stL s.rules z.eras[j] (trE s.rules z.eras[j]) farT).1) := rfl
              have HTX : Hid (txV s.rules z.eras[j] = .string (stL s.rules z.eras[j] (trE s.rules z.eras[j]) farT).2) := rfl
              have HTE : Hid (∀ v wx, SlAt wx 13 RTur v (trE s.rules z.eras[j]) → TrS s.rules z.eras wx vs → TrS s.rules z.eras wx (vs ++ [v])) := by
                show ∀ v wx, _ → _ → _
                intro v wx h1 h2
                exact h2.snoc (by omega) (by simpa only [hvs] using h1)
              have HXW := Lib.hid hxe
              have hl1 : ((z.eras.take j).map (svV s.rules)).length = j := by rw [List.length_map, List.length_take]; omega
              have hl2 : ((z.eras.take j).map (txV s.rules)).length = j := by rw [List.length_map, List.length_take]; omega
              have HNS : Hid (∀ u ∈ (z.eras.take j).map (svV s.rules), ¬ isStr u) := svV_not
              have HNT : Hid (∀ u ∈ (z.eras.take j).map (txV s.rules), ¬ isInt u) := txV_not
              generalize (z.eras.take j).map (svV s.rules) = sv at *
              generalize (z.eras.take j).map (txV s.rules) = tx at *
              generalize svV s.rules z.eras[j] = svj at *
              generalize txV s.rules z.eras[j] = txj at *
              generalize z.eras[j] = x at *
              generalize stL s.rules x (trE s.rules x) farT = PF at *
              generalize trE s.rules x = T at *
              obtain ⟨sv1, tx1⟩ := PF
              dsimp only at HSO HSV HTX
              clear hb2 hxe hjx
              have q0 : wr.cell? ⟨w.heap.size, 0, none⟩ = some vr := HSB.out.cell 0
              have q1 : wr.cell? ⟨w.heap.size, 1, none⟩ = some (.slice (some ⟨b, off, none⟩) s.zones.length cz) := HSB.out.cell 1
              have q2 : wr.cell? ⟨w.heap.size, 2, none⟩ = some vl := HSB.out.cell 2
              have X0 := Lib.hid (HXW.out.below HBJ.out HLB.out)
              obtain ⟨d0, d1, d2, d3, d4, d5, d6, d7, d8, d9, d10, d11⟩ := X0.out
              have nA0 : w5.heap.size ≠ w.heap.size := by have := T5.out.s.lt; omega
              have nA1 : w5.heap.size ≠ B := by have := T5.out.z.lt; omega
              have nA2 : w5.heap.size ≠ b2 := by have := T5.out.s.lt; have := HLB.out; omega
              go_wp2
              go_region_held3 (fun w' => w'.cell? ⟨w.heap.size, 0, none⟩ = some vr ∧ w'.cell? ⟨w.heap.size, 1, none⟩ = some (.slice (some ⟨b, off, none⟩) s.zones.length cz) ∧ w'.cell? ⟨w.heap.size, 2, none⟩ = some vl ∧ w'.cell? ⟨B, 1, none⟩ = some (.slice (some ⟨b2, o2, none⟩) k ce) ∧ w'.cell? ⟨b2, o2 + j * 12, none⟩ = some (.int .i64 x.off) ∧ w'.cell? ⟨b2, o2 + j * 12 + 1, none⟩ = some (.string x.rl) ∧ w'.cell? ⟨b2, o2 + j * 12 + 2, none⟩ = some (.int .i64 x.sv) ∧ w'.cell? ⟨b2, o2 + j * 12 + 3, none⟩ = some (.string x.fm) ∧ w'.cell? ⟨b2, o2 + j * 12 + 4, none⟩ = some (.bool x.en) ∧ w'.cell? ⟨b2, o2 + j * 12 + 5, none⟩ = some (.int .i64 x.yr) ∧ w'.cell? ⟨b2, o2 + j * 12 + 6, none⟩ = some (.int .i64 x.un.mo) ∧ w'.cell? ⟨b2, o2 + j * 12 + 7, none⟩ = some (.int .i64 x.un.k) ∧ w'.cell? ⟨b2, o2 + j * 12 + 8, none⟩ = some (.int .i64 x.un.a) ∧ w'.cell? ⟨b2, o2 + j * 12 + 9, none⟩ = some (.int .i64 x.un.n) ∧ w'.cell? ⟨b2, o2 + j * 12 + 10, none⟩ = some (.int .i64 x.un.t) ∧ w'.cell? ⟨b2, o2 + j * 12 + 11, none⟩ = some (.int .i64 x.un.c)) (first | (with_reducible exact ⟨q0, q1, q2, z1, d0, d1, d2, d3, d4, d5, d6, d7, d8, d9, d10, d11⟩) | (with_reducible exact ⟨r0, r1, r2, z2, s0, s1, s2, s3, s4, s5, s6, s7, s8, s9, s10, s11⟩) | go_keep) ((go_at_call 40; refine (HTU.out _ (by first | exact HBJ.out | exact HBJ.out.drew)).mono ?_; rintro e w9 ⟨v9, rfl, h9, hb9⟩; obtain ⟨a9, c9, rfl, -⟩ := h9.shape; have HB9 : Hid (Below wr.heap.size wr w9) := (by first | exact hb9 | exact ((Below.refl _ _).drew).trans hb9); have A9 := Lib.hid (AJ.out.next HB9.out); have R9 := Lib.hid (RJ.out.next HB9.out); have V9 := Lib.hid h9; have X9 := Lib.hid (X0.out.below HB9.out (Nat.lt_of_lt_of_le HLB.out HBJ.out.size)); obtain ⟨s0, s1, s2, s3, s4, s5, s6, s7, s8, s9, s10, s11⟩ := X9.out; have HS9 : Hid (BxO w9 w.heap.size #[vr, .slice (some ⟨b, off, none⟩) s.zones.length cz, vl] 26) := (HB9.out.block _ HSB.out.lt).trans HSB.out; have HZ9 : Hid (BxO w9 B #[.string z.nm, .slice (some ⟨b2, o2, none⟩) k ce] 52) := (HB9.out.block _ HZB.out.lt).trans HZB.out; have r0 : w9.cell? ⟨w.heap.size, 0, none⟩ = some vr := HS9.out.cell 0; have r1 : w9.cell? ⟨w.heap.size, 1, none⟩ = some (.slice (some ⟨b, off, none⟩) s.zones.length cz) := HS9.out.cell 1; have r2 : w9.cell? ⟨w.heap.size, 2, none⟩ = some vl := HS9.out.cell 2; have z2 : w9.cell? ⟨B, 1, none⟩ = some (.slice (some ⟨b2, o2, none⟩) k ce) := HZ9.out.cell 1; have y0 : w9.cell? ⟨w5.heap.size, j, none⟩ = some (.slice none 0 0) := (A9.out.a.cell j).trans (by rw [← hvs]; exact padV_z _ _ _ (by omega)); have y1 : w9.frozen? ⟨w5.heap.size, j, none⟩ = false := A9.out.a.frozen j; have y2 : w5.heap.size < w9.heap.size := A9.out.a.lt; clear hb9 h9))
              obtain ⟨wA, hwA⟩ : ∃ wA, wA = w9.setCell ⟨w5.heap.size, j, none⟩ (.slice a9 T.length c9) := ⟨_, rfl⟩
              have AA : Hid (ArB w5 wA w5.heap.size k (vs ++ [.slice a9 T.length c9]) sv tx) := by
                show ArB _ _ _ _ _ _ _
                rw [hwA]
                have h := A9.out.putA (.slice a9 T.length c9) (by omega)
                rw [hvs] at h
                exact h
              have hns : ∀ (i : Nat) (u : Value), (padV vs k (.slice none 0 0))[i]? = some u → ¬ isStr u := padV_not (fun u hu => (R9.out.nstr u hu).1) (fun ⟨_, e⟩ => (by cases e))
              have RA : Hid (TrS s.rules z.eras wA (vs ++ [.slice a9 T.length c9])) := by
                show TrS _ _ _ _
                rw [hwA]
                refine HTE.out _ _ (V9.out.aside isStr (j := 0) (b := w5.heap.size) (by decide) RTur_str (fun i u hu => hns i u (by rw [A9.out.a.cell i] at hu; exact hu)) (fun c _ hc => Below.heap_setCell _ _ _ _ hc) (by rw [World.size_setCell]; exact Nat.le_refl _)) (R9.out.set A9.out.a isStr (j := 0) (by decide) RTur_str hns)
              have HBA : Hid (Below w.heap.size w wA) := T5.out.b.trans (AA.out.b.mono T5.out.b.size)
              have HSA : Hid (BxO wA w.heap.size #[vr, .slice (some ⟨b, off, none⟩) s.zones.length cz, vl] 26) := (AA.out.b.block _ T5.out.s.lt).trans T5.out.s
              have HZA : Hid (BxO wA B #[.string z.nm, .slice (some ⟨b2, o2, none⟩) k ce] 52) := (AA.out.b.block _ T5.out.z.lt).trans T5.out.z
              have HWA := Lib.hid hwA
              have XA := Lib.hid (HXW.out.below HBA.out HLB.out)
              clear hwA hns q0 q1 q2 z1 d0 d1 d2 d3 d4 d5 d6 d7 d8 d9 d10 d11 r0 r1 r2 z2 s0 s1 s2 s3 s4 s5 s6 s7 s8 s9 s10 s11 y0 y1 y2 nA0 A9 R9 V9 X9 HS9 HZ9 HB9 AJ RJ HTU X0 HSB HZB HBJ
              obtain ⟨d0, d1, d2, d3, d4, d5, d6, d7, d8, d9, d10, d11⟩ := XA.out
              have q0 : wA.cell? ⟨w.heap.size, 0, none⟩ = some vr := HSA.out.cell 0
              have q1 : wA.cell? ⟨w.heap.size, 1, none⟩ = some (.slice (some ⟨b, off, none⟩) s.zones.length cz) := HSA.out.cell 1
              have q2 : wA.cell? ⟨w.heap.size, 2, none⟩ = some vl := HSA.out.cell 2
              have z1 : wA.cell? ⟨B, 1, none⟩ = some (.slice (some ⟨b2, o2, none⟩) k ce) := HZA.out.cell 1
              have nB0 : w5.heap.size + 1 ≠ w.heap.size := by have := T5.out.s.lt; omega
              have nB1 : w5.heap.size + 1 ≠ B := by have := T5.out.z.lt; omega
              have nB2 : w5.heap.size + 1 ≠ b2 := by have := T5.out.s.lt; have := HLB.out; omega
              have nC0 : w5.heap.size + 1 + 1 ≠ w.heap.size := by have := T5.out.s.lt; omega
              have nC1 : w5.heap.size + 1 + 1 ≠ B := by have := T5.out.z.lt; omega
              have nC2 : w5.heap.size + 1 + 1 ≠ b2 := by have := T5.out.s.lt; have := HLB.out; omega
              clear nA1 nA2
              go_upto_region 31 with fail
              rw [← HWA.out]
              clear HWA
              go_region_held3 (fun w' => w'.cell? ⟨w.heap.size, 0, none⟩ = some vr ∧ w'.cell? ⟨w.heap.size, 1, none⟩ = some (.slice (some ⟨b, off, none⟩) s.zones.length cz) ∧ w'.cell? ⟨w.heap.size, 2, none⟩ = some vl ∧ w'.cell? ⟨B, 1, none⟩ = some (.slice (some ⟨b2, o2, none⟩) k ce) ∧ w'.cell? ⟨b2, o2 + j * 12, none⟩ = some (.int .i64 x.off) ∧ w'.cell? ⟨b2, o2 + j * 12 + 1, none⟩ = some (.string x.rl) ∧ w'.cell? ⟨b2, o2 + j * 12 + 2, none⟩ = some (.int .i64 x.sv) ∧ w'.cell? ⟨b2, o2 + j * 12 + 3, none⟩ = some (.string x.fm) ∧ w'.cell? ⟨b2, o2 + j * 12 + 4, none⟩ = some (.bool x.en) ∧ w'.cell? ⟨b2, o2 + j * 12 + 5, none⟩ = some (.int .i64 x.yr) ∧ w'.cell? ⟨b2, o2 + j * 12 + 6, none⟩ = some (.int .i64 x.un.mo) ∧ w'.cell? ⟨b2, o2 + j * 12 + 7, none⟩ = some (.int .i64 x.un.k) ∧ w'.cell? ⟨b2, o2 + j * 12 + 8, none⟩ = some (.int .i64 x.un.a) ∧ w'.cell? ⟨b2, o2 + j * 12 + 9, none⟩ = some (.int .i64 x.un.n) ∧ w'.cell? ⟨b2, o2 + j * 12 + 10, none⟩ = some (.int .i64 x.un.t) ∧ w'.cell? ⟨b2, o2 + j * 12 + 11, none⟩ = some (.int .i64 x.un.c)) (first | (with_reducible exact ⟨q0, q1, q2, z1, d0, d1, d2, d3, d4, d5, d6, d7, d8, d9, d10, d11⟩) | (with_reducible exact ⟨r0, r1, r2, z2, s0, s1, s2, s3, s4, s5, s6, s7, s8, s9, s10, s11⟩) | go_keep) ((go_at_call 42; refine (HSO.out _ (by first | exact HBA.out | exact HBA.out.drew)).mono ?_; rintro e w9 ⟨rfl, hb9⟩; have HB9 : Hid (Below wA.heap.size wA w9) := (by first | exact hb9 | exact ((Below.refl _ _).drew).trans hb9); have A9 := Lib.hid (AA.out.next HB9.out); have R9 := Lib.hid (RA.out.next HB9.out); have X9 := Lib.hid (XA.out.below HB9.out (Nat.lt_of_lt_of_le HLB.out HBA.out.size)); obtain ⟨s0, s1, s2, s3, s4, s5, s6, s7, s8, s9, s10, s11⟩ := X9.out; have HS9 : Hid (BxO w9 w.heap.size #[vr, .slice (some ⟨b, off, none⟩) s.zones.length cz, vl] 26) := (HB9.out.block _ HSA.out.lt).trans HSA.out; have HZ9 : Hid (BxO w9 B #[.string z.nm, .slice (some ⟨b2, o2, none⟩) k ce] 52) := (HB9.out.block _ HZA.out.lt).trans HZA.out; have r0 : w9.cell? ⟨w.heap.size, 0, none⟩ = some vr := HS9.out.cell 0; have r1 : w9.cell? ⟨w.heap.size, 1, none⟩ = some (.slice (some ⟨b, off, none⟩) s.zones.length cz) := HS9.out.cell 1; have r2 : w9.cell? ⟨w.heap.size, 2, none⟩ = some vl := HS9.out.cell 2; have z2 : w9.cell? ⟨B, 1, none⟩ = some (.slice (some ⟨b2, o2, none⟩) k ce) := HZ9.out.cell 1; have y0 : w9.cell? ⟨w5.heap.size + 1, j, none⟩ = some (.int .i64 0) := (A9.out.s.cell j).trans (by rw [← hl1]; exact padV_z _ _ _ (by omega)); have y1 : w9.frozen? ⟨w5.heap.size + 1, j, none⟩ = false := A9.out.s.frozen j; have y2 : w5.heap.size + 1 < w9.heap.size := A9.out.s.lt; have y3 : w9.cell? ⟨w5.heap.size + 1 + 1, j, none⟩ = some (.string ⟨#[]⟩) := (A9.out.x.cell j).trans (by rw [← hl2]; exact padV_z _ _ _ (by omega)); have y4 : w9.frozen? ⟨w5.heap.size + 1 + 1, j, none⟩ = false := A9.out.x.frozen j; have y5 : w5.heap.size + 1 + 1 < w9.heap.size := A9.out.x.lt; clear hb9))
              have AX : Hid (ArB w5 ((w9.setCell ⟨w5.heap.size + 1, j, none⟩ (.int .i64 sv1)).setCell ⟨w5.heap.size + 1 + 1, j, none⟩ (.string tx1)) w5.heap.size k (vs ++ [.slice a9 T.length c9]) (sv ++ [.int .i64 sv1]) (tx ++ [.string tx1])) := by
                show ArB _ _ _ _ _ _ _
                have h := A9.out.putS (.int .i64 sv1) (by omega)
                have h2 := h.putX (.string tx1) (by omega)
                rw [hl1, hl2] at h2
                exact h2
              have RX : Hid (TrS s.rules z.eras ((w9.setCell ⟨w5.heap.size + 1, j, none⟩ (.int .i64 sv1)).setCell ⟨w5.heap.size + 1 + 1, j, none⟩ (.string tx1)) (vs ++ [.slice a9 T.length c9])) := by
                show TrS _ _ _ _
                have h := A9.out.putS (.int .i64 sv1) (by omega)
                rw [hl1] at h
                have h1 := R9.out.set (i := j) (u := .int .i64 sv1) A9.out.s isStr (j := 0) (by decide) RTur_str (padV_not HNS.out (fun ⟨_, e⟩ => (by cases e)))
                exact h1.set h.x isInt (j := 1) (by decide) RTur_int (padV_not HNT.out (fun ⟨_, _, e⟩ => (by cases e)))
              clear q0 q1 q2 z1 d0 d1 d2 d3 d4 d5 d6 d7 d8 d9 d10 d11 r0 r1 r2 z2 s0 s1 s2 s3 s4 s5 s6 s7 s8 s9 s10 s11 y0 y1 y2 y3 y4 y5 nB0 nB1 nB2 nC0 nC1 nC2
              go_wp2_with fail
              go_roundw
              case rel => exact ⟨j + 1, vs ++ [.slice a9 T.length c9], by omega, by go_num, by rw [List.length_append, hvs]; rfl, by rw [HTK1.out, HTK2.out, HSV.out, HTX.out]; exact AX, RX⟩
              case measure => simp [intOf]; omega
            · obtain rfl : j = k := by omega
              have hnl : ¬ (j : Int) < (j : Int) := by omega
              have P7 := Lib.hid (P5.out.mono AJ.out.b fun _ _ h => h)
              have N7 := Lib.hid (ownsRow_below T5.out.n AJ.out.b (Nat.le_refl _))
              obtain ⟨w7, rfl⟩ : ∃ w7, w7 = wr := ⟨_, rfl⟩
              clear T5 P5 hj hjk
              have hlv : vs.length = j := hvs
              go_wp2_with fail
              go_loopw [16, 21] (fun vo vk wr => ∃ (q : Nat) (a : Option Addr) (c : Nat), q ≤ P.length ∧ vk = .int .i64 q ∧ vo = .slice a (spR s.rules z.eras P q).length c ∧ Hid (wr.ownsRow w7.heap.size 102 4 (.slice a (spR s.rules z.eras P q).length c) (spR s.rules z.eras P q).length ((spR s.rules z.eras P q).flatMap encQ)) ∧ Hid (Below w7.heap.size w7 wr)) (fun _ vk _ => (P.length - intOf vk).toNat)
              case atStart => exact ⟨0, none, 0, Nat.zero_le _, rfl, rfl, World.ownsRow_nil _ _ _ _, Below.refl _ _⟩
              case round =>
                obtain ⟨q, ao, co, hq, rfl, rfl, OK, BK⟩ := hrel
                by_cases hqp : q < P.length
                · have hqi : (q : Int) < (P.length : Int) := by omega
                  obtain ⟨bp, op, rfl, hbp, cp⟩ := entJ (P7.out.mono BK.out fun _ _ h => h) q hqp
                  have HSU := Lib.hid (spR_succ s.rules z.eras P q hqp)
                  rw [HN.out] at HSU
                  have hll := spR_len s.rules z.eras P q hq
                  generalize spR s.rules z.eras P q = l at *
                  generalize P[q] = t at *
                  obtain ⟨wi, hwi⟩ : ∃ wi : Bool, decide (-2208988800 ≤ t ∧ t ≤ 4102444799) = wi := ⟨_, rfl⟩
                  have HIN := Lib.hid (fun w => in_lit t (-2208988800) 4102444799 wi w hwi)
                  have HWI : Hid (winP t = wi) := by
                    show _ = _
                    rw [← hwi]
                    unfold winP
                    rw [← Bool.decide_and, decide_eq_decide]
                    omega
                  clear hwi
                  go_wp2_with fail
                  refine (HIN.out _).mono ?_; rintro e w' ⟨rfl, rfl⟩
                  cases wi with
                  | false =>
                    have HS2 := Lib.hid (HSU.out.trans (if_neg (by rw [HWI.out]; decide)))
                    go_wp2_with fail
                    go_roundw
                    case rel => exact ⟨q + 1, ao, co, by omega, by go_num, by rw [HS2.out], by rw [HS2.out]; exact OK, BK⟩
                    case measure => simp [intOf]; omega
                  | true =>
                    have HS2 := Lib.hid (HSU.out.trans (if_pos HWI.out))
                    clear HSU HIN
                    go_upto_block 8 with fail
                    obtain ⟨w8, rfl⟩ : ∃ w8, w8 = wr := ⟨_, rfl⟩
                    have HCP : Hid (∀ wx, Below w8.heap.size w8 wx → wx.cell? ⟨bp, op + q, none⟩ = some (.int .i64 t)) := fun wx h => (h.cell (p := ⟨bp, op + q, none⟩) hbp).trans cp
                    have HNR : Hid (∀ wx, Below w8.heap.size w8 wx → wx.ownsRow D 3 1 (.slice an N.length cn) N.length (N.flatMap encJ)) := fun wx h => ownsRow_below (ownsRow_below N7.out BK.out (Nat.le_refl _)) h (Nat.le_refl _)
                    have HNL : Hid (N.length + 1 = j) := by
                      show _ = _
                      rw [← HN.out, untL_len, HNE.out]
                      have := HGZ.out.n1
                      rw [HNE.out] at this
                      omega
                    clear cp hbp
                    go_cut [22] (fun vj wx => ∃ e : Nat, vj = .int .i64 e ∧ Hid (eraI N t = e) ∧ Hid (Below w8.heap.size w8 wx))
                    case first =>
                      go_wp2_with fail
                      go_loopw [22] (fun vj wx => ∃ e : Nat, e ≤ N.length ∧ vj = .int .i64 e ∧ Hid (∀ i (h : i < N.length), i < e → N[i] ≤ t) ∧ Hid (Below w8.heap.size w8 wx)) (fun vj _ => (N.length - intOf vj).toNat)
                      case atStart => exact ⟨0, Nat.zero_le _, rfl, fun i h h0 => absurd h0 (Nat.not_lt_zero _), Below.refl _ _⟩
                      case round =>
                        obtain ⟨e, he, rfl, HE, BE⟩ := hrel
                        have cp1 := HCP.out _ BE.out
                        have hNl := HNL.out
                        by_cases hel : e < N.length
                        · have hei : (e : Int) < (N.length : Int) := by omega
                          have hed : decide (e < N.length) = true := decide_eq_true hel
                          obtain ⟨bn, rfl, hbn, ce1⟩ := ent_of_own (HNR.out _ BE.out) e hel
                          by_cases hle : N[e] ≤ t
                          · have hld : decide (N[e] ≤ t) = true := decide_eq_true hle
                            have HE2 : Hid (∀ i (h : i < N.length), i < e + 1 → N[i] ≤ t) := by
                              show ∀ i (h : i < N.length), i < e + 1 → N[i] ≤ t
                              intro i h h1
                              by_cases h2 : i = e
                              · subst h2; exact hle
                              · exact HE.out i h (by omega)
                            generalize N[e] = ne at *
                            go_wp2
                            go_quiet (fail)
                            clear cp1 ce1
                            go_wp2
                            go_roundw
                            case rel => exact ⟨e + 1, by omega, by go_num, HE2, below_draws BE.out nq⟩
                            case measure => simp [intOf]; omega
                          · have hld : decide (N[e] ≤ t) = false := decide_eq_false hle
                            have HEI : Hid (eraI N t = e) := eraI_stp he (fun i h h1 => HE.out i h h1) (fun h => by omega)
                            generalize N[e] = ne at *
                            go_wp2
                            go_quiet (fail)
                            go_wp2
                            go_meet
                            exact ⟨e, rfl, HEI, below_draws BE.out nq⟩
                        · have hei : ¬ (e : Int) < (N.length : Int) := by omega
                          have hed : decide (e < N.length) = false := decide_eq_false hel
                          have HEI : Hid (eraI N t = e) := eraI_stp he (fun i h h1 => HE.out i h h1) (fun h => absurd h hel)
                          go_wp2
                          go_quiet (fail)
                          go_wp2
                          go_meet
                          exact ⟨e, rfl, HEI, below_draws BE.out nq⟩
                    case rest =>
                      obtain ⟨e, rfl, HEI, BE⟩ := hcut
                      have BW : Hid (Below w7.heap.size w7 wc) := BK.out.trans (BE.out.mono BK.out.size)
                      have hej : e < j := by
                        have := eraI_le N t
                        rw [HEI.out] at this
                        have := HNL.out
                        omega
                      have hei : (e : Int) < (j : Int) := by omega
                      have hex : e < z.eras.length := by rw [HNE.out]; exact hej
                      have HROK := Lib.hid (HGZ.out.rok (List.getElem_mem hex))
                      have HTL := Lib.hid (HTLE.out _ (List.getElem_mem hex))
                      have HCK : Hid (clkT s.rules z.eras N t = clkE z.eras[e] (stL s.rules z.eras[e] (trE s.rules z.eras[e]) t)) := by
                        show _ = _
                        unfold clkT
                        rw [HEI.out, List.getElem?_eq_getElem hex]
                        rfl
                      have HCO := Lib.hid (HGZ.out.cok (List.getElem_mem hex) t)
                      have HTELL := Lib.hid (stL_tell s.rules z.eras[e] t HROK.out.ok HROK.out.o)
                      obtain ⟨b2, o2, rfl, hb2, hxe, -⟩ := elemEro HX.out e hex
                      have HBC : Hid (Below w.heap.size w wc) := HBJ.out.trans (BW.out.mono HBJ.out.size)
                      have HXC := Lib.hid (hxe.below HBC.out hb2)
                      have HLB : Hid (b2 < w.heap.size) := hb2
                      have RE := RJ.out.2 e (by rw [hlv]; exact hej) hex
                      obtain ⟨a9, c9, hve, -⟩ := RE.shape
                      rw [hve] at RE
                      have RC := Lib.hid (RE.mono BW.out fun _ _ h => h)
                      have sA : wc.cell? ⟨w5.heap.size, e, none⟩ = some (.slice a9 (trE s.rules z.eras[e]).length c9) := by
                        have h : BxO wc w5.heap.size _ _ := (BW.out.block _ AJ.out.a.lt).trans AJ.out.a
                        rw [h.cell e, padV_at _ _ _ _ (by rw [hlv]; exact hej), hve]
                      have sS : wc.cell? ⟨w5.heap.size + 1, e, none⟩ = some (.int .i64 (stL s.rules z.eras[e] (trE s.rules z.eras[e]) farT).1) := by
                        have h : BxO wc (w5.heap.size + 1) _ _ := (BW.out.block _ AJ.out.s.lt).trans AJ.out.s
                        rw [h.cell e, padV_at _ _ _ _ (by rw [List.length_map, List.length_take]; omega), List.getElem_map, List.getElem_take]
                        rfl
                      have sX : wc.cell? ⟨w5.heap.size + 1 + 1, e, none⟩ = some (.string (stL s.rules z.eras[e] (trE s.rules z.eras[e]) farT).2) := by
                        have h : BxO wc (w5.heap.size + 1 + 1) _ _ := (BW.out.block _ AJ.out.x.lt).trans AJ.out.x
                        rw [h.cell e, padV_at _ _ _ _ (by rw [List.length_map, List.length_take]; omega), List.getElem_map, List.getElem_take]
                        rfl
                      have z2 : wc.cell? ⟨B, 1, none⟩ = some (.slice (some ⟨b2, o2, none⟩) j ce) := (BW.out.cell (p := ⟨B, 1, none⟩) HZB.out.lt).trans z1
                      generalize z.eras[e] = x at *
                      generalize trE s.rules x = T at *
                      generalize stL s.rules x T farT = PF at *
                      obtain ⟨s0, t0⟩ := PF
                      dsimp only at HTELL sS sX
                      have hT4 : T.length ≤ 40000 := HTL.out
                      have tw1 : IntKind.i64.wrap ((T.length : Int) - 1) = (T.length : Int) - 1 := IntWalk.i64_in _ (by omega)
                      clear hb2 hxe hex hve RE HTL
                      obtain ⟨w9, rfl⟩ : ∃ w9, w9 = wc := ⟨_, rfl⟩
                      have hA9 : w5.heap.size < w9.heap.size := Nat.lt_of_lt_of_le AJ.out.a.lt BW.out.size
                      have HSA9 : Hid (∀ wx, Below w9.heap.size w9 wx → wx.cell? ⟨w5.heap.size, e, none⟩ = some (.slice a9 T.length c9)) := fun wx h => (h.cell (p := ⟨w5.heap.size, e, none⟩) hA9).trans sA
                      go_upto_block 10 with fail
                      clear sA sS sX z2 hA9
                      go_cut [23, 24] (fun v1 v2 wx => v1 = .int .i64 (stL s.rules x T t).1 ∧ v2 = .string (stL s.rules x T t).2 ∧ Hid (Below w9.heap.size w9 wx))
                      case first =>
                        go_wp2_with fail
                        go_loopw [23, 24, 25] (fun v1 v2 v3 wx => ∃ (r : Nat) (u : Int), r ≤ T.length ∧ u + 1 = (r : Int) ∧ v3 = .int .i64 u ∧ v1 = .int .i64 s0 ∧ v2 = .string t0 ∧ Hid (∀ i (h : i < T.length), r ≤ i → ¬ T[i].ins ≤ t) ∧ Hid (Below w9.heap.size w9 wx)) (fun _ _ v3 _ => (intOf v3 + 1).toNat)
                        case atStart => exact ⟨T.length, (T.length : Int) - 1, Nat.le_refl _, by omega, rfl, rfl, rfl, fun i h h0 => absurd h (by omega), Below.refl _ _⟩
                        case round =>
                          obtain ⟨r, u, hr, hu, rfl, rfl, rfl, HR, BR⟩ := hrel
                          rcases r with _ | r
                          · obtain rfl : u = -1 := by omega
                            have HSTL : Hid (stL s.rules x T t = (s0, t0)) := by show _ = _; rw [HTELL.out, lastT_none (fun j h => HR.out j h (Nat.zero_le _))]
                            go_wp2
                            go_meet
                            exact ⟨by rw [HSTL.out], by rw [HSTL.out], BR⟩
                          · obtain rfl : u = (r : Int) := by omega
                            have hrt : r < T.length := by omega
                            have hri : (r : Int) < (T.length : Int) := by omega
                            have cp1 := HCP.out _ (BE.out.trans (BR.out.mono BE.out.size))
                            have sA1 := HSA9.out _ BR.out
                            obtain ⟨bt, ot, rfl, hbt, ⟨-, -, -, -, -, -, -, -, -, y9, y10, -, y12⟩⟩ := elemTur (RC.out.mono BR.out fun _ _ h => h) r hrt
                            have hsz1 : w5.heap.size < wr.heap.size := World.block_lt_of_cell? _ _ sA1
                            have tw2 : IntKind.i64.wrap ((r : Int) - 1) = (r : Int) - 1 := IntWalk.i64_in _ (by omega)
                            by_cases hle : T[r].ins ≤ t
                            · have hle' : decide (T[r].ins ≤ t) = true := decide_eq_true hle
                              have HSTL : Hid (stL s.rules x T t = (T[r].r.sv, T[r].r.lt)) := by show _ = _; rw [HTELL.out, lastT_at hrt hle (fun j hj h => HR.out j hj (by omega))]
                              generalize T[r] = c at *
                              go_wp2
                              go_quiet (fail)
                              go_wp2
                              go_meet
                              exact ⟨by rw [HSTL.out], by rw [HSTL.out], below_draws BR.out nq⟩
                            · have hle' : decide (T[r].ins ≤ t) = false := decide_eq_false hle
                              have HR2 : Hid (∀ i (h : i < T.length), r ≤ i → t < T[i].ins) := by
                                show ∀ i (h : i < T.length), r ≤ i → t < T[i].ins
                                intro i h h1
                                by_cases h2 : i = r
                                · subst h2; exact Int.not_le.1 hle
                                · exact Int.not_le.1 (HR.out i h (by omega))
                              generalize T[r] = c at *
                              clear y9 y10
                              go_wp2
                              go_quiet (fail)
                              clear cp1 sA1 y12
                              go_wp2
                              go_roundw
                              case rel => exact ⟨r, (r : Int) - 1, by omega, by omega, rfl, rfl, rfl, (fun i h h1 => Int.not_le.2 (HR2.out i h h1)), below_draws BR.out nq⟩
                              case measure => simp [intOf]
                      case rest =>
                        obtain ⟨rfl, rfl, BR⟩ := hcut
                        have BC : Hid (Below w7.heap.size w7 wc) := BW.out.trans (BR.out.mono BW.out.size)
                        have X1 := Lib.hid (HXC.out.below BR.out (Nat.lt_of_lt_of_le HLB.out HBC.out.size))
                        obtain ⟨d0, d1, d2, d3, d4, d5, d6, d7, d8, d9, d10, d11⟩ := X1.out
                        have z2 : wc.cell? ⟨B, 1, none⟩ = some (.slice (some ⟨b2, o2, none⟩) j ce) := (BC.out.cell (p := ⟨B, 1, none⟩) HZB.out.lt).trans z1
                        have HCL := Lib.hid (fun wx => clockOf_any x (stL s.rules x T t).1 (stL s.rules x T t).2 wx HCO.out)
                        generalize stL s.rules x T t = PT at *
                        obtain ⟨P1, P2⟩ := PT
                        dsimp only at HCL ⊢
                        have HPT : Hid (clkT s.rules z.eras N t = clkE x (P1, P2)) := HCK.out
                        generalize clkE x (P1, P2) = ck at *
                        obtain ⟨ko, ks, kn⟩ := ck
                        dsimp only at HCL
                        clear HTELL HCK HCO HEI RC HSA9 HNR
                        go_wp2_with fail
                        refine (HCL.out _).mono ?_; rintro ee wk ⟨rfl, hbk⟩
                        have BK2 : Hid (Below w7.heap.size w7 wk) := BC.out.trans (hbk.mono BC.out.size)
                        have BK8 : Hid (Below w8.heap.size w8 wk) := BE.out.trans ((BR.out.trans (hbk.mono BR.out.size)).mono BE.out.size)
                        clear hbk d0 d1 d2 d3 d4 d5 d6 d7 d8 d9 d10 d11 z2 HCL X1 HXC
                        obtain ⟨W4, hW4⟩ : ∃ W4, W4 = wk.alloc (.cells #[.int .i64 ko, .bool ks, .string kn] 28) := ⟨_, rfl⟩
                        have B4 : Hid (Below w7.heap.size w7 W4) := by show Below _ _ _; rw [hW4]; exact BK2.out.alloc BK2.out.size _
                        have B48 : Hid (Below w8.heap.size w8 W4) := by show Below _ _ _; rw [hW4]; exact BK8.out.alloc BK8.out.size _
                        have X4 : Hid (BxO W4 wk.heap.size #[.int .i64 ko, .bool ks, .string kn] 28) := by show BxO _ _ _ _; rw [hW4]; exact BxO.new _ _ _
                        have HW4 := Lib.hid hW4
                        clear hW4
                        go_upto_region 48 with fail
                        rw [← HW4.out]
                        clear HW4
                        have O4 := Lib.hid (ownsRow_below OK.out B48.out (Nat.le_refl _))
                        have cp4 := HCP.out _ B48.out
                        have k0 : W4.cell? ⟨wk.heap.size, 0, none⟩ = some (.int .i64 ko) := X4.out.cell 0
                        have k1 : W4.cell? ⟨wk.heap.size, 1, none⟩ = some (.bool ks) := X4.out.cell 1
                        have k2 : W4.cell? ⟨wk.heap.size, 2, none⟩ = some (.string kn) := X4.out.cell 2
                        have kz : wk.heap.size < W4.heap.size := X4.out.lt
                        rw [HPT.out] at HS2
                        have hllq : l.length ≤ 1000000 := by omega
                        obtain ⟨iq, hiq, hq0, hq1, hq2⟩ := info_parts info_spn
                        clear OK BK BK2 BK8 z1 hqi
                        cases hql : l.getLast? with
                        | none =>
                          have hl0 : l = [] := List.getLast?_eq_none_iff.1 hql
                          have HQ : Hid (addQ l t ⟨ko, ks, kn⟩ = l ++ [(⟨t, ⟨ko, ks, kn⟩⟩ : Spn)]) := by show _ = _; rw [hl0]; rfl
                          have hn0 : ((l.length : Int) == 0) = true := by rw [hl0]; rfl
                          clear hql hl0
                          go_wp2_with fail
                          go_quiet (fail)
                          go_upto_region 49 with fail
                          obtain ⟨W5, hW5⟩ : ∃ W5, W4.drewN nq = W5 := ⟨_, rfl⟩
                          rw [hW5]
                          have HB5 : Hid (Below W4.heap.size W4 W5) := by show Below _ _ _; rw [← hW5]; exact below_draws (Below.refl _ _) nq
                          clear hW5 k0 k1 k2 kz cp4
                          have B5 : Hid (Below w7.heap.size w7 W5) := B4.out.trans (HB5.out.mono B4.out.size)
                          have O5 := Lib.hid (ownsRow_below O4.out HB5.out (Nat.le_refl _))
                          have X5 : Hid (BxO W5 wk.heap.size #[.int .i64 ko, .bool ks, .string kn] 28) := (HB5.out.block _ X4.out.lt).trans X4.out
                          have cp5 := HCP.out _ (B48.out.trans (HB5.out.mono B48.out.size))
                          have k0 : W5.cell? ⟨wk.heap.size, 0, none⟩ = some (.int .i64 ko) := X5.out.cell 0
                          have k1 : W5.cell? ⟨wk.heap.size, 1, none⟩ = some (.bool ks) := X5.out.cell 1
                          have k2 : W5.cell? ⟨wk.heap.size, 2, none⟩ = some (.string kn) := X5.out.cell 2
                          have kz : wk.heap.size < W5.heap.size := X5.out.lt
                          go_region_law (first | (refine step_append_lies _ (by rfl) _ _ _ (by rfl) w7.heap.size 102 iq (.agg #[.int .i64 0, .int .i64 0, .bool false, .string ⟨#[]⟩]) 4 40 Tryz.underlying37 hiq hq0 hq1 hq2 rfl (by decide) (.slice ao l.length co) l.length (l.flatMap encQ) (by rfl) ((O5.out.alloc _).drew) ⟨W5.heap.size, 0, none⟩ 1 1 (encQ ⟨t, ⟨ko, ks, kn⟩⟩) (by rfl) (by rfl) (cells_at _ _ _ _ _ rfl rfl) (encQ_one _) (by omega) (by unfold maxLen; omega) (by omega) (Nat.le_trans B5.out.size (Nat.le_trans (Nat.le_succ _) (Nat.le_of_eq (size_alloc W5 _).symm))) (W5.heap.size + 1) (size_alloc _ _) ?_; intro gg cap6 w6 hown1 hgrow hat hltg; have O6 := Lib.hid (own_snocG hown1); have B6 := Lib.hid (append_keep O5.out ((Below.refl _ _).alloc B5.out.size _).drew B5.out.size hgrow); clear hown1 hgrow hat))
                          all_goals
                            have OX : Hid (w6.ownsRow w7.heap.size 102 4 (.slice (some ⟨gg, 0, none⟩) (l ++ [(⟨t, ⟨ko, ks, kn⟩⟩ : Spn)]).length cap6) (l ++ [(⟨t, ⟨ko, ks, kn⟩⟩ : Spn)]).length ((l ++ [(⟨t, ⟨ko, ks, kn⟩⟩ : Spn)]).flatMap encQ)) := by
                              have h := O6.out
                              rw [show l.length + 1 = (l ++ [(⟨t, ⟨ko, ks, kn⟩⟩ : Spn)]).length from by simp] at h
                              exact h
                            clear k0 k1 k2 kz cp5
                            go_wp2_with fail
                            go_roundw
                            case rel => exact ⟨q + 1, some ⟨gg, 0, none⟩, cap6, by omega, by go_num, by rw [HS2.out, HQ.out, List.length_append]; rfl, by rw [HS2.out, HQ.out]; exact OX, B5.out.trans B6.out⟩
                            case measure => simp [intOf]; omega
                        | some p =>
                          obtain ⟨l', hl'⟩ := List.getLast?_eq_some_iff.1 hql
                          obtain ⟨m, hm⟩ : ∃ m, l.length = m + 1 := ⟨l'.length, by rw [hl']; simp⟩
                          have hlm : l[m]'(by omega) = p := by
                            have : l'.length = m := by rw [hl'] at hm; simpa using hm
                            subst this
                            simp [hl']
                          obtain ⟨bv, rfl, hbv, -, p1, p2, p3⟩ := spn_of_own O4.out m (by omega)
                          rw [hlm] at p1 p2 p3
                          have hmi : (m : Int) < (l.length : Int) := by omega
                          have hn0 : ((l.length : Int) == 0) = false := by rw [beq_eq_false_iff_ne]; omega
                          have tw : IntKind.i64.wrap ((l.length : Int) - 1) = (m : Int) := by rw [IntWalk.i64_in _ (by omega)]; omega
                          have HQ0 : Hid (addQ l t ⟨ko, ks, kn⟩ = if p.ck = ⟨ko, ks, kn⟩ then l else l ++ [(⟨t, ⟨ko, ks, kn⟩⟩ : Spn)]) := by show _ = _; unfold addQ; rw [hql]
                          clear hql hl' hlm hm
                          obtain ⟨pf, ⟨po, ps, pn⟩⟩ := p
                          dsimp only at p1 p2 p3
                          by_cases he : (⟨po, ps, pn⟩ : Clk) = ⟨ko, ks, kn⟩
                          · have HQ : Hid (addQ l t ⟨ko, ks, kn⟩ = l) := by show _ = _; rw [HQ0.out]; exact if_pos he
                            simp only [Clk.mk.injEq] at he
                            obtain ⟨rfl, rfl, rfl⟩ := he
                            clear HQ0
                            go_wp2_with fail
                            go_quiet (fail)
                            go_wp2
                            go_roundw
                            case rel => exact ⟨q + 1, _, _, by omega, by go_num, by rw [HS2.out, HQ.out], by rw [HS2.out, HQ.out]; exact ownsRow_below O4.out (below_draws (Below.refl _ _) nq) (Nat.le_refl _), below_draws B4.out nq⟩
                            case measure => simp [intOf]; omega
                          · have HQ : Hid (addQ l t ⟨ko, ks, kn⟩ = l ++ [(⟨t, ⟨ko, ks, kn⟩⟩ : Spn)]) := by show _ = _; rw [HQ0.out]; exact if_neg he
                            have hb : (po == ko) = false ∨ ((po == ko) = true ∧ (ps == ks) = false) ∨ ((po == ko) = true ∧ (ps == ks) = true ∧ (pn.toList == kn.toList) = false) := by
                              by_cases h1 : po = ko
                              · right
                                by_cases h2 : ps = ks
                                · right
                                  refine ⟨by simp [h1], by simp [h2], ?_⟩
                                  rw [streq, decide_eq_false_iff_not]
                                  intro h3
                                  exact he (by rw [h1, h2, h3])
                                · left
                                  exact ⟨by simp [h1], beq_eq_false_iff_ne.2 h2⟩
                              · left
                                exact beq_eq_false_iff_ne.2 h1
                            clear he HQ0
                            rcases hb with h1 | ⟨h1, h2⟩ | ⟨h1, h2, h3⟩
                            all_goals
                              go_wp2_with fail
                              go_quiet (fail)
                              go_upto_region 49 with fail
                              obtain ⟨W5, hW5⟩ : ∃ W5, W4.drewN nq = W5 := ⟨_, rfl⟩
                              rw [hW5]
                              have HB5 : Hid (Below W4.heap.size W4 W5) := by show Below _ _ _; rw [← hW5]; exact below_draws (Below.refl _ _) nq
                              clear hW5 k0 k1 k2 kz cp4 p1 p2 p3
                              have B5 : Hid (Below w7.heap.size w7 W5) := B4.out.trans (HB5.out.mono B4.out.size)
                              have O5 := Lib.hid (ownsRow_below O4.out HB5.out (Nat.le_refl _))
                              have X5 : Hid (BxO W5 wk.heap.size #[.int .i64 ko, .bool ks, .string kn] 28) := (HB5.out.block _ X4.out.lt).trans X4.out
                              have cp5 := HCP.out _ (B48.out.trans (HB5.out.mono B48.out.size))
                              have k0 : W5.cell? ⟨wk.heap.size, 0, none⟩ = some (.int .i64 ko) := X5.out.cell 0
                              have k1 : W5.cell? ⟨wk.heap.size, 1, none⟩ = some (.bool ks) := X5.out.cell 1
                              have k2 : W5.cell? ⟨wk.heap.size, 2, none⟩ = some (.string kn) := X5.out.cell 2
                              have kz : wk.heap.size < W5.heap.size := X5.out.lt
                              go_region_law (first | (refine step_append_lies _ (by rfl) _ _ _ (by rfl) w7.heap.size 102 iq (.agg #[.int .i64 0, .int .i64 0, .bool false, .string ⟨#[]⟩]) 4 40 Tryz.underlying37 hiq hq0 hq1 hq2 rfl (by decide) (.slice (some ⟨bv, 0, none⟩) l.length co) l.length (l.flatMap encQ) (by rfl) ((O5.out.alloc _).drew) ⟨W5.heap.size, 0, none⟩ 1 1 (encQ ⟨t, ⟨ko, ks, kn⟩⟩) (by rfl) (by rfl) (cells_at _ _ _ _ _ rfl rfl) (encQ_one _) (by omega) (by unfold maxLen; omega) (by omega) (Nat.le_trans B5.out.size (Nat.le_trans (Nat.le_succ _) (Nat.le_of_eq (size_alloc W5 _).symm))) (W5.heap.size + 1) (size_alloc _ _) ?_; intro gg cap6 w6 hown1 hgrow hat hltg; have O6 := Lib.hid (own_snocG hown1); have B6 := Lib.hid (append_keep O5.out ((Below.refl _ _).alloc B5.out.size _).drew B5.out.size hgrow); clear hown1 hgrow hat))
                              all_goals
                                have OX : Hid (w6.ownsRow w7.heap.size 102 4 (.slice (some ⟨gg, 0, none⟩) (l ++ [(⟨t, ⟨ko, ks, kn⟩⟩ : Spn)]).length cap6) (l ++ [(⟨t, ⟨ko, ks, kn⟩⟩ : Spn)]).length ((l ++ [(⟨t, ⟨ko, ks, kn⟩⟩ : Spn)]).flatMap encQ)) := by
                                  have h := O6.out
                                  rw [show l.length + 1 = (l ++ [(⟨t, ⟨ko, ks, kn⟩⟩ : Spn)]).length from by simp] at h
                                  exact h
                                clear k0 k1 k2 kz cp5
                                go_wp2_with fail
                                go_roundw
                                case rel => exact ⟨q + 1, some ⟨gg, 0, none⟩, cap6, by omega, by go_num, by rw [HS2.out, HQ.out, List.length_append]; rfl, by rw [HS2.out, HQ.out]; exact OX, B5.out.trans B6.out⟩
                                case measure => simp [intOf]; omega
                · obtain rfl : q = P.length := by omega
                  have hnl : ¬ (P.length : Int) < (P.length : Int) := by omega
                  have HFI : Hid (spS s n = spR s.rules z.eras P P.length) := by
                    show _ = _
                    rw [HSP.out, HPA.out, ← HN.out, spnR_eq HGZ.out.r HGZ.out.len]
                    rfl
                  have hll := spR_len s.rules z.eras P P.length (Nat.le_refl _)
                  generalize spR s.rules z.eras P P.length = l at *
                  have HBF : Hid (Below w.heap.size w wr) := HBJ.out.trans (BK.out.mono HBJ.out.size)
                  by_cases hbig : 1000 < l.length
                  · have hbi : (1000 : Int) < (l.length : Int) := by omega
                    have HD : Hid (spE s n = 1) := by show _ = _; exact spE_l HF.out (by rw [HFI.out]; exact hbig)
                    have HK : Hid (spV s n = []) := spV_n (by rw [HD.out]; decide)
                    clear hbig
                    go_wp2_with fail
                    go_ret2
                    exact ⟨_, by rw [HD.out]; rfl, by rw [HK.out]; exact World.ownsRow_nil _ _ _ _, HBF.out⟩
                  · have hbi : ¬ (1000 : Int) < (l.length : Int) := by omega
                    have HD : Hid (spE s n = 0) := by show _ = _; exact spE_z HF.out (by rw [HFI.out]; exact hbig)
                    have HK : Hid (spV s n = l) := (spV_z HD.out).trans HFI.out
                    clear hbig
                    go_wp2_with fail
                    go_ret2
                    exact ⟨_, by rw [HD.out]; rfl, by rw [HK.out]; exact ownsRow_base HBJ.out.size OK.out, HBF.out⟩
  · have hE0 : (E != 0) = true := by rw [bne_iff_ne]; exact h0
    have HF : Hid (fndS s n = E) := by show _ = _; unfold fndS; rw [← HE.out, if_pos h0]
    have HD : Hid (spE s n = E) := by show _ = _; rw [spE_f (by rw [HF.out]; exact h0), HF.out]
    have HK : Hid (spV s n = []) := spV_n (by rw [HD.out]; exact h0)
    clear h0
    go_wp2_with fail
    go_ret2
    exact ⟨_, by rw [HD.out]; rfl, by rw [HK.out]; exact World.ownsRow_nil _ _ _ _, C1.out.2.1⟩
end Go.Proofs.YtdpbedkppomffaaGreatDoor
