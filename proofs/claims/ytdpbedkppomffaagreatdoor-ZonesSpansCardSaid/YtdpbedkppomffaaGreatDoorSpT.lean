/-
  sundialref.turns: its row is the call's own.
-/
import Derived.Test.YtdpbedkppomffaaGreatDoorZonK0
namespace Go.Proofs.YtdpbedkppomffaaGreatDoor
set_option linter.unusedVariables false
set_option linter.unusedSimpArgs false
open Go.ChangeShapes Go.WideShapes Go.ChangeAt Go.RowKit Civ

set_option maxHeartbeats 8000000 in
set_option maxRecDepth 100000 in
theorem turns_own (s : Src) (x : Ero) (vr vz vl : Value) (w : World) (hs : SrcAt w vr vz vl s) (hok : ROk s x) :
    Calls Tryz.prog 40 #[.agg #[vr, vz, vl], .agg #[.int .i64 x.off, .string x.rl, .int .i64 x.sv, .string x.fm, .bool x.en, .int .i64 x.yr, .int .i64 x.un.mo, .int .i64 x.un.k, .int .i64 x.un.a, .int .i64 x.un.n, .int .i64 x.un.t, .int .i64 x.un.c]] w fun e w' => ∃ v, e = .returned v ∧ (SlAt w' 13 RTur v (trE s.rules x) ∧ (trE s.rules x ≠ [] → FrV w.heap.size v)) ∧ Below w.heap.size w w' := by
  obtain ⟨it, hit, ht0, ht1, ht2⟩ := info_parts info_tur
  have Z0 := Lib.hid (ZBx.new w vr vz vl x)
  obtain ⟨W0, hW0⟩ : ∃ W0, W0 = (w.alloc (.cells #[vr, vz, vl] 26)).alloc (.cells #[.int .i64 x.off, .string x.rl, .int .i64 x.sv, .string x.fm, .bool x.en, .int .i64 x.yr, .int .i64 x.un.mo, .int .i64 x.un.k, .int .i64 x.un.a, .int .i64 x.un.n, .int .i64 x.un.t, .int .i64 x.un.c] 62) := ⟨_, rfl⟩
  rw [← hW0] at Z0
  have HW := Lib.hid hW0
  have HS := Lib.hid hs
  have HO := Lib.hid hok
  obtain ⟨ar, cr, rfl, hl⟩ := hs.1.shape
  have hml : s.rules.length ≤ 200 := hok.n
  clear hs hok hW0 hl
  by_cases hem : x.rl = ByteArray.empty
  · have r1 : x.rl.toList = [] := by rw [hem]; exact (toList_nil_iff_emptyBytes _).2 rfl
    have r2 : x.rl.toList.isEmpty = true := by rw [r1]; rfl
    have HTE : Hid (trE s.rules x = []) := by
      show _ = _
      unfold trE trns
      rw [hem, trn0_none s.rules HO.out.ok, so_self (show Sd [] from List.Pairwise.nil)]
      rfl
    clear hem
    go_enter Tryz.func40, Tryz.ntmps40
    go_upto_region 1 with fail
    rw [← HW.out]
    obtain ⟨-, c1, -, -, -, -, -, -, -, -, -, -⟩ := Z0.out.era
    go_wp2
    go_ret
    exact ⟨_, rfl, by rw [HTE.out]; exact ⟨.inl ⟨none, 0, rfl, rfl⟩, fun h => absurd rfl h⟩, Z0.out.2.2.1⟩
  · obtain ⟨e1, e2⟩ := rl_ne hem
    clear hem
    go_enter Tryz.func40, Tryz.ntmps40
    go_upto_region 1 with fail
    rw [← HW.out]
    obtain ⟨-, c1, -, -, -, -, -, -, -, -, -, -⟩ := Z0.out.era
    go_wp2
    clear c1
    go_loopw [5, 6] (fun vo i wr => ∃ k : Nat, k ≤ s.rules.length ∧ i = .int .i64 k ∧ Hid (TuK w wr s.rules x.rl k vo) ∧ Hid (ZBx w wr (.slice ar s.rules.length cr) vz vl x)) (fun _ i _ => (s.rules.length - intOf i).toNat)
    case atStart => exact ⟨0, Nat.zero_le _, rfl, World.ownsRow_nil _ _ _ _, Z0⟩
    case round =>
      obtain ⟨k, hk, rfl, HK, ZK⟩ := hrel
      obtain ⟨q0, q1, q2⟩ := ZK.out.1
      have hz2 : w.heap.size + 1 < wr.heap.size := ZK.out.2.2.2
      obtain ⟨c0, c1, -, -, -, -, -, -, -, -, -, -⟩ := ZK.out.era
      by_cases hlt : k < s.rules.length
      · have hki : (k : Int) < (s.rules.length : Int) := by omega
        obtain ⟨b, off, rfl, hb, ⟨d0, d1, d2, d3, d4, d5, d6, d7, d8, d9, d10⟩, -⟩ := elemRul (ZK.out.src HS.out).1 k hlt
        have HSN := Lib.hid (trn0_snoc s.rules x.rl k hlt)
        have HRE := Lib.hid (HO.out.ok _ (List.getElem_mem hlt))
        have HL0 := Lib.hid (trn0_ok x.rl s.rules HO.out.ok k hk)
        generalize s.rules[k] = r at *
        obtain ⟨l0, hl0⟩ : ∃ l0, l0 = trn0 (s.rules.take k) x.rl := ⟨_, rfl⟩
        unfold TuK at HK
        rw [← hl0] at HK HSN HL0
        have S1 := Lib.hid (TuS.new ZK.out HK.out r)
        by_cases hnm : r.nm = x.rl
        · have e1 : (r.nm.toList == x.rl.toList) = true := by rw [streq, decide_eq_true hnm]
          have HS1 : Hid (trn0 (s.rules.take (k + 1)) x.rl = addK r l0 (r.to - r.fr + 1).toNat) := by
            show _ = _
            rw [HSN.out]
            unfold addR
            rw [if_pos hnm]
          clear hl0 hnm HSN
          obtain ⟨wo, rfl⟩ : ∃ wo : World, wo = wr := ⟨_, rfl⟩
          go_wp2
          have hre := rulE_zero HRE.out
          have hch := chkM_zero hre.2.2.2.2.2.2.2
          have hfr : 1900 ≤ r.fr ∧ r.fr ≤ r.to ∧ r.to ≤ 2099 := by omega
          have hti : 0 ≤ r.at'.t ∧ r.at'.t ≤ 604800 := by omega
          obtain ⟨hti1, hti2⟩ := hti
          have HFR := Lib.hid hfr
          clear hre hch e1 hfr
          have S10 : Hid (TuS w (wo.alloc (.cells #[.string r.nm, .int .i64 r.fr, .int .i64 r.to, .int .i64 r.at'.mo, .int .i64 r.at'.k, .int .i64 r.at'.a, .int .i64 r.at'.n, .int .i64 r.at'.t, .int .i64 r.at'.c, .int .i64 r.sv, .string r.lt] 84)) wo.heap.size r (.slice (some ⟨b, off, none⟩) s.rules.length cr) vz vl x u5 (addK r l0 (clp r 1900))) := by
            show TuS _ _ _ _ _ _ _ _ _ _
            rw [clp_lo HFR.out.1]
            exact S1.out
          clear S1
          go_loopw [5, 8] (fun vo y wr => ∃ j : Int, 1900 ≤ j ∧ j ≤ 2100 ∧ y = .int .i64 j ∧ Hid (TuS w wr wo.heap.size r (.slice (some ⟨b, off, none⟩) s.rules.length cr) vz vl x vo (addK r l0 (clp r j)))) (fun _ y _ => (2100 - intOf y).toNat)
          case atStart => exact ⟨1900, by omega, by omega, rfl, S10⟩
          case round =>
            obtain ⟨j, hj1, hj2, rfl, SJ⟩ := hrel
            clear S10
            obtain ⟨L, hL⟩ : ∃ L, L = addK r l0 (clp r j) := ⟨_, rfl⟩
            rw [← hL] at SJ
            have HLL : Hid (L.length ≤ 41000) := by
              show _ ≤ _
              have h1 := addK_len r l0 (clp r j)
              have h2 := HL0.out.2
              have h3 : clp r j ≤ 200 := by have := HFR.out; unfold clp; omega
              rw [hL]
              omega
            have HLE := Lib.hid hL
            clear hL
            obtain ⟨ao, co, rfl⟩ := own_shape SJ.out.rw
            obtain ⟨d0, d1, d2, d3, d4, d5, d6, d7, d8, d9, d10⟩ := SJ.out.bx.z
            by_cases hle : j ≤ 2099
            · have HFI := Lib.hid (found_r r j wr)
              obtain ⟨p, hp⟩ : ∃ p : Bool, decide (r.fr ≤ j ∧ j ≤ r.to) = p := ⟨_, rfl⟩
              have HIN := Lib.hid (fun w => in_lit j r.fr r.to p w hp)
              have HP := Lib.hid hp
              clear hp
              obtain ⟨E, hE⟩ : ∃ E, E = fdE r j := ⟨_, rfl⟩
              obtain ⟨V, hV⟩ : ∃ V, V = if fdE r j = 0 then fdN r j else 0 := ⟨_, rfl⟩
              rw [← hV, ← hE] at HFI
              have HE := Lib.hid hE
              have HV := Lib.hid hV
              clear hE hV
              go_wp2_with fail
              refine HFI.out.mono ?_; rintro e w3 ⟨rfl, hb3⟩
              have S3 := Lib.hid (SJ.out.below hb3)
              clear hb3 d0 d1 d2 d3 d4 d5 d6 d7 d8 d9 d10 SJ HFI
              obtain ⟨d0, d1, d2, d3, d4, d5, d6, d7, d8, d9, d10⟩ := S3.out.bx.z
              go_wp2_with fail
              refine (HIN.out _).mono ?_; rintro e w4 ⟨rfl, rfl⟩
              cases p with
              | false =>
                have HLS : Hid (addK r l0 (clp r (j + 1)) = L) := by
                  show _ = _
                  rw [clp_out (of_decide_eq_false HP.out) HFR.out.2.1, HLE.out]
                go_wp2
                go_roundw
                case rel => exact ⟨j + 1, by omega, by omega, rfl, by rw [HLS.out]; exact S3⟩
                case measure => simp [intOf]; omega
              | true =>
                have hpt := of_decide_eq_true HP.out
                have HLS : Hid (addK r l0 (clp r (j + 1)) = addY r L j) := by
                  show _ = _
                  obtain ⟨a1, a2⟩ := clp_in hpt.1 hpt.2
                  rw [a1, addK_succ, a2, HLE.out]
                clear hpt
                by_cases hf : fdE r j = 0
                · obtain rfl : E = 0 := by rw [HE.out]; exact hf
                  have hVN : V = fdN r j := by rw [HV.out, if_pos hf]
                  have hnb := fnd_bd _ _ _ _ _ hf
                  have HLY : Hid (addY r L j = L ++ [⟨r, fdN r j * 86400 + r.at'.t, (L.length : Int), 0⟩]) := by show _ = _; unfold addY; rw [if_pos hf]
                  obtain ⟨N, rfl⟩ : ∃ N, N = V := ⟨_, rfl⟩
                  have hN1 : -26000 ≤ N ∧ N ≤ 48000 := by rw [hVN]; exact hnb
                  obtain ⟨hN1, hN2⟩ := hN1
                  rw [← hVN] at HLY
                  have hll := HLL.out
                  clear hf hnb hVN HV HE
                  obtain ⟨y0, hy0⟩ : ∃ y0 : Trn, y0 = ⟨r, N * 86400 + r.at'.t, (L.length : Int), 0⟩ := ⟨_, rfl⟩
                  have HY0 : Hid (turV y0 = [.string r.nm, .int .i64 r.fr, .int .i64 r.to, .int .i64 r.at'.mo, .int .i64 r.at'.k, .int .i64 r.at'.a, .int .i64 r.at'.n, .int .i64 r.at'.t, .int .i64 r.at'.c, .int .i64 r.sv, .string r.lt, .int .i64 (86400 * N + r.at'.t), .int .i64 0]) := by show _ = _; rw [hy0, Int.mul_comm 86400 N]; rfl
                  have HYE := Lib.hid hy0
                  clear hy0
                  go_wp2_with (at_builtin; refine wpList_append_own_at _ rfl (.tmp 60) (.tmp 69) 94 rfl (w.heap.size + 2) 97 it (.agg #[.string ⟨#[]⟩, .int .i64 0, .int .i64 0, .int .i64 0, .int .i64 0, .int .i64 0, .int .i64 0, .int .i64 0, .int .i64 0, .int .i64 0, .string ⟨#[]⟩, .int .i64 0, .int .i64 0]) 13 120 Tryz.underlying94 hit ht0 ht1 ht2 rfl (by decide) _ _ _ rfl (S3.out.rw.alloc _) ⟨w3.heap.size, 0, none⟩ 1 1 (turV y0) rfl rfl (cells_at _ _ _ _ _ rfl (by rw [HY0.out])) (turV_one y0) (by unfold maxLen; omega) (by omega) (by rw [size_alloc]; have := S3.out.zb.2.2.2; omega) ?_; intro v4 w4 hown hgrow _ hat; have S4 := Lib.hid (S3.out.out hown rfl hgrow hat); obtain ⟨a4, c4, rfl⟩ := own_shape hown; clear hown hgrow hat d0 d1 d2 d3 d4 d5 d6 d7 d8 d9 d10)
                  go_roundw
                  case rel => exact ⟨j + 1, by omega, by omega, rfl, by rw [HLS.out, HLY.out, ← HYE.out]; exact S4⟩
                  case measure => simp [intOf]; omega
                · have HLY : Hid (addY r L j = L) := by show _ = _; unfold addY; rw [if_neg hf]
                  have hf' : (E != 0) = true := by rw [bne_iff_ne, HE.out]; exact hf
                  clear hf HV HE
                  go_wp2
                  go_roundw
                  case rel => exact ⟨j + 1, by omega, by omega, rfl, by rw [HLS.out, HLY.out]; exact S3⟩
                  case measure => simp [intOf]; omega
            · obtain rfl : j = 2100 := by omega
              have HRK : Hid (TuK w wr s.rules x.rl (k + 1) (.slice ao L.length co)) := by
                show TuK _ _ _ _ _ _
                unfold TuK
                rw [HS1.out, ← clp_hi HFR.out.2.2, ← HLE.out]
                exact SJ.out.rw
              have ZK2 := Lib.hid SJ.out.zb
              clear hle
              go_wp2
              go_roundw
              case rel => exact ⟨k + 1, by omega, by go_num, HRK, ZK2⟩
              case measure => simp [intOf]; omega
        · have e1 : (r.nm.toList == x.rl.toList) = false := by rw [streq, decide_eq_false hnm]
          have HS1 : Hid (TuK w (wr.alloc (.cells #[.string r.nm, .int .i64 r.fr, .int .i64 r.to, .int .i64 r.at'.mo, .int .i64 r.at'.k, .int .i64 r.at'.a, .int .i64 r.at'.n, .int .i64 r.at'.t, .int .i64 r.at'.c, .int .i64 r.sv, .string r.lt] 84)) s.rules x.rl (k + 1) u5) := by
            show TuK _ _ _ _ _ _
            unfold TuK
            rw [HSN.out]
            unfold addR
            rw [if_neg hnm]
            exact S1.out.rw
          clear hl0 hnm HSN
          go_wp2
          go_roundw
          case rel => exact ⟨k + 1, by omega, by go_num, HS1, S1.out.zb⟩
          case measure => simp [intOf]; omega
      · obtain rfl : k = s.rules.length := by omega
        have hnl : ¬ (s.rules.length : Int) < (s.rules.length : Int) := by omega
        obtain ⟨L, hL⟩ : ∃ L, L = trn0 s.rules x.rl := ⟨_, rfl⟩
        obtain ⟨hTO, hTL⟩ := trn0_all s.rules x.rl HO.out.ok
        unfold TuK at HK
        rw [List.take_length] at HK
        rw [← hL] at HK hTO hTL
        have HTE : Hid (trE s.rules x = atZ x.off 0 (so L)) := by show _ = _; unfold trE trns; rw [hL]
        have hLl : L.length ≤ 40000 := by omega
        obtain ⟨ao, co, rfl⟩ := own_shape HK.out
        have HIO := Lib.hid (inOrder_any (L.length + 1) _ L (w.heap.size + 2) wr (Nat.lt_succ_self _) (tur_of_own HK.out) ZK.out.2.2.2 hTO.tgs hTO.no (by omega))
        have HTO := Lib.hid hTO
        clear hL hTO hTL hlt hk HK
        go_wp2_with fail
        refine HIO.out.mono ?_
        rintro e w3 ⟨v3, rfl, h3, hb3⟩
        clear q0 q1 q2 c0 c1
        obtain ⟨S, hS⟩ : ∃ S, S = so L := ⟨_, rfl⟩
        rw [← hS] at h3 HTE
        have hSl : S.length = L.length := by rw [hS, so_len]
        have HSM : Hid (∀ y ∈ S, y ∈ L) := by show ∀ y ∈ S, y ∈ L; rw [hS]; exact fun y hy => so_mem hy
        have Z3 := Lib.hid (ZK.out.next hb3)
        obtain ⟨a3, c3, rfl, h30, h31, hrow⟩ := h3
        have hcm := maxLen_eq _ h31
        have hS4 : S.length ≤ 40000 := by omega
        have HC3 := Lib.hid (And.intro h30 h31)
        clear hS hSl hb3 h30 h31 HIO hLl
        rcases hrow with rfl | ⟨D, off, rfl, hrow, hD⟩
        · go_wp2
          refine wp_loop_rounds 1 ?_
          rw [rounds_succ]
          go_wp2
          go_ret
          exact ⟨_, rfl, by rw [HTE.out]; exact ⟨.inl ⟨a3, c3, rfl, rfl⟩, fun h => absurd rfl h⟩, Z3.out.2.2.1⟩
        · have R3 := Lib.hid hrow
          have HD := Lib.hid hD
          clear hrow hD
          go_wp2
          go_loopw [11, 12] (fun sv i wx => ∃ k : Nat, k ≤ S.length ∧ i = .int .i64 k ∧ sv = .int .i64 (svA S k) ∧ Hid (RowT wx D off (mixR x.off S k)) ∧ Hid (GW D w3 wx)) (fun _ i _ => (S.length - intOf i).toNat)
          case atStart => exact ⟨0, Nat.zero_le _, rfl, rfl, R3, GW.refl _ _⟩
          case round =>
            obtain ⟨k, hk, rfl, rfl, RK, GK⟩ := hrel
            by_cases hlt : k < S.length
            · have hki : (k : Int) < (S.length : Int) := by omega
              obtain ⟨y, hy⟩ : ∃ y, y = S[k] := ⟨_, rfl⟩
              have hym : y ∈ L := HSM.out y (by rw [hy]; exact List.getElem_mem _)
              have hrl := HTO.out.rl y hym
              have hno := HTO.out.no y hym
              obtain ⟨-, -, -, -, -, hsv1, hsv2, hch⟩ := rulE_zero (HO.out.ok _ hrl.1)
              obtain ⟨-, hcl1, hcl2, -, -, -, -⟩ := chkM_zero hch
              have hsvb := svA_bd (R := fun _ => True) (l := S) (fun z hz => by
                obtain ⟨-, -, -, -, -, a, b, -⟩ := rulE_zero (HO.out.ok _ (HTO.out.rl z (HSM.out z hz)).1)
                exact ⟨a, b⟩) k
              obtain ⟨hsb1, hsb2⟩ := hsvb
              obtain ⟨hno1, hno2⟩ := hno
              obtain ⟨hof1, hof2⟩ := HO.out.o
              have hmx : (mixR x.off S k)[k]? = some y := by rw [hy]; exact mixR_at hlt
              obtain ⟨y0, y1, y2, y3, y4, y5, y6, y7, y8, y9, y10, y11, y12⟩ := RK.out.at hmx
              have fz := RK.out.2.1
              have hDz : D < wr.heap.size := RK.out.2.2
              have ZK2 := Z3.out.low (GK.out.to Z3.out.2.2.2 HD.out)
              obtain ⟨g0, -, -, -, -, -, -, -, -, -, -, -⟩ := ZK2.era
              have hw0 : w.heap.size + 1 < wr.heap.size := ZK2.2.2.2
              have hwD : ¬ D = w.heap.size + 1 := by have := HD.out; omega
              have hwD' : ¬ w.heap.size + 1 = D := by have := HD.out; omega
              have HMX := Lib.hid hmx
              have HSV : Hid (svA S (k + 1) = y.r.sv) := by show _ = _; rw [svA_succ hlt, hy]
              have HIN : Hid (∀ T, insT' x.off (svA S k) y = T → mixR x.off S (k + 1) = (mixR x.off S k).set k ⟨y.r, y.no, y.tg, T⟩) := by
                show ∀ T, _ → _
                intro T hT
                rw [mixR_succ hlt, atL_sv x.off S k hlt, ← hy, hT]
              have HINS : Hid (insT' x.off (svA S k) y = y.no - (if y.r.at'.c = 0 then x.off + svA S k else if y.r.at'.c = 1 then x.off else 0)) := by show _ = _; rfl
              clear hym hrl hch hmx hy ZK2 hlt
              generalize svA S k = sv at *
              have tw1 : IntKind.i64.wrap (y.no - x.off) = y.no - x.off := IntWalk.i64_in _ (by omega)
              rcases (show y.r.at'.c = 0 ∨ y.r.at'.c = 1 ∨ y.r.at'.c = 2 by omega) with hc | hc | hc
              · rw [hc] at y8
                have HT : Hid (insT' x.off sv y = y.no - (x.off + sv)) := by show _ = _; rw [HINS.out, if_pos hc]
                clear hc hcl1 hcl2
                go_wp2
                go_region
                go_wp2
                go_roundw
                case rel =>
                  exact ⟨k + 1, by omega, by go_num, by rw [HSV.out], by show RowT _ _ _ _; rw [HIN.out _ HT.out, show y.no - (x.off + sv) = y.no - x.off - sv by omega]; exact (RK.out.put3 HMX.out _ _ _).drw, (((GK.out.set _ _).set _ _).set _ _).drew⟩
                case measure => simp [intOf]; omega
              · rw [hc] at y8
                have HT : Hid (insT' x.off sv y = y.no - x.off) := by show _ = _; rw [HINS.out, if_neg (by omega), if_pos hc]
                clear hc hcl1 hcl2
                go_wp2
                go_region
                go_wp2
                go_roundw
                case rel =>
                  exact ⟨k + 1, by omega, by go_num, by rw [HSV.out], by show RowT _ _ _ _; rw [HIN.out _ HT.out]; exact (RK.out.put2 HMX.out _ _).drw, ((GK.out.set _ _).set _ _).drew⟩
                case measure => simp [intOf]; omega
              · rw [hc] at y8
                have HT : Hid (insT' x.off sv y = y.no) := by show _ = _; rw [HINS.out, if_neg (by omega), if_neg (by omega), Int.sub_zero]
                clear hc hcl1 hcl2
                go_wp2
                go_roundw
                case rel =>
                  exact ⟨k + 1, by omega, by go_num, by rw [HSV.out], by show RowT _ _ _ _; rw [HIN.out _ HT.out]; exact RK.out.put1 HMX.out _, GK.out.set _ _⟩
                case measure => simp [intOf]; omega
            · obtain rfl : k = S.length := by omega
              have hnl2 : ¬ (S.length : Int) < (S.length : Int) := by omega
              have HF : Hid (SlAt wr 13 RTur (.slice (some ⟨D, off, none⟩) S.length c3) (trE s.rules x)) := by
                show SlAt _ _ _ _ _
                have h := RK.out
                rw [mixR_end] at h
                have h2 := h.sl (co := c3) (by rw [atZ_len]; exact HC3.out.1) HC3.out.2
                rw [atZ_len] at h2
                rw [HTE.out]
                exact h2
              have HBF : Hid (Below w.heap.size w wr) := by
                show Below _ _ _
                have h1 := GK.out.to (B := w.heap.size + 2) Z3.out.2.2.2 HD.out
                exact Z3.out.2.2.1.trans (h1.mono (Nat.le_add_right _ _))
              clear hlt hk
              go_wp2
              go_ret
              exact ⟨_, rfl, ⟨HF.out, fun _ => FrV.one (Nat.le_trans (Nat.le_add_right _ _) HD.out)⟩, HBF.out⟩
end Go.Proofs.YtdpbedkppomffaaGreatDoor
