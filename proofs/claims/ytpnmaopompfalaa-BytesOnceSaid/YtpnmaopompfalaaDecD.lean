/-
  A spool of bytes, by the document: numbers.
-/
import Derived.Test.YtpnmaopompfalaaDecC
namespace Go.Proofs.Ytpnmaopompfalaa
set_option linter.unusedVariables false
set_option linter.unusedSimpArgs false
open Go.ChangeShapes Go.WideShapes Go.ChangeAt Go.RowKit

set_option maxRecDepth 100000 in
set_option maxHeartbeats 4000000 in
theorem snum_any (S g i : Nat) (b : List Int) (w : World) (h : SpAt w S g b i 0) (hb : Byt b) :
    Calls Try.prog 100 #[.pointer (some ⟨S, 0, none⟩)] w fun r w' => r = .returned (.int .i64 (num 0 0 (b.drop i)).1) ∧ (∃ i', SpAt w' S g b i' (num 0 0 (b.drop i)).2.2 ∧ b.drop i' = (num 0 0 (b.drop i)).2.1) ∧ w.grownBy w' (some S) := by
  have H := Lib.hid h
  have HBY := Lib.hid hb
  obtain ⟨off0, cap0, z1, z2, z3, z4, z5, z6, z7, z8⟩ := h
  have hz0 := cell_lt z4
  have fin : ∀ (a : Int) (l : List Int) (e : Int) (w1 : World) (i' : Nat), num 0 0 (b.drop i) = (a, l, e) → b.drop i' = l → SpAt w1 S g b i' e → w.grownBy w1 (some S) → (Ending.returned (.int .i64 a) = .returned (.int .i64 (num 0 0 (b.drop i)).1) ∧ (∃ i', SpAt w1 S g b i' (num 0 0 (b.drop i)).2.2 ∧ b.drop i' = (num 0 0 (b.drop i)).2.1) ∧ w.grownBy w1 (some S)) := fun _ _ _ _ _ h1 h2 h3 h4 => by rw [h1]; exact ⟨rfl, ⟨_, h3, h2⟩, h4⟩
  have FIN := Lib.hid fin
  clear fin hb z1 z2 z3 z4 z6 z7 z8
  go_enter Try.func100, Try.ntmps100
  go_wp2
  go_loopw [3, 4, 5] (fun u m s wr => ∃ (k v : Nat) (M i' : Nat), k ≤ 9 ∧ s = .int .i64 k ∧ u = .int .u64 v ∧ m = .int .u64 M ∧ Hid (M = 128 ^ k) ∧ v < 128 ^ k ∧ Hid (num 0 0 (b.drop i) = num k v (b.drop i')) ∧ Hid (SpAt wr S g b i' 0) ∧ Hid (w.grownBy wr (some S))) (fun _ _ s _ => (10 - intOf s).toNat)
  case atStart => exact ⟨0, 0, 1, i, by omega, rfl, rfl, rfl, Lib.hid rfl, by decide, Lib.hid rfl, H, ⟨rfl, rfl, rfl, Nat.le_refl _, fun _ _ _ => rfl⟩⟩
  case round =>
    obtain ⟨k, v, M, i', hk, rfl, rfl, rfl, hM, hv, hnm, hsp, hgr⟩ := hrel
    obtain ⟨off, cap, h1, h2, h3, h4, h5, h6, h7, h8⟩ := hsp.out
    have hz := cell_lt h4
    have f2 := h6 2
    have f1 := h6 1
    rcases (show i' = b.length ∨ i' < b.length by omega) with hi | hi
    · have HN : Hid (num 0 0 (b.drop i) = (0, b.drop i', 5)) := by
        show _ = _
        rw [hnm.out, hi, List.drop_length]
        rfl
      have hii : (b.length : Int) ≤ (i' : Int) := by omega
      clear h6 h8 hv hi
      go_wp2
      go_quiet (fail)
      go_wp2
      go_ret
      exact FIN.out _ _ _ _ i' HN.out rfl ((SpAt.drewN hsp.out nq).setE 5) (grown_two (grown_drewN hgr.out nq) (grown_setC _ _ _ _))
    · have hd := List.drop_eq_getElem_cons hi
      have hby := HBY.out _ (List.getElem_mem hi)
      have hcc := h8 i' hi
      generalize b[i'] = c at *
      obtain ⟨cn, rfl⟩ : ∃ cn : Nat, c = cn := ⟨c.toNat, by omega⟩
      have hcn : cn < 256 := by omega
      have hst := hnm.out
      rw [hd, num_cons] at hst
      have HST := Lib.hid hst
      have hzg := cell_lt hcc
      have hii : (i' : Int) < (b.length : Int) := by omega
      have hi0 : (0 : Int) ≤ (i' : Int) := by omega
      have HBI := Lib.hid hi
      have hlim : ¬ (k = 9 ∧ 1 < (cn : Int)) → (k = 9 → cn ≤ 1) := fun h e => by
        rcases (show cn ≤ 1 ∨ 1 < (cn : Int) by omega) with h' | h'
        · exact h'
        · exact absurd ⟨e, h'⟩ h
      have HLIM := Lib.hid hlim
      have HV := Lib.hid hv
      clear h6 h8 hd hby hst hlim hv hi
      go_wp2
      go_quiet (fail)
      obtain ⟨qa, rfl⟩ : ∃ qa, qa = nq := ⟨_, rfl⟩
      go_wp2
      go_quiet (fail)
      have S2 : Hid (SpAt (wr.drewN (qa + nq)) S g b i' 0) := SpAt.drewN hsp.out (qa + nq)
      have G2 : Hid (w.grownBy (wr.drewN (qa + nq)) (some S)) := grown_drewN hgr.out (qa + nq)
      have S3 : Hid (SpAt ((wr.drewN (qa + nq)).setCell ⟨S, 1, none⟩ (.int .i64 ((i' : Int) + 1))) S g b (i' + 1) 0) := S2.out.setI (i' + 1) HBI.out
      have G3 : Hid (w.grownBy ((wr.drewN (qa + nq)).setCell ⟨S, 1, none⟩ (.int .i64 ((i' : Int) + 1))) (some S)) := grown_two G2.out (grown_setC _ _ _ _)
      have hi2 : (i' : Int) < 200000 := by omega
      by_cases hb1 : 0 < k ∧ (cn : Int) = 0
      · have HN : Hid (num 0 0 (b.drop i) = (0, b.drop (i' + 1), 4)) := by show _ = _; rw [HST.out, if_pos (.inr hb1)]
        obtain ⟨hk0, hc00⟩ := hb1
        obtain rfl : cn = 0 := by omega
        have hk0' : (0 : Int) < (k : Int) := by omega
        go_wp2
        go_ret
        exact FIN.out _ _ _ _ (i' + 1) HN.out rfl (S3.out.setE 4) (grown_two G3.out (grown_setC _ _ _ _))
      · by_cases hb2 : k = 9 ∧ 1 < (cn : Int)
        · have HN : Hid (num 0 0 (b.drop i) = (0, b.drop (i' + 1), 4)) := by show _ = _; rw [HST.out, if_pos (.inl hb2)]
          obtain ⟨hk9, hgt⟩ := hb2
          have hkb : ((k : Int) == 9) = true := by rw [beq_iff_eq]; omega
          have hcb : ((cn : Int) == 0) = false := by rw [beq_eq_false_iff_ne]; omega
          have hk0' : (0 : Int) < (k : Int) := by omega
          clear hb1
          go_wp2
          go_ret
          exact FIN.out _ _ _ _ (i' + 1) HN.out rfl (S3.out.setE 4) (grown_two G3.out (grown_setC _ _ _ _))
        · have hlim := HLIM.out hb2
          have hif := HST.out
          rw [if_neg (fun h => h.elim hb2 hb1)] at hif
          have hsb := step_bd cn k hk hlim
          rw [← hM.out] at hsb hif
          obtain ⟨r, hr⟩ : ∃ r, r = cn % 128 := ⟨_, rfl⟩
          rw [← hr] at hsb
          obtain ⟨Q, hQ⟩ : ∃ Q, Q = r * M := ⟨_, rfl⟩
          rw [← hQ] at hsb
          have hvM : v < M := by rw [hM.out]; exact HV.out
          obtain ⟨N, hN⟩ : ∃ N, N = v + Q := ⟨_, rfl⟩
          have hdm : (cn : Int) % 128 = (r : Int) := by omega
          have hq : (r : Int) * (M : Int) = (Q : Int) := by rw [hQ, Int.natCast_mul]
          have hqw : IntKind.u64.wrap (Q : Int) = (Q : Int) := by rw [IntKind.wrap_u64]; omega
          have hrw : IntKind.u64.wrap (r : Int) = (r : Int) := by rw [IntKind.wrap_u64]; omega
          have hn : (v : Int) + (Q : Int) = (N : Int) := by omega
          have hnw : IntKind.u64.wrap (N : Int) = (N : Int) := by rw [IntKind.wrap_u64]; omega
          have HIF := Lib.hid hif
          have HRR := Lib.hid hr
          have HQQ := Lib.hid hQ
          have HNN := Lib.hid hN
          have hkk : ((k : Int) ≤ 0 ∧ ((k : Int) == 9) = false) ∨ ((0 : Int) < (k : Int) ∧ ((cn : Int) == 0) = false ∧ ((k : Int) == 9) = true ∧ (cn : Int) ≤ 1) ∨ ((0 : Int) < (k : Int) ∧ ((cn : Int) == 0) = false ∧ ((k : Int) == 9) = false) := by
            rcases (show k = 0 ∨ 0 < k by omega) with h | h
            · exact .inl ⟨by omega, by rw [beq_eq_false_iff_ne]; omega⟩
            · have hc0 : ((cn : Int) == 0) = false := by rw [beq_eq_false_iff_ne]; exact fun e => hb1 ⟨h, e⟩
              rcases (show k = 9 ∨ k ≠ 9 by omega) with h9 | h9
              · exact .inr (.inl ⟨by omega, hc0, by rw [beq_iff_eq]; omega, by have := hlim h9; omega⟩)
              · exact .inr (.inr ⟨by omega, hc0, by rw [beq_eq_false_iff_ne]; omega⟩)
          rcases (show (cn : Int) < 128 ∨ 128 ≤ (cn : Int) by omega) with h128 | h128
          · have HN : Hid (num 0 0 (b.drop i) = (unz N, b.drop (i' + 1), 0)) := by
              show _ = _
              rw [HIF.out, if_pos h128, HNN.out, HQQ.out, HRR.out, Nat.mod_eq_of_lt (by omega)]
            have hNl : N < 18446744073709551616 := by omega
            have hpar : (((N : Int) % 2 == 1) = true ∧ unz N = -((N : Int) / 2) - 1) ∨ (((N : Int) % 2 == 1) = false ∧ unz N = (N : Int) / 2) := by
              unfold unz
              rcases (show N % 2 = 1 ∨ N % 2 = 0 by omega) with c | c
              · exact .inl ⟨by rw [beq_iff_eq]; omega, by rw [if_pos c]; omega⟩
              · exact .inr ⟨by rw [beq_eq_false_iff_ne]; omega, by rw [if_neg (by omega)]; omega⟩
            clear hif hr hQ hN hb1 hb2 hlim hsb
            obtain ⟨z, hz2⟩ : ∃ z, z = unz N := ⟨_, rfl⟩
            rw [← hz2] at hpar HN
            have HZ := Lib.hid hz2
            clear hz2
            go_upto_region 13 with fail
            clear hcc hi2 h2
            rcases hkk with ⟨hk0, hk9⟩ | ⟨hk0, hcb, hk9, hc1⟩ | ⟨hk0, hcb, hk9⟩
            all_goals rcases hpar with ⟨hp, hz3⟩ | ⟨hp, hz3⟩
            all_goals
              go_wp2
              subst hz3
              go_ret
              exact FIN.out _ _ _ _ (i' + 1) HN.out rfl S3.out G3.out
          · have hk99 : k < 9 := by
              rcases (show k < 9 ∨ k = 9 by omega) with h | h
              · exact h
              · have := hlim h; omega
            have HN2 : Hid (num 0 0 (b.drop i) = num (k + 1) N (b.drop (i' + 1))) := by
              show _ = _
              rw [HIF.out, if_neg (by omega), HNN.out, HQQ.out, HRR.out]
            have hpw : M * 128 = 128 ^ (k + 1) := by rw [hM.out, Nat.pow_succ]
            have hM9 : M * 128 ≤ 9223372036854775808 := by
              rw [hpw]
              exact Nat.le_trans (Nat.pow_le_pow_right (by decide) (show k + 1 ≤ 9 by omega)) (by decide)
            have hQ128 : Q ≤ 127 * M := by rw [hQ]; exact Nat.mul_le_mul_right _ (by omega)
            have HNV : Hid (N < 128 ^ (k + 1)) := by show _ < _; rw [← hpw]; omega
            obtain ⟨M2, hM2⟩ : ∃ M2, M2 = M * 128 := ⟨_, rfl⟩
            have HM2 : Hid (M2 = 128 ^ (k + 1)) := by show _ = _; rw [hM2, hpw]
            have hmw : (M : Int) * 128 = (M2 : Int) := by omega
            have hmw2 : IntKind.u64.wrap (M2 : Int) = (M2 : Int) := by rw [IntKind.wrap_u64]; omega
            clear hif hr hQ hN hb1 hb2 hlim hsb hpw hM9 hQ128 hM2
            go_upto_region 13 with fail
            clear hcc hi2 h2
            rcases hkk with ⟨hk0, hk9⟩ | ⟨hk0, hcb, hk9, hc1⟩ | ⟨hk0, hcb, hk9⟩
            · go_wp2
              go_roundw
              case rel => exact ⟨k + 1, N, M2, i' + 1, by omega, by go_num, rfl, rfl, HM2, HNV.out, HN2, S3, G3⟩
              case measure => simp [intOf]; omega
            · omega
            · go_wp2
              go_roundw
              case rel => exact ⟨k + 1, N, M2, i' + 1, by omega, by go_num, rfl, rfl, HM2, HNV.out, HN2, S3, G3⟩
              case measure => simp [intOf]; omega
end Go.Proofs.Ytpnmaopompfalaa
