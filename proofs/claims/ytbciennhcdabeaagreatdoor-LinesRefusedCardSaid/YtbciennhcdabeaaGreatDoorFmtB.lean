/-
  source.Format and sundialref.FormatMay answer fmtL; the law's walk.
-/
import Derived.Test.YtbciennhcdabeaaGreatDoorSrcT
import Derived.Test.YtbciennhcdabeaaGreatDoorShCut
namespace Go.Proofs.YtbciennhcdabeaaGreatDoor
set_option linter.unusedVariables false
set_option linter.unusedSimpArgs false
open Go.ChangeShapes Go.WideShapes Go.ChangeAt Go.RowKit

theorem plain_lit (s : ByteArray) (r : Bool) (w : World) (hs : s.size ≤ maxLen) (h : plL s.data.toList = r) :
    Calls Tryz.prog 102 #[.string s] w fun e w' => e = .returned (.bool r) ∧ Below w.heap.size w w' := by
  subst h; rw [← plS_eq]; exact plain_any s w hs
theorem signs_lit (s : ByteArray) (r : Bool) (w : World) (hs : s.size ≤ maxLen) (h : sgL s.data.toList = r) :
    Calls Tryz.prog 81 #[.string s] w fun e w' => e = .returned (.bool r) ∧ w = w' := by
  subst h; rw [← sgS_eq]; exact signs_any s w hs
theorem ba_le {l : List UInt8} {n : Nat} (h : l.length ≤ n) : (⟨l.toArray⟩ : ByteArray).size ≤ n := by simpa [ByteArray.size] using h
theorem ext_take (s : ByteArray) (k : Nat) : (s.extract 0 k).data.toList = s.data.toList.take k := by
  rw [Lib.extract_data, List.drop_zero, Nat.sub_zero]
theorem ext_drop (s : ByteArray) (k : Nat) : (s.extract k s.size).data.toList = s.data.toList.drop k := by
  exact Lib.extract_to_end s k
theorem byte_ne {a b : UInt8} (n : Int) (h : ¬ a = b) (hn : (b.toNat : Int) = n) : ((a.toNat : Int) == n) = false := by
  rw [beq_eq_false_iff_ne, ← hn]
  intro e
  exact h (UInt8.toNat_inj.1 (by omega))
theorem ext_size (s : ByteArray) (a b : Nat) : (s.extract a b).size ≤ s.size := by simp; omega
/-- strings.Cut where the separator stands at k. -/
theorem cut_hit (s sep : ByteArray) (k : Nat) (w : World) (h : MxL w) (hs : s.size ≤ 12) (hk : Lib.index s.data.toList sep.data.toList = k) :
    Calls Tryz.prog 64 #[.string s, .string sep] w fun e w' => ∃ (a b : ByteArray) (n : Nat), e = .returned (.tuple #[.string a, .string b, .bool true]) ∧ a.data.toList = s.data.toList.take k ∧ b.data.toList = s.data.toList.drop (k + sep.size) ∧ w' = w.drewN n := by
  refine (cut_any s sep w h (by omega)).mono ?_
  rintro e w' ⟨rfl, n, rfl⟩
  rw [cut_at hk]
  exact ⟨_, _, n, rfl, rfl, by show List.drop (k + sep.data.toList.length) _ = List.drop (k + sep.data.size) _; rw [Array.length_toList], rfl⟩
theorem cut_miss (s sep : ByteArray) (w : World) (h : MxL w) (hs : s.size ≤ 12) (hk : Lib.index s.data.toList sep.data.toList = -1) :
    Calls Tryz.prog 64 #[.string s, .string sep] w fun e w' => ∃ n : Nat, e = .returned (.tuple #[.string s, .string ⟨#[]⟩, .bool false]) ∧ w' = w.drewN n := by
  refine (cut_any s sep w h (by omega)).mono ?_
  rintro e w' ⟨rfl, n, rfl⟩
  rw [cut_none hk]
  exact ⟨n, rfl, rfl⟩
set_option maxRecDepth 100000 in
set_option maxHeartbeats 1000000 in
theorem formatmay_lit (s : ByteArray) (w : World) (hs : s.size ≤ maxLen) :
    Calls Tryz.prog 54 #[.string s] w fun e w' => e = .returned (.bool (fmtL s.data.toList)) ∧ w = w' := by
  have hs' := maxLen_eq _ hs
  obtain ⟨r, hr⟩ : ∃ r, r = fmtL s.data.toList := ⟨_, rfl⟩
  rw [← hr]
  have hl : s.data.toList.length = s.size := by simp
  by_cases hin : 1 ≤ (s.size : Int) ∧ (s.size : Int) ≤ 12
  · have D := Lib.hid (show decide ((1 : Int) ≤ s.size ∧ (s.size : Int) ≤ 12) = true from decide_eq_true hin)
    have HG : Hid (∀ (k : Nat) (h : k < s.size), s.data.toList[k]? = some s[k]) := fun k h => by simp [h]; rfl
    have HN : Hid (∀ k : Nat, s.size ≤ k → s.data.toList[k]? = none) := fun k h => by simp [h]
    have HR := Lib.hid hr
    have HI := Lib.hid hin
    have HL := Lib.hid hl
    have HS := Lib.hid hs
    have h1 := hin.1
    have h2 := hin.2
    clear hr hin hl hs
    go_enter Tryz.func54, Tryz.ntmps54
    go_wp2_with (go_at_call 49; with_reducible refine (in_lit _ _ _ _ _ D.out).mono ?_; rintro e w' ⟨rfl, rfl⟩)
    go_loop [3] (fun t => ∃ k : Nat, k ≤ s.size ∧ t = .int .i64 k ∧ Hid (∀ i, i < k → s.data.toList[i]? ≠ some 47)) (fun t => (s.size - intOf t).toNat)
    case atStart => exact ⟨0, by omega, rfl, fun i h => by omega⟩
    case round =>
      obtain ⟨k, hk, rfl, hn⟩ := hrel
      by_cases hlt : k < s.size
      · have hlt' : (k : Int) < (s.size : Int) := by omega
        have hnx := HG.out k hlt
        by_cases h47 : s[k] = 47
        · have hx : s.data.toList[k]? = some 47 := by rw [hnx, h47]
          have hF : r = (decide (0 < k) && sgL (s.data.toList.take k) && (decide (k + 1 < s.data.toList.length) && sgL (s.data.toList.drop (k + 1)))) := by
            rw [HR.out, fmt_slash (by rw [HL.out]; exact HI.out) (ix1_at hx fun i hi => hn.out i hi), pl_take (by rw [HL.out]; exact hlt), pl_drop]
          rw [HL.out] at hF
          clear hx hnx
          by_cases hk0 : k = 0
          · subst hk0
            have hf : r = false := by rw [hF]; simp
            subst hf
            clear hF
            go_wp2_with fail
            go_ret
            exact ⟨rfl, rfl⟩
          · have hkp : 0 < (k : Int) := by omega
            by_cases hk1 : k + 1 < s.size
            · have hk2 : (k : Int) + 1 < (s.size : Int) := by omega
              rw [decide_eq_true (show 0 < k by omega), decide_eq_true hk1] at hF
              obtain ⟨pa, hpa⟩ : ∃ pa, sgL (s.data.toList.take k) = pa := ⟨_, rfl⟩
              obtain ⟨pb, hpb⟩ : ∃ pb, sgL (s.data.toList.drop (k + 1)) = pb := ⟨_, rfl⟩
              rw [hpa, hpb] at hF
              rw [← ext_take] at hpa
              rw [← ext_drop] at hpb
              have HA := Lib.hid hpa
              have HB := Lib.hid hpb
              have HF := Lib.hid hF
              clear hpa hpb hF
              go_wp2_with fail
              refine (signs_lit _ pa _ (by have := ext_size s 0 k; unfold maxLen; omega) HA.out).mono ?_; rintro e w' ⟨rfl, rfl⟩
              cases pa
              · go_wp2_with fail
                go_ret
                exact ⟨ret_bool (by rw [HF.out]; rfl), rfl⟩
              · go_wp2_with fail
                refine (signs_lit _ pb _ (by have := ext_size s (k + 1) s.size; unfold maxLen; omega) HB.out).mono ?_; rintro e w' ⟨rfl, rfl⟩
                go_wp2_with fail
                go_ret
                exact ⟨ret_bool (by rw [HF.out]; rfl), rfl⟩
            · have hf : r = false := by rw [hF, decide_eq_false hk1]; simp
              have hk2 : ¬ (k : Int) + 1 < (s.size : Int) := by omega
              subst hf
              clear hF
              go_wp2_with fail
              go_ret
              exact ⟨rfl, rfl⟩
        · have hn' : Hid (∀ i, i < k + 1 → s.data.toList[i]? ≠ some 47) := fun i hi => by
            by_cases e : i = k
            · subst e; rw [hnx]; simpa using h47
            · exact hn.out i (by omega)
          have h48 := byte_ne 47 h47 rfl
          clear hnx
          go_wp2_with fail
          go_round
          case rel => exact ⟨k + 1, by omega, by go_num, hn'⟩
          case measure => simp [intOf]; omega
      · have HX : Hid (Lib.index s.data.toList [47] = -1) := ix1_none fun i => by
          by_cases e : i < s.size
          · exact hn.out i (by omega)
          · rw [HN.out i (by omega)]; simp
        clear hn
        go_wp2_with fail
        go_loop [4] (fun t => ∃ q : Nat, q ≤ s.size ∧ t = .int .i64 q ∧ Hid (∀ i, i < q → ¬ (s.data.toList[i]? = some 37 ∧ s.data.toList[i + 1]? = some 115))) (fun t => (s.size - intOf t).toNat)
        case atStart => exact ⟨0, by omega, rfl, fun i h => by omega⟩
        case round =>
          obtain ⟨q, hq, rfl, hm⟩ := hrel
          by_cases hlq : q + 1 < s.size
          · have hlq' : (q : Int) + 1 < (s.size : Int) := by omega
            have hnx := HG.out q (by omega)
            have hny := HG.out (q + 1) hlq
            by_cases h37 : s[q] = 37 ∧ s[q + 1] = 115
            · obtain ⟨h37, h115⟩ := h37
              have hF : r = (sgL (s.data.toList.take q) && sgL (s.data.toList.drop (q + 2))) := by
                rw [HR.out, fmt_mark (by rw [HL.out]; exact HI.out) HX.out (ix2_at (by rw [hnx, h37]) (by rw [hny, h115]) fun i hi => hm.out i hi)]
              obtain ⟨pa, hpa⟩ : ∃ pa, sgL (s.data.toList.take q) = pa := ⟨_, rfl⟩
              obtain ⟨pb, hpb⟩ : ∃ pb, sgL (s.data.toList.drop (q + 2)) = pb := ⟨_, rfl⟩
              rw [hpa, hpb] at hF
              rw [← ext_take] at hpa
              rw [← ext_drop] at hpb
              have HA := Lib.hid hpa
              have HB := Lib.hid hpb
              have HF := Lib.hid hF
              clear hpa hpb hF hnx hny
              go_wp2_with fail
              refine (signs_lit _ pa _ (by have := ext_size s 0 q; unfold maxLen; omega) HA.out).mono ?_; rintro e w' ⟨rfl, rfl⟩
              cases pa
              · go_wp2_with fail
                go_ret
                exact ⟨ret_bool (by rw [HF.out]; rfl), rfl⟩
              · go_wp2_with fail
                refine (signs_lit _ pb _ (by have := ext_size s (q + 2) s.size; unfold maxLen; omega) HB.out).mono ?_; rintro e w' ⟨rfl, rfl⟩
                go_wp2_with fail
                go_ret
                exact ⟨ret_bool (by rw [HF.out]; rfl), rfl⟩
            · have hm' : Hid (∀ i, i < q + 1 → ¬ (s.data.toList[i]? = some 37 ∧ s.data.toList[i + 1]? = some 115)) := fun i hi => by
                by_cases e : i = q
                · subst e; rw [hnx, hny]; simpa using h37
                · exact hm.out i (by omega)
              clear hnx hny
              by_cases ha : s[q] = 37
              · have hb : ¬ s[q + 1] = 115 := fun e => h37 ⟨ha, e⟩
                clear h37
                have h48 := byte_ne 115 hb rfl
                go_wp2_with fail
                go_round
                case rel => exact ⟨q + 1, by omega, by go_num, hm'⟩
                case measure => simp [intOf]; omega
              · clear h37
                have h48 := byte_ne 37 ha rfl
                go_wp2_with fail
                go_round
                case rel => exact ⟨q + 1, by omega, by go_num, hm'⟩
                case measure => simp [intOf]; omega
          · have hlq' : ¬ (q : Int) + 1 < (s.size : Int) := by omega
            have HF : Hid (sgL s.data.toList = r) := by
              show _ = _
              rw [HR.out, fmt_plain (by rw [HL.out]; exact HI.out) HX.out (ix2_none fun i => by
                by_cases e : i < q
                · exact hm.out i e
                · rintro ⟨_, h⟩
                  rw [HN.out (i + 1) (by omega)] at h
                  cases h)]
            clear hm
            go_wp2_with fail
            refine (signs_lit _ r _ HS.out HF.out).mono ?_; rintro e w' ⟨rfl, rfl⟩
            go_wp2_with fail
            go_ret
            exact ⟨rfl, rfl⟩
  · have hf : r = false := by rw [hr]; exact fmt_size (by rw [hl]; exact hin)
    subst hf
    have D := Lib.hid (show decide ((1 : Int) ≤ s.size ∧ (s.size : Int) ≤ 12) = false from decide_eq_false hin)
    clear hr hs hin
    go_enter Tryz.func54, Tryz.ntmps54
    go_wp2_with (go_at_call 49; with_reducible refine (in_lit _ _ _ _ _ D.out).mono ?_; rintro e w' ⟨rfl, rfl⟩)
    go_ret
    exact ⟨rfl, rfl⟩
theorem ba_sub {a : ByteArray} (h : a.data.toList.length ≤ 12) : a.size ≤ maxLen := by
  have : a.size = a.data.toList.length := by simp
  unfold maxLen; omega
theorem ba_cases (a : ByteArray) : a = ByteArray.empty ∨ (¬ a = ByteArray.empty ∧ ¬ a.toList = [] ∧ a.toList.isEmpty = false) := by
  by_cases h0 : a = ByteArray.empty
  · exact .inl h0
  · have hnl : ¬ a.toList = [] := fun e => h0 ((toList_nil_iff_emptyBytes a).1 e)
    exact .inr ⟨h0, hnl, by cases hl : a.toList with
      | nil => exact absurd hl hnl
      | cons b l => rfl⟩
/-- plain, or nothing. -/
theorem pl_or {a : ByteArray} (h : ¬ a = ByteArray.empty) : plL a.data.toList = sgL a.data.toList := by
  have : a.data.toList.isEmpty = false := by
    cases hl : a.data.toList with
    | nil => exact absurd (ByteArray.ext (Array.toList_inj.1 (by rw [hl]; rfl))) h
    | cons b l => rfl
  unfold plL; rw [this]; rfl
set_option maxRecDepth 100000 in
set_option maxHeartbeats 1000000 in
theorem format_lit (s : ByteArray) (w : World) (hs : s.size ≤ maxLen) (hM : MxL w) :
    Calls Tryz.prog 75 #[.string s] w fun e w' => e = .returned (.bool (fmtL s.data.toList)) ∧ Below w.heap.size w w' := by
  have hs' := maxLen_eq _ hs
  obtain ⟨r, hr⟩ : ∃ r, r = fmtL s.data.toList := ⟨_, rfl⟩
  rw [← hr]
  have hl : s.data.toList.length = s.size := by simp
  by_cases hin : 1 ≤ (s.size : Int) ∧ (s.size : Int) ≤ 12
  · have HR := Lib.hid hr
    have HI := Lib.hid hin
    have HL := Lib.hid hl
    have HM := Lib.hid hM
    have HS := Lib.hid hs
    have h2 := hin.2
    have h3 : s.size ≤ 12 := by omega
    have H3 := Lib.hid h3
    have hn0 : ¬ s = ByteArray.empty := fun e => by rw [e] at hin; simp at hin
    have hne : ¬ s.toList = [] ∧ s.toList.isEmpty = false := ((ba_cases s).resolve_left hn0).2
    obtain ⟨hn1, hn2⟩ := hne
    clear hr hin hl hM hs
    rcases ix_cases s.data.toList [47] with hx | ⟨k, hx, hkl⟩
    · have HX := Lib.hid hx
      clear hx
      rcases ix_cases s.data.toList [37, 115] with hm | ⟨k, hm, hkl⟩
      · have HF : Hid (plL s.data.toList = r) := by
          show _ = _
          rw [HR.out, fmt_plain (by rw [HL.out]; exact HI.out) HX.out hm, pl_or hn0]
        have HY := Lib.hid hm
        clear hm
        go_enter Tryz.func75, Tryz.ntmps75
        go_wp2_with fail
        refine (cut_miss s _ w HM.out H3.out HX.out).mono ?_; rintro e w1 ⟨n, rfl, rfl⟩
        go_wp2_with fail
        refine (cut_miss s _ _ (HM.out.drewN n) H3.out HY.out).mono ?_; rintro e w1 ⟨n1, rfl, rfl⟩
        go_wp2_with fail
        refine (plain_lit s r _ HS.out HF.out).mono ?_; rintro e w1 ⟨rfl, hb⟩
        go_wp2_with fail
        go_ret
        exact ⟨rfl, (below_draws (Below.refl _ _) (n + n1)).trans hb⟩
      · have HF : Hid (r = (sgL (s.data.toList.take k) && sgL (s.data.toList.drop (k + 2)))) := by
          show _ = _
          rw [HR.out, fmt_mark (by rw [HL.out]; exact HI.out) HX.out hm]
        have HY := Lib.hid hm
        clear hm
        go_enter Tryz.func75, Tryz.ntmps75
        go_wp2_with fail
        refine (cut_miss s _ w HM.out H3.out HX.out).mono ?_; rintro e w1 ⟨n, rfl, rfl⟩
        go_wp2_with fail
        refine (cut_hit s _ k _ (HM.out.drewN n) H3.out HY.out).mono ?_; rintro e w1 ⟨a, b, n1, rfl, ha, hb, rfl⟩
        have hza : a.size ≤ maxLen := ba_sub (by rw [ha, List.length_take]; exact Nat.le_trans (Nat.min_le_right _ _) (by rw [HL.out]; exact H3.out))
        have hzb : b.size ≤ maxLen := ba_sub (by rw [hb, List.length_drop]; exact Nat.le_trans (Nat.sub_le _ _) (by rw [HL.out]; exact H3.out))
        have HF2 : Hid (r = (sgL a.data.toList && sgL b.data.toList)) := by
          show _ = _
          rw [ha, hb]; exact HF.out
        have HZA := Lib.hid hza
        have HZB := Lib.hid hzb
        clear ha hb hza hzb HF
        obtain ⟨pa, hpa⟩ : ∃ pa, sgL a.data.toList = pa := ⟨_, rfl⟩
        obtain ⟨pb, hpb⟩ : ∃ pb, sgL b.data.toList = pb := ⟨_, rfl⟩
        rw [hpa, hpb] at HF2
        rcases ba_cases a with rfl | ⟨a1, a2, a3⟩
        · obtain rfl : pa = true := by rw [← hpa]; rfl
          clear hpa
          rcases ba_cases b with rfl | ⟨b1, b2, b3⟩
          · obtain rfl : pb = true := by rw [← hpb]; rfl
            clear hpb
            go_wp2_with fail
            go_ret
            exact ⟨ret_bool HF2.out.symm, below_draws (Below.refl _ _) (n + n1)⟩
          · rw [← pl_or b1] at hpb
            have HB := Lib.hid hpb
            clear hpb
            go_wp2_with fail
            refine (plain_lit b pb _ HZB.out HB.out).mono ?_; rintro e w1 ⟨rfl, hb⟩
            go_wp2_with fail
            go_ret
            exact ⟨ret_bool HF2.out.symm, (below_draws (Below.refl _ _) (n + n1)).trans hb⟩
        · rw [← pl_or a1] at hpa
          have HA := Lib.hid hpa
          clear hpa
          rcases ba_cases b with rfl | ⟨b1, b2, b3⟩
          · obtain rfl : pb = true := by rw [← hpb]; rfl
            clear hpb
            go_wp2_with fail
            refine (plain_lit a pa _ HZA.out HA.out).mono ?_; rintro e w1 ⟨rfl, hb⟩
            cases pa
            · go_wp2_with fail
              go_ret
              exact ⟨ret_bool HF2.out.symm, (below_draws (Below.refl _ _) (n + n1)).trans hb⟩
            · go_wp2_with fail
              go_ret
              exact ⟨ret_bool HF2.out.symm, (below_draws (Below.refl _ _) (n + n1)).trans hb⟩
          · rw [← pl_or b1] at hpb
            have HB := Lib.hid hpb
            clear hpb
            go_wp2_with fail
            refine (plain_lit a pa _ HZA.out HA.out).mono ?_; rintro e w1 ⟨rfl, hb⟩
            cases pa
            · go_wp2_with fail
              go_ret
              exact ⟨ret_bool HF2.out.symm, (below_draws (Below.refl _ _) (n + n1)).trans hb⟩
            · go_wp2_with fail
              refine (plain_lit b pb _ HZB.out HB.out).mono ?_; rintro e w2 ⟨rfl, hb2⟩
              go_wp2_with fail
              go_ret
              exact ⟨ret_bool HF2.out.symm, (below_draws (Below.refl _ _) (n + n1)).trans (hb.trans (hb2.mono hb.size))⟩
    · have HF : Hid (r = (plL (s.data.toList.take k) && plL (s.data.toList.drop (k + 1)))) := by
        show _ = _
        rw [HR.out, fmt_slash (by rw [HL.out]; exact HI.out) hx]
      have HX := Lib.hid hx
      clear hx
      go_enter Tryz.func75, Tryz.ntmps75
      go_wp2_with fail
      refine (cut_hit s _ k _ HM.out H3.out HX.out).mono ?_; rintro e w1 ⟨a, b, n, rfl, ha, hb, rfl⟩
      have hza : a.size ≤ maxLen := ba_sub (by rw [ha, List.length_take]; exact Nat.le_trans (Nat.min_le_right _ _) (by rw [HL.out]; exact H3.out))
      have hzb : b.size ≤ maxLen := ba_sub (by rw [hb, List.length_drop]; exact Nat.le_trans (Nat.sub_le _ _) (by rw [HL.out]; exact H3.out))
      have HF2 : Hid (r = (plL a.data.toList && plL b.data.toList)) := by
        show _ = _
        rw [ha, hb]; exact HF.out
      have HZA := Lib.hid hza
      have HZB := Lib.hid hzb
      clear ha hb hza hzb HF
      obtain ⟨pa, hpa⟩ : ∃ pa, plL a.data.toList = pa := ⟨_, rfl⟩
      obtain ⟨pb, hpb⟩ : ∃ pb, plL b.data.toList = pb := ⟨_, rfl⟩
      rw [hpa, hpb] at HF2
      have HA := Lib.hid hpa
      have HB := Lib.hid hpb
      clear hpa hpb
      go_wp2_with fail
      refine (plain_lit a pa _ HZA.out HA.out).mono ?_; rintro e w1 ⟨rfl, hb⟩
      cases pa
      · go_wp2_with fail
        go_ret
        exact ⟨ret_bool HF2.out.symm, (below_draws (Below.refl _ _) n).trans hb⟩
      · go_wp2_with fail
        refine (plain_lit b pb _ HZB.out HB.out).mono ?_; rintro e w2 ⟨rfl, hb2⟩
        go_wp2_with fail
        go_ret
        exact ⟨ret_bool HF2.out.symm, (below_draws (Below.refl _ _) n).trans (hb.trans (hb2.mono hb.size))⟩
  · have hf : r = false := by rw [hr]; exact fmt_size (by rw [hl]; exact hin)
    subst hf
    clear hr hs hl hM
    rcases ba_cases s with rfl | ⟨b1, b2, b3⟩
    · go_enter Tryz.func75, Tryz.ntmps75
      go_wp2_with fail
      go_ret
      exact ⟨rfl, Below.refl _ _⟩
    · have h12 : 12 < (s.size : Int) := by
        have : 0 < s.size := by
          rcases Nat.eq_zero_or_pos s.size with e | e
          · exact absurd (ByteArray.ext (Array.eq_empty_of_size_eq_zero e)) b1
          · exact e
        omega
      clear hin
      go_enter Tryz.func75, Tryz.ntmps75
      go_wp2_with fail
      go_ret
      exact ⟨rfl, Below.refl _ _⟩
end Go.Proofs.YtbciennhcdabeaaGreatDoor
