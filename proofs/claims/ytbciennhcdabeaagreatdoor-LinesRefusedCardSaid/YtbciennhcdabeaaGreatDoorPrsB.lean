/-
  sundialref.decimal: plain; walked.
-/
import Derived.Test.YtbciennhcdabeaaGreatDoorSrcT
namespace Go.Proofs.YtbciennhcdabeaaGreatDoor
set_option linter.unusedVariables false
set_option linter.unusedSimpArgs false
open Go.ChangeShapes Go.WideShapes Go.ChangeAt Go.RowKit

def dval (l : List Int) : Int := l.foldl (fun n b => 10 * n + (b - 48)) 0
theorem dval_snoc (l : List Int) (b : Int) : dval (l ++ [b]) = 10 * dval l + (b - 48) := by unfold dval; rw [List.foldl_append]; rfl
theorem dval_lt : ∀ (j : Nat) (l : List Int), l.length ≤ j → (∀ b ∈ l, 48 ≤ b ∧ b ≤ 57) → 0 ≤ dval l ∧ dval l < 10 ^ j
  | 0, l, h, _ => by
    have : l = [] := by cases l <;> simp_all
    subst this
    decide
  | j + 1, l, h, hd => by
    rcases List.eq_nil_or_concat l with rfl | ⟨r, b, rfl⟩
    · refine ⟨by decide, ?_⟩
      show (0 : Int) < 10 ^ (j + 1)
      exact Int.pow_pos (by decide)
    · rw [List.concat_eq_append] at h hd ⊢
      rw [dval_snoc]
      have h1 := dval_lt j r (by simp at h; omega) (fun x hx => hd x (by simp [hx]))
      have h2 := hd b (by simp)
      have h3 : (10 : Int) ^ (j + 1) = 10 * 10 ^ j := by rw [Int.pow_succ, Int.mul_comm]
      omega
def dcmBad (l : List Int) : Bool := !(decide (1 ≤ (l.length : Int) ∧ (l.length : Int) ≤ 6)) || (!(l.all digB) || (decide (1 < l.length) && (l.headD 0 == 48)))
def dcm (l : List Int) (most : Int) : Int × Int := if dcmBad l then (0, 4) else if most < dval l then (0, 2) else (dval l, 0)
theorem digB_iff (x : Int) : digB x = true ↔ 48 ≤ x ∧ x ≤ 57 := by unfold digB; simp
set_option maxRecDepth 100000 in
set_option maxHeartbeats 4000000 in
theorem decimal_any (s : ByteArray) (most : Int) (w : World) (hs : s.size ≤ maxLen) :
    Calls Tryz.prog 76 #[.string s, .int .i64 most] w fun e w' => e = .returned (.tuple #[.int .i64 (dcm (bl s) most).1, .int .i64 (dcm (bl s) most).2]) ∧ w = w' := by
  have HS := Lib.hid hs
  have hs' := maxLen_eq _ hs
  have HBL := Lib.hid (bl_len s)
  have HG : Hid (∀ (k : Nat) (h : k < s.size), (bl s)[k]'(by rw [bl_len s]; exact h) = ((s[k]).toNat : Int)) := fun k h => by simp [bl]; rfl
  clear hs
  by_cases h1 : 1 ≤ (s.size : Int) ∧ (s.size : Int) ≤ 6
  · rcases h2 : (bl s).all digB with _ | _
    · have HD : Hid (dcm (bl s) most = (0, 4)) := by
        show _ = _
        unfold dcm dcmBad
        rw [h2, HBL.out, decide_eq_true h1]
        rfl
      have H2 := Lib.hid h2
      clear h2
      go_enter Tryz.func76, Tryz.ntmps76
      go_wp2_with fail
      refine (in_any _ _ _ _).mono ?_; rintro e w' ⟨rfl, rfl⟩
      rw [decide_eq_true h1]
      clear h1
      go_wp2_with fail
      refine (allof_any digB 53 s _ HS.out (enters_of Tryz.func53 (by kernel_rfl) rfl) (fun x w => isdigit_lit x _ w rfl)).mono ?_; rintro e w' ⟨rfl, rfl⟩
      rw [H2.out]
      go_wp2
      go_ret2
      exact ⟨by rw [HD.out]; rfl, rfl⟩
    · have HDG : Hid (∀ (k : Nat) (h : k < s.size), 48 ≤ (((s[k]).toNat : Nat) : Int) ∧ (((s[k]).toNat : Nat) : Int) ≤ 57) := fun k h => by
        rw [← HG.out k h]
        exact (digB_iff _).1 (List.all_eq_true.1 h2 _ (List.getElem_mem _))
      have H2 := Lib.hid h2
      have h0 : 0 < s.size := by omega
      by_cases h3 : 1 < s.size ∧ ((s[0]).toNat : Int) = 48
      · have HD : Hid (dcm (bl s) most = (0, 4)) := by
          show _ = _
          have h4 : (bl s).headD 0 = ((s[0]).toNat : Int) := by
            rw [← HG.out 0 h0, List.headD_eq_head?_getD, List.head?_eq_getElem?, List.getElem?_eq_getElem (by rw [HBL.out]; exact h0)]
            rfl
          unfold dcm dcmBad
          rw [h2, HBL.out, decide_eq_true h1, h4, h3.2, decide_eq_true h3.1]
          rfl
        have h5 : (1 : Int) < (s.size : Int) := by omega
        have h6 : ((((s[0]).toNat : Nat) : Int) == 48) = true := by rw [h3.2]; rfl
        have H1 := Lib.hid h1
        clear h2 h1 h3
        go_enter Tryz.func76, Tryz.ntmps76
        go_wp2_with fail
        refine (in_any _ _ _ _).mono ?_; rintro e w' ⟨rfl, rfl⟩
        rw [decide_eq_true H1.out]
        go_wp2_with fail
        refine (allof_any digB 53 s _ HS.out (enters_of Tryz.func53 (by kernel_rfl) rfl) (fun x w => isdigit_lit x _ w rfl)).mono ?_; rintro e w' ⟨rfl, rfl⟩
        rw [H2.out]
        go_wp2
        go_ret2
        exact ⟨by rw [HD.out]; rfl, rfl⟩
      · have HD : Hid (dcm (bl s) most = if most < dval (bl s) then (0, 2) else (dval (bl s), 0)) := by
          show _ = _
          have h4 : (bl s).headD 0 = ((s[0]).toNat : Int) := by
            rw [← HG.out 0 h0, List.headD_eq_head?_getD, List.head?_eq_getElem?, List.getElem?_eq_getElem (by rw [HBL.out]; exact h0)]
            rfl
          have h5 : dcmBad (bl s) = false := by
            unfold dcmBad
            rw [h2, HBL.out, decide_eq_true h1, h4]
            by_cases h6 : 1 < s.size
            · have h7 : ((s[0]).toNat : Int) ≠ 48 := fun e => h3 ⟨h6, e⟩
              rw [decide_eq_true h6, (beq_eq_false_iff_ne).2 h7]
              rfl
            · rw [decide_eq_false h6]
              rfl
          unfold dcm
          rw [h5]
          rfl
        have HLT : Hid (∀ i, i ≤ s.size → 0 ≤ dval ((bl s).take i) ∧ dval ((bl s).take i) < 1000000) := fun i hi => by
          refine dval_lt 6 _ (by rw [List.length_take, HBL.out]; omega) fun b hb => ?_
          exact (digB_iff _).1 (List.all_eq_true.1 h2 _ (List.mem_of_mem_take hb))
        have HSN : Hid (∀ (k : Nat) (h : k < s.size), dval ((bl s).take (k + 1)) = 10 * dval ((bl s).take k) + (((s[k]).toNat : Int) - 48)) := fun k h => by
          rw [List.take_succ_eq_append_getElem (by rw [HBL.out]; exact h), dval_snoc, HG.out k h]
        have H1 := Lib.hid h1
        have hsz : s.size ≤ 6 := by omega
        have hz0 := HDG.out 0 h0
        by_cases h5 : 1 < s.size
        · have h5' : (1 : Int) < (s.size : Int) := by omega
          have h6 : ((((s[0]).toNat : Nat) : Int) == 48) = false := by rw [beq_eq_false_iff_ne]; exact fun e => h3 ⟨h5, e⟩
          clear h2 h1 h3 hz0
          go_enter Tryz.func76, Tryz.ntmps76
          go_wp2_with fail
          refine (in_any _ _ _ _).mono ?_; rintro e w' ⟨rfl, rfl⟩
          rw [decide_eq_true H1.out]
          go_wp2_with fail
          refine (allof_any digB 53 s _ HS.out (enters_of Tryz.func53 (by kernel_rfl) rfl) (fun x w => isdigit_lit x _ w rfl)).mono ?_; rintro e w' ⟨rfl, rfl⟩
          rw [H2.out]
          go_wp2
          go_loop [6, 7] (fun n i => ∃ k : Nat, k ≤ s.size ∧ i = .int .i64 k ∧ n = .int .i64 (dval ((bl s).take k))) (fun _ i => (s.size - intOf i).toNat)
          case atStart => exact ⟨0, by omega, rfl, rfl⟩
          case round =>
            obtain ⟨k, hk, rfl, rfl⟩ := hrel
            by_cases hlt : k < s.size
            · have hlt' : (k : Int) < (s.size : Int) := by omega
              have hsn := HSN.out k hlt
              obtain ⟨d1, d2⟩ := HDG.out k hlt
              obtain ⟨v1, v2⟩ := HLT.out k hk
              obtain ⟨b, hb⟩ : ∃ b : Int, b = ((s[k]).toNat : Int) := ⟨_, rfl⟩
              rw [← hb] at hsn d1 d2
              have hbx : ((s[k]).toNat : Int) = b := hb.symm
              generalize dval ((bl s).take k) = v at *
              have HV := Lib.hid hsn
              clear hsn hb
              go_wp2
              go_round
              case rel => exact ⟨k + 1, by omega, by go_num, by rw [HV.out]⟩
              case measure => simp [intOf]; omega
            · obtain rfl : k = s.size := by omega
              have e1 : (bl s).take s.size = bl s := List.take_of_length_le (by rw [HBL.out]; omega)
              rw [e1]
              obtain ⟨v1, v2⟩ := HLT.out s.size (by omega)
              rw [e1] at v1 v2
              clear e1
              generalize dval (bl s) = v at *
              by_cases hm : most < v
              · have HD2 := HD.out
                rw [if_pos hm] at HD2
                have HD3 := Lib.hid HD2
                clear HD2
                go_wp2
                go_ret2
                exact ⟨by rw [HD3.out]; rfl, rfl⟩
              · have HD2 := HD.out
                rw [if_neg hm] at HD2
                have HD3 := Lib.hid HD2
                clear HD2
                go_wp2
                go_ret2
                exact ⟨by rw [HD3.out]; rfl, rfl⟩
        · have h5' : ¬ (1 : Int) < (s.size : Int) := by omega
          clear h2 h1 h3 hz0
          go_enter Tryz.func76, Tryz.ntmps76
          go_wp2_with fail
          refine (in_any _ _ _ _).mono ?_; rintro e w' ⟨rfl, rfl⟩
          rw [decide_eq_true H1.out]
          go_wp2_with fail
          refine (allof_any digB 53 s _ HS.out (enters_of Tryz.func53 (by kernel_rfl) rfl) (fun x w => isdigit_lit x _ w rfl)).mono ?_; rintro e w' ⟨rfl, rfl⟩
          rw [H2.out]
          go_wp2
          go_loop [6, 7] (fun n i => ∃ k : Nat, k ≤ s.size ∧ i = .int .i64 k ∧ n = .int .i64 (dval ((bl s).take k))) (fun _ i => (s.size - intOf i).toNat)
          case atStart => exact ⟨0, by omega, rfl, rfl⟩
          case round =>
            obtain ⟨k, hk, rfl, rfl⟩ := hrel
            by_cases hlt : k < s.size
            · have hlt' : (k : Int) < (s.size : Int) := by omega
              have hsn := HSN.out k hlt
              obtain ⟨d1, d2⟩ := HDG.out k hlt
              obtain ⟨v1, v2⟩ := HLT.out k hk
              obtain ⟨b, hb⟩ : ∃ b : Int, b = ((s[k]).toNat : Int) := ⟨_, rfl⟩
              rw [← hb] at hsn d1 d2
              have hbx : ((s[k]).toNat : Int) = b := hb.symm
              generalize dval ((bl s).take k) = v at *
              have HV := Lib.hid hsn
              clear hsn hb
              go_wp2
              go_round
              case rel => exact ⟨k + 1, by omega, by go_num, by rw [HV.out]⟩
              case measure => simp [intOf]; omega
            · obtain rfl : k = s.size := by omega
              have e1 : (bl s).take s.size = bl s := List.take_of_length_le (by rw [HBL.out]; omega)
              rw [e1]
              obtain ⟨v1, v2⟩ := HLT.out s.size (by omega)
              rw [e1] at v1 v2
              clear e1
              generalize dval (bl s) = v at *
              by_cases hm : most < v
              · have HD2 := HD.out
                rw [if_pos hm] at HD2
                have HD3 := Lib.hid HD2
                clear HD2
                go_wp2
                go_ret2
                exact ⟨by rw [HD3.out]; rfl, rfl⟩
              · have HD2 := HD.out
                rw [if_neg hm] at HD2
                have HD3 := Lib.hid HD2
                clear HD2
                go_wp2
                go_ret2
                exact ⟨by rw [HD3.out]; rfl, rfl⟩
  · have HD : Hid (dcm (bl s) most = (0, 4)) := by
      show _ = _
      unfold dcm dcmBad
      rw [HBL.out, decide_eq_false h1]
      rfl
    go_enter Tryz.func76, Tryz.ntmps76
    go_wp2_with fail
    refine (in_any _ _ _ _).mono ?_; rintro e w' ⟨rfl, rfl⟩
    rw [decide_eq_false h1]
    go_wp2
    go_ret2
    exact ⟨by rw [HD.out]; rfl, rfl⟩
end Go.Proofs.YtbciennhcdabeaaGreatDoor
