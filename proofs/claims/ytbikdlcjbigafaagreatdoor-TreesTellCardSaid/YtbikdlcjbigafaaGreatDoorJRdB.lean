/-
  source: what panics; numbers, two digits, years, days.
-/
import Derived.WalkLawsBesides
import Derived.Test.YtbikdlcjbigafaaGreatDoorJRdA
import Derived.Test.YtbikdlcjbigafaaGreatDoorJTrB
import Derived.Test.YtbikdlcjbigafaaGreatDoorJShPrs
import Derived.Test.YtbikdlcjbigafaaGreatDoorJMxl
namespace Go.Proofs.YtbikdlcjbigafaaGreatDoor
set_option linter.unusedVariables false
set_option linter.unusedSimpArgs false
open Go.ChangeShapes Go.WideShapes Go.ChangeAt Go.RowKit Civ

/-- a fault that is thrown. -/
def fltC (e : Int) : List PanicEntry := [{ v := .iface 146 (.agg #[.int .i64 e]), recovered := false }]
/-- a value, or a fault that is thrown. -/
def PnE (E : Int) (v : Value) : Ending := if E = 0 then .returned v else .panicked (fltC E)
theorem PnE_ok {E : Int} {v : Value} (h : E = 0) : PnE E v = .returned v := if_pos h
theorem PnE_no {E : Int} {v : Value} (h : E ≠ 0) : PnE E v = .panicked (fltC E) := if_neg h
set_option maxRecDepth 100000 in
theorem bad_any (e : Int) (w : World) :
    Calls Tryz.prog 83 #[.int .i64 e] w fun en w' => en = .panicked (fltC e) ∧ w = w' := by
  go_enter Tryz.func83, Tryz.ntmps83
  go_wp2
  exact ⟨rfl, rfl, rfl⟩
set_option maxRecDepth 100000 in
theorem need_yes (e : Int) (w : World) :
    Calls Tryz.prog 80 #[.bool true, .int .i64 e] w fun en w' => en = .returned (.tuple #[]) ∧ w = w' := by
  go_enter Tryz.func80, Tryz.ntmps80
  go_wp2
  go_end0
  exact ⟨rfl, rfl⟩
set_option maxRecDepth 100000 in
theorem need_no (e : Int) (w : World) :
    Calls Tryz.prog 80 #[.bool false, .int .i64 e] w fun en w' => en = .panicked (fltC e) ∧ w = w' := by
  go_enter Tryz.func80, Tryz.ntmps80
  go_wp2_with fail
  refine (bad_any e w).mono ?_; rintro en w' ⟨rfl, rfl⟩
  go_wp2
  exact ⟨rfl, rfl, rfl⟩
/-- a number in digits. -/
theorem dcm_ok {l : List UInt8} {most : Int} (h : dcmBad (ilB l) = false) : Lib.atoiAll l = .ok (dval (ilB l)) ∧ 0 ≤ dval (ilB l) ∧ dval (ilB l) < 1000000 := by
  unfold dcmBad at h
  rw [Bool.or_eq_false_iff, Bool.or_eq_false_iff] at h
  obtain ⟨h1, h2, h3⟩ := h
  have h1 : 1 ≤ (l.length : Int) ∧ (l.length : Int) ≤ 6 := by simpa [ilB_len] using h1
  have h2 : (ilB l).all digB = true := by simpa using h2
  have hd := ilB_digs.1 h2
  have hb := dval_lt 6 (ilB l) (by rw [ilB_len]; omega) (fun b hb => (digB_iff _).1 (List.all_eq_true.1 h2 _ hb))
  have he : l = Lib.decDigits (dval (ilB l)).toNat := by
    refine dec_of l hd (by intro e; rw [e] at h1; simp at h1) (fun hlt e => ?_)
    have h4 : ((ilB l).headD 0 == 48) = true := by
      cases l with
      | nil => simp at hlt
      | cons c l => simp [ilB] at e ⊢; omega
    rw [h4, ilB_len, decide_eq_true hlt] at h3
    cases h3
  refine ⟨?_, hb.1, by have := hb.2; omega⟩
  have h5 := atoi_dec (dval (ilB l)).toNat (by omega)
  rw [← he, Int.toNat_of_nonneg hb.1] at h5
  exact h5
theorem dcm_bad {l : List Int} {most : Int} (h : dcmBad l = true) : dcm l most = (0, 4) := by unfold dcm; rw [h]; rfl
theorem dcm_big {l : List Int} {most : Int} (h : dcmBad l = false) (h2 : most < dval l) : dcm l most = (0, 2) := by unfold dcm; rw [h, if_neg (by simp), if_pos h2]
theorem dcm_val {l : List Int} {most : Int} (h : dcmBad l = false) (h2 : ¬ most < dval l) : dcm l most = (dval l, 0) := by unfold dcm; rw [h, if_neg (by simp), if_neg h2]
theorem bl_get (s : ByteArray) (k : Nat) (h : k < s.size) : (bl s)[k]'(by rw [bl_len]; exact h) = ((s[k]).toNat : Int) := by simp [bl]; rfl
theorem bl_head (s : ByteArray) (h : 0 < s.size) : (bl s).headD 0 = ((s[0]).toNat : Int) := by
  rw [← bl_get s 0 h, List.headD_eq_head?_getD, List.head?_eq_getElem?, List.getElem?_eq_getElem (by rw [bl_len]; exact h)]
  rfl
/-- a number is in form, but for its digits. -/
def numF (s : ByteArray) : Prop := ∃ h : 0 < s.size, s.size ≤ 6 ∧ (((s[0]).toNat : Int) ≠ 48 ∨ s.size = 1)
theorem numF_no {s : ByteArray} (h : ¬ numF s) : dcmBad (bl s) = true := by
  unfold dcmBad
  rw [bl_len]
  by_cases h1 : 1 ≤ (s.size : Int) ∧ (s.size : Int) ≤ 6
  · have h0 : 0 < s.size := by omega
    have h2 : ¬ (((s[0]).toNat : Int) ≠ 48 ∨ s.size = 1) := fun e => h ⟨h0, by omega, e⟩
    have h3 : ((s[0]).toNat : Int) = 48 := by
      by_cases e : ((s[0]).toNat : Int) = 48
      · exact e
      · exact absurd (.inl e) h2
    have h4 : 1 < s.size := by
      by_cases e : s.size = 1
      · exact absurd (.inr e) h2
      · omega
    rw [bl_head s h0, h3, decide_eq_true h4]
    simp
  · rw [decide_eq_false h1]; rfl
theorem numF_yes {s : ByteArray} (h : numF s) (hd : (bl s).all digB = true) : dcmBad (bl s) = false := by
  obtain ⟨h0, h6, h1⟩ := h
  unfold dcmBad
  rw [bl_len, hd, decide_eq_true (by omega), bl_head s h0]
  rcases h1 with h1 | h1
  · rw [(beq_eq_false_iff_ne).2 h1]; simp
  · rw [decide_eq_false (by omega)]; simp
theorem numF_dig {s : ByteArray} {k : Nat} (hk : k < s.size) (hd : digB ((s[k]).toNat : Int) = false) : dcmBad (bl s) = true := by
  have : (bl s).all digB = false := by
    rw [List.all_eq_false]
    exact ⟨_, List.getElem_mem (by rw [bl_len]; exact hk), by rw [bl_get s k hk, hd]; simp⟩
  unfold dcmBad
  rw [this]
  simp
theorem atoi_dig {s : ByteArray} (h : dcmBad (bl s) = false) (w : World) (hs : s.size ≤ maxLen) :
    Calls Tryz.prog 185 #[.string s] w fun e w' => e = .returned (.tuple #[.int .i64 (dval (bl s)), .nilIface]) ∧ Below w.heap.size w w' := by
  have h1 := (dcm_ok (l := s.data.toList) (most := 0) h).1
  refine (Sh.strconv_Atoi_ok s (by
    have : s.size ≤ 6 := by
      have h2 := h
      unfold dcmBad at h2
      rw [Bool.or_eq_false_iff] at h2
      have := h2.1
      simp [bl_len] at this
      omega
    omega) _ h1 w).mono ?_
  rintro e w' ⟨rfl, h⟩
  refine ⟨rfl, ?_⟩
  rcases h with rfl | ⟨t, rfl⟩
  · exact Below.refl _ _
  · exact Joins.below_bytesWorld _ _ _ _ (Nat.le_refl _)
set_option maxRecDepth 100000 in
set_option maxHeartbeats 2000000 in
theorem number_any (s : ByteArray) (most : Int) (w : World) (hs : s.size ≤ maxLen) :
    Calls Tryz.prog 159 #[.string s, .int .i64 most] w fun e w' => e = PnE (dcm (bl s) most).2 (.int .i64 (dcm (bl s) most).1) ∧ Below w.heap.size w w' := by
  have hs' := maxLen_eq _ hs
  have HS := Lib.hid hs
  clear hs
  by_cases hF : numF s
  · obtain ⟨h0, h6, h1⟩ := id hF
    have HF := Lib.hid hF
    have h00 : (0 : Int) < (s.size : Int) := by omega
    have h66 : (s.size : Int) ≤ 6 := by omega
    have hE : s.toList.isEmpty = false ∧ ¬ s.toList = [] := by
      rcases ba_cases s with rfl | ⟨-, a, b⟩
      · simp at h0
      · exact ⟨b, a⟩
    obtain ⟨hE1, hE2⟩ := hE
    clear hF h6
    have hways : (((((s[0]).toNat : Nat) : Int) != 48) = true) ∨ ((((s[0]).toNat : Nat) : Int) != 48) = false ∧ ((s.size : Int) == 1) = true := by
      by_cases e : ((s[0]).toNat : Int) = 48
      · right
        rcases h1 with h1 | h1
        · exact absurd e h1
        · exact ⟨by rw [e]; rfl, by rw [h1]; rfl⟩
      · left; rw [bne_iff_ne]; exact e
    clear h1
    rcases hways with hb | ⟨hb, hb2⟩
    all_goals
      go_enter Tryz.func159, Tryz.ntmps159
      go_wp2_with (go_at_call 80; refine (need_yes _ _).mono ?_; rintro e w' ⟨rfl, rfl⟩)
      go_loop [28] (fun i => ∃ k : Nat, k ≤ s.size ∧ i = .int .i64 k ∧ Hid (∀ (j : Nat) (hj : j < s.size), j < k → digB ((s[j]).toNat : Int) = true)) (fun i => (s.size - intOf i).toNat)
      case atStart => exact ⟨0, by omega, rfl, fun j hj h => by omega⟩
      case round =>
        obtain ⟨k, hk, rfl, HK⟩ := hrel
        by_cases hlt : k < s.size
        · have hlt' : (k : Int) < (s.size : Int) := by omega
          obtain ⟨r, hr⟩ : ∃ r, digB ((s[k]).toNat : Int) = r := ⟨_, rfl⟩
          have HDG := Lib.hid (fun w => digit_lit ((s[k]).toNat : Int) r w hr)
          cases r with
          | true =>
            have HK2 : Hid (∀ (j : Nat) (hj : j < s.size), j < k + 1 → digB ((s[j]).toNat : Int) = true) := fun j hj hjk => by
              by_cases e : j = k
              · subst e; exact hr
              · exact HK.out j hj (by omega)
            clear hr HK
            go_wp2_with (first | (go_at_call 104; refine (HDG.out _).mono ?_; rintro e w' ⟨rfl, rfl⟩) | (go_at_call 80; refine (need_yes _ _).mono ?_; rintro e w' ⟨rfl, rfl⟩))
            go_round
            case rel => exact ⟨k + 1, by omega, by go_num, HK2⟩
            case measure => simp [intOf]; omega
          | false =>
            have HD := Lib.hid (dcm_bad (most := most) (numF_dig hlt hr))
            clear hr HK
            go_wp2_with (first | (go_at_call 104; refine (HDG.out _).mono ?_; rintro e w' ⟨rfl, rfl⟩) | (go_at_call 80; refine (need_no _ _).mono ?_; rintro e w' ⟨rfl, rfl⟩))
            go_wp2
            exact ⟨rfl, by rw [HD.out]; rfl, Below.refl _ _⟩
        · obtain rfl : k = s.size := by omega
          have hnl : ¬ ((s.size : Nat) : Int) < (s.size : Int) := by omega
          have HB : Hid (dcmBad (bl s) = false) := numF_yes HF.out (by
            rw [List.all_eq_true]
            intro x hx
            obtain ⟨j, hj, rfl⟩ := List.mem_iff_getElem.1 hx
            rw [bl_len] at hj
            rw [bl_get s j hj]
            exact HK.out j hj hj)
          have HA := Lib.hid (fun w => atoi_dig HB.out w HS.out)
          have HV := Lib.hid (dcm_val (l := bl s) (most := most) HB.out)
          have HG := Lib.hid (dcm_big (l := bl s) (most := most) HB.out)
          clear HK hlt hk
          generalize dval (bl s) = v at *
          by_cases hm : most < v
          · have HD := Lib.hid (HG.out hm)
            have hmd : decide (v ≤ most) = false := decide_eq_false (by omega)
            clear HG HV hm
            go_wp2_with fail
            refine (HA.out _).mono ?_; rintro e w1 ⟨rfl, hb1⟩
            go_wp2_with (go_at_call 80; refine (need_no _ _).mono ?_; rintro e w' ⟨rfl, rfl⟩)
            go_wp2
            exact ⟨rfl, by rw [HD.out]; rfl, hb1⟩
          · have HD := Lib.hid (HV.out hm)
            have hmd : decide (v ≤ most) = true := decide_eq_true (by omega)
            clear HG HV hm
            go_wp2_with fail
            refine (HA.out _).mono ?_; rintro e w1 ⟨rfl, hb1⟩
            go_wp2_with (go_at_call 80; refine (need_yes _ _).mono ?_; rintro e w' ⟨rfl, rfl⟩)
            go_wp2
            go_ret
            exact ⟨by rw [HD.out]; rfl, hb1⟩
  · have HD := Lib.hid (dcm_bad (most := most) (numF_no hF))
    have hways : s = ByteArray.empty ∨ (0 < s.size ∧ 6 < s.size) ∨ ∃ h : 0 < s.size, s.size ≤ 6 ∧ ((s[0]).toNat : Int) = 48 ∧ 1 < s.size := by
      by_cases e0 : s.size = 0
      · exact .inl (by
          rcases ba_cases s with e | ⟨e, -⟩
          · exact e
          · exact absurd (ByteArray.ext (Array.toList_inj.1 (by
              have : s.data.toList.length = 0 := by simpa using e0
              rw [List.length_eq_zero_iff.1 this]; rfl))) e)
      · right
        by_cases e6 : 6 < s.size
        · exact .inl ⟨by omega, e6⟩
        · right
          have h0 : 0 < s.size := by omega
          refine ⟨h0, by omega, ?_, ?_⟩
          · by_cases e : ((s[0]).toNat : Int) = 48
            · exact e
            · exact absurd ⟨h0, by omega, .inl e⟩ hF
          · by_cases e : s.size = 1
            · exact absurd ⟨h0, by omega, .inr e⟩ hF
            · omega
    clear hF
    rcases hways with rfl | ⟨h0, h6⟩ | ⟨h0, h6, h48, h1⟩
    · go_enter Tryz.func159, Tryz.ntmps159
      go_wp2_with (go_at_call 80; refine (need_no _ _).mono ?_; rintro e w' ⟨rfl, rfl⟩)
      go_wp2
      exact ⟨rfl, by rw [HD.out]; rfl, Below.refl _ _⟩
    · have h66 : ¬ (s.size : Int) ≤ 6 := by omega
      obtain ⟨hE1, hE2⟩ : s.toList.isEmpty = false ∧ ¬ s.toList = [] := by
        rcases ba_cases s with rfl | ⟨-, a, b⟩
        · simp at h0
        · exact ⟨b, a⟩
      clear h6
      go_enter Tryz.func159, Tryz.ntmps159
      go_wp2_with (go_at_call 80; refine (need_no _ _).mono ?_; rintro e w' ⟨rfl, rfl⟩)
      go_wp2
      exact ⟨rfl, by rw [HD.out]; rfl, Below.refl _ _⟩
    · have h00 : (0 : Int) < (s.size : Int) := by omega
      have h66 : (s.size : Int) ≤ 6 := by omega
      have hb : ((((s[0]).toNat : Nat) : Int) != 48) = false := by rw [h48]; rfl
      have hb2 : ((s.size : Int) == 1) = false := by rw [beq_eq_false_iff_ne]; omega
      obtain ⟨hE1, hE2⟩ : s.toList.isEmpty = false ∧ ¬ s.toList = [] := by
        rcases ba_cases s with rfl | ⟨-, a, b⟩
        · simp at h0
        · exact ⟨b, a⟩
      clear h6 h48 h1
      go_enter Tryz.func159, Tryz.ntmps159
      go_wp2_with (go_at_call 80; refine (need_no _ _).mono ?_; rintro e w' ⟨rfl, rfl⟩)
      go_wp2
      exact ⟨rfl, by rw [HD.out]; rfl, Below.refl _ _⟩
end Go.Proofs.YtbikdlcjbigafaaGreatDoor
