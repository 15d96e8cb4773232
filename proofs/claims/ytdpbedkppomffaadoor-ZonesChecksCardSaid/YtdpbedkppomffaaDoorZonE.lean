/-
  What is wrong with a rule: zones.checkRule, sundialref.ruleFault.
-/
import Derived.Test.YtdpbedkppomffaaDoorZonD
import Derived.Test.YtdpbedkppomffaaDoorTreeC
namespace Go.Proofs.YtdpbedkppomffaaDoor
set_option linter.unusedVariables false
set_option linter.unusedSimpArgs false
open Go.ChangeShapes Go.WideShapes Go.ChangeAt Go.RowKit Civ

theorem rulE_a {r : Rul} (h : nameS r.nm = false) : rulE r = 4 := by unfold rulE; rw [if_pos (.inl h)]
theorem rulE_b {r : Rul} (h : letsB r.lt = false) : rulE r = 4 := by unfold rulE; rw [if_pos (.inr h)]
theorem rulE_c {r : Rul} (h1 : nameS r.nm = true) (h2 : letsB r.lt = true) (h : r.fr < 1900 ∨ 2099 < r.to ∨ 2099 < r.fr ∨ r.to < 1900 ∨ r.sv < -86400 ∨ 86400 < r.sv) : rulE r = 2 := by
  unfold rulE; rw [if_neg (by rw [h1, h2]; simp), if_pos h]
theorem rulE_d {r : Rul} (h1 : nameS r.nm = true) (h2 : letsB r.lt = true) (h : ¬ (r.fr < 1900 ∨ 2099 < r.to ∨ 2099 < r.fr ∨ r.to < 1900 ∨ r.sv < -86400 ∨ 86400 < r.sv)) (h3 : r.to < r.fr) : rulE r = 8 := by
  unfold rulE; rw [if_neg (by rw [h1, h2]; simp), if_neg h, if_pos h3]
theorem rulE_e {r : Rul} (h1 : nameS r.nm = true) (h2 : letsB r.lt = true) (h : ¬ (r.fr < 1900 ∨ 2099 < r.to ∨ 2099 < r.fr ∨ r.to < 1900 ∨ r.sv < -86400 ∨ 86400 < r.sv)) (h3 : ¬ r.to < r.fr) : rulE r = chkM r.at'.mo r.at'.k r.at'.a r.at'.n r.at'.t r.at'.c := by
  unfold rulE; rw [if_neg (by rw [h1, h2]; simp), if_neg h, if_neg h3]
set_option maxHeartbeats 2000000 in
set_option maxRecDepth 100000 in
theorem checkRule_any (r : Rul) (w : World) (hr : R64 r) :
    Calls Tryd.prog 17 #[.agg #[.string r.nm, .int .i64 r.fr, .int .i64 r.to, .int .i64 r.at'.mo, .int .i64 r.at'.k, .int .i64 r.at'.a, .int .i64 r.at'.n, .int .i64 r.at'.t, .int .i64 r.at'.c, .int .i64 r.sv, .string r.lt]] w fun e w' => e = .returned (.int .i64 (rulE r)) ∧ Below w.heap.size w w' := by
  obtain ⟨hn, -, -, -, -, hl⟩ := hr
  have N0 := Lib.hid (RulAt.new w r 52)
  have b0 : Below w.heap.size w (w.alloc (.cells #[.string r.nm, .int .i64 r.fr, .int .i64 r.to, .int .i64 r.at'.mo, .int .i64 r.at'.k, .int .i64 r.at'.a, .int .i64 r.at'.n, .int .i64 r.at'.t, .int .i64 r.at'.c, .int .i64 r.sv, .string r.lt] 52)) := (Below.refl _ _).alloc (Nat.le_refl _) _
  have hz := size_alloc w (.cells #[.string r.nm, .int .i64 r.fr, .int .i64 r.to, .int .i64 r.at'.mo, .int .i64 r.at'.k, .int .i64 r.at'.a, .int .i64 r.at'.n, .int .i64 r.at'.t, .int .i64 r.at'.c, .int .i64 r.sv, .string r.lt] 52)
  have B0 := Lib.hid b0
  have HZ := Lib.hid hz
  have HN := Lib.hid (fun w => name_lit r.nm w hn)
  have HL := Lib.hid (fun w => letters_any r.lt w hl)
  have HC := Lib.hid (fun w => checkmoment_any r.at'.mo r.at'.k r.at'.a r.at'.n r.at'.t r.at'.c w)
  clear b0 hz hn hl
  rcases hname : nameS r.nm with _ | _
  · have H1 := Lib.hid hname
    have H2 := Lib.hid (rulE_a hname)
    clear hname
    go_enter Tryd.func17, Tryd.ntmps17
    go_wp2_with fail
    refine (HN.out _).mono ?_; rintro e w1 ⟨rfl, hb1⟩
    rw [H1.out]
    have B1 := Lib.hid (B0.out.trans (hb1.mono B0.out.size))
    clear hb1
    go_wp2
    go_ret
    exact ⟨ret_int H2.out.symm, B1.out⟩
  · have H1 := Lib.hid hname
    clear hname
    go_enter Tryd.func17, Tryd.ntmps17
    go_wp2_with fail
    refine (HN.out _).mono ?_; rintro e w1 ⟨rfl, hb1⟩
    rw [H1.out]
    have B1 := Lib.hid (B0.out.trans (hb1.mono B0.out.size))
    have N1 := Lib.hid (N0.out.below hb1 (by rw [HZ.out]; exact Nat.lt_succ_self _))
    have Z1 : Hid (w.heap.size < w1.heap.size) := by show _ < _; have := hb1.size; have := HZ.out; omega
    clear hb1
    obtain ⟨-, -, -, -, -, -, -, -, -, -, c10⟩ := N1.out
    go_wp2_with fail
    refine (HL.out _).mono ?_; rintro e w2 ⟨rfl, hb2⟩
    have B2 := Lib.hid (B1.out.trans (hb2.mono B1.out.size))
    have N2 := Lib.hid (N1.out.below hb2 Z1.out)
    clear hb2 c10 N1
    rcases hlet : letsB r.lt with _ | _
    · have H2 := Lib.hid (rulE_b hlet)
      clear hlet
      go_wp2
      go_ret
      exact ⟨ret_int H2.out.symm, B2.out⟩
    · have H2 := Lib.hid hlet
      clear hlet
      obtain ⟨c0, c1, c2, c3, c4, c5, c6, c7, c8, c9, c10⟩ := N2.out
      simp only [Nat.zero_add] at c0 c1 c2 c3 c4 c5 c6 c7 c8 c9 c10
      by_cases h3 : r.fr < 1900 ∨ 2099 < r.to ∨ 2099 < r.fr ∨ r.to < 1900 ∨ r.sv < -86400 ∨ 86400 < r.sv
      · have H3 := Lib.hid (rulE_c H1.out H2.out h3)
        rcases (show r.fr < 1900 ∨ (1900 ≤ r.fr ∧ 2099 < r.to) ∨ (1900 ≤ r.fr ∧ r.to ≤ 2099 ∧ 2099 < r.fr) ∨ (1900 ≤ r.fr ∧ r.to ≤ 2099 ∧ r.fr ≤ 2099 ∧ r.to < 1900) ∨ (1900 ≤ r.fr ∧ r.to ≤ 2099 ∧ r.fr ≤ 2099 ∧ 1900 ≤ r.to ∧ r.sv < -86400) ∨ (1900 ≤ r.fr ∧ r.to ≤ 2099 ∧ r.fr ≤ 2099 ∧ 1900 ≤ r.to ∧ -86400 ≤ r.sv ∧ 86400 < r.sv) by omega) with q1 | ⟨q1, q2⟩ | ⟨q1, q2, q3⟩ | ⟨q1, q2, q3, q4⟩ | ⟨q1, q2, q3, q4, q5⟩ | ⟨q1, q2, q3, q4, q5, q6⟩
        all_goals
          clear h3
          go_wp2
          go_ret
          exact ⟨ret_int H3.out.symm, B2.out⟩
      · obtain ⟨q1, q2, q3, q4, q5, q6⟩ : 1900 ≤ r.fr ∧ r.to ≤ 2099 ∧ r.fr ≤ 2099 ∧ 1900 ≤ r.to ∧ -86400 ≤ r.sv ∧ r.sv ≤ 86400 := by omega
        by_cases h4 : r.to < r.fr
        · have H3 := Lib.hid (rulE_d H1.out H2.out h3 h4)
          clear h3
          go_wp2
          go_ret
          exact ⟨ret_int H3.out.symm, B2.out⟩
        · have H3 := Lib.hid (rulE_e H1.out H2.out h3 h4)
          have q7 : r.fr ≤ r.to := by omega
          clear h3 h4
          go_wp2_with fail
          refine (HC.out _).mono ?_; rintro e w3 ⟨rfl, hb3⟩
          have B3 := Lib.hid (B2.out.trans (hb3.mono B2.out.size))
          clear hb3
          go_wp2
          go_ret
          exact ⟨ret_int H3.out.symm, B3.out⟩
set_option maxHeartbeats 2000000 in
set_option maxRecDepth 100000 in
theorem ruleFault_any (r : Rul) (w : World) (hr : R64 r) :
    Calls Tryd.prog 21 #[.agg #[.string r.nm, .int .i64 r.fr, .int .i64 r.to, .int .i64 r.at'.mo, .int .i64 r.at'.k, .int .i64 r.at'.a, .int .i64 r.at'.n, .int .i64 r.at'.t, .int .i64 r.at'.c, .int .i64 r.sv, .string r.lt]] w fun e w' => e = .returned (.int .i64 (rulE r)) ∧ Below w.heap.size w w' := by
  obtain ⟨hn, -, -, -, -, hl⟩ := hr
  have b0 : Below w.heap.size w (w.alloc (.cells #[.string r.nm, .int .i64 r.fr, .int .i64 r.to, .int .i64 r.at'.mo, .int .i64 r.at'.k, .int .i64 r.at'.a, .int .i64 r.at'.n, .int .i64 r.at'.t, .int .i64 r.at'.c, .int .i64 r.sv, .string r.lt] 52)) := (Below.refl _ _).alloc (Nat.le_refl _) _
  have B0 := Lib.hid b0
  have HN := Lib.hid (fun w => namemay_lit r.nm w hn)
  have HL := Lib.hid (fun w => lettersmay_any r.lt w hl)
  have HC := Lib.hid (fun w => momentfault_any r.at'.mo r.at'.k r.at'.a r.at'.n r.at'.t r.at'.c w)
  obtain ⟨p1, hp1⟩ : ∃ p1 : Bool, decide (1900 ≤ r.fr ∧ r.fr ≤ 2099) = p1 := ⟨_, rfl⟩
  obtain ⟨p2, hp2⟩ : ∃ p2 : Bool, decide (1900 ≤ r.to ∧ r.to ≤ 2099) = p2 := ⟨_, rfl⟩
  obtain ⟨p3, hp3⟩ : ∃ p3 : Bool, decide (-86400 ≤ r.sv ∧ r.sv ≤ 86400) = p3 := ⟨_, rfl⟩
  have I1 := Lib.hid (fun w => in_lit r.fr 1900 2099 p1 w hp1)
  have I2 := Lib.hid (fun w => in_lit r.to 1900 2099 p2 w hp2)
  have I3 := Lib.hid (fun w => in_lit r.sv (-86400) 86400 p3 w hp3)
  have P1 := Lib.hid hp1
  have P2 := Lib.hid hp2
  have P3 := Lib.hid hp3
  clear b0 hn hl hp1 hp2 hp3
  rcases hname : nameS r.nm with _ | _
  · have H1 := Lib.hid hname
    have H2 := Lib.hid (rulE_a hname)
    clear hname
    go_enter Tryd.func21, Tryd.ntmps21
    go_wp2_with fail
    refine (HN.out _).mono ?_; rintro e w1 ⟨rfl, rfl⟩
    rw [H1.out]
    go_wp2
    go_ret
    exact ⟨ret_int H2.out.symm, B0.out⟩
  · have H1 := Lib.hid hname
    clear hname
    go_enter Tryd.func21, Tryd.ntmps21
    go_wp2_with fail
    refine (HN.out _).mono ?_; rintro e w1 ⟨rfl, rfl⟩
    rw [H1.out]
    go_wp2_with fail
    refine (HL.out _).mono ?_; rintro e w2 ⟨rfl, rfl⟩
    rcases hlet : letsB r.lt with _ | _
    · have H2 := Lib.hid (rulE_b hlet)
      clear hlet
      go_wp2
      go_ret
      exact ⟨ret_int H2.out.symm, B0.out⟩
    · have H2 := Lib.hid hlet
      clear hlet
      go_wp2_with fail
      refine (I1.out _).mono ?_; rintro e w3 ⟨rfl, rfl⟩
      cases p1 with
      | false =>
        have h3 : r.fr < 1900 ∨ 2099 < r.to ∨ 2099 < r.fr ∨ r.to < 1900 ∨ r.sv < -86400 ∨ 86400 < r.sv := by have := of_decide_eq_false P1.out; omega
        have H3 := Lib.hid (rulE_c H1.out H2.out h3)
        clear h3
        go_wp2
        go_ret
        exact ⟨ret_int H3.out.symm, B0.out⟩
      | true =>
        go_wp2_with fail
        refine (I2.out _).mono ?_; rintro e w4 ⟨rfl, rfl⟩
        cases p2 with
        | false =>
          have h3 : r.fr < 1900 ∨ 2099 < r.to ∨ 2099 < r.fr ∨ r.to < 1900 ∨ r.sv < -86400 ∨ 86400 < r.sv := by have := of_decide_eq_false P2.out; omega
          have H3 := Lib.hid (rulE_c H1.out H2.out h3)
          clear h3
          go_wp2
          go_ret
          exact ⟨ret_int H3.out.symm, B0.out⟩
        | true =>
          go_wp2_with fail
          refine (I3.out _).mono ?_; rintro e w5 ⟨rfl, rfl⟩
          cases p3 with
          | false =>
            have h3 : r.fr < 1900 ∨ 2099 < r.to ∨ 2099 < r.fr ∨ r.to < 1900 ∨ r.sv < -86400 ∨ 86400 < r.sv := by have := of_decide_eq_false P3.out; omega
            have H3 := Lib.hid (rulE_c H1.out H2.out h3)
            clear h3
            go_wp2
            go_ret
            exact ⟨ret_int H3.out.symm, B0.out⟩
          | true =>
            have h3 : ¬ (r.fr < 1900 ∨ 2099 < r.to ∨ 2099 < r.fr ∨ r.to < 1900 ∨ r.sv < -86400 ∨ 86400 < r.sv) := by
              have h1 := of_decide_eq_true P1.out; have h2 := of_decide_eq_true P2.out; have h3 := of_decide_eq_true P3.out; omega
            by_cases h4 : r.to < r.fr
            · have H3 := Lib.hid (rulE_d H1.out H2.out h3 h4)
              clear h3
              go_wp2
              go_ret
              exact ⟨ret_int H3.out.symm, B0.out⟩
            · have H3 := Lib.hid (rulE_e H1.out H2.out h3 h4)
              have q7 : r.fr ≤ r.to := by omega
              clear h3 h4
              go_wp2_with fail
              refine (HC.out _).mono ?_; rintro e w6 ⟨rfl, hb6⟩
              have B3 := Lib.hid (B0.out.trans (hb6.mono B0.out.size))
              clear hb6
              go_wp2
              go_ret
              exact ⟨ret_int H3.out.symm, B3.out⟩
end Go.Proofs.YtdpbedkppomffaaDoor
