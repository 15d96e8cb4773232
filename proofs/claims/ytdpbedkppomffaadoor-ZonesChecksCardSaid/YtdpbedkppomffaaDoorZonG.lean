/-
  What is wrong with an era: sundialref.eraFault (written by eragen2.py).
-/
import Derived.Test.YtdpbedkppomffaaDoorZonF
namespace Go.Proofs.YtdpbedkppomffaaDoor
set_option linter.unusedVariables false
set_option linter.unusedSimpArgs false
open Go.ChangeShapes Go.WideShapes Go.ChangeAt Go.RowKit Civ

theorem namedB_take {rules : List Rul} {n : ByteArray} {k : Nat} (h : k < rules.length) : namedB (rules.take (k + 1)) n = (namedB (rules.take k) n || decide (rules[k].nm = n)) := by
  unfold namedB
  rw [List.take_succ_eq_append_getElem h, List.any_append]
  simp

set_option maxHeartbeats 4000000 in
set_option maxRecDepth 100000 in
theorem eraFault_form (s : Src) (x : Ero) (last : Bool) (vr vz vl : Value) (w : World) (hs : SrcAt w vr vz vl s) (hx : E64 x) (h : eroF x last = true) :
    Calls Tryd.prog 63 #[.agg #[vr, vz, vl], .agg #[.int .i64 x.off, .string x.rl, .int .i64 x.sv, .string x.fm, .bool x.en, .int .i64 x.yr, .int .i64 x.un.mo, .int .i64 x.un.k, .int .i64 x.un.a, .int .i64 x.un.n, .int .i64 x.un.t, .int .i64 x.un.c], .bool last] w fun e w' => e = .returned (.int .i64 4) ∧ Below w.heap.size w w' := by
  obtain ⟨-, hrl, -, hfm, -, -⟩ := hx
  have Z0 := Lib.hid (ZBx.new w vr vz vl x)
  have HF := Lib.hid (fun wx => formatmay_lit x.fm wx hfm)
  have HN := Lib.hid (fun wx => namemay_lit x.rl wx hrl)
  obtain ⟨W0, hW0⟩ : ∃ W0, W0 = (w.alloc (.cells #[vr, vz, vl] 26)).alloc (.cells #[.int .i64 x.off, .string x.rl, .int .i64 x.sv, .string x.fm, .bool x.en, .int .i64 x.yr, .int .i64 x.un.mo, .int .i64 x.un.k, .int .i64 x.un.a, .int .i64 x.un.n, .int .i64 x.un.t, .int .i64 x.un.c] 36) := ⟨_, rfl⟩
  rw [← hW0] at Z0
  have HW := Lib.hid hW0
  obtain ⟨g0, g1, g2⟩ := Z0.out.1
  obtain ⟨c0, c1, c2, c3, c4, c5, c6, c7, c8, c9, c10, c11⟩ := Z0.out.era
  clear hW0 hrl hfm hs
  rcases eroF_yes h with q | ⟨q, q1, q2⟩ | ⟨q, q1, q2, q3⟩ | ⟨q, q1, q2⟩ | ⟨q, q1, q2, q3, q4⟩ | ⟨q, q1, q2, q3, q4, q5⟩
  · have Q := Lib.hid q
    clear h q
    go_enter Tryd.func63, Tryd.ntmps63
    go_wp2_with fail
    rw [← HW.out]
    refine (HF.out _).mono ?_; rintro e w1 ⟨rfl, rfl⟩
    rw [Q.out]
    go_wp2
    go_ret
    exact ⟨rfl, Z0.out.2.2.1⟩
  · have Q := Lib.hid q
    obtain ⟨e1, e2⟩ := rl_ne q1
    have Q2 := Lib.hid q2
    clear h q q1 q2
    go_enter Tryd.func63, Tryd.ntmps63
    go_wp2_with fail
    rw [← HW.out]
    refine (HF.out _).mono ?_; rintro e w1 ⟨rfl, rfl⟩
    rw [Q.out]
    go_wp2_with fail
    refine (HN.out _).mono ?_; rintro e w2 ⟨rfl, rfl⟩
    rw [Q2.out]
    go_wp2
    go_ret
    exact ⟨rfl, Z0.out.2.2.1⟩
  · have Q := Lib.hid q
    obtain ⟨e1, e2⟩ := rl_ne q1
    have Q2 := Lib.hid q2
    have q3' : (x.sv != 0) = true := by rw [bne_iff_ne]; exact q3
    clear h q q1 q2
    go_enter Tryd.func63, Tryd.ntmps63
    go_wp2_with fail
    rw [← HW.out]
    refine (HF.out _).mono ?_; rintro e w1 ⟨rfl, rfl⟩
    rw [Q.out]
    go_wp2_with fail
    refine (HN.out _).mono ?_; rintro e w2 ⟨rfl, rfl⟩
    rw [Q2.out]
    go_wp2
    go_ret
    exact ⟨rfl, Z0.out.2.2.1⟩
  · have Q := Lib.hid q
    have QE := Lib.hid q2
    clear h q q2
    rcases q1 with q1 | ⟨q1, Q2, q1s⟩
    · have r1 : x.rl.toList = [] := by rw [q1]; exact (toList_nil_iff_emptyBytes _).2 rfl
      have r2 : x.rl.toList.isEmpty = true := by rw [r1]; rfl
      clear q1
      go_enter Tryd.func63, Tryd.ntmps63
      go_wp2_with fail
      rw [← HW.out]
      refine (HF.out _).mono ?_; rintro e w1 ⟨rfl, rfl⟩
      rw [Q.out]
      cases last with
      | true =>
        rw [QE.out] at c4
        go_wp2
        go_ret
        exact ⟨rfl, Z0.out.2.2.1⟩
      | false =>
        rw [QE.out] at c4
        go_wp2
        go_ret
        exact ⟨rfl, Z0.out.2.2.1⟩
    · obtain ⟨e1, e2⟩ := rl_ne q1
      have Q2 := Lib.hid Q2
      have r3 : (x.sv != 0) = false := by rw [bne_eq_false_iff_eq]; exact q1s
      clear q1 q1s
      go_enter Tryd.func63, Tryd.ntmps63
      go_wp2_with fail
      rw [← HW.out]
      refine (HF.out _).mono ?_; rintro e w1 ⟨rfl, rfl⟩
      rw [Q.out]
      go_wp2_with fail
      refine (HN.out _).mono ?_; rintro e w2 ⟨rfl, rfl⟩
      rw [Q2.out]
      cases last with
      | true =>
        rw [QE.out] at c4
        go_wp2
        go_ret
        exact ⟨rfl, Z0.out.2.2.1⟩
      | false =>
        rw [QE.out] at c4
        go_wp2
        go_ret
        exact ⟨rfl, Z0.out.2.2.1⟩
  · have Q := Lib.hid q
    have QE := Lib.hid q2
    clear q2
    subst q3
    have q4' : (x.yr != 0) = true := by rw [bne_iff_ne]; exact q4
    clear h q q4
    rcases q1 with q1 | ⟨q1, Q2, q1s⟩
    · have r1 : x.rl.toList = [] := by rw [q1]; exact (toList_nil_iff_emptyBytes _).2 rfl
      have r2 : x.rl.toList.isEmpty = true := by rw [r1]; rfl
      clear q1
      go_enter Tryd.func63, Tryd.ntmps63
      go_wp2_with fail
      rw [← HW.out]
      refine (HF.out _).mono ?_; rintro e w1 ⟨rfl, rfl⟩
      rw [Q.out]
      rw [QE.out] at c4
      go_wp2
      go_ret
      exact ⟨rfl, Z0.out.2.2.1⟩
    · obtain ⟨e1, e2⟩ := rl_ne q1
      have Q2 := Lib.hid Q2
      have r3 : (x.sv != 0) = false := by rw [bne_eq_false_iff_eq]; exact q1s
      clear q1 q1s
      go_enter Tryd.func63, Tryd.ntmps63
      go_wp2_with fail
      rw [← HW.out]
      refine (HF.out _).mono ?_; rintro e w1 ⟨rfl, rfl⟩
      rw [Q.out]
      go_wp2_with fail
      refine (HN.out _).mono ?_; rintro e w2 ⟨rfl, rfl⟩
      rw [Q2.out]
      rw [QE.out] at c4
      go_wp2
      go_ret
      exact ⟨rfl, Z0.out.2.2.1⟩
  · have Q := Lib.hid q
    have QE := Lib.hid q2
    clear q2
    subst q3
    have q4' : (x.yr != 0) = false := by rw [bne_eq_false_iff_eq]; exact q4
    have Q5 : Hid (¬ (x.un.mo = 0 ∧ x.un.k = 0 ∧ x.un.a = 0 ∧ x.un.n = 0 ∧ x.un.t = 0 ∧ x.un.c = 0)) := by
      show ¬ _
      rw [← mom0_iff, q5]
      decide
    clear h q q4 q5
    rcases q1 with q1 | ⟨q1, Q2, q1s⟩
    · have r1 : x.rl.toList = [] := by rw [q1]; exact (toList_nil_iff_emptyBytes _).2 rfl
      have r2 : x.rl.toList.isEmpty = true := by rw [r1]; rfl
      clear q1
      go_enter Tryd.func63, Tryd.ntmps63
      go_wp2_with fail
      rw [← HW.out]
      refine (HF.out _).mono ?_; rintro e w1 ⟨rfl, rfl⟩
      rw [Q.out]
      rw [QE.out] at c4
      rcases Decidable.em (x.un.mo = 0) with m1 | m1
      · rcases Decidable.em (x.un.k = 0) with m2 | m2
        · rcases Decidable.em (x.un.a = 0) with m3 | m3
          · rcases Decidable.em (x.un.n = 0) with m4 | m4
            · rcases Decidable.em (x.un.t = 0) with m5 | m5
              · have m6 : ¬ x.un.c = 0 := fun e => Q5.out ⟨m1, m2, m3, m4, m5, e⟩
                go_wp2
                go_ret
                exact ⟨rfl, Z0.out.2.2.1⟩
              · go_wp2
                go_ret
                exact ⟨rfl, Z0.out.2.2.1⟩
            · go_wp2
              go_ret
              exact ⟨rfl, Z0.out.2.2.1⟩
          · go_wp2
            go_ret
            exact ⟨rfl, Z0.out.2.2.1⟩
        · go_wp2
          go_ret
          exact ⟨rfl, Z0.out.2.2.1⟩
      · go_wp2
        go_ret
        exact ⟨rfl, Z0.out.2.2.1⟩
    · obtain ⟨e1, e2⟩ := rl_ne q1
      have Q2 := Lib.hid Q2
      have r3 : (x.sv != 0) = false := by rw [bne_eq_false_iff_eq]; exact q1s
      clear q1 q1s
      go_enter Tryd.func63, Tryd.ntmps63
      go_wp2_with fail
      rw [← HW.out]
      refine (HF.out _).mono ?_; rintro e w1 ⟨rfl, rfl⟩
      rw [Q.out]
      go_wp2_with fail
      refine (HN.out _).mono ?_; rintro e w2 ⟨rfl, rfl⟩
      rw [Q2.out]
      rw [QE.out] at c4
      rcases Decidable.em (x.un.mo = 0) with m1 | m1
      · rcases Decidable.em (x.un.k = 0) with m2 | m2
        · rcases Decidable.em (x.un.a = 0) with m3 | m3
          · rcases Decidable.em (x.un.n = 0) with m4 | m4
            · rcases Decidable.em (x.un.t = 0) with m5 | m5
              · have m6 : ¬ x.un.c = 0 := fun e => Q5.out ⟨m1, m2, m3, m4, m5, e⟩
                go_wp2
                go_ret
                exact ⟨rfl, Z0.out.2.2.1⟩
              · go_wp2
                go_ret
                exact ⟨rfl, Z0.out.2.2.1⟩
            · go_wp2
              go_ret
              exact ⟨rfl, Z0.out.2.2.1⟩
          · go_wp2
            go_ret
            exact ⟨rfl, Z0.out.2.2.1⟩
        · go_wp2
          go_ret
          exact ⟨rfl, Z0.out.2.2.1⟩
      · go_wp2
        go_ret
        exact ⟨rfl, Z0.out.2.2.1⟩

set_option maxHeartbeats 4000000 in
set_option maxRecDepth 100000 in
theorem eraFault_good (s : Src) (x : Ero) (last : Bool) (vr vz vl : Value) (w : World) (hs : SrcAt w vr vz vl s) (hx : E64 x) (h : eroF x last = false) :
    Calls Tryd.prog 63 #[.agg #[vr, vz, vl], .agg #[.int .i64 x.off, .string x.rl, .int .i64 x.sv, .string x.fm, .bool x.en, .int .i64 x.yr, .int .i64 x.un.mo, .int .i64 x.un.k, .int .i64 x.un.a, .int .i64 x.un.n, .int .i64 x.un.t, .int .i64 x.un.c], .bool last] w fun e w' => e = .returned (.int .i64 (eroE s.rules x last)) ∧ Below w.heap.size w w' := by
  obtain ⟨-, hrl, -, hfm, -, -⟩ := hx
  have Z0 := Lib.hid (ZBx.new w vr vz vl x)
  have HF := Lib.hid (fun wx => formatmay_lit x.fm wx hfm)
  have HN := Lib.hid (fun wx => namemay_lit x.rl wx hrl)
  obtain ⟨W0, hW0⟩ : ∃ W0, W0 = (w.alloc (.cells #[vr, vz, vl] 26)).alloc (.cells #[.int .i64 x.off, .string x.rl, .int .i64 x.sv, .string x.fm, .bool x.en, .int .i64 x.yr, .int .i64 x.un.mo, .int .i64 x.un.k, .int .i64 x.un.a, .int .i64 x.un.n, .int .i64 x.un.t, .int .i64 x.un.c] 36) := ⟨_, rfl⟩
  rw [← hW0] at Z0
  have HW := Lib.hid hW0
  obtain ⟨g0, g1, g2⟩ := Z0.out.1
  obtain ⟨c0, c1, c2, c3, c4, c5, c6, c7, c8, c9, c10, c11⟩ := Z0.out.era
  have HS := Lib.hid (Z0.out.src hs)
  have HC := Lib.hid (fun wx => momentfault_any x.un.mo x.un.k x.un.a x.un.n x.un.t x.un.c wx)
  have HG := Lib.hid (fun wx => found_e x wx)
  obtain ⟨p1, hp1⟩ : ∃ p1 : Bool, decide (-86400 ≤ x.off ∧ x.off ≤ 86400) = p1 := ⟨_, rfl⟩
  obtain ⟨p2, hp2⟩ : ∃ p2 : Bool, decide (-86400 ≤ x.sv ∧ x.sv ≤ 86400) = p2 := ⟨_, rfl⟩
  obtain ⟨p3, hp3⟩ : ∃ p3 : Bool, decide (1900 ≤ x.yr ∧ x.yr ≤ 2099) = p3 := ⟨_, rfl⟩
  have I1 := Lib.hid (fun w => in_lit x.off (-86400) 86400 p1 w hp1)
  have I2 := Lib.hid (fun w => in_lit x.sv (-86400) 86400 p2 w hp2)
  have I3 := Lib.hid (fun w => in_lit x.yr 1900 2099 p3 w hp3)
  have P1 := Lib.hid hp1
  have P2 := Lib.hid hp2
  have P3 := Lib.hid hp3
  have HE := Lib.hid h
  obtain ⟨ar, cr, rfl, hl⟩ := hs.1.shape
  have hml := maxLen_eq _ hl
  obtain ⟨q, q1, q2, q3⟩ := eroF_no h
  have Q := Lib.hid q
  have QE := Lib.hid q2
  have QL := Lib.hid q3
  clear hW0 hrl hfm hs h q q2 q3 hp1 hp2 hp3 hl
  rcases q1 with q1 | ⟨q1, Q2, q1s⟩
  · have r1 : x.rl.toList = [] := by rw [q1]; exact (toList_nil_iff_emptyBytes _).2 rfl
    have r2 : x.rl.toList.isEmpty = true := by rw [r1]; rfl
    have HEM := Lib.hid q1
    clear q1
    go_enter Tryd.func63, Tryd.ntmps63
    go_wp2_with fail
    rw [← HW.out]
    refine (HF.out _).mono ?_; rintro e w1 ⟨rfl, rfl⟩
    rw [Q.out]
    cases last with
    | true =>
      obtain ⟨m0, m1, m2, m3, m4, m5, m6⟩ := QL.out rfl
      rw [QE.out] at c4
      rw [m0] at c5
      rw [m1] at c6
      rw [m2] at c7
      rw [m3] at c8
      rw [m4] at c9
      rw [m5] at c10
      rw [m6] at c11
      clear m0 m1 m2 m3 m4 m5 m6
      go_wp2_with fail
      refine (I1.out _).mono ?_; rintro e w3 ⟨rfl, rfl⟩
      cases p1 with
      | false =>
        have h2 : ErR x := by have := of_decide_eq_false P1.out; unfold ErR; omega
        have H2 := Lib.hid (eroE_2 (rules := s.rules) HE.out h2)
        clear h2
        go_wp2
        go_ret
        exact ⟨ret_int H2.out.symm, Z0.out.2.2.1⟩
      | true =>
        go_wp2_with fail
        refine (I2.out _).mono ?_; rintro e w3 ⟨rfl, rfl⟩
        cases p2 with
        | false =>
          have h2 : ErR x := by have := of_decide_eq_false P2.out; unfold ErR; omega
          have H2 := Lib.hid (eroE_2 (rules := s.rules) HE.out h2)
          clear h2
          go_wp2
          go_ret
          exact ⟨ret_int H2.out.symm, Z0.out.2.2.1⟩
        | true =>
          have h2 : ¬ ErR x := by have h1 := of_decide_eq_true P1.out; have h2 := of_decide_eq_true P2.out; unfold ErR; omega
          have HR := Lib.hid h2
          clear h2
          have H3 : Hid (x.rl = ByteArray.empty ∨ namedB s.rules x.rl = true) := .inl HEM.out
          have H0 := Lib.hid (eroE_0 HE.out HR.out H3.out)
          go_wp2
          go_ret
          exact ⟨ret_int H0.out.symm, Z0.out.2.2.1⟩
    | false =>
      rw [QE.out] at c4
      go_wp2_with fail
      refine (I1.out _).mono ?_; rintro e w3 ⟨rfl, rfl⟩
      cases p1 with
      | false =>
        have h2 : ErR x := by have := of_decide_eq_false P1.out; unfold ErR; omega
        have H2 := Lib.hid (eroE_2 (rules := s.rules) HE.out h2)
        clear h2
        go_wp2
        go_ret
        exact ⟨ret_int H2.out.symm, Z0.out.2.2.1⟩
      | true =>
        go_wp2_with fail
        refine (I2.out _).mono ?_; rintro e w3 ⟨rfl, rfl⟩
        cases p2 with
        | false =>
          have h2 : ErR x := by have := of_decide_eq_false P2.out; unfold ErR; omega
          have H2 := Lib.hid (eroE_2 (rules := s.rules) HE.out h2)
          clear h2
          go_wp2
          go_ret
          exact ⟨ret_int H2.out.symm, Z0.out.2.2.1⟩
        | true =>
          have h2 : ¬ ErR x := by have h1 := of_decide_eq_true P1.out; have h2 := of_decide_eq_true P2.out; unfold ErR; omega
          have HR := Lib.hid h2
          clear h2
          have H3 : Hid (x.rl = ByteArray.empty ∨ namedB s.rules x.rl = true) := .inl HEM.out
          go_wp2_with fail
          refine (I3.out _).mono ?_; rintro e w3 ⟨rfl, rfl⟩
          cases p3 with
          | false =>
            have hy : x.yr < 1900 ∨ 2099 < x.yr := by have := of_decide_eq_false P3.out; omega
            have H4 := Lib.hid (eroE_y HE.out HR.out H3.out hy)
            clear hy
            go_wp2
            go_ret
            exact ⟨ret_int H4.out.symm, Z0.out.2.2.1⟩
          | true =>
            have hy : ¬ (x.yr < 1900 ∨ 2099 < x.yr) := by have := of_decide_eq_true P3.out; omega
            have H4 := Lib.hid (eroE_m HE.out HR.out H3.out hy)
            clear hy
            go_wp2_with fail
            refine (HC.out _).mono ?_; rintro e w3 ⟨rfl, hb⟩
            have Z1 := Lib.hid (Z0.out.next hb)
            clear hb g0 g1 g2 c0 c1 c2 c3 c4 c5 c6 c7 c8 c9 c10 c11
            obtain ⟨g0, g1, g2⟩ := Z1.out.1
            obtain ⟨c0, c1, c2, c3, c4, c5, c6, c7, c8, c9, c10, c11⟩ := Z1.out.era
            by_cases hm : chkM x.un.mo x.un.k x.un.a x.un.n x.un.t x.un.c = 0
            · have hm' : (chkM x.un.mo x.un.k x.un.a x.un.n x.un.t x.un.c != 0) = false := by rw [bne_eq_false_iff_eq]; exact hm
              have H5 : Hid (eroE s.rules x false = fndE x.yr x.un.mo x.un.k x.un.a x.un.n) := by show _ = _; rw [H4.out, if_neg (by rw [hm]; simp)]
              clear hm
              go_wp2_with fail
              refine (HG.out _).mono ?_; rintro e w4 ⟨⟨v, rfl⟩, hb⟩
              have Z2 := Lib.hid (Z1.out.next hb)
              clear hb g0 g1 g2 c0 c1 c2 c3 c4 c5 c6 c7 c8 c9 c10 c11
              obtain ⟨g0, g1, g2⟩ := Z2.out.1
              obtain ⟨c0, c1, c2, c3, c4, c5, c6, c7, c8, c9, c10, c11⟩ := Z2.out.era
              go_wp2
              go_ret
              exact ⟨ret_int H5.out.symm, Z2.out.2.2.1⟩
            · have hm' : (chkM x.un.mo x.un.k x.un.a x.un.n x.un.t x.un.c != 0) = true := by rw [bne_iff_ne]; exact hm
              have H5 : Hid (eroE s.rules x false = chkM x.un.mo x.un.k x.un.a x.un.n x.un.t x.un.c) := by show _ = _; rw [H4.out, if_pos hm]
              clear hm
              go_wp2
              go_ret
              exact ⟨ret_int H5.out.symm, Z1.out.2.2.1⟩
  · obtain ⟨e1, e2⟩ := rl_ne q1
    have HNE := Lib.hid q1
    have Q2 := Lib.hid Q2
    have r3 : (x.sv != 0) = false := by rw [bne_eq_false_iff_eq]; exact q1s
    clear q1 q1s
    go_enter Tryd.func63, Tryd.ntmps63
    go_wp2_with fail
    rw [← HW.out]
    refine (HF.out _).mono ?_; rintro e w1 ⟨rfl, rfl⟩
    rw [Q.out]
    go_wp2_with fail
    refine (HN.out _).mono ?_; rintro e w2 ⟨rfl, rfl⟩
    rw [Q2.out]
    cases last with
    | true =>
      obtain ⟨m0, m1, m2, m3, m4, m5, m6⟩ := QL.out rfl
      rw [QE.out] at c4
      rw [m0] at c5
      rw [m1] at c6
      rw [m2] at c7
      rw [m3] at c8
      rw [m4] at c9
      rw [m5] at c10
      rw [m6] at c11
      clear m0 m1 m2 m3 m4 m5 m6
      go_wp2_with fail
      refine (I1.out _).mono ?_; rintro e w3 ⟨rfl, rfl⟩
      cases p1 with
      | false =>
        have h2 : ErR x := by have := of_decide_eq_false P1.out; unfold ErR; omega
        have H2 := Lib.hid (eroE_2 (rules := s.rules) HE.out h2)
        clear h2
        go_wp2
        go_ret
        exact ⟨ret_int H2.out.symm, Z0.out.2.2.1⟩
      | true =>
        go_wp2_with fail
        refine (I2.out _).mono ?_; rintro e w3 ⟨rfl, rfl⟩
        cases p2 with
        | false =>
          have h2 : ErR x := by have := of_decide_eq_false P2.out; unfold ErR; omega
          have H2 := Lib.hid (eroE_2 (rules := s.rules) HE.out h2)
          clear h2
          go_wp2
          go_ret
          exact ⟨ret_int H2.out.symm, Z0.out.2.2.1⟩
        | true =>
          have h2 : ¬ ErR x := by have h1 := of_decide_eq_true P1.out; have h2 := of_decide_eq_true P2.out; unfold ErR; omega
          have HR := Lib.hid h2
          clear h2
          have HQ0 : Hid (namedB (s.rules.take 0) x.rl = false) := by show _ = _; rfl
          go_wp2
          go_loopw [7, 8] (fun f i wr => ∃ k q : Nat, ∃ p : Bool, k ≤ s.rules.length ∧ f = .bool p ∧ i = .int .i64 k ∧ Hid (namedB (s.rules.take k) x.rl = p) ∧ wr = W0.drewN q) (fun _ i _ => (s.rules.length - intOf i).toNat)
          case atStart => exact ⟨0, 0, false, Nat.zero_le _, rfl, rfl, HQ0, rfl⟩
          case round =>
            obtain ⟨k, qn, p, hk, rfl, rfl, HP, rfl⟩ := hrel
            clear HQ0
            by_cases hlt : k < s.rules.length
            · have hki : (k : Int) < (s.rules.length : Int) := by omega
              obtain ⟨b, off, rfl, hb, ⟨d0, -, -, -, -, -, -, -, -, -, -⟩, -⟩ := elemRul HS.out.1 k hlt
              have HT := Lib.hid (namedB_take (n := x.rl) hlt)
              generalize s.rules[k] = r at *
              cases p with
              | true =>
                have HP2 : Hid (namedB (s.rules.take (k + 1)) x.rl = true) := by show _ = _; rw [HT.out, HP.out]; rfl
                go_wp2
                go_quiet (fail)
                go_wp2
                go_roundw
                case rel => exact ⟨k + 1, _, true, by omega, rfl, by go_num, HP2, rfl⟩
                case measure => simp [intOf]; omega
              | false =>
                have HP2 : Hid (namedB (s.rules.take (k + 1)) x.rl = (r.nm.toList == x.rl.toList)) := by show _ = _; rw [HT.out, HP.out, streq]; rfl
                go_wp2
                go_quiet (fail)
                go_wp2
                go_roundw
                case rel => exact ⟨k + 1, _, _, by omega, rfl, by go_num, HP2, rfl⟩
                case measure => simp [intOf]; omega
            · obtain rfl : k = s.rules.length := by omega
              have hnl : ¬ (s.rules.length : Int) < (s.rules.length : Int) := by omega
              have HPP : Hid (namedB s.rules x.rl = p) := by have := HP.out; rwa [List.take_length] at this
              have Z1 : Hid (ZBx w (W0.drewN qn) _ vz vl x) := Z0.out.next (below_draws (Below.refl _ _) qn)
              cases p with
              | false =>
                have H6 := Lib.hid (eroE_6 HE.out HR.out HNE.out HPP.out)
                go_wp2
                go_ret
                exact ⟨ret_int H6.out.symm, Z1.out.2.2.1⟩
              | true =>
                have H3 : Hid (x.rl = ByteArray.empty ∨ namedB s.rules x.rl = true) := .inr HPP.out
                have H0 := Lib.hid (eroE_0 HE.out HR.out H3.out)
                go_wp2
                go_ret
                exact ⟨ret_int H0.out.symm, Z1.out.2.2.1⟩
    | false =>
      rw [QE.out] at c4
      go_wp2_with fail
      refine (I1.out _).mono ?_; rintro e w3 ⟨rfl, rfl⟩
      cases p1 with
      | false =>
        have h2 : ErR x := by have := of_decide_eq_false P1.out; unfold ErR; omega
        have H2 := Lib.hid (eroE_2 (rules := s.rules) HE.out h2)
        clear h2
        go_wp2
        go_ret
        exact ⟨ret_int H2.out.symm, Z0.out.2.2.1⟩
      | true =>
        go_wp2_with fail
        refine (I2.out _).mono ?_; rintro e w3 ⟨rfl, rfl⟩
        cases p2 with
        | false =>
          have h2 : ErR x := by have := of_decide_eq_false P2.out; unfold ErR; omega
          have H2 := Lib.hid (eroE_2 (rules := s.rules) HE.out h2)
          clear h2
          go_wp2
          go_ret
          exact ⟨ret_int H2.out.symm, Z0.out.2.2.1⟩
        | true =>
          have h2 : ¬ ErR x := by have h1 := of_decide_eq_true P1.out; have h2 := of_decide_eq_true P2.out; unfold ErR; omega
          have HR := Lib.hid h2
          clear h2
          have HQ0 : Hid (namedB (s.rules.take 0) x.rl = false) := by show _ = _; rfl
          go_wp2
          go_loopw [7, 8] (fun f i wr => ∃ k q : Nat, ∃ p : Bool, k ≤ s.rules.length ∧ f = .bool p ∧ i = .int .i64 k ∧ Hid (namedB (s.rules.take k) x.rl = p) ∧ wr = W0.drewN q) (fun _ i _ => (s.rules.length - intOf i).toNat)
          case atStart => exact ⟨0, 0, false, Nat.zero_le _, rfl, rfl, HQ0, rfl⟩
          case round =>
            obtain ⟨k, qn, p, hk, rfl, rfl, HP, rfl⟩ := hrel
            clear HQ0
            by_cases hlt : k < s.rules.length
            · have hki : (k : Int) < (s.rules.length : Int) := by omega
              obtain ⟨b, off, rfl, hb, ⟨d0, -, -, -, -, -, -, -, -, -, -⟩, -⟩ := elemRul HS.out.1 k hlt
              have HT := Lib.hid (namedB_take (n := x.rl) hlt)
              generalize s.rules[k] = r at *
              cases p with
              | true =>
                have HP2 : Hid (namedB (s.rules.take (k + 1)) x.rl = true) := by show _ = _; rw [HT.out, HP.out]; rfl
                go_wp2
                go_quiet (fail)
                go_wp2
                go_roundw
                case rel => exact ⟨k + 1, _, true, by omega, rfl, by go_num, HP2, rfl⟩
                case measure => simp [intOf]; omega
              | false =>
                have HP2 : Hid (namedB (s.rules.take (k + 1)) x.rl = (r.nm.toList == x.rl.toList)) := by show _ = _; rw [HT.out, HP.out, streq]; rfl
                go_wp2
                go_quiet (fail)
                go_wp2
                go_roundw
                case rel => exact ⟨k + 1, _, _, by omega, rfl, by go_num, HP2, rfl⟩
                case measure => simp [intOf]; omega
            · obtain rfl : k = s.rules.length := by omega
              have hnl : ¬ (s.rules.length : Int) < (s.rules.length : Int) := by omega
              have HPP : Hid (namedB s.rules x.rl = p) := by have := HP.out; rwa [List.take_length] at this
              have Z1 : Hid (ZBx w (W0.drewN qn) _ vz vl x) := Z0.out.next (below_draws (Below.refl _ _) qn)
              cases p with
              | false =>
                have H6 := Lib.hid (eroE_6 HE.out HR.out HNE.out HPP.out)
                go_wp2
                go_ret
                exact ⟨ret_int H6.out.symm, Z1.out.2.2.1⟩
              | true =>
                have H3 : Hid (x.rl = ByteArray.empty ∨ namedB s.rules x.rl = true) := .inr HPP.out
                go_wp2_with fail
                refine (I3.out _).mono ?_; rintro e w3 ⟨rfl, rfl⟩
                cases p3 with
                | false =>
                  have hy : x.yr < 1900 ∨ 2099 < x.yr := by have := of_decide_eq_false P3.out; omega
                  have H4 := Lib.hid (eroE_y HE.out HR.out H3.out hy)
                  clear hy
                  go_wp2
                  go_ret
                  exact ⟨ret_int H4.out.symm, Z1.out.2.2.1⟩
                | true =>
                  have hy : ¬ (x.yr < 1900 ∨ 2099 < x.yr) := by have := of_decide_eq_true P3.out; omega
                  have H4 := Lib.hid (eroE_m HE.out HR.out H3.out hy)
                  clear hy
                  go_wp2_with fail
                  refine (HC.out _).mono ?_; rintro e w3 ⟨rfl, hb⟩
                  have Z2 := Lib.hid (Z1.out.next hb)
                  clear hb g0 g1 g2 c0 c1 c2 c3 c4 c5 c6 c7 c8 c9 c10 c11
                  obtain ⟨g0, g1, g2⟩ := Z2.out.1
                  obtain ⟨c0, c1, c2, c3, c4, c5, c6, c7, c8, c9, c10, c11⟩ := Z2.out.era
                  by_cases hm : chkM x.un.mo x.un.k x.un.a x.un.n x.un.t x.un.c = 0
                  · have hm' : (chkM x.un.mo x.un.k x.un.a x.un.n x.un.t x.un.c != 0) = false := by rw [bne_eq_false_iff_eq]; exact hm
                    have H5 : Hid (eroE s.rules x false = fndE x.yr x.un.mo x.un.k x.un.a x.un.n) := by show _ = _; rw [H4.out, if_neg (by rw [hm]; simp)]
                    clear hm
                    go_wp2_with fail
                    refine (HG.out _).mono ?_; rintro e w4 ⟨⟨v, rfl⟩, hb⟩
                    have Z3 := Lib.hid (Z2.out.next hb)
                    clear hb g0 g1 g2 c0 c1 c2 c3 c4 c5 c6 c7 c8 c9 c10 c11
                    obtain ⟨g0, g1, g2⟩ := Z3.out.1
                    obtain ⟨c0, c1, c2, c3, c4, c5, c6, c7, c8, c9, c10, c11⟩ := Z3.out.era
                    go_wp2
                    go_ret
                    exact ⟨ret_int H5.out.symm, Z3.out.2.2.1⟩
                  · have hm' : (chkM x.un.mo x.un.k x.un.a x.un.n x.un.t x.un.c != 0) = true := by rw [bne_iff_ne]; exact hm
                    have H5 : Hid (eroE s.rules x false = chkM x.un.mo x.un.k x.un.a x.un.n x.un.t x.un.c) := by show _ = _; rw [H4.out, if_pos hm]
                    clear hm
                    go_wp2
                    go_ret
                    exact ⟨ret_int H5.out.symm, Z2.out.2.2.1⟩
end Go.Proofs.YtdpbedkppomffaaDoor
