/-
  The document's readings: offsets, times (the walks).
-/
import Derived.Test.YtbciennhcdabeaaGreatDoorRdM
namespace Go.Proofs.YtbciennhcdabeaaGreatDoor
set_option linter.unusedVariables false
set_option linter.unusedSimpArgs false
open Go.ChangeShapes Go.WideShapes Go.ChangeAt Go.RowKit Civ

set_option maxRecDepth 100000 in
theorem offsetOf_any_s (s : ByteArray) (w : World) (hs : s.size ≤ 1000000) :
    Calls Tryz.prog 47 #[.string s] w fun e w' => e = .returned (.tuple #[.int .i64 (offS s).1, .int .i64 (offS s).2]) ∧ Below w.heap.size w w' := by
  by_cases hc : 0 < s.size ∧ byI s 0 = 45
  · have h0 := hc.1
    have h0i : (0 : Int) < (s.size : Int) := by omega
    have hby := byI_at s 0 h0
    have hb : (((s[0]).toNat : Int) == 45) = true := by rw [beq_iff_eq, ← hby]; exact hc.2
    have hx := slice_drop s 1 (by omega)
    have HO : Hid (offS s = (-(hrsS (dropB s 1) 86400).1, (hrsS (dropB s 1) 86400).2)) := by show _ = _; unfold offS; rw [if_pos hc]
    have HC := Lib.hid (hours_any_s (dropB s 1) 86400 w (by have := dropB_size s 1; omega))
    obtain ⟨b0, b1⟩ := hrsS_rng (dropB s 1) 86400 (by decide)
    have h1i : (1 : Int) ≤ (s.size : Int) := by omega
    clear hs hc hby
    generalize hrsS (dropB s 1) 86400 = D at *
    generalize dropB s 1 = s1 at *
    obtain ⟨v, E⟩ := D
    dsimp only at HO HC b0 b1
    have tw : IntKind.i64.wrap (-v) = -v := IntWalk.i64_in _ (by omega)
    go_enter Tryz.func47, Tryz.ntmps47
    go_wp2_with fail
    refine HC.out.mono ?_; rintro e w1 ⟨rfl, hb1⟩
    go_wp2
    go_ret2
    exact ⟨by rw [HO.out]; rfl, hb1⟩
  · have HO : Hid (offS s = hrsS s 86400) := by show _ = _; unfold offS; rw [if_neg hc]
    have HC := Lib.hid (hours_any_s s 86400 w hs)
    generalize hrsS s 86400 = D at *
    obtain ⟨v, E⟩ := D
    dsimp only at HC
    by_cases h0 : 0 < s.size
    · have h0i : (0 : Int) < (s.size : Int) := by omega
      have hby := byI_at s 0 h0
      have hb : (((s[0]).toNat : Int) == 45) = false := by rw [beq_eq_false_iff_ne, ← hby]; exact fun e => hc ⟨h0, e⟩
      clear hs hc hby
      go_enter Tryz.func47, Tryz.ntmps47
      go_wp2_with fail
      refine HC.out.mono ?_; rintro e w1 ⟨rfl, hb1⟩
      go_wp2
      go_ret2
      exact ⟨by rw [HO.out]; rfl, hb1⟩
    · have h0i : ¬ (0 : Int) < (s.size : Int) := by omega
      clear hs hc
      go_enter Tryz.func47, Tryz.ntmps47
      go_wp2_with fail
      refine HC.out.mono ?_; rintro e w1 ⟨rfl, hb1⟩
      go_wp2
      go_ret2
      exact ⟨by rw [HO.out]; rfl, hb1⟩
set_option maxRecDepth 100000 in
set_option maxHeartbeats 4000000 in
theorem timeOf_any_s (s : ByteArray) (w : World) (hs : s.size ≤ 1000000) :
    Calls Tryz.prog 46 #[.string s] w fun e w' => e = .returned (.tuple #[.int .i64 (tmS s).1.1, .int .i64 (tmS s).1.2, .int .i64 (tmS s).2]) ∧ Below w.heap.size w w' := by
  by_cases h1 : 1 < s.size
  · obtain ⟨n, hn⟩ : ∃ n, s.size = n + 1 := ⟨s.size - 1, by omega⟩
    have hn1 : s.size - 1 = n := by omega
    have hns : n < s.size := by omega
    have hki : (n : Int) < (s.size : Int) := by omega
    have h1i : (1 : Int) < (s.size : Int) := by omega
    have hk0 : (0 : Int) < (n : Int) := by omega
    have hk : (s.size : Int) - 1 = (n : Int) := by omega
    have hby := byI_at s n hns
    obtain ⟨r, hr⟩ : ∃ r, digB ((s[n]).toNat : Int) = r := ⟨_, rfl⟩
    have HDG := Lib.hid (fun w => isdigit_lit ((s[n]).toNat : Int) r w hr)
    cases r with
    | true =>
      have HT : Hid (tmS s = (((hrsS s 604800).1, 0), (hrsS s 604800).2)) := tmS_b (fun h => by rw [hn1, hby, hr] at h; cases h.2)
      have HC := Lib.hid (hours_any_s s 604800 w hs)
      clear hr hby hn1 hn h1
      generalize hrsS s 604800 = D at *
      obtain ⟨v, E⟩ := D
      dsimp only at HC HT
      go_enter Tryz.func46, Tryz.ntmps46
      go_wp2_with fail
      refine (HDG.out _).mono ?_; rintro e w' ⟨rfl, rfl⟩
      go_wp2_with fail
      refine HC.out.mono ?_; rintro e w1 ⟨rfl, hb1⟩
      go_wp2
      refine bodyPost_ret (v := .tuple #[.int .i64 v, .int .i64 0, .int .i64 E]) (by simp [results, Tryz.results46, go_sem]) rfl ⟨by rw [HT.out], hb1⟩
    | false =>
      have hdd : 1 < s.size ∧ digB (byI s (s.size - 1)) = false := ⟨h1, by rw [hn1, hby, hr]⟩
      have HCK : Hid (∀ q, ckC ((s[n]).toNat : Int) = q → (q < 0 → tmS s = ((0, 0), 4)) ∧ (¬ q < 0 → tmS s = (((hrsS (takeB s n) 604800).1, q), (hrsS (takeB s n) 604800).2))) := by
        show ∀ q, _ → _
        intro q hq
        refine ⟨fun h => tmS_n hdd (by rw [hn1, hby, hq]; exact h), fun h => ?_⟩
        have := tmS_c hdd (by rw [hn1, hby, hq]; exact h)
        rw [hn1, hby, hq] at this
        exact this
      have hx := slice_take s n
      have HC := Lib.hid (hours_any_s (takeB s n) 604800 w (by have := takeB_size s n; omega))
      obtain ⟨c, hcc⟩ : ∃ c : Int, ((s[n]).toNat : Int) = c := ⟨_, rfl⟩
      rw [hcc] at HCK
      have hr2 := hr
      rw [hcc] at hr2
      have HDG := Lib.hid (fun w => isdigit_lit c false w hr2)
      have hkn : (n : Int) ≤ (s.size : Int) := by omega
      have hk0n : (0 : Int) ≤ (n : Int) := by omega
      clear hr hr2 hby hn1 hn h1 hdd
      generalize hrsS (takeB s n) 604800 = D at *
      generalize takeB s n = s1 at *
      obtain ⟨v, E⟩ := D
      dsimp only at HC HCK
      rcases (show c = 119 ∨ c = 115 ∨ c = 117 ∨ (c ≠ 119 ∧ c ≠ 115 ∧ c ≠ 117) by omega) with h | h | h | ⟨h, h', h''⟩
      · have HT : Hid (tmS s = ((v, 0), E)) := (HCK.out 0 (by unfold ckC; rw [if_pos h])).2 (by decide)
        have e1 : (c == 119) = true := by rw [h]; rfl
        clear h HCK
        go_enter Tryz.func46, Tryz.ntmps46
        go_wp2_with fail
        refine (HDG.out _).mono ?_; rintro e w' ⟨rfl, rfl⟩
        go_wp2_with fail
        refine HC.out.mono ?_; rintro e w1 ⟨rfl, hb1⟩
        go_wp2
        refine bodyPost_ret (v := .tuple #[.int .i64 v, .int .i64 0, .int .i64 E]) (by simp [results, Tryz.results46, go_sem]) rfl ⟨by rw [HT.out], hb1⟩
      · have HT : Hid (tmS s = ((v, 1), E)) := (HCK.out 1 (by unfold ckC; rw [if_neg (by omega), if_pos h])).2 (by decide)
        have e1 : (c == 119) = false := by rw [h]; rfl
        have e2 : (c == 115) = true := by rw [h]; rfl
        clear h HCK
        go_enter Tryz.func46, Tryz.ntmps46
        go_wp2_with fail
        refine (HDG.out _).mono ?_; rintro e w' ⟨rfl, rfl⟩
        go_wp2_with fail
        refine HC.out.mono ?_; rintro e w1 ⟨rfl, hb1⟩
        go_wp2
        refine bodyPost_ret (v := .tuple #[.int .i64 v, .int .i64 1, .int .i64 E]) (by simp [results, Tryz.results46, go_sem]) rfl ⟨by rw [HT.out], hb1⟩
      · have HT : Hid (tmS s = ((v, 2), E)) := (HCK.out 2 (by unfold ckC; rw [if_neg (by omega), if_neg (by omega), if_pos h])).2 (by decide)
        have e1 : (c == 119) = false := by rw [h]; rfl
        have e2 : (c == 115) = false := by rw [h]; rfl
        have e3 : (c == 117) = true := by rw [h]; rfl
        clear h HCK
        go_enter Tryz.func46, Tryz.ntmps46
        go_wp2_with fail
        refine (HDG.out _).mono ?_; rintro e w' ⟨rfl, rfl⟩
        go_wp2_with fail
        refine HC.out.mono ?_; rintro e w1 ⟨rfl, hb1⟩
        go_wp2
        refine bodyPost_ret (v := .tuple #[.int .i64 v, .int .i64 2, .int .i64 E]) (by simp [results, Tryz.results46, go_sem]) rfl ⟨by rw [HT.out], hb1⟩
      · have HT : Hid (tmS s = ((0, 0), 4)) := (HCK.out (-1) (by unfold ckC; rw [if_neg h, if_neg h', if_neg h''])).1 (by decide)
        have e1 : (c == 119) = false := beq_eq_false_iff_ne.2 h
        have e2 : (c == 115) = false := beq_eq_false_iff_ne.2 h'
        have e3 : (c == 117) = false := beq_eq_false_iff_ne.2 h''
        clear h h' h'' HCK
        go_enter Tryz.func46, Tryz.ntmps46
        go_wp2_with fail
        refine (HDG.out _).mono ?_; rintro e w' ⟨rfl, rfl⟩
        go_wp2
        refine bodyPost_ret (v := .tuple #[.int .i64 0, .int .i64 0, .int .i64 4]) (by simp [results, Tryz.results46, go_sem]) rfl ⟨by rw [HT.out], Below.refl _ _⟩
  · have HT : Hid (tmS s = (((hrsS s 604800).1, 0), (hrsS s 604800).2)) := tmS_b (fun h => h1 h.1)
    have HC := Lib.hid (hours_any_s s 604800 w hs)
    have h1i : ¬ (1 : Int) < (s.size : Int) := by omega
    clear h1
    generalize hrsS s 604800 = D at *
    obtain ⟨v, E⟩ := D
    dsimp only at HC HT
    go_enter Tryz.func46, Tryz.ntmps46
    go_wp2_with fail
    refine HC.out.mono ?_; rintro e w1 ⟨rfl, hb1⟩
    go_wp2
    refine bodyPost_ret (v := .tuple #[.int .i64 v, .int .i64 0, .int .i64 E]) (by simp [results, Tryz.results46, go_sem]) rfl ⟨by rw [HT.out], hb1⟩
end Go.Proofs.YtbciennhcdabeaaGreatDoor
