/-
  source: offsets, times, days.
-/
import Derived.Test.YtbikdlcjbigafaaGreatDoorJRdE
namespace Go.Proofs.YtbikdlcjbigafaaGreatDoor
set_option linter.unusedVariables false
set_option linter.unusedSimpArgs false
open Go.ChangeShapes Go.WideShapes Go.ChangeAt Go.RowKit Civ

theorem minT_pos : ∀ (l : List ByteArray) (u n : Int), 0 ≤ u → 0 ≤ n → 0 ≤ (minT l u n).1
  | [], u, n, _, h => h
  | x :: l, u, n, hu, h => by
    show 0 ≤ (if twoB x = true then minT l 1 (n + u * twoV x) else (0, false)).1
    split
    · rename_i ht
      have := twoV_bd ht
      refine minT_pos l 1 _ (by decide) ?_
      have := Int.mul_nonneg hu this.1
      omega
    · exact Int.le_refl 0
theorem hrsS_rng (s : ByteArray) (most : Int) (hm : 0 ≤ most) : 0 ≤ (hrsS s most).1 ∧ (hrsS s most).1 ≤ most := by
  unfold hrsS
  have h1 := dcm_rng ((colS s).headD ByteArray.empty) 999 (by decide)
  have h2 := minT_pos (colS s).tail 60 (3600 * (dcm (bl ((colS s).headD ByteArray.empty)) 999).1) (by decide) (by omega)
  split
  · exact ⟨Int.le_refl 0, hm⟩
  · split
    · exact ⟨Int.le_refl 0, hm⟩
    · split
      · exact ⟨Int.le_refl 0, hm⟩
      · split
        · exact ⟨Int.le_refl 0, hm⟩
        · exact ⟨h2, by omega⟩
theorem pre_one (s : ByteArray) (c : UInt8) : Lib.hasPrefix s.data.toList [c] = decide (0 < s.size ∧ byI s 0 = (c.toNat : Int)) := by
  have hz : s.size = s.data.toList.length := by simp
  unfold byI bl
  rw [hz]
  rcases s.data.toList with _ | ⟨a, l⟩
  · rfl
  · have e : Lib.hasPrefix (a :: l) [c] = (c == a) := by unfold Lib.hasPrefix; simp [List.isPrefixOf]
    rw [e]
    simp only [List.length_cons, List.map_cons, List.getD_cons_zero]
    by_cases h : a = c
    · subst h; simp
    · rw [beq_eq_false_iff_ne.2 (fun e => h e.symm), eq_comm, decide_eq_false_iff_not]
      rintro ⟨-, h2⟩
      exact h (UInt8.toNat_inj.1 (by omega))
set_option maxRecDepth 100000 in
theorem offset_any (s : ByteArray) (w : World) (hV : SrV w) (hs : s.size ≤ 1000000) :
    Calls Tryz.prog 128 #[.string s] w fun e w' => e = PnE (offS s).2 (.int .i64 (offS s).1) ∧ Below w.heap.size w w' := by
  have HP := Lib.hid (Sh.strings_CutPrefix s ⟨#[45]⟩ w)
  have hpre : Lib.hasPrefix s.data.toList (ByteArray.mk #[45]).data.toList = decide (0 < s.size ∧ byI s 0 = 45) := pre_one s 45
  by_cases hc : 0 < s.size ∧ byI s 0 = 45
  · have ht : Lib.trimPrefix s.data.toList (ByteArray.mk #[45]).data.toList = s.data.toList.drop 1 := by
      unfold Lib.trimPrefix
      rw [hpre, decide_eq_true hc]
      rfl
    rw [hpre, decide_eq_true hc, ht] at HP
    have HO : Hid (offS s = (-(hrsS (dropB s 1) 86400).1, (hrsS (dropB s 1) 86400).2)) := by show _ = _; unfold offS; rw [if_pos hc]
    have HC := Lib.hid (sclock_any (dropB s 1) 86400 w hV (by unfold dropB; rw [bx_size, List.length_drop]; have : s.data.toList.length = s.size := by simp
                                                              omega))
    obtain ⟨b0, b1⟩ := hrsS_rng (dropB s 1) 86400 (by decide)
    have HX : Hid ((⟨(s.data.toList.drop 1).toArray⟩ : ByteArray) = dropB s 1) := rfl
    rw [HX.out] at HP
    clear hV hs hpre ht hc HX
    generalize hrsS (dropB s 1) 86400 = D at *
    generalize dropB s 1 = s1 at *
    obtain ⟨v, E⟩ := D
    dsimp only at HO HC b0 b1
    have tw : IntKind.i64.wrap (-v) = -v := IntWalk.i64_in _ (by omega)
    go_enter Tryz.func128, Tryz.ntmps128
    go_wp2_with fail
    refine HP.out.mono ?_; rintro e w' ⟨rfl, rfl⟩
    go_wp2_with fail
    refine HC.out.mono ?_; rintro e w1 ⟨he, hb1⟩
    by_cases hE : E = 0
    · rw [PnE_ok hE] at he
      subst he
      go_wp2
      go_ret
      exact ⟨by rw [HO.out, PnE_ok hE]; rfl, hb1⟩
    · rw [PnE_no hE] at he
      subst he
      go_wp2
      exact ⟨rfl, by rw [HO.out, PnE_no hE], hb1⟩
  · rw [hpre, decide_eq_false hc] at HP
    have HO : Hid (offS s = hrsS s 86400) := by show _ = _; unfold offS; rw [if_neg hc]
    have HC := Lib.hid (sclock_any s 86400 w hV hs)
    clear hV hs hpre hc
    generalize hrsS s 86400 = D at *
    obtain ⟨v, E⟩ := D
    dsimp only at HC
    go_enter Tryz.func128, Tryz.ntmps128
    go_wp2_with fail
    refine HP.out.mono ?_; rintro e w' ⟨rfl, rfl⟩
    go_wp2_with fail
    refine HC.out.mono ?_; rintro e w1 ⟨he, hb1⟩
    by_cases hE : E = 0
    · rw [PnE_ok hE] at he
      subst he
      go_wp2
      go_ret
      exact ⟨by rw [HO.out, PnE_ok hE]; rfl, hb1⟩
    · rw [PnE_no hE] at he
      subst he
      go_wp2
      exact ⟨rfl, by rw [HO.out, PnE_no hE], hb1⟩
theorem slice_take (s : ByteArray) (k : Nat) : s.extract 0 k = takeB s k := by
  rw [ext_bytes]; rfl
theorem takeB_size (s : ByteArray) (k : Nat) : (takeB s k).size ≤ s.size := by
  unfold takeB
  rw [bx_size, List.length_take]
  have : s.data.toList.length = s.size := by simp
  omega
theorem dropB_size (s : ByteArray) (k : Nat) : (dropB s k).size ≤ s.size := by
  unfold dropB
  rw [bx_size, List.length_drop]
  have : s.data.toList.length = s.size := by simp
  omega
theorem ckC_idx (c : Int) (x : UInt8) (h : (x.toNat : Int) = c) : (Lib.indexByte [119, 115, 117] x : Int) = ckC c := by
  unfold ckC
  have e : Lib.indexByte [119, 115, 117] x = if (119 : UInt8) = x then 0 else if (115 : UInt8) = x then 1 else if (117 : UInt8) = x then 2 else -1 := by
    simp only [Lib.indexByte]
    by_cases h1 : (119 : UInt8) = x
    · subst h1; rfl
    · by_cases h2 : (115 : UInt8) = x
      · subst h2; rfl
      · by_cases h3 : (117 : UInt8) = x
        · subst h3; rfl
        · simp [h1, h2, h3, Ne.symm]
  rw [e, ← h]
  by_cases h1 : (119 : UInt8) = x
  · subst h1; rfl
  · have g1 : ¬ ((x.toNat : Int) = 119) := fun e => h1 (UInt8.toNat_inj.1 (by show 119 = _; omega))
    rw [if_neg h1, if_neg g1]
    by_cases h2 : (115 : UInt8) = x
    · subst h2; rfl
    · have g2 : ¬ ((x.toNat : Int) = 115) := fun e => h2 (UInt8.toNat_inj.1 (by show 115 = _; omega))
      rw [if_neg h2, if_neg g2]
      by_cases h3 : (117 : UInt8) = x
      · subst h3; rfl
      · have g3 : ¬ ((x.toNat : Int) = 117) := fun e => h3 (UInt8.toNat_inj.1 (by show 117 = _; omega))
        rw [if_neg h3, if_neg g3]
theorem tmS_b {s : ByteArray} (h : ¬ (1 < s.size ∧ digB (byI s (s.size - 1)) = false)) : tmS s = (((hrsS s 604800).1, 0), (hrsS s 604800).2) := by unfold tmS; rw [if_neg h]
theorem tmS_n {s : ByteArray} (h : 1 < s.size ∧ digB (byI s (s.size - 1)) = false) (h2 : ckC (byI s (s.size - 1)) < 0) : tmS s = ((0, 0), 4) := by unfold tmS; rw [if_pos h, if_pos h2]
theorem tmS_c {s : ByteArray} (h : 1 < s.size ∧ digB (byI s (s.size - 1)) = false) (h2 : ¬ ckC (byI s (s.size - 1)) < 0) : tmS s = (((hrsS (takeB s (s.size - 1)) 604800).1, ckC (byI s (s.size - 1))), (hrsS (takeB s (s.size - 1)) 604800).2) := by unfold tmS; rw [if_pos h, if_neg h2]
theorem ckC_rng (c : Int) : -1 ≤ ckC c ∧ ckC c ≤ 2 := by
  unfold ckC
  split
  · decide
  · split
    · decide
    · split <;> decide
set_option maxRecDepth 100000 in
set_option maxHeartbeats 1000000 in
theorem time_any (s : ByteArray) (w : World) (hV : SrV w) (hs : s.size ≤ 1000000) :
    Calls Tryz.prog 127 #[.string s] w fun e w' => e = PnE (tmS s).2 (.tuple #[.int .i64 (tmS s).1.1, .int .i64 (tmS s).1.2]) ∧ Below w.heap.size w w' := by
  by_cases h1 : 1 < s.size
  · obtain ⟨n, hn⟩ : ∃ n, s.size = n + 1 := ⟨s.size - 1, by omega⟩
    have hn1 : s.size - 1 = n := by omega
    have hns : n < s.size := by omega
    have hki : (n : Int) < (s.size : Int) := by omega
    have hk0 : (0 : Int) < (n : Int) := by omega
    have hk : (s.size : Int) - 1 = (n : Int) := by omega
    have hby := byI_at s n hns
    have HX : Hid (((s[n]).toNat : Int).toNat.toUInt8 = s[n]) := by show _ = _; rw [Int.toNat_natCast]; exact UInt8.ofNat_toNat
    obtain ⟨r, hr⟩ : ∃ r, digB ((s[n]).toNat : Int) = r := ⟨_, rfl⟩
    have HDG := Lib.hid (fun w => digit_lit ((s[n]).toNat : Int) r w hr)
    cases r with
    | true =>
      have HT : Hid (tmS s = (((hrsS s 604800).1, 0), (hrsS s 604800).2)) := tmS_b (fun h => by rw [hn1, hby, hr] at h; cases h.2)
      have HC := Lib.hid (sclock_any s 604800 w hV hs)
      clear hV hr hby hn1 hn h1 HX
      generalize hrsS s 604800 = D at *
      obtain ⟨v, E⟩ := D
      dsimp only at HC HT
      go_enter Tryz.func127, Tryz.ntmps127
      go_wp2_with fail
      refine (HDG.out _).mono ?_; rintro e w' ⟨rfl, rfl⟩
      go_wp2_with fail
      refine HC.out.mono ?_; rintro e w1 ⟨he, hb1⟩
      by_cases hE : E = 0
      · rw [PnE_ok hE] at he
        subst he
        go_wp2
        go_ret2
        exact ⟨by rw [HT.out, PnE_ok hE]; rfl, hb1⟩
      · rw [PnE_no hE] at he
        subst he
        go_wp2
        exact ⟨rfl, by rw [HT.out, PnE_no hE], hb1⟩
    | false =>
      have hdd : 1 < s.size ∧ digB (byI s (s.size - 1)) = false := ⟨h1, by rw [hn1, hby, hr]⟩
      have HI := Lib.hid (fun w => sIndexByte_lit ⟨#[119, 115, 117]⟩ ((s[n]).toNat : Int) (ckC ((s[n]).toNat : Int)) w (by rw [HX.out]; exact ckC_idx _ _ rfl))
      obtain ⟨c0, c1⟩ := ckC_rng ((s[n]).toNat : Int)
      by_cases hc : ckC ((s[n]).toNat : Int) < 0
      · have HT : Hid (tmS s = ((0, 0), 4)) := tmS_n hdd (by rw [hn1, hby]; exact hc)
        have d0 : decide (0 ≤ ckC ((s[n]).toNat : Int)) = false := decide_eq_false (by omega)
        clear hV hr hby hn1 hn h1 HX hdd hc
        generalize ckC ((s[n]).toNat : Int) = c at *
        go_enter Tryz.func127, Tryz.ntmps127
        go_wp2_with fail
        refine (HDG.out _).mono ?_; rintro e w' ⟨rfl, rfl⟩
        go_wp2_with fail
        refine (HI.out _).mono ?_; rintro e w' ⟨rfl, rfl⟩
        go_wp2_with fail
        refine (need_no _ _).mono ?_; rintro e w' ⟨rfl, rfl⟩
        go_wp2
        exact ⟨rfl, by rw [HT.out]; rfl, Below.refl _ _⟩
      · have HT : Hid (tmS s = (((hrsS (takeB s n) 604800).1, ckC ((s[n]).toNat : Int)), (hrsS (takeB s n) 604800).2)) := by
          have := tmS_c hdd (by rw [hn1, hby]; exact hc)
          rw [hn1, hby] at this
          exact this
        have d0 : decide (0 ≤ ckC ((s[n]).toNat : Int)) = true := decide_eq_true (by omega)
        have hx := slice_take s n
        have HC := Lib.hid (sclock_any (takeB s n) 604800 w hV (by have := takeB_size s n; omega))
        clear hV hr hby hn1 hn h1 HX hdd hc
        generalize ckC ((s[n]).toNat : Int) = c at *
        generalize hrsS (takeB s n) 604800 = D at *
        generalize takeB s n = s1 at *
        obtain ⟨v, E⟩ := D
        dsimp only at HC HT
        go_enter Tryz.func127, Tryz.ntmps127
        go_wp2_with fail
        refine (HDG.out _).mono ?_; rintro e w' ⟨rfl, rfl⟩
        go_wp2_with fail
        refine (HI.out _).mono ?_; rintro e w' ⟨rfl, rfl⟩
        go_wp2_with fail
        refine (need_yes _ _).mono ?_; rintro e w' ⟨rfl, rfl⟩
        go_wp2_with fail
        refine HC.out.mono ?_; rintro e w1 ⟨he, hb1⟩
        by_cases hE : E = 0
        · rw [PnE_ok hE] at he
          subst he
          go_wp2
          go_ret2
          exact ⟨by rw [HT.out, PnE_ok hE]; rfl, hb1⟩
        · rw [PnE_no hE] at he
          subst he
          go_wp2
          exact ⟨rfl, by rw [HT.out, PnE_no hE], hb1⟩
  · have HT : Hid (tmS s = (((hrsS s 604800).1, 0), (hrsS s 604800).2)) := tmS_b (fun h => h1 h.1)
    have HC := Lib.hid (sclock_any s 604800 w hV hs)
    have hk : ¬ (0 : Int) < (s.size : Int) - 1 := by omega
    have tw : IntKind.i64.wrap ((s.size : Int) - 1) = (s.size : Int) - 1 := IntWalk.i64_in _ (by omega)
    clear hV h1
    generalize hrsS s 604800 = D at *
    obtain ⟨v, E⟩ := D
    dsimp only at HC HT
    go_enter Tryz.func127, Tryz.ntmps127
    go_wp2_with fail
    refine HC.out.mono ?_; rintro e w1 ⟨he, hb1⟩
    by_cases hE : E = 0
    · rw [PnE_ok hE] at he
      subst he
      go_wp2
      go_ret2
      exact ⟨by rw [HT.out, PnE_ok hE]; rfl, hb1⟩
    · rw [PnE_no hE] at he
      subst he
      go_wp2
      exact ⟨rfl, by rw [HT.out, PnE_no hE], hb1⟩
end Go.Proofs.YtbikdlcjbigafaaGreatDoor
