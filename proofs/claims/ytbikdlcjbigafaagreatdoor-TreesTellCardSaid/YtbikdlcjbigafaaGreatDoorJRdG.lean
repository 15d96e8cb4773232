/-
  source: days of a month.
-/
import Derived.Test.YtbikdlcjbigafaaGreatDoorJRdF
import Derived.Test.YtbikdlcjbigafaaGreatDoorJRdA
namespace Go.Proofs.YtbikdlcjbigafaaGreatDoor
set_option linter.unusedVariables false
set_option linter.unusedSimpArgs false
open Go.ChangeShapes Go.WideShapes Go.ChangeAt Go.RowKit Civ

theorem pre_fourL (a b c d : UInt8) : ∀ l : List UInt8, Lib.hasPrefix l [a, b, c, d] = decide (4 ≤ l.length ∧ l.take 4 = [a, b, c, d])
  | [] => by simp [Lib.hasPrefix]
  | [x] => by simp [Lib.hasPrefix, List.isPrefixOf]
  | [x, y] => by simp [Lib.hasPrefix, List.isPrefixOf]
  | [x, y, z] => by simp [Lib.hasPrefix, List.isPrefixOf]
  | x :: y :: z :: u :: l => by
    have h4 : 4 ≤ (x :: y :: z :: u :: l).length := by simp
    have e : decide (4 ≤ (x :: y :: z :: u :: l).length ∧ (x :: y :: z :: u :: l).take 4 = [a, b, c, d]) = decide (a = x ∧ b = y ∧ c = z ∧ d = u) := by
      rw [decide_eq_decide]
      constructor
      · rintro ⟨-, h⟩
        simp at h
        obtain ⟨rfl, rfl, rfl, rfl⟩ := h
        exact ⟨rfl, rfl, rfl, rfl⟩
      · rintro ⟨rfl, rfl, rfl, rfl⟩
        exact ⟨h4, rfl⟩
    rw [e]
    unfold Lib.hasPrefix
    by_cases e1 : a = x
    · by_cases e2 : b = y
      · by_cases e3 : c = z
        · by_cases e4 : d = u
          · simp [List.isPrefixOf, e1, e2, e3, e4]
          · simp [List.isPrefixOf, e1, e2, e3, e4]
        · simp [List.isPrefixOf, e1, e2, e3]
      · simp [List.isPrefixOf, e1, e2]
    · simp [List.isPrefixOf, e1]
theorem pre_four (s : ByteArray) (a b c d : UInt8) : Lib.hasPrefix s.data.toList [a, b, c, d] = decide (4 ≤ s.size ∧ takeB s 4 = bx [a, b, c, d]) := by
  have hz : s.size = s.data.toList.length := by simp
  have hi : takeB s 4 = bx [a, b, c, d] ↔ s.data.toList.take 4 = [a, b, c, d] := by
    unfold takeB
    exact ⟨bx_inj, fun h => by rw [h]⟩
  rw [hz, decide_eq_decide.2 (and_congr_right fun _ => hi)]
  exact pre_fourL a b c d _
theorem ix2_cases (l sep : List UInt8) : Lib.index l sep = -1 ∨ ∃ k : Nat, Lib.index l sep = k := by
  rcases Lib.index_spec l sep with ⟨m, hm⟩ | ⟨k, hk, _⟩
  · exact .inl m
  · exact .inr ⟨k, hk⟩
structure DyB (w wx : World) : Prop where
  r : BxO wx w.heap.size #[.int .i64 0, .int .i64 0, .int .i64 0] 54
  b : Below w.heap.size w wx
theorem DyB.next {w wx w' : World} (h : DyB w wx) (hb : Below wx.heap.size wx w') : DyB w w' := ⟨(hb.block _ h.r.lt).trans h.r, h.b.trans (hb.mono h.b.size)⟩
theorem DyB.new (w : World) : DyB w (w.alloc (.cells #[.int .i64 0, .int .i64 0, .int .i64 0] 54)) := ⟨BxO.new _ _ _, (Below.refl _ _).alloc (Nat.le_refl _) _⟩
theorem DyB.done {w wx : World} (h : DyB w wx) (u0 u1 u2 : Value) : Below w.heap.size w (((wx.setCell ⟨w.heap.size, 0, none⟩ u0).setCell ⟨w.heap.size, 1, none⟩ u1).setCell ⟨w.heap.size, 2, none⟩ u2) :=
  ((h.b.setCell (p := ⟨w.heap.size, 0, none⟩) (Nat.le_refl _) _).setCell (p := ⟨w.heap.size, 1, none⟩) (Nat.le_refl _) _).setCell (p := ⟨w.heap.size, 2, none⟩) (Nat.le_refl _) _
set_option maxRecDepth 100000 in
set_option maxHeartbeats 4000000 in
theorem day_any_s (s : ByteArray) (w : World) (hV : SrV w) (hs : s.size ≤ 1000000) :
    Calls Tryz.prog 126 #[.string s] w fun e w' => e = PnE (dyS s).2 (.agg #[.int .i64 (dyS s).1.k, .int .i64 (dyS s).1.a, .int .i64 (dyS s).1.n]) ∧ Below w.heap.size w w' := by
  have D0 := Lib.hid (DyB.new w)
  obtain ⟨W0, hW0⟩ : ∃ W0, W0 = w.alloc (.cells #[.int .i64 0, .int .i64 0, .int .i64 0] 54) := ⟨_, rfl⟩
  rw [← hW0] at D0
  have HW := Lib.hid hW0
  have HV0 := Lib.hid (hV.below ((Below.refl _ w).alloc (Nat.le_refl _) (.cells #[.int .i64 0, .int .i64 0, .int .i64 0] 54)))
  rw [← hW0] at HV0
  have hpre : Lib.hasPrefix s.data.toList (ByteArray.mk #[108, 97, 115, 116]).data.toList = decide (4 ≤ s.size ∧ takeB s 4 = bx [108, 97, 115, 116]) := pre_four s 108 97 115 116
  have HP := Lib.hid (Sh.strings_CutPrefix s ⟨#[108, 97, 115, 116]⟩ W0)
  clear hW0 hV
  by_cases hc : 4 ≤ s.size ∧ takeB s 4 = bx [108, 97, 115, 116]
  · have ht : Lib.trimPrefix s.data.toList (ByteArray.mk #[108, 97, 115, 116]).data.toList = s.data.toList.drop 4 := by
      unfold Lib.trimPrefix
      rw [hpre, decide_eq_true hc]
      rfl
    rw [hpre, decide_eq_true hc, ht] at HP
    have HO : Hid (dyS s = (⟨2, (wdS (dropB s 4)).1, 0⟩, (wdS (dropB s 4)).2)) := by show _ = _; unfold dyS; rw [if_pos hc]
    have HX : Hid ((⟨(s.data.toList.drop 4).toArray⟩ : ByteArray) = dropB s 4) := rfl
    rw [HX.out] at HP
    have HC := Lib.hid (weekday_any_s (dropB s 4) W0 HV0.out)
    clear hs hpre ht hc HX
    generalize wdS (dropB s 4) = D at *
    generalize dropB s 4 = s1 at *
    obtain ⟨v, E⟩ := D
    dsimp only at HO HC
    have r0 : W0.cell? ⟨w.heap.size, 0, none⟩ = some (.int .i64 0) := D0.out.r.cell 0
    have r1 : W0.cell? ⟨w.heap.size, 1, none⟩ = some (.int .i64 0) := D0.out.r.cell 1
    have r2 : W0.cell? ⟨w.heap.size, 2, none⟩ = some (.int .i64 0) := D0.out.r.cell 2
    have f0 : W0.frozen? ⟨w.heap.size, 0, none⟩ = false := D0.out.r.frozen 0
    have f1 : W0.frozen? ⟨w.heap.size, 1, none⟩ = false := D0.out.r.frozen 1
    have f2 : W0.frozen? ⟨w.heap.size, 2, none⟩ = false := D0.out.r.frozen 2
    have zl : w.heap.size < W0.heap.size := D0.out.r.lt
    go_enter Tryz.func126, Tryz.ntmps126
    go_upto_region 1 with fail
    rw [← HW.out]
    clear HW
    go_wp2_with fail
    refine HP.out.mono ?_; rintro e w' ⟨rfl, rfl⟩
    go_wp2_with fail
    refine HC.out.mono ?_; rintro e w1 ⟨he, rfl⟩
    by_cases hE : E = 0
    · rw [PnE_ok hE] at he
      subst he
      go_wp2
      refine bodyPost_ret (v := .agg #[.int .i64 2, .int .i64 v, .int .i64 0]) (by simp [results, Tryz.results126, go_sem, r0, r1, r2, zl]) rfl ⟨by rw [HO.out, PnE_ok hE], D0.out.done _ _ _⟩
    · rw [PnE_no hE] at he
      subst he
      go_wp2
      exact ⟨rfl, by rw [HO.out, PnE_no hE], D0.out.b⟩
  · rw [hpre, decide_eq_false hc] at HP
    have HO0 : Hid (dyS s = if 0 ≤ geS s then dyC 3 s (geS s).toNat else if 0 ≤ leS s then dyC 4 s (leS s).toNat else (⟨1, 0, (dnS s).1⟩, (dnS s).2)) := by show _ = _; unfold dyS; rw [if_neg hc]
    clear hpre hc
    have HCU := Lib.hid (cut_any s ⟨#[62, 61]⟩ W0 HV0.out.mx (by omega))
    rcases ix2_cases s.data.toList [62, 61] with hg | ⟨i, hg⟩
    · have hcu : Lib.cut s.data.toList (ByteArray.mk #[62, 61]).data.toList = (s.data.toList, [], false) := cut_none hg
      rw [hcu] at HCU
      have HX0 : Hid ((⟨s.data.toList.toArray⟩ : ByteArray) = s) := by show _ = _; obtain ⟨⟨l⟩⟩ := s; rfl
      dsimp only at HCU
      have HO0b : Hid (dyS s = if 0 ≤ leS s then dyC 4 s (leS s).toNat else (⟨1, 0, (dnS s).1⟩, (dnS s).2)) := by show _ = _; rw [HO0.out, if_neg (by unfold geS; rw [hg]; decide)]
      clear hcu hg HO0
      rcases ix2_cases s.data.toList [60, 61] with hg | ⟨i, hg⟩
      · have hcu : Lib.cut s.data.toList (ByteArray.mk #[60, 61]).data.toList = (s.data.toList, [], false) := cut_none hg
        have HCV := Lib.hid (fun wx (h : SrV wx) => cut_any s ⟨#[60, 61]⟩ wx h.mx (by omega))
        rw [hcu] at HCV
        dsimp only at HCV
        have HO : Hid (dyS s = (⟨1, 0, (dnS s).1⟩, (dnS s).2)) := by show _ = _; rw [HO0b.out, if_neg (by unfold leS; rw [hg]; decide)]
        have HDN := Lib.hid (fun wx => dayNumber_any s wx (by unfold maxLen; omega))
        clear hcu hg HO0b hs HX0
        generalize dnS s = N at *
        obtain ⟨n, F⟩ := N
        dsimp only at HO HDN
        go_enter Tryz.func126, Tryz.ntmps126
        go_upto_region 1 with fail
        rw [← HW.out]
        clear HW
        go_wp2_with fail
        refine HP.out.mono ?_; rintro e w' ⟨rfl, rfl⟩
        go_wp2_with fail
        refine HCU.out.mono ?_; rintro e wa ⟨rfl, qa, hwa⟩
        have HVA : Hid (SrV wa) := by show SrV _; rw [hwa]; exact HV0.out.below (below_draws (Below.refl _ _) qa)
        have DA : Hid (DyB w wa) := by show DyB _ _; rw [hwa]; exact D0.out.next (below_draws (Below.refl _ _) qa)
        clear hwa
        go_wp2_with fail
        refine (HCV.out _ HVA.out).mono ?_; rintro e wb ⟨rfl, qb, hwb⟩
        have DC : Hid (DyB w wb) := by show DyB _ _; rw [hwb]; exact DA.out.next (below_draws (Below.refl _ _) qb)
        clear hwb
        go_wp2_with fail
        refine (HDN.out _).mono ?_; rintro e w1 ⟨he, hb1⟩
        have D2 := Lib.hid (DC.out.next hb1)
        clear hb1
        by_cases hF : F = 0
        · rw [PnE_ok hF] at he
          subst he
          have r0 : w1.cell? ⟨w.heap.size, 0, none⟩ = some (.int .i64 0) := D2.out.r.cell 0
          have r1 : w1.cell? ⟨w.heap.size, 1, none⟩ = some (.int .i64 0) := D2.out.r.cell 1
          have r2 : w1.cell? ⟨w.heap.size, 2, none⟩ = some (.int .i64 0) := D2.out.r.cell 2
          have f0 : w1.frozen? ⟨w.heap.size, 0, none⟩ = false := D2.out.r.frozen 0
          have f1 : w1.frozen? ⟨w.heap.size, 1, none⟩ = false := D2.out.r.frozen 1
          have f2 : w1.frozen? ⟨w.heap.size, 2, none⟩ = false := D2.out.r.frozen 2
          have zl : w.heap.size < w1.heap.size := D2.out.r.lt
          go_wp2
          refine bodyPost_ret (v := .agg #[.int .i64 1, .int .i64 0, .int .i64 n]) (by simp [results, Tryz.results126, go_sem, r0, r1, r2, zl]) rfl ⟨by rw [HO.out, PnE_ok hF], D2.out.done _ _ _⟩
        · rw [PnE_no hF] at he
          subst he
          go_wp2
          exact ⟨rfl, by rw [HO.out, PnE_no hF], D2.out.b⟩
      · have hcu : Lib.cut s.data.toList (ByteArray.mk #[60, 61]).data.toList = (s.data.toList.take i, s.data.toList.drop (i + 2), true) := cut_at hg
        have HCV := Lib.hid (fun wx (h : SrV wx) => cut_any s ⟨#[60, 61]⟩ wx h.mx (by omega))
        rw [hcu] at HCV
        dsimp only at HCV
        have HO1 : Hid (dyS s = dyC 4 s i) := by show _ = _; rw [HO0b.out, if_pos (by unfold leS; rw [hg]; omega)]; unfold leS; rw [hg]; rfl
        clear hcu hg HO0b HX0
        have HCU' := HCU
        clear HCU
        have HCU := HCV
        clear HCV
        have HX1 : Hid ((⟨(s.data.toList.take i).toArray⟩ : ByteArray) = takeB s i) := rfl
        have HX2 : Hid ((⟨(s.data.toList.drop (i + 2)).toArray⟩ : ByteArray) = dropB s (i + 2)) := rfl
        rw [HX1.out, HX2.out] at HCU
        have HWD := Lib.hid (fun wx (h : SrV wx) => weekday_any_s (takeB s i) wx h)
        have HDN := Lib.hid (fun wx => dayNumber_any (dropB s (i + 2)) wx (by have := dropB_size s (i + 2); unfold maxLen; omega))
        have HO : Hid (dyS s = if (wdS (takeB s i)).2 ≠ 0 then (⟨0, 0, 0⟩, (wdS (takeB s i)).2) else (⟨4, (wdS (takeB s i)).1, (dnS (dropB s (i + 2))).1⟩, (dnS (dropB s (i + 2))).2)) := HO1
        clear hs HX1 HX2 HO1
        generalize wdS (takeB s i) = D at *
        generalize dnS (dropB s (i + 2)) = N at *
        generalize takeB s i = s1 at *
        generalize dropB s (i + 2) = s2 at *
        obtain ⟨v, E⟩ := D
        obtain ⟨n, F⟩ := N
        dsimp only at HO HWD HDN
        go_enter Tryz.func126, Tryz.ntmps126
        go_upto_region 1 with fail
        rw [← HW.out]
        clear HW
        go_wp2_with fail
        refine HP.out.mono ?_; rintro e w' ⟨rfl, rfl⟩
        go_wp2_with fail
        refine HCU'.out.mono ?_; rintro e wa ⟨rfl, qa, hwa⟩
        have HVA : Hid (SrV wa) := by show SrV _; rw [hwa]; exact HV0.out.below (below_draws (Below.refl _ _) qa)
        have DA : Hid (DyB w wa) := by show DyB _ _; rw [hwa]; exact D0.out.next (below_draws (Below.refl _ _) qa)
        clear hwa
        go_wp2_with fail
        refine (HCU.out _ HVA.out).mono ?_; rintro e wb ⟨rfl, qb, hwb⟩
        have HVC : Hid (SrV wb) := by show SrV _; rw [hwb]; exact HVA.out.below (below_draws (Below.refl _ _) qb)
        have DC : Hid (DyB w wb) := by show DyB _ _; rw [hwb]; exact DA.out.next (below_draws (Below.refl _ _) qb)
        clear hwb
        go_wp2_with fail
        refine (HWD.out _ HVC.out).mono ?_; rintro e w1 ⟨he, rfl⟩
        by_cases hE : E = 0
        · rw [PnE_ok hE] at he
          subst he
          have HO2 : Hid (dyS s = (⟨4, v, n⟩, F)) := HO.out.trans (if_neg (by simp [hE]))
          go_wp2_with fail
          refine (HDN.out _).mono ?_; rintro e w1 ⟨he, hb1⟩
          have D2 := Lib.hid (DC.out.next hb1)
          clear hb1
          by_cases hF : F = 0
          · rw [PnE_ok hF] at he
            subst he
            have r0 : w1.cell? ⟨w.heap.size, 0, none⟩ = some (.int .i64 0) := D2.out.r.cell 0
            have r1 : w1.cell? ⟨w.heap.size, 1, none⟩ = some (.int .i64 0) := D2.out.r.cell 1
            have r2 : w1.cell? ⟨w.heap.size, 2, none⟩ = some (.int .i64 0) := D2.out.r.cell 2
            have f0 : w1.frozen? ⟨w.heap.size, 0, none⟩ = false := D2.out.r.frozen 0
            have f1 : w1.frozen? ⟨w.heap.size, 1, none⟩ = false := D2.out.r.frozen 1
            have f2 : w1.frozen? ⟨w.heap.size, 2, none⟩ = false := D2.out.r.frozen 2
            have zl : w.heap.size < w1.heap.size := D2.out.r.lt
            go_wp2
            refine bodyPost_ret (v := .agg #[.int .i64 4, .int .i64 v, .int .i64 n]) (by simp [results, Tryz.results126, go_sem, r0, r1, r2, zl]) rfl ⟨by rw [HO2.out, PnE_ok hF], D2.out.done _ _ _⟩
          · rw [PnE_no hF] at he
            subst he
            go_wp2
            exact ⟨rfl, by rw [HO2.out, PnE_no hF], D2.out.b⟩
        · rw [PnE_no hE] at he
          subst he
          have HO2 : Hid (dyS s = (⟨0, 0, 0⟩, E)) := HO.out.trans (if_pos hE)
          go_wp2
          exact ⟨rfl, by rw [HO2.out, PnE_no hE], DC.out.b⟩
    · have hcu : Lib.cut s.data.toList (ByteArray.mk #[62, 61]).data.toList = (s.data.toList.take i, s.data.toList.drop (i + 2), true) := cut_at hg
      rw [hcu] at HCU
      dsimp only at HCU
      have HO1 : Hid (dyS s = dyC 3 s i) := by show _ = _; rw [HO0.out, if_pos (by unfold geS; rw [hg]; omega)]; unfold geS; rw [hg]; rfl
      clear hcu hg HO0
      have HX1 : Hid ((⟨(s.data.toList.take i).toArray⟩ : ByteArray) = takeB s i) := rfl
      have HX2 : Hid ((⟨(s.data.toList.drop (i + 2)).toArray⟩ : ByteArray) = dropB s (i + 2)) := rfl
      rw [HX1.out, HX2.out] at HCU
      have HWD := Lib.hid (fun wx (h : SrV wx) => weekday_any_s (takeB s i) wx h)
      have HDN := Lib.hid (fun wx => dayNumber_any (dropB s (i + 2)) wx (by have := dropB_size s (i + 2); unfold maxLen; omega))
      have HO : Hid (dyS s = if (wdS (takeB s i)).2 ≠ 0 then (⟨0, 0, 0⟩, (wdS (takeB s i)).2) else (⟨3, (wdS (takeB s i)).1, (dnS (dropB s (i + 2))).1⟩, (dnS (dropB s (i + 2))).2)) := HO1
      clear hs HX1 HX2 HO1
      generalize wdS (takeB s i) = D at *
      generalize dnS (dropB s (i + 2)) = N at *
      generalize takeB s i = s1 at *
      generalize dropB s (i + 2) = s2 at *
      obtain ⟨v, E⟩ := D
      obtain ⟨n, F⟩ := N
      dsimp only at HO HWD HDN
      go_enter Tryz.func126, Tryz.ntmps126
      go_upto_region 1 with fail
      rw [← HW.out]
      clear HW
      go_wp2_with fail
      refine HP.out.mono ?_; rintro e w' ⟨rfl, rfl⟩
      go_wp2_with fail
      refine HCU.out.mono ?_; rintro e wb ⟨rfl, qb, hwb⟩
      have HVC : Hid (SrV wb) := by show SrV _; rw [hwb]; exact HV0.out.below (below_draws (Below.refl _ _) qb)
      have DC : Hid (DyB w wb) := by show DyB _ _; rw [hwb]; exact D0.out.next (below_draws (Below.refl _ _) qb)
      clear hwb
      go_wp2_with fail
      refine (HWD.out _ HVC.out).mono ?_; rintro e w1 ⟨he, rfl⟩
      by_cases hE : E = 0
      · rw [PnE_ok hE] at he
        subst he
        have HO2 : Hid (dyS s = (⟨3, v, n⟩, F)) := HO.out.trans (if_neg (by simp [hE]))
        go_wp2_with fail
        refine (HDN.out _).mono ?_; rintro e w1 ⟨he, hb1⟩
        have D2 := Lib.hid (DC.out.next hb1)
        clear hb1
        by_cases hF : F = 0
        · rw [PnE_ok hF] at he
          subst he
          have r0 : w1.cell? ⟨w.heap.size, 0, none⟩ = some (.int .i64 0) := D2.out.r.cell 0
          have r1 : w1.cell? ⟨w.heap.size, 1, none⟩ = some (.int .i64 0) := D2.out.r.cell 1
          have r2 : w1.cell? ⟨w.heap.size, 2, none⟩ = some (.int .i64 0) := D2.out.r.cell 2
          have f0 : w1.frozen? ⟨w.heap.size, 0, none⟩ = false := D2.out.r.frozen 0
          have f1 : w1.frozen? ⟨w.heap.size, 1, none⟩ = false := D2.out.r.frozen 1
          have f2 : w1.frozen? ⟨w.heap.size, 2, none⟩ = false := D2.out.r.frozen 2
          have zl : w.heap.size < w1.heap.size := D2.out.r.lt
          go_wp2
          refine bodyPost_ret (v := .agg #[.int .i64 3, .int .i64 v, .int .i64 n]) (by simp [results, Tryz.results126, go_sem, r0, r1, r2, zl]) rfl ⟨by rw [HO2.out, PnE_ok hF], D2.out.done _ _ _⟩
        · rw [PnE_no hF] at he
          subst he
          go_wp2
          exact ⟨rfl, by rw [HO2.out, PnE_no hF], D2.out.b⟩
      · rw [PnE_no hE] at he
        subst he
        have HO2 : Hid (dyS s = (⟨0, 0, 0⟩, E)) := HO.out.trans (if_pos hE)
        go_wp2
        exact ⟨rfl, by rw [HO2.out, PnE_no hE], DC.out.b⟩
end Go.Proofs.YtbikdlcjbigafaaGreatDoor
