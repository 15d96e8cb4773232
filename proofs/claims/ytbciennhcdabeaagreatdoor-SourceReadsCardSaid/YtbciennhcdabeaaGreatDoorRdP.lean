/-
  The document's days of a month: plain; the walk.
-/
import Derived.BigQuiet
import Derived.Test.YtbciennhcdabeaaGreatDoorRdG
import Derived.Test.YtbciennhcdabeaaGreatDoorRdO
namespace Go.Proofs.YtbciennhcdabeaaGreatDoor
set_option linter.unusedVariables false
set_option linter.unusedSimpArgs false
open Go.ChangeShapes Go.WideShapes Go.ChangeAt Go.RowKit Civ

def mkD (k : Nat) : ByteArray := if k = 0 then bx [62, 61] else bx [60, 61]
def kdD (k : Nat) : Int := if k = 0 then 3 else 4
theorem mkD_two (k : Nat) : (mkD k).data.toList.length = 2 := by unfold mkD; split <;> rfl
/-- a mark stands at i. -/
theorem occ_two (s m : ByteArray) (hm : m.data.toList.length = 2) (i : Nat) (h : i + 1 < s.size) : Lib.occAt s.data.toList m.data.toList i = decide (s.extract i (i + 2) = m) := by
  have hz : s.data.toList.length = s.size := by simp
  have e : s.extract i (i + 2) = bx ((s.data.toList.drop i).take 2) := by rw [ext_bx, show i + 2 - i = 2 by omega]
  have hi : s.extract i (i + 2) = m ↔ (s.data.toList.drop i).take 2 = m.data.toList := by
    rw [e]
    constructor
    · intro h; rw [← h]; rfl
    · intro h; rw [h, bx_data]
  unfold Lib.occAt
  rw [decide_eq_decide.2 hi, Bool.eq_iff_iff, decide_eq_true_iff, List.isPrefixOf_iff_prefix, List.prefix_iff_eq_take, hm]
  exact eq_comm
theorem occ_end (s m : ByteArray) (hm : m.data.toList.length = 2) (i : Nat) (h : ¬ i + 1 < s.size) : Lib.occAt s.data.toList m.data.toList i = false := by
  have hz : s.data.toList.length = s.size := by simp
  unfold Lib.occAt
  rw [Bool.eq_false_iff]
  intro h2
  have := (List.isPrefixOf_iff_prefix.1 h2).length_le
  rw [List.length_drop] at this
  omega
/-- the first place. -/
theorem index_at (s m : ByteArray) (i : Nat) (h1 : Lib.occAt s.data.toList m.data.toList i = true) (hi : i ≤ s.data.toList.length) (h2 : ∀ j, j < i → Lib.occAt s.data.toList m.data.toList j = false) : Lib.index s.data.toList m.data.toList = (i : Int) := by
  rcases Lib.index_spec s.data.toList m.data.toList with ⟨-, hn⟩ | ⟨k, hk, hkl, ho, hn⟩
  · rw [hn i hi] at h1; cases h1
  · rw [hk]
    rcases Nat.lt_trichotomy k i with h | h | h
    · rw [h2 k h] at ho; cases ho
    · rw [h]
    · exact absurd h1 (by rw [hn i h]; decide)
theorem index_none (s m : ByteArray) (h2 : ∀ j, Lib.occAt s.data.toList m.data.toList j = false) : Lib.index s.data.toList m.data.toList = -1 := by
  rcases Lib.index_spec s.data.toList m.data.toList with ⟨h, -⟩ | ⟨k, hk, hkl, ho, hn⟩
  · exact h
  · rw [h2 k] at ho; cases ho
theorem dyS_found {s : ByteArray} {k i : Nat} (hl : ¬ (4 ≤ s.size ∧ takeB s 4 = bx [108, 97, 115, 116])) (hk : k < 2) (hq : ∀ q, q < k → Lib.index s.data.toList (mkD q).data.toList = -1) (hf : Lib.index s.data.toList (mkD k).data.toList = (i : Int)) : dyS s = dyC (kdD k) s i := by
  unfold dyS
  rw [if_neg hl]
  rcases (show k = 0 ∨ k = 1 by omega) with rfl | rfl
  · have h : geS s = (i : Int) := hf
    rw [if_pos (by omega), h]
    rfl
  · have h0 : geS s = -1 := hq 0 (by omega)
    have h : leS s = (i : Int) := hf
    rw [if_neg (by omega), if_pos (by omega), h]
    rfl
theorem dyS_plain {s : ByteArray} (hl : ¬ (4 ≤ s.size ∧ takeB s 4 = bx [108, 97, 115, 116])) (hq : ∀ q, q < 2 → Lib.index s.data.toList (mkD q).data.toList = -1) : dyS s = (⟨1, 0, (dnS s).1⟩, (dnS s).2) := by
  have h0 : geS s = -1 := hq 0 (by omega)
  have h1 : leS s = -1 := hq 1 (by omega)
  unfold dyS
  rw [if_neg hl, if_neg (by omega), if_neg (by omega)]
theorem dyS_last {s : ByteArray} (hl : 4 ≤ s.size ∧ takeB s 4 = bx [108, 97, 115, 116]) : dyS s = (⟨2, (wdS (dropB s 4)).1, 0⟩, (wdS (dropB s 4)).2) := by unfold dyS; rw [if_pos hl]
set_option maxRecDepth 100000 in
set_option maxHeartbeats 4000000 in
theorem dayOf_any_s (s : ByteArray) (w : World) (hs : s.size ≤ 1000000) :
    Calls Tryz.prog 45 #[.string s] w fun e w' => e = .returned (.tuple #[.agg #[.int .i64 (dyS s).1.k, .int .i64 (dyS s).1.a, .int .i64 (dyS s).1.n], .int .i64 (dyS s).2]) ∧ Below w.heap.size w w' := by
  have D0 := Lib.hid (DyB.new w)
  obtain ⟨W0, hW0⟩ : ∃ W0, W0 = w.alloc (.cells #[.int .i64 0, .int .i64 0, .int .i64 0] 49) := ⟨_, rfl⟩
  rw [← hW0] at D0
  have HW := Lib.hid hW0
  clear hW0
  by_cases hc : 4 ≤ s.size ∧ takeB s 4 = bx [108, 97, 115, 116]
  · have h4 : (4 : Int) ≤ (s.size : Int) := by omega
    have hx := slice_take s 4
    have hx2 := slice_drop s 4 hc.1
    have l1 : (bx [108, 97, 115, 116]).toList = [108, 97, 115, 116] := by rw [ByteArray.toList_eq]; rfl
    have g : ((takeB s 4).toList == [108, 97, 115, 116]) = true := by rw [← l1, streqK, decide_eq_true hc.2]
    have HO := Lib.hid (dyS_last hc)
    have HWD := Lib.hid (fun wx => weekdayNamed_any (dropB s 4) wx)
    clear hc l1
    generalize wdS (dropB s 4) = D at *
    generalize dropB s 4 = s1 at *
    obtain ⟨v, E⟩ := D
    dsimp only at HO HWD
    go_enter Tryz.func45, Tryz.ntmps45
    go_upto_region 1 with fail
    rw [← HW.out]
    clear HW
    go_wp2_with fail
    refine (HWD.out _).mono ?_; rintro e w1 ⟨rfl, hb⟩
    have D1 := Lib.hid (D0.out.next hb)
    have r0 : w1.cell? ⟨w.heap.size, 0, none⟩ = some (.int .i64 0) := D1.out.r.cell 0
    have r1 : w1.cell? ⟨w.heap.size, 1, none⟩ = some (.int .i64 0) := D1.out.r.cell 1
    have r2 : w1.cell? ⟨w.heap.size, 2, none⟩ = some (.int .i64 0) := D1.out.r.cell 2
    have f0 : w1.frozen? ⟨w.heap.size, 0, none⟩ = false := D1.out.r.frozen 0
    have f1 : w1.frozen? ⟨w.heap.size, 1, none⟩ = false := D1.out.r.frozen 1
    have f2 : w1.frozen? ⟨w.heap.size, 2, none⟩ = false := D1.out.r.frozen 2
    have zl : w.heap.size < w1.heap.size := D1.out.r.lt
    clear hb D0
    go_wp2
    refine bodyPost_ret (v := .tuple #[.agg #[.int .i64 2, .int .i64 v, .int .i64 0], .int .i64 E]) (by simp [results, Tryz.results45, go_sem, r0, r1, r2, zl]) rfl ⟨by rw [HO.out], D1.out.done _ _ _⟩
  · have hx := slice_take s 4
    have l1 : (bx [108, 97, 115, 116]).toList = [108, 97, 115, 116] := by rw [ByteArray.toList_eq]; rfl
    have hg : (¬ (4 : Int) ≤ (s.size : Int)) ∨ ((4 : Int) ≤ (s.size : Int) ∧ ((takeB s 4).toList == [108, 97, 115, 116]) = false) := by
      by_cases h : 4 ≤ s.size
      · right
        refine ⟨by omega, ?_⟩
        rw [← l1, streqK, decide_eq_false_iff_not]
        exact fun e => hc ⟨h, e⟩
      · left; omega
    have HC := Lib.hid hc
    clear l1 hc
    obtain ⟨W2, hW2⟩ : ∃ W2, W2 = (W0.alloc (.cells #[.int .i64 3, .int .i64 4] 3)).alloc (.cells #[.string ⟨#[62, 61]⟩, .string ⟨#[60, 61]⟩] 9) := ⟨_, rfl⟩
    have D2 : Hid (DyB w W2) := by show DyB _ _; rw [hW2]; exact D0.out.next (((Below.refl _ _).alloc (Nat.le_refl _) _).alloc (by rw [size_alloc]; exact Nat.le_succ _) _)
    have K2 : Hid (BxO W2 W0.heap.size #[.int .i64 3, .int .i64 4] 3) := by show BxO _ _ _ _; rw [hW2]; exact BxO.alloc (BxO.new _ _ _) _
    have M2 : Hid (BxO W2 (W0.heap.size + 1) #[.string ⟨#[62, 61]⟩, .string ⟨#[60, 61]⟩] 9) := by
      show BxO _ _ _ _
      rw [hW2]
      have h := BxO.new (W0.alloc (.cells #[.int .i64 3, .int .i64 4] 3)) #[.string ⟨#[62, 61]⟩, .string ⟨#[60, 61]⟩] 9
      rw [size_alloc] at h
      exact h
    have HK : Hid (∀ wx, Below W2.heap.size W2 wx → ∀ k, k < 2 → wx.cell? ⟨W0.heap.size, k, none⟩ = some (.int .i64 (kdD k)) ∧ wx.cell? ⟨W0.heap.size + 1, k, none⟩ = some (.string (mkD k))) := by
      show ∀ wx, _ → _
      intro wx hb k hk
      have h1 := (hb.cell (p := ⟨W0.heap.size, k, none⟩) K2.out.lt).trans (K2.out.cell k)
      have h2 := (hb.cell (p := ⟨W0.heap.size + 1, k, none⟩) M2.out.lt).trans (M2.out.cell k)
      rcases (show k = 0 ∨ k = 1 by omega) with rfl | rfl
      · exact ⟨h1, h2⟩
      · exact ⟨h1, h2⟩
    have HW2 := Lib.hid hW2
    clear hW2 D0
    rcases hg with h4 | ⟨h4, g⟩
    all_goals
      go_enter Tryz.func45, Tryz.ntmps45
      go_upto_region 1 with fail
      rw [← HW.out]
      go_upto_region 6 with fail
      rw [← HW2.out]
      clear HW HW2 hx h4
      go_wp2_with fail
      go_loopw [8] (fun vk wr => ∃ k : Nat, k ≤ 2 ∧ vk = .int .i64 k ∧ Hid (∀ q, q < k → Lib.index s.data.toList (mkD q).data.toList = -1) ∧ Hid (Below W2.heap.size W2 wr)) (fun vk _ => (2 - intOf vk).toNat)
      case atStart => exact ⟨0, Nat.zero_le _, rfl, fun q h => absurd h (Nat.not_lt_zero _), Below.refl _ _⟩
      case round =>
        obtain ⟨k, hk, rfl, HQ, BK⟩ := hrel
        by_cases hk2 : k < 2
        · have hki : (k : Int) < 2 := by omega
          obtain ⟨wo, rfl⟩ : ∃ wo : World, wo = wr := ⟨_, rfl⟩
          go_wp2_with fail
          go_loopw [9] (fun vi wr => ∃ i : Nat, i ≤ s.size ∧ vi = .int .i64 i ∧ Hid (∀ j, j < i → Lib.occAt s.data.toList (mkD k).data.toList j = false) ∧ Hid (Below W2.heap.size W2 wr)) (fun vi _ => (s.size + 1 - intOf vi).toNat)
          case atStart => exact ⟨0, Nat.zero_le _, rfl, fun j h => absurd h (Nat.not_lt_zero _), BK⟩
          case round =>
            obtain ⟨i, hi, rfl, HJ, BI⟩ := hrel
            have tw1 : IntKind.i64.wrap ((i : Int) + 1) = (i : Int) + 1 := IntWalk.i64_in _ (by omega)
            have tw2 : IntKind.i64.wrap ((i : Int) + 2) = (i : Int) + 2 := IntWalk.i64_in _ (by omega)
            by_cases hlt : i + 1 < s.size
            · have hli : (i : Int) + 1 < (s.size : Int) := by omega
              have hl2 : (i : Int) + 2 ≤ (s.size : Int) := by omega
              obtain ⟨ck, cm⟩ := HK.out _ BI.out k hk2
              have HOC := Lib.hid (occ_two s (mkD k) (mkD_two k) i hlt)
              obtain ⟨po, hpo⟩ : ∃ q : Bool, decide (s.extract i (i + 2) = mkD k) = q := ⟨_, rfl⟩
              have g2 := streqK (s.extract i (i + 2)) (mkD k)
              rw [hpo] at g2 HOC
              clear hpo
              cases po with
              | false =>
                have HJ2 : Hid (∀ j, j < i + 1 → Lib.occAt s.data.toList (mkD k).data.toList j = false) := by
                  show ∀ j, _ → _
                  intro j hj
                  by_cases e : j = i
                  · rw [e]; exact HOC.out
                  · exact HJ.out j (by omega)
                go_wp2_with fail
                go_quiet (fail)
                go_wp2
                go_roundw
                case rel => exact ⟨i + 1, by omega, by go_num, HJ2, below_draws BI.out nq⟩
                case measure => simp [intOf]; omega
              | true =>
                have hzz : s.data.toList.length = s.size := by simp
                have HF : Hid (dyS s = if (wdS (takeB s i)).2 ≠ 0 then (⟨0, 0, 0⟩, (wdS (takeB s i)).2) else (⟨kdD k, (wdS (takeB s i)).1, (dnS (dropB s (i + 2))).1⟩, (dnS (dropB s (i + 2))).2)) := dyS_found HC.out hk2 HQ.out (index_at s (mkD k) i HOC.out (by omega) HJ.out)
                have hxa := slice_take s i
                have hxb := slice_drop s (i + 2) (by omega)
                have HWD := Lib.hid (fun wx => weekdayNamed_any (takeB s i) wx)
                have HDN := Lib.hid (fun wx => dayNumberOf_any (dropB s (i + 2)) wx (by have := dropB_size s (i + 2); unfold maxLen; omega))
                have hii : (i : Int) ≤ (s.size : Int) := by omega
                clear hzz
                generalize wdS (takeB s i) = D at *
                generalize dnS (dropB s (i + 2)) = N at *
                generalize takeB s i = sa at *
                generalize dropB s (i + 2) = sb at *
                obtain ⟨wv, E⟩ := D
                obtain ⟨nv, F⟩ := N
                dsimp only at HF HWD HDN
                go_wp2_with fail
                go_quiet (fail)
                go_wp2_with fail
                refine (HWD.out _).mono ?_; rintro e w5 ⟨rfl, hb⟩
                have B5 : Hid (Below W2.heap.size W2 w5) := (below_draws BI.out nq).trans (hb.mono (below_draws BI.out nq).size)
                have D5 : Hid (DyB w w5) := D2.out.next B5.out
                clear hb ck cm
                obtain ⟨ck, -⟩ := HK.out _ B5.out k hk2
                have r0 : w5.cell? ⟨w.heap.size, 0, none⟩ = some (.int .i64 0) := D5.out.r.cell 0
                have r1 : w5.cell? ⟨w.heap.size, 1, none⟩ = some (.int .i64 0) := D5.out.r.cell 1
                have r2 : w5.cell? ⟨w.heap.size, 2, none⟩ = some (.int .i64 0) := D5.out.r.cell 2
                have f0 : w5.frozen? ⟨w.heap.size, 0, none⟩ = false := D5.out.r.frozen 0
                have f1 : w5.frozen? ⟨w.heap.size, 1, none⟩ = false := D5.out.r.frozen 1
                have f2 : w5.frozen? ⟨w.heap.size, 2, none⟩ = false := D5.out.r.frozen 2
                have zl : w.heap.size < w5.heap.size := D5.out.r.lt
                by_cases hE : E = 0
                · have HF2 : Hid (dyS s = (⟨kdD k, wv, nv⟩, F)) := HF.out.trans (if_neg (by simp [hE]))
                  have hEb : (E != 0) = false := by rw [hE]; rfl
                  clear hE HF
                  go_wp2_with fail
                  refine (HDN.out _).mono ?_; rintro e w6 ⟨rfl, rfl⟩
                  go_wp2
                  refine bodyPost_ret (v := .tuple #[.agg #[.int .i64 (kdD k), .int .i64 wv, .int .i64 nv], .int .i64 F]) (by simp [results, Tryz.results45, go_sem, r0, r1, r2, zl]) rfl ⟨by rw [HF2.out], D5.out.done _ _ _⟩
                · have HF2 : Hid (dyS s = (⟨0, 0, 0⟩, E)) := HF.out.trans (if_pos hE)
                  have hEb : (E != 0) = true := by rw [bne_iff_ne]; exact hE
                  clear hE HF
                  go_wp2
                  refine bodyPost_ret (v := .tuple #[.agg #[.int .i64 0, .int .i64 0, .int .i64 0], .int .i64 E]) (by simp [results, Tryz.results45, go_sem, r0, r1, r2, zl]) rfl ⟨by rw [HF2.out], D5.out.done _ _ _⟩
            · have hli : ¬ (i : Int) + 1 < (s.size : Int) := by omega
              have HN : Hid (∀ q, q < k + 1 → Lib.index s.data.toList (mkD q).data.toList = -1) := by
                show ∀ q, _ → _
                intro q hq
                by_cases e : q = k
                · subst e
                  refine index_none s (mkD q) fun j => ?_
                  by_cases hj : j < i
                  · exact HJ.out j hj
                  · exact occ_end s (mkD q) (mkD_two q) j (by omega)
                · exact HQ.out q (by omega)
              go_wp2_with fail
              go_roundw
              case rel => exact ⟨k + 1, by omega, by go_num, HN, BI⟩
              case measure => simp [intOf]; omega
        · obtain rfl : k = 2 := by omega
          have HO := Lib.hid (dyS_plain HC.out HQ.out)
          have HDN := Lib.hid (fun wx => dayNumberOf_any s wx (by unfold maxLen; omega))
          generalize dnS s = N at *
          obtain ⟨v, E⟩ := N
          dsimp only at HO HDN
          go_wp2_with fail
          refine (HDN.out _).mono ?_; rintro e w1 ⟨rfl, rfl⟩
          have D3 : Hid (DyB w wr) := D2.out.next BK.out
          have r0 : wr.cell? ⟨w.heap.size, 0, none⟩ = some (.int .i64 0) := D3.out.r.cell 0
          have r1 : wr.cell? ⟨w.heap.size, 1, none⟩ = some (.int .i64 0) := D3.out.r.cell 1
          have r2 : wr.cell? ⟨w.heap.size, 2, none⟩ = some (.int .i64 0) := D3.out.r.cell 2
          have f0 : wr.frozen? ⟨w.heap.size, 0, none⟩ = false := D3.out.r.frozen 0
          have f1 : wr.frozen? ⟨w.heap.size, 1, none⟩ = false := D3.out.r.frozen 1
          have f2 : wr.frozen? ⟨w.heap.size, 2, none⟩ = false := D3.out.r.frozen 2
          have zl : w.heap.size < wr.heap.size := D3.out.r.lt
          go_wp2
          refine bodyPost_ret (v := .tuple #[.agg #[.int .i64 1, .int .i64 0, .int .i64 v], .int .i64 E]) (by simp [results, Tryz.results45, go_sem, r0, r1, r2, zl]) rfl ⟨by rw [HO.out], D3.out.done _ _ _⟩
end Go.Proofs.YtbciennhcdabeaaGreatDoor
