/-
  The document's readings: hours, offsets (the walks).
-/
import Derived.BigQuiet
import Derived.Test.YtbciennhcdabeaaGreatDoorRdL
namespace Go.Proofs.YtbciennhcdabeaaGreatDoor
set_option linter.unusedVariables false
set_option linter.unusedSimpArgs false
open Go.ChangeShapes Go.WideShapes Go.ChangeAt Go.RowKit Civ

theorem stW_rst {w : World} {B : Nat} {v : Value} {l : List (List UInt8)} (h : StW w B v l) : SlAt w 1 RSt v (l.map bx) := by
  have h' : w.ownsRow B 9 1 v (l.map bx).length ((l.map bx).flatMap encWd) := by
    rw [List.length_map, List.flatMap_map]
    exact h
  exact slAt_of_own (by decide) (fun _ => rfl) (fun _ _ => rfl) h'
theorem minT_cons (x : ByteArray) (l : List ByteArray) (u n : Int) : minT (x :: l) u n = if twoB x = true then minT l 1 (n + u * twoV x) else (0, false) := rfl
set_option maxRecDepth 100000 in
set_option maxHeartbeats 4000000 in
theorem hours_any_s (s : ByteArray) (most : Int) (w : World) (hs : s.size ≤ 1000000) :
    Calls Tryz.prog 80 #[.string s, .int .i64 most] w fun e w' => e = .returned (.tuple #[.int .i64 (hrsS s most).1, .int .i64 (hrsS s most).2]) ∧ Below w.heap.size w w' := by
  have HPT := Lib.hid (parted_any s 58 w hs)
  have hl1 := colS_len s
  have HSZ : Hid (∀ x ∈ colS s, x.size ≤ maxLen) := fun x hx => by have := colS_size s x hx; unfold maxLen; omega
  clear hs
  go_enter Tryz.func80, Tryz.ntmps80
  go_wp2_with fail
  refine HPT.out.mono ?_; rintro e w1 ⟨v, rfl, hst, hb1⟩
  have HR : Hid (SlAt w1 1 RSt v (colS s)) := stW_rst hst
  have HB := Lib.hid hb1
  obtain ⟨aa, ca, rfl, -⟩ := HR.out.shape
  clear hst hb1 HPT
  by_cases h3 : 3 < (colS s).length
  · have HD : Hid (hrsS s most = (0, 4)) := hrsS_a h3
    have h3i : (3 : Int) < ((colS s).length : Int) := by omega
    clear h3
    go_wp2_with fail
    go_ret2
    exact ⟨by rw [HD.out]; rfl, HB.out⟩
  · have h3i : ¬ (3 : Int) < ((colS s).length : Int) := by omega
    have h3n : (colS s).length ≤ 3 := by omega
    have H3 := Lib.hid h3
    obtain ⟨a, R, hc⟩ : ∃ a R, colS s = a :: R := by
      rcases h : colS s with _ | ⟨a, R⟩
      · rw [h] at hl1; simp at hl1
      · exact ⟨a, R, rfl⟩
    have HC := Lib.hid hc
    obtain ⟨b, off, rfl, -, c0⟩ := entS HR.out 0 (by omega)
    have hc0 : (colS s)[0]'(by omega) = a := by simp [hc]
    rw [hc0, Nat.add_zero] at c0
    have HDC := Lib.hid (decimal_any a 999 w1 (HSZ.out a (by rw [hc]; simp)))
    obtain ⟨r0, r1⟩ := dcm_rng a 999 (by decide)
    have HHB : Hid ((dcm (bl a) 999).2 ≠ 0 → hrsS s most = (0, (dcm (bl a) 999).2)) := fun hE => hrsS_b HC.out H3.out hE
    have HHC : Hid ((dcm (bl a) 999).2 = 0 → (minT R 60 (3600 * (dcm (bl a) 999).1)).2 = false → hrsS s most = (0, 4)) := fun hE hm => hrsS_c HC.out H3.out hE hm
    have HHD : Hid (∀ N, (dcm (bl a) 999).2 = 0 → minT R 60 (3600 * (dcm (bl a) 999).1) = (N, true) → hrsS s most = if most < N then (0, 2) else (N, 0)) := fun N hE hm => hrsS_d HC.out H3.out hE hm
    clear h3 hc hc0
    generalize dcm (bl a) 999 = D at *
    obtain ⟨v, E⟩ := D
    dsimp only at HDC r0 r1 HHB HHC HHD
    have hl0 : (0 : Int) < ((colS s).length : Int) := by omega
    go_wp2_with fail
    refine HDC.out.mono ?_; rintro e w' ⟨rfl, rfl⟩
    clear c0
    by_cases hE : E = 0
    · subst hE
      have tw3 : IntKind.i64.wrap (3600 * v) = 3600 * v := IntWalk.i64_in _ (by omega)
      have tw4 : IntKind.i64.wrap (v * 3600) = 3600 * v := by rw [IntWalk.i64_in _ (by omega)]; omega
      have HT0 : Hid ((colS s).drop 1 = R) := by show _ = _; rw [HC.out]; rfl
      go_wp2_with fail
      go_loopw [7, 9, 10] (fun vn vu vi wr => ∃ (k : Nat) (n u : Int), 1 ≤ k ∧ k ≤ (colS s).length ∧ vi = .int .i64 k ∧ vn = .int .i64 n ∧ vu = .int .i64 u ∧ Hid (minT ((colS s).drop k) u n = minT R 60 (3600 * v)) ∧ Hid ((0 ≤ n ∧ n ≤ 3600000 + 5000 * (k : Int)) ∧ (u = 60 ∨ u = 1)) ∧ Hid (Below w.heap.size w wr ∧ SlAt wr 1 RSt (.slice (some ⟨b, off, none⟩) (colS s).length ca) (colS s))) (fun _ _ vi _ => ((colS s).length - intOf vi).toNat)
      case atStart => exact ⟨1, 3600 * v, 60, Nat.le_refl _, hl1, rfl, by simp [Int.mul_comm], rfl, by rw [HT0.out]; exact rfl, ⟨⟨by omega, by omega⟩, .inl rfl⟩, ⟨HB.out, HR.out⟩⟩
      case round =>
        obtain ⟨k, n, u, hk1, hk, rfl, rfl, rfl, HM, HN, HX⟩ := hrel
        obtain ⟨⟨n0, n1⟩, hu⟩ := HN.out
        by_cases hlt : k < (colS s).length
        · have hki : (k : Int) < ((colS s).length : Int) := by omega
          obtain ⟨b', o', e', -, cx⟩ := entS HX.out.2 k hlt
          simp only [Option.some.injEq, Addr.mk.injEq, and_true] at e'
          obtain ⟨rfl, rfl⟩ := e'
          have HM2 : Hid ((if twoB (colS s)[k] = true then minT ((colS s).drop (k + 1)) 1 (n + u * twoV (colS s)[k]) else (0, false)) = minT R 60 (3600 * v)) := by
            show _ = _
            rw [← HM.out, List.drop_eq_getElem_cons hlt, minT_cons]
          generalize (colS s)[k] = x at *
          have HNO : Hid (twoB x = false → hrsS s most = (0, 4)) := by
            show _ → _
            intro h
            refine HHC.out trivial ?_
            rw [← HM2.out, if_neg (by rw [h]; decide)]
          by_cases h2 : x.size = 2
          · have h0 : 0 < x.size := by omega
            have h1 : 1 < x.size := by omega
            have hsz : ((x.size : Int) != 2) = false := by rw [h2]; rfl
            have h00 : (0 : Int) < (x.size : Int) := by omega
            have h11 : (1 : Int) < (x.size : Int) := by omega
            have HT : Hid (twoB x = ((decide (48 ≤ byI x 0) && decide (byI x 0 ≤ 53)) && digB (byI x 1))) := by show _ = _; unfold twoB; rw [decide_eq_true h2, Bool.true_and]
            have HV : Hid (twoV x = 10 * (byI x 0 - 48) + (byI x 1 - 48)) := rfl
            rw [byI_at x 0 h0, byI_at x 1 h1] at HT HV
            obtain ⟨c, hc⟩ : ∃ c : Int, ((x[0]).toNat : Int) = c := ⟨_, rfl⟩
            obtain ⟨d, hd⟩ : ∃ d : Int, ((x[1]).toNat : Int) = d := ⟨_, rfl⟩
            rw [hc, hd] at HT HV
            have hcb0 : 0 ≤ c := by omega
            have hcb1 : c < 256 := by have := (x[0]).toNat_lt; omega
            clear h2
            obtain ⟨rc, hrc⟩ : ∃ r : Bool, decide (48 ≤ c ∧ c ≤ 53) = r := ⟨_, rfl⟩
            obtain ⟨rd, hrd⟩ : ∃ r, digB d = r := ⟨_, rfl⟩
            have HCI := Lib.hid (fun w => in_lit c 48 53 rc w hrc)
            have HDI := Lib.hid (fun w => isdigit_lit d rd w hrd)
            cases rc with
            | false =>
              have HD := Lib.hid (HNO.out (by rw [HT.out, ← Bool.decide_and, hrc]; rfl))
              clear hrc hrd HT HV HNO HDI
              go_wp2_with fail
              refine (HCI.out _).mono ?_; rintro e w' ⟨rfl, rfl⟩
              go_wp2_with fail
              go_ret2
              exact ⟨by rw [HD.out]; rfl, HX.out.1⟩
            | true =>
              cases rd with
              | false =>
                have HD := Lib.hid (HNO.out (by rw [HT.out, hrd]; simp))
                clear hrc hrd HT HV HNO
                go_wp2_with fail
                refine (HCI.out _).mono ?_; rintro e w' ⟨rfl, rfl⟩
                go_wp2_with fail
                refine (HDI.out _).mono ?_; rintro e w' ⟨rfl, rfl⟩
                go_wp2_with fail
                go_ret2
                exact ⟨by rw [HD.out]; rfl, HX.out.1⟩
              | true =>
                obtain ⟨d1, d2⟩ := digB_bd hrd
                obtain ⟨c1, c2⟩ := of_decide_eq_true hrc
                have HTB : Hid (twoB x = true) := by show _ = _; rw [HT.out, ← Bool.decide_and, hrc, hrd]; rfl
                have HM3 := Lib.hid (HM2.out)
                rw [if_pos HTB.out] at HM3
                have HBD := twoV_bd HTB.out
                have HNV : Hid (twoV x = 10 * (c - 48) + (d - 48)) := HV
                clear hrc hrd HT HNO HM2
                generalize twoV x = V at *
                obtain ⟨v0, v1⟩ := HBD
                have hVc : 10 * (c - 48) + (d - 48) = V := HNV.out.symm
                go_wp2_with fail
                refine (HCI.out _).mono ?_; rintro e w' ⟨rfl, rfl⟩
                go_wp2_with fail
                refine (HDI.out _).mono ?_; rintro e w' ⟨rfl, rfl⟩
                rcases hu with rfl | rfl
                · skip
                  go_wp2_with fail
                  go_quiet (fail)
                  clear cx hc hd
                  go_wp2
                  go_roundw
                  case rel => exact ⟨k + 1, n + 60 * V, 1, by omega, by omega, by go_num, congrArg (Value.int IntKind.i64) (by omega), rfl, HM3, ⟨⟨by omega, by omega⟩, .inr rfl⟩, ⟨below_draws HX.out.1 nq, HX.out.2.mono (below_draws (Below.refl _ _) nq) fun _ _ h => h⟩⟩
                  case measure => simp [intOf]; omega
                · skip
                  go_wp2_with fail
                  go_quiet (fail)
                  clear cx hc hd
                  go_wp2
                  go_roundw
                  case rel => exact ⟨k + 1, n + 1 * V, 1, by omega, by omega, by go_num, congrArg (Value.int IntKind.i64) (by omega), rfl, HM3, ⟨⟨by omega, by omega⟩, .inr rfl⟩, ⟨below_draws HX.out.1 nq, HX.out.2.mono (below_draws (Below.refl _ _) nq) fun _ _ h => h⟩⟩
                  case measure => simp [intOf]; omega
          · have hsz : ((x.size : Int) != 2) = true := by rw [bne_iff_ne]; omega
            have HD := Lib.hid (HNO.out (by unfold twoB; rw [decide_eq_false h2]; rfl))
            clear h2 HNO
            go_wp2_with fail
            go_ret2
            exact ⟨by rw [HD.out]; rfl, HX.out.1⟩
        · obtain rfl : k = (colS s).length := by omega
          have hnl : ¬ ((colS s).length : Int) < ((colS s).length : Int) := by omega
          have HN2 : Hid (minT R 60 (3600 * v) = (n, true)) := by
            show _ = _
            rw [← HM.out, List.drop_eq_nil_of_le (Nat.le_refl _)]
            rfl
          have HD := Lib.hid (HHD.out n trivial HN2.out)
          by_cases hm : most < n
          · have HD2 := Lib.hid (HD.out.trans (if_pos hm))
            go_wp2_with fail
            go_ret2
            exact ⟨by rw [HD2.out]; rfl, HX.out.1⟩
          · have HD2 := Lib.hid (HD.out.trans (if_neg hm))
            go_wp2_with fail
            go_ret2
            exact ⟨by rw [HD2.out]; rfl, HX.out.1⟩
    · have HD := Lib.hid (HHB.out hE)
      have hEb : (E != 0) = true := by rw [bne_iff_ne]; exact hE
      clear hE
      go_wp2_with fail
      go_ret2
      exact ⟨by rw [HD.out]; rfl, HB.out⟩
end Go.Proofs.YtbciennhcdabeaaGreatDoor
