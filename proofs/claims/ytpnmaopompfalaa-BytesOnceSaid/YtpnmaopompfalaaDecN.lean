/-
  ProgramOf of bytes with the right head.
-/
import Derived.Test.YtpnmaopompfalaaDecM
import Derived.Test.YtpnmaopompfalaaEncE
namespace Go.Proofs.Ytpnmaopompfalaa
set_option linter.unusedVariables false
set_option linter.unusedSimpArgs false
open Go.ChangeShapes Go.WideShapes Go.ChangeAt Go.RowKit

theorem drop_cons {b t : List Int} {i : Nat} {c : Int} (h : b.drop i = c :: t) : ∃ hi : i < b.length, b[i] = c ∧ b.drop (i + 1) = t := by
  have hi : i < b.length := by
    rcases Nat.lt_or_ge i b.length with q | q
    · exact q
    · rw [List.drop_of_length_le q] at h; cases h
  rw [List.drop_eq_getElem_cons hi] at h
  exact ⟨hi, (List.cons.inj h).1, (List.cons.inj h).2⟩
theorem drop_nil {b : List Int} {i : Nat} (hi : i ≤ b.length) (h : b.drop i = []) : i = b.length := by
  have := congrArg List.length h
  rw [List.length_drop] at this
  simp at this
  omega
theorem AxS.drew {wr wx : World} {S g : Nat} {b bs : List Int} {e : Int} {v0 v1 v2 v3 v4 : Value} (h : AxS wr S g b wx bs e v0 v1 v2 v3 v4) : AxS wr S g b wx.drew bs e v0 v1 v2 v3 v4 := ⟨h.1.drew, h.2.1, grown_drew h.2.2.1, h.2.2.2⟩
/-- one round of the code: the instruction lies in block X. -/
def PxS (w : World) (g q Q : Nat) (b : List Int) (wx : World) (bs : List Int) (e : Int) (vc : Value) (X : Nat) (c n : Int) (acc : List Ins) : Prop :=
  PoS w g q Q b wx bs e vc (.slice none 0 0) (.slice none 0 0) ∧ Bx2 wx X (.int .i64 c) (.int .i64 n) ∧ wx.ownsRow (Q + 1) 71 2 vc acc.length (acc.flatMap encX) ∧ Q + 1 ≤ X ∧ some X ≠ vc.ownBlock
theorem PxS.new {w wr : World} {g q Q : Nat} {b bs : List Int} {e c : Int} {vc : Value} {acc : List Ins} {t : TypeId} (h : PoS w g q Q b wr bs e vc (.slice none 0 0) (.slice none 0 0)) (ho : wr.ownsRow (Q + 1) 71 2 vc acc.length (acc.flatMap encX)) : PxS w g q Q b (wr.alloc (.cells #[.int .i64 c, .int .i64 0] t)) bs e vc wr.heap.size c 0 acc := by
  have hz := h.lt
  refine ⟨h.below ((Below.refl _ _).alloc (by omega) _), ⟨World.cell?_alloc_at (w := wr) _ _ wr.heap.size 0 rfl, World.cell?_alloc_at (w := wr) _ _ wr.heap.size 1 rfl, fun j => World.frozen?_alloc_at (w := wr) _ _ wr.heap.size j rfl⟩, ho.alloc _, by omega, fun q => ?_⟩
  have := (ho.lt _ q.symm).2
  omega
theorem PxS.call {w wx w' : World} {g q Q X : Nat} {b bs b1 : List Int} {e e1 c n : Int} {vc : Value} {acc : List Ins} (h : PxS w g q Q b wx bs e vc X c n acc) (hr : SpD w' (q + 1) g b b1 e1) (hg : wx.grownBy w' (some (q + 1))) : PxS w g q Q b w' b1 e1 vc X c n acc := by
  obtain ⟨h1, h2, h3, h4, h5⟩ := h
  have q2 := h1.2.2.2.2.2.2
  exact ⟨h1.call hr hg, h2.keep (hg.block _ h2.lt (fun e => by have := Option.some.inj e; omega)), own_grown h3 hg (by omega), h4, h5⟩
theorem PxS.put {w wx : World} {g q Q X o : Nat} {b bs : List Int} {e c n c' n' : Int} {vc v : Value} {acc : List Ins} (h : PxS w g q Q b wx bs e vc X c n acc) (hb : Bx2 (wx.setCell ⟨X, o, none⟩ v) X (.int .i64 c') (.int .i64 n')) : PxS w g q Q b (wx.setCell ⟨X, o, none⟩ v) bs e vc X c' n' acc := by
  obtain ⟨h1, h2, h3, h4, h5⟩ := h
  have hg : wx.grownBy (wx.setCell ⟨X, o, none⟩ v) (some X) := grown_setC _ _ _ _
  exact ⟨h1.below ((Below.refl _ _).setCell h4 _), hb, h3.kept hg (.inr (fun e => h5 e.symm)), h4, h5⟩
theorem PxS.facts {w wx : World} {g q Q X : Nat} {b bs : List Int} {e c n : Int} {vc : Value} {acc : List Ins} (h : PxS w g q Q b wx bs e vc X c n acc) : wx.cell? ⟨X, 0, none⟩ = some (.int .i64 c) ∧ wx.cell? ⟨X, 1, none⟩ = some (.int .i64 n) ∧ (∀ j, wx.frozen? ⟨X, j, none⟩ = false) ∧ X < wx.heap.size := ⟨h.2.1.1, h.2.1.2.1, h.2.1.2.2, h.2.1.lt⟩
set_option maxRecDepth 100000 in
set_option maxHeartbeats 16000000 in
theorem programOf_main (b : List Int) (g off cap : Nat) (w : World) (hcell : ∀ i (h : i < b.length), w.cell? ⟨g, off + i, none⟩ = some (.int .u8 b[i])) (hcap : b.length ≤ cap ∧ cap ≤ maxLen) (hg : g < w.heap.size) (hb : Byt b) (h3 : 3 ≤ b.length) (hbig : b.length ≤ 200000) (hf : b.take 3 = [115, 100, 49]) {p : Prg} {e : Int} (hd : decD b = (p, e)) :
    Calls Try.prog 51 #[.slice (some ⟨g, off, none⟩) b.length cap] w fun r w' => ∃ vc vp va, r = .returned (.tuple #[.agg #[vc, vp, va], .int .i64 e]) ∧ PrgAt w' vc vp va p ∧ Below w.heap.size w w' := by
  have hd' : bodyD (b.drop 3) 0 = (p, e) := by
    rw [← hd]
    unfold decD
    rw [if_neg (show ¬ 200000 < b.length by omega), if_neg (show ¬ b.length < 3 by omega), if_pos hf]
  obtain ⟨b1, b2, b3, b4, b5, b6, ps, cs, az, nn, mm, kk, e1, e2, e3, e4, e5, e6, n1, n2, n3, n4, n5, n6, nb, ⟨y1, y2, y3, y4, y5, y6⟩, ⟨l1, l2, l3⟩, oC, oP, oA, f1, f3, f5⟩ := body_parts (b.drop 3) 0 (hb.drop 3)
  obtain ⟨ic, hic, hcz0, hcz1, hcz2⟩ := info_parts info_ins
  obtain ⟨ii, hii, hiz0, hiz1, hiz2⟩ := info_parts info_int
  obtain ⟨ia, hia, haz0, haz1, haz2⟩ := info_parts info_an2
  have hl1 : (nn : Int) ≤ 8000 := by omega
  have hl2 : (mm : Int) ≤ 2000 := by omega
  have hl3 : (kk : Int) ≤ 2000 := by omega
  obtain ⟨bw, e0, hz⟩ := res_new w
  have hcv := head_str (w := w.alloc (.cells #[.slice none 0 0, .slice none 0 0, .slice none 0 0] 58)) (fun i hi => (bw.cell (p := ⟨g, off + i, none⟩) hg).trans (hcell i hi)) h3
  have hcm := head_cmp hb
  rw [decide_eq_true hf] at hcm
  obtain ⟨sx, hsx⟩ : ∃ sx, sx = strOfNums (b.take 3) := ⟨_, rfl⟩
  rw [← hsx] at hcv hcm
  obtain ⟨hs, d0, d1, g0, g1⟩ := two_new w #[.slice none 0 0, .slice none 0 0, .slice none 0 0] #[.slice (some ⟨g, off, none⟩) b.length cap, .int .i64 3, .int .i64 0] 58 130
  have bw2 : Below w.heap.size w ((w.alloc (.cells #[.slice none 0 0, .slice none 0 0, .slice none 0 0] 58)).alloc (.cells #[.slice (some ⟨g, off, none⟩) b.length cap, .int .i64 3, .int .i64 0] 130)) := bw.alloc (size_le_push_ w _) _
  obtain ⟨W, hW⟩ : ∃ W, W = (w.alloc (.cells #[.slice none 0 0, .slice none 0 0, .slice none 0 0] 58)).alloc (.cells #[.slice (some ⟨g, off, none⟩) b.length cap, .int .i64 3, .int .i64 0] 130) := ⟨_, rfl⟩
  rw [← hW] at hs d0 d1 g0 g1 bw2
  have hSp : SpD W (w.heap.size + 1) g b (b.drop 3) 0 := ⟨3, ⟨off, cap, d1 0, hbig, h3, d1 1, d1 2, g1, by omega, fun i hi => (bw2.cell (p := ⟨g, off + i, none⟩) hg).trans (hcell i hi)⟩, rfl⟩
  have S5 : Hid (PoS w g w.heap.size (w.heap.size + 1 + 1) b (W.alloc (.cells #[.slice none 0 0, .slice none 0 0, .slice none 0 0] 58)) (b.drop 3) 0 (.slice none 0 0) (.slice none 0 0) (.slice none 0 0)) := ⟨hSp.keep (heap_nw _ (by omega)) (heap_nw _ (by omega)), Bx3.keep ⟨d0 0, d0 1, d0 2, g0⟩ (heap_nw _ (by omega)), ⟨World.cell?_alloc_at (w := W) _ _ _ 0 hs.symm, World.cell?_alloc_at (w := W) _ _ _ 1 hs.symm, World.cell?_alloc_at (w := W) _ _ _ 2 hs.symm, fun j => World.frozen?_alloc_at (w := W) _ _ _ j hs.symm⟩, bw2.alloc (by omega) _, rfl, hg, by omega⟩
  have HW := Lib.hid hW
  have HB := Lib.hid (show _ ∧ _ from ⟨hg, hcell⟩)
  have h3i : (3 : Int) ≤ (b.length : Int) := by omega
  have hbi : (b.length : Int) ≤ 200000 := by omega
  have hci : (b.length : Int) ≤ (cap : Int) := by omega
  have HCI := Lib.hid hci
  have hc3 : 3 ≤ cap := by omega
  have hc3i : (3 : Int) ≤ (cap : Int) := by omega
  obtain ⟨bz, hbzz⟩ : ∃ bz, bz = b.drop 3 := ⟨_, rfl⟩
  rw [← hbzz] at n1 nb hd' S5
  have N1 := Lib.hid n1
  have N2 := Lib.hid n2
  have N3 := Lib.hid n3
  have N4 := Lib.hid n4
  have N5 := Lib.hid n5
  have N6 := Lib.hid n6
  have NB := Lib.hid (hd'.symm.trans nb)
  have Y := Lib.hid hb
  have Y1 := Lib.hid y1
  have Y3 := Lib.hid y3
  have Y5 := Lib.hid y5
  have OC := Lib.hid oC
  have OP := Lib.hid oP
  have OA := Lib.hid oA
  clear n1 n2 n3 n4 n5 n6 nb hd hd' y1 y2 y3 y4 y5 y6 oC oP oA f1 f3 f5 hs d0 d1 g0 g1 bw bw2 hSp hW hg hbzz hsx hcell hcap hb h3 hbig l1 l2 l3 e0 hz hf
  go_enter Try.func51, Try.ntmps51
  go_wp2_with fail
  rw [← HW.out]
  refine (scount (w.heap.size + 1) g 8000 b bz 0 _ S5.out.1 Y.out (by decide) N1.out).mono ?_; rintro r w6 ⟨rfl, hr, hgw⟩
  have S6 := Lib.hid (S5.out.call hr hgw)
  clear hr hgw S5 HW hcv hcm h3i hci hc3 hc3i
  go_upto_block 0 with fail
  go_cut [] (fun wx => ∃ v, Hid (wx.ownsRow (w.heap.size + 1 + 1 + 1) 71 2 v cs.length (cs.flatMap encX)) ∧ Hid (PoS w g w.heap.size (w.heap.size + 1 + 1) b wx b2 e2 v (.slice none 0 0) (.slice none 0 0)))
  case first => as_aux_lemma =>
    go_wp2_with fail
    go_loopw [7] (fun i wr => ∃ (k : Nat) (acc : List Ins) (bx : List Int) (ex : Int) (v : Value), i = .int .i64 k ∧ k ≤ nn ∧ acc.length = k ∧ Hid (codD nn [] b1 e1 = codD (nn - k) acc bx ex) ∧ Hid (Byt bx) ∧ Hid (wr.ownsRow (w.heap.size + 1 + 1 + 1) 71 2 v acc.length (acc.flatMap encX)) ∧ Hid (PoS w g w.heap.size (w.heap.size + 1 + 1) b wr bx ex v (.slice none 0 0) (.slice none 0 0))) (fun i _ => (nn - intOf i).toNat)
    case atStart => exact ⟨0, [], b1, e1, _, rfl, Nat.zero_le _, rfl, Lib.hid rfl, Y1, Lib.hid (World.ownsRow_nil _ _ _ _), S6⟩
    case round => as_aux_lemma =>
      obtain ⟨k, acc, bx, ex, v, rfl, hk, hal, hcd, hby, hown, hst⟩ := hrel
      obtain ⟨av, cv, rfl⟩ := own_shape hown.out
      have hout : (cs, b2, e2) = (acc, bx, ex) → ∃ v, Hid (wr.ownsRow (w.heap.size + 1 + 1 + 1) 71 2 v cs.length (cs.flatMap encX)) ∧ Hid (PoS w g w.heap.size (w.heap.size + 1 + 1) b wr b2 e2 v (.slice none 0 0) (.slice none 0 0)) := fun h => by cases h; exact ⟨_, hown, hst⟩
      have HOUT := Lib.hid hout
      clear hout
      obtain ⟨i, s1, s2, sf, sz, si, sb, sd, sat⟩ := hst.out.1.place
      have SAT := Lib.hid sat
      have SD := Lib.hid sd
      have SI := Lib.hid si
      clear sat sb si sd
      by_cases hlt : k < nn
      · have hlti : (k : Int) < (nn : Int) := by omega
        by_cases hex : ex = 0
        · subst hex
          have hstep := hcd.out
          rw [show nn - k = (nn - (k + 1)) + 1 by omega] at hstep
          have HLE : Hid (∀ x : Ins, (acc ++ [x]).length = k + 1) := fun x => by rw [List.length_append, List.length_singleton, hal]
          have hac : acc.length ≤ 8000 := by omega
          clear hal hcd
          cases bx with
          | nil =>
            rw [codD_nil] at hstep
            have hend := N2.out.symm.trans hstep
            have hib := drop_nil SI.out SD.out
            have hii2 : (b.length : Int) ≤ (i : Int) := by omega
            have HEND := Lib.hid hend
            clear hstep hend hib
            go_wp2
            go_meet
            have h := HEND.out
            cases h
            exact ⟨_, Lib.hid (ownsRow_setCell_below (a := ⟨w.heap.size + 1, 2, none⟩) hown.out (by show w.heap.size + 1 < w.heap.size + 1 + 1 + 1; omega) _), Lib.hid (hst.out.call (hst.out.1.err 5) (grown_setC _ _ _ _))⟩
          | cons c t =>
            obtain ⟨hib, hbc, hdt⟩ := drop_cons SD.out
            have hcc : wr.cell? ⟨g, off + i, none⟩ = some (.int .u8 c) := (hst.out.2.2.2.1.cell (p := ⟨g, off + i, none⟩) HB.out.1).trans ((HB.out.2 i hib).trans (by rw [hbc]))
            have hgz := cell_lt hcc
            obtain ⟨hc1, hc2⟩ := Y.out c (by rw [← hbc]; exact List.getElem_mem hib)
            have HST := Lib.hid hstep
            have hbi2 : (i : Int) < (b.length : Int) := by omega
            have hi0 : (0 : Int) ≤ (i : Int) := by omega
            have HBT : Hid (Byt t) := fun x hx => hby.out x (List.mem_cons_of_mem _ hx)
            have z1 := hst.out.lt
            have hst2 : PoS w g w.heap.size (w.heap.size + 1 + 1) b (wr.setCell ⟨w.heap.size + 1, 1, none⟩ (.int .i64 ((i : Int) + 1))) t 0 (.slice av acc.length cv) (.slice none 0 0) (.slice none 0 0) := hst.out.call ⟨i + 1, SAT.out.setI (i + 1) hib, hdt⟩ (grown_setC _ _ _ _)
            have hown2 := ownsRow_setCell_below (a := ⟨w.heap.size + 1, 1, none⟩) hown.out (by show w.heap.size + 1 < w.heap.size + 1 + 1 + 1; omega) (.int .i64 ((i : Int) + 1))
            have D1 : Hid (PxS w g w.heap.size (w.heap.size + 1 + 1) b ((wr.setCell ⟨w.heap.size + 1, 1, none⟩ (.int .i64 ((i : Int) + 1))).alloc (.cells #[.int .i64 c, .int .i64 0] 71)) t 0 (.slice av acc.length cv) wr.heap.size c 0 acc) := by
              have h := PxS.new (c := c) (t := 71) hst2 hown2
              rw [World.size_setCell] at h
              exact h
            obtain ⟨x0, x1, x2, x3, xf, xz, xy⟩ := hst.out.facts
            have HIW : True → (i : Int) < 9223372036854775807 := fun _ => by omega
            clear hstep hbc hdt hib x1 x2 x3 hbi
            go_upto_region 16 with fail
            have hiw := HIW trivial
            go_upto_region 17 with fail
            obtain ⟨wA, hwA⟩ : ∃ wA, wA = (wr.setCell ⟨w.heap.size + 1, 1, none⟩ (.int .i64 ((i : Int) + 1))).alloc (.cells #[.int .i64 c, .int .i64 0] 71) := ⟨_, rfl⟩
            rw [← hwA] at D1 ⊢
            clear hwA hst2 hown2 s1 s2 sf sz hcc hgz hbi2 hi0 x0 xf xz xy hiw HIW
            obtain ⟨q0, q1, qf, qz⟩ := D1.out.facts
            by_cases hkind : c < 1 ∨ 6 < c
            · have hend := N2.out.symm.trans (HST.out.trans (codD_kind _ acc c t hkind))
              have DD : Hid (decide (1 ≤ c ∧ c ≤ 6) = false) := by show _ = _; rw [decide_eq_false_iff_not]; omega
              obtain ⟨i3, s1, s2, sf, sz, _, _, _, _⟩ := D1.out.1.1.place
              have HEND := Lib.hid hend
              clear hend hkind
              go_wp2_with (go_at_call 60; (first | (with_reducible refine (in_lit c 1 6 false _ DD.out).mono ?_)); rintro e w' ⟨rfl, rfl⟩)
              go_meet
              have h := HEND.out
              cases h
              exact ⟨_, Lib.hid (ownsRow_setCell_below (a := ⟨w.heap.size + 1, 2, none⟩) D1.out.2.2.1 (by show w.heap.size + 1 < w.heap.size + 1 + 1 + 1; omega) _), Lib.hid (D1.out.1.call (D1.out.1.1.err 3) (grown_setC _ _ _ _))⟩
            · have DD : Hid (decide (1 ≤ c ∧ c ≤ 6) = true) := by show _ = _; rw [decide_eq_true_iff]; omega
              cases hbar : barB c with
              | true =>
                have HNX := Lib.hid (HST.out.trans (codD_bare _ acc c t hkind hbar))
                have HBAR := Lib.hid hbar
                clear hbar hkind
                go_upto_region 21 with (first | (go_at_call 60; (first | (with_reducible refine (in_lit c 1 6 true _ DD.out).mono ?_)); rintro e w' ⟨rfl, rfl⟩) | (go_at_call 92; refine (hasnum_lit c true _ HBAR.out).mono ?_; rintro e w' ⟨rfl, rfl⟩))
                clear q0 q1 qf qz
                obtain ⟨p0, p1, p2, p3, pf, pz, py⟩ := D1.out.1.facts
                obtain ⟨q0, q1, qf, qz⟩ := D1.out.facts
                go_wp2_with (at_builtin; refine wpList_append_own _ rfl _ _ 56 rfl (w.heap.size + 1 + 1 + 1) 71 ic (.agg #[.int .i64 0, .int .i64 0]) 2 16 Try.underlying56 hic hcz0 hcz1 hcz2 rfl (by decide) _ _ _ rfl (D1.out.2.2.1.alloc _) _ 1 1 (encX ⟨c, 0⟩) rfl rfl (cells_at _ _ _ _ _ rfl rfl) (encX_one _) (by unfold maxLen; omega) (by omega) (by rw [size_alloc]; omega) ?_; intro v' w9 hown' hgrow _; obtain ⟨a9, c9, rfl⟩ := own_shape hown'; have S9 := Lib.hid (D1.out.1.below (row_below D1.out.2.2.1 (by omega) hgrow)); have HO := Lib.hid (own_snocG hown'); obtain ⟨m0, m1, m2, m3, mf, mz, my⟩ := S9.out.facts; clear hown' hgrow)
                have SY := Lib.hid (S9.out.put (S9.out.2.2.1.set (.slice a9 (acc.length + 1) c9)).1)
                have HO2 := Lib.hid (ownsRow_setCell_below (a := ⟨w.heap.size + 1 + 1, 0, none⟩) HO.out (Nat.lt_succ_self _) (.slice a9 (acc.length + 1) c9))
                go_roundw
                case rel => exact ⟨k + 1, acc ++ [⟨c, 0⟩], t, 0, _, by go_num, by omega, HLE.out _, HNX, HBT, HO2, SY⟩
                case measure => simp [intOf]; omega
              | false =>
                obtain ⟨n, t2, en, hn⟩ : ∃ n t2 en, numE t 0 = (n, t2, en) := ⟨_, _, _, rfl⟩
                have hst2 := HST.out.trans (codD_num _ acc c t hkind hbar)
                rw [hn] at hst2
                have HST2 := Lib.hid hst2
                have HN2 := Lib.hid hn
                have HBT2 : Hid (Byt t2) := by have := numE_byt 0 HBT.out; rw [hn] at this; exact this
                have HBAR := Lib.hid hbar
                clear hbar hst2 hn hkind
                go_wp2_with (first | (go_at_call 60; (first | (with_reducible refine (in_lit c 1 6 true _ DD.out).mono ?_)); rintro e w' ⟨rfl, rfl⟩) | (go_at_call 92; refine (hasnum_lit c false _ HBAR.out).mono ?_; rintro e w' ⟨rfl, rfl⟩))
                refine (snumE (w.heap.size + 1) g b t 0 _ D1.out.1.1 Y.out HN2.out).mono ?_; rintro r w8 ⟨rfl, hr, hgw⟩
                have D8 := Lib.hid (D1.out.call hr hgw)
                clear hr hgw q0 q1 qf qz
                obtain ⟨q0, q1, qf, qz⟩ := D8.out.facts
                have D9 := Lib.hid (D8.out.put (D8.out.2.1.set (.int .i64 n)).2)
                go_upto_region 21 with fail
                obtain ⟨wB, hwB⟩ : ∃ wB, wB = w8.setCell ⟨wr.heap.size, 1, none⟩ (.int .i64 n) := ⟨_, rfl⟩
                rw [← hwB] at D9 ⊢
                clear hwB D8 q0 q1 qf qz
                obtain ⟨p0, p1, p2, p3, pf, pz, py⟩ := D9.out.1.facts
                obtain ⟨q0, q1, qf, qz⟩ := D9.out.facts
                go_wp2_with (at_builtin; refine wpList_append_own _ rfl _ _ 56 rfl (w.heap.size + 1 + 1 + 1) 71 ic (.agg #[.int .i64 0, .int .i64 0]) 2 16 Try.underlying56 hic hcz0 hcz1 hcz2 rfl (by decide) _ _ _ rfl (D9.out.2.2.1.alloc _) _ 1 1 (encX ⟨c, n⟩) rfl rfl (cells_at _ _ _ _ _ rfl rfl) (encX_one _) (by unfold maxLen; omega) (by omega) (by rw [size_alloc]; omega) ?_; intro v' w9 hown' hgrow _; obtain ⟨a9, c9, rfl⟩ := own_shape hown'; have S9 := Lib.hid (D9.out.1.below (row_below D9.out.2.2.1 (by omega) hgrow)); have HO := Lib.hid (own_snocG hown'); obtain ⟨m0, m1, m2, m3, mf, mz, my⟩ := S9.out.facts; clear hown' hgrow)
                have SY := Lib.hid (S9.out.put (S9.out.2.2.1.set (.slice a9 (acc.length + 1) c9)).1)
                have HO2 := Lib.hid (ownsRow_setCell_below (a := ⟨w.heap.size + 1 + 1, 0, none⟩) HO.out (Nat.lt_succ_self _) (.slice a9 (acc.length + 1) c9))
                go_roundw
                case rel => exact ⟨k + 1, acc ++ [⟨c, n⟩], t2, en, _, by go_num, by omega, HLE.out _, HST2, HBT2, HO2, SY⟩
                case measure => simp [intOf]; omega
        · have hend := N2.out.symm.trans (hcd.out.trans (codD_err _ _ bx hex))
          have hne : (ex == 0) = false := by rw [beq_eq_false_iff_ne]; exact hex
          have HEND := Lib.hid hend
          clear hend hex hal hcd
          go_wp2
          go_meet
          exact HOUT.out HEND.out
      · have hke : k = nn := by omega
        have hend : (cs, b2, e2) = (acc, bx, ex) := by rw [← N2.out, hcd.out, hke, Nat.sub_self]; rfl
        have hge : (nn : Int) ≤ (k : Int) := by omega
        have HEND := Lib.hid hend
        clear hend hke hlt hal hcd
        go_wp2
        go_meet
        exact HOUT.out HEND.out
  case rest => as_aux_lemma =>
    obtain ⟨v, hco, hst⟩ := hcut
    obtain ⟨av, cv, rfl⟩ := own_shape hco.out
    go_wp2_with fail
    refine (scount (w.heap.size + 1) g 2000 b b2 e2 _ hst.out.1 Y.out (by decide) N3.out).mono ?_; rintro r w10 ⟨rfl, hr, hgw⟩
    have S10 := Lib.hid (hst.out.call hr hgw)
    have C10 := Lib.hid (own_grown hco.out hgw (show w.heap.size + 1 < w.heap.size + 1 + 1 + 1 by omega))
    clear hr hgw hst hco S6
    go_upto_block 2 with fail
    go_cut [] (fun wx => ∃ (v : Value) (acc : List Int), Hid (e4 = 0 → acc = ps) ∧ Hid (wx.ownsRow (w.heap.size + 1 + 1 + 1) 71 2 (.slice av cs.length cv) cs.length (cs.flatMap encX)) ∧ Hid (wx.ownsRow (w.heap.size + 1 + 1 + 1) 3 1 v acc.length (acc.flatMap encI)) ∧ Hid (PoS w g w.heap.size (w.heap.size + 1 + 1) b wx b4 e4 (.slice av cs.length cv) v (.slice none 0 0)))
    case first => as_aux_lemma =>
      go_wp2_with fail
      go_loopw [9] (fun i wr => ∃ (k : Nat) (acc : List Int) (bx : List Int) (ex : Int) (v : Value), i = .int .i64 k ∧ k ≤ mm ∧ acc.length = k ∧ Hid (numsD mm [] b3 e3 = numsD (mm - k) acc bx ex) ∧ Hid (Byt bx) ∧ Hid (wr.ownsRow (w.heap.size + 1 + 1 + 1) 71 2 (.slice av cs.length cv) cs.length (cs.flatMap encX)) ∧ Hid (wr.ownsRow (w.heap.size + 1 + 1 + 1) 3 1 v acc.length (acc.flatMap encI)) ∧ Hid (PoS w g w.heap.size (w.heap.size + 1 + 1) b wr bx ex (.slice av cs.length cv) v (.slice none 0 0))) (fun i _ => (mm - intOf i).toNat)
      case atStart => exact ⟨0, [], b3, e3, _, rfl, Nat.zero_le _, rfl, Lib.hid rfl, Y3, C10, Lib.hid (World.ownsRow_nil _ _ _ _), S10⟩
      case round => as_aux_lemma =>
        obtain ⟨k, acc, bx, ex, v, rfl, hk, hal, hnm, hby, hco, hown, hst⟩ := hrel
        obtain ⟨ap, cp, rfl⟩ := own_shape hown.out
        obtain ⟨x0, x1, x2, x3, xf, xz, xy⟩ := hst.out.facts
        by_cases hlt : k < mm
        · have hlti : (k : Int) < (mm : Int) := by omega
          by_cases hex : ex = 0
          · subst hex
            obtain ⟨x, bn, en, hx⟩ : ∃ x bn en, numE bx 0 = (x, bn, en) := ⟨_, _, _, rfl⟩
            have HX := Lib.hid hx
            have HBN : Hid (Byt bn) := by have := numE_byt 0 hby.out; rw [hx] at this; exact this
            have hnx : numsD mm [] b3 e3 = numsD (mm - (k + 1)) (acc ++ [x]) bn en := by
              rw [hnm.out, show mm - k = (mm - (k + 1)) + 1 by omega]
              show numsD _ (acc ++ [(numE bx 0).1]) (numE bx 0).2.1 (numE bx 0).2.2 = _
              rw [hx]
            have HNX := Lib.hid hnx
            have hac : acc.length ≤ 2000 := by omega
            have HLE : Hid ((acc ++ [x]).length = k + 1) := by show _ = _; rw [List.length_append, List.length_singleton, hal]
            clear hx hnx hal x1 x3
            go_wp2
            go_region_law (first | (refine step_append_lies _ (by rfl) _ _ _ (by rfl) (w.heap.size + 1 + 1 + 1) 3 ii (.int .i64 0) 1 8 Try.underlying25 hii hiz0 hiz1 hiz2 rfl (by decide) (.slice ap acc.length cp) acc.length (acc.flatMap encI) (by rfl) (O9.out.alloc _) ⟨w5.heap.size, 0, none⟩ 1 1 (encI x) (by rfl) (by rfl) (cells_at _ _ _ _ _ rfl rfl) (by intro u hu; simp [encI] at hu; subst hu; rfl) (by omega) (by unfold maxLen; omega) (by omega) (by rw [size_alloc]; omega) (w5.heap.size + 1) (size_alloc _ _) ?_; intro gg cap6 w6 hown1 hgrow hat hltg; have SX := Lib.hid (S9.out.below (row_below O9.out (by omega) hgrow)); have CX := Lib.hid (own_beside C9.out O9.out (by decide) hgrow); obtain ⟨_, _, z2, _, zf, zz, _⟩ := SX.out.facts; have HO1 := Lib.hid (own_snocG hown1); clear hown1 hgrow hat) | (go_simp; refine (snumE (w.heap.size + 1) g b bx 0 _ hst.out.1.drew Y.out HX.out).mono ?_; rintro r w5 ⟨rfl, hr5, hg5⟩; have S9 := Lib.hid (hst.out.call hr5 (grown_from hg5)); have O9 := Lib.hid (own_grown hown.out (grown_from hg5) (show w.heap.size + 1 < w.heap.size + 1 + 1 + 1 by omega)); have C9 := Lib.hid (own_grown hco.out (grown_from hg5) (show w.heap.size + 1 < w.heap.size + 1 + 1 + 1 by omega)); obtain ⟨_, _, y2, _, yf, yz, _⟩ := S9.out.facts; clear hr5 hg5))
            all_goals
              have SY := Lib.hid (SX.out.put (SX.out.2.2.1.set (.slice (some ⟨gg, 0, none⟩) (acc.length + 1) cap6)).2.1)
              have HO2 := Lib.hid (ownsRow_setCell_below (a := ⟨w.heap.size + 1 + 1, 1, none⟩) HO1.out (Nat.lt_succ_self _) (.slice (some ⟨gg, 0, none⟩) (acc.length + 1) cap6))
              have HC2 := Lib.hid (ownsRow_setCell_below (a := ⟨w.heap.size + 1 + 1, 1, none⟩) CX.out (Nat.lt_succ_self _) (.slice (some ⟨gg, 0, none⟩) (acc.length + 1) cap6))
              go_wp2
              go_roundw
              case rel => exact ⟨k + 1, acc ++ [x], bn, en, _, by go_num, by omega, HLE.out, HNX, HBN, HC2, HO2, SY⟩
              case measure => simp [intOf]; omega
          · have hend : (b4, e4) = (bx, ex) := by
              have h := numsD_err (mm - k) acc bx hex
              rw [← hnm.out, N4.out] at h
              exact h
            have hne : (ex == 0) = false := by rw [beq_eq_false_iff_ne]; exact hex
            have HEX := Lib.hid hex
            have HEND := Lib.hid hend
            clear hend hex hal hnm x1 x2 x3
            go_wp2
            go_meet
            have h := HEND.out
            cases h
            exact ⟨_, acc, Lib.hid (fun h => absurd h HEX.out), hco, hown, hst⟩
        · have hke : k = mm := by omega
          have hend : (ps, b4, e4) = (acc, bx, ex) := by rw [← N4.out, hnm.out, hke, Nat.sub_self]; rfl
          have hge : (mm : Int) ≤ (k : Int) := by omega
          have HEND := Lib.hid hend
          clear hend hke hlt hal hnm x1 x2 x3
          go_wp2
          go_meet
          have h := HEND.out
          cases h
          exact ⟨_, _, Lib.hid (fun _ => rfl), hco, hown, hst⟩
    case rest => as_aux_lemma =>
      obtain ⟨v, pq, hpq, hco, hpo, hst⟩ := hcut
      obtain ⟨ap, cp, rfl⟩ := own_shape hpo.out
      have HPQ := hpq
      go_wp2_with fail
      refine (scount (w.heap.size + 1) g 2000 b b4 e4 _ hst.out.1 Y.out (by decide) N5.out).mono ?_; rintro r w20 ⟨rfl, hr, hgw⟩
      have S20 := Lib.hid (hst.out.call hr hgw)
      have C20 := Lib.hid (own_grown hco.out hgw (show w.heap.size + 1 < w.heap.size + 1 + 1 + 1 by omega))
      have P20 := Lib.hid (own_grown hpo.out hgw (show w.heap.size + 1 < w.heap.size + 1 + 1 + 1 by omega))
      clear hr hgw hst hco hpo S10 C10 hpq
      go_upto_block 4 with fail
      go_cut [] (fun wx => ∃ (v : Value) (acc : List (Ans × Value)), Hid (e6 = 0 → acc.map Prod.fst = az) ∧ Hid (wx.ownsRow (w.heap.size + 1 + 1 + 1) 71 2 (.slice av cs.length cv) cs.length (cs.flatMap encX)) ∧ Hid (wx.ownsRow (w.heap.size + 1 + 1 + 1) 3 1 (.slice ap pq.length cp) pq.length (pq.flatMap encI)) ∧ Hid (AnR wx (w.heap.size + 1 + 1 + 1) v acc) ∧ Hid (PoS w g w.heap.size (w.heap.size + 1 + 1) b wx b6 e6 (.slice av cs.length cv) (.slice ap pq.length cp) v))
      case first => as_aux_lemma =>
        go_wp2_with fail
        go_loopw [10] (fun i wr => ∃ (k : Nat) (acc : List (Ans × Value)) (bx : List Int) (ex : Int) (v : Value), i = .int .i64 k ∧ k ≤ kk ∧ acc.length = k ∧ Hid (anssD kk [] b5 e5 = anssD (kk - k) (acc.map Prod.fst) bx ex) ∧ Hid (Byt bx) ∧ Hid (wr.ownsRow (w.heap.size + 1 + 1 + 1) 71 2 (.slice av cs.length cv) cs.length (cs.flatMap encX)) ∧ Hid (wr.ownsRow (w.heap.size + 1 + 1 + 1) 3 1 (.slice ap pq.length cp) pq.length (pq.flatMap encI)) ∧ Hid (AnR wr (w.heap.size + 1 + 1 + 1) v acc) ∧ Hid (PoS w g w.heap.size (w.heap.size + 1 + 1) b wr bx ex (.slice av cs.length cv) (.slice ap pq.length cp) v)) (fun i _ => (kk - intOf i).toNat)
        case atStart => exact ⟨0, [], b5, e5, _, rfl, Nat.zero_le _, rfl, Lib.hid rfl, Y5, C20, P20, Lib.hid (AnR.nil _ _), S20⟩
        case round => as_aux_lemma =>
          obtain ⟨k, acc, bx, ex, v, rfl, hk, hal, han, hby, hco, hpo, hown, hst⟩ := hrel
          obtain ⟨aa, ca, rfl⟩ := hown.out.shape
          obtain ⟨x0, x1, x2, x3, xf, xz, xy⟩ := hst.out.facts
          by_cases hlt : k < kk
          · have hlti : (k : Int) < (kk : Int) := by omega
            by_cases hex : ex = 0
            · subst hex
              obtain ⟨t1, t2, t3, t4, t5, t6, t7, nm, os, o, s, kz, mz, j, r1, r2, r3, r4, r5, r6, r7, m1, m2, m3, m4, m5, m6, m7, na, ⟨y1, y2, y3, y4, y5, y6, y7, y8⟩, ⟨i1, i2, i3, i4⟩, ⟨c1, c2, c3, c4⟩, l1, l2⟩ := aD_parts bx 0 hby.out
              obtain ⟨kn, rfl⟩ : ∃ kn : Nat, kz = kn := ⟨kz.toNat, by omega⟩
              obtain ⟨mn, rfl⟩ : ∃ mn : Nat, mz = mn := ⟨mz.toNat, by omega⟩
              rw [Int.toNat_natCast] at m4 m6 l1 l2
              have hm6 : (mn : Int) ≤ 6 := by omega
              have hk24 : (kn : Int) ≤ 24 := by omega
              obtain ⟨sb, hsb⟩ : ∃ sb : Bool, (s == 1) = sb := ⟨_, rfl⟩
              obtain ⟨sn, hsn⟩ : ∃ sn, strOfNums nm = sn := ⟨_, rfl⟩
              rw [hsb, hsn] at na
              have hnx : anssD kk [] b5 e5 = anssD (kk - (k + 1)) (acc.map Prod.fst ++ [⟨⟨o, sb, sn⟩, os, j⟩]) t7 r7 := by
                rw [han.out, show kk - k = (kk - (k + 1)) + 1 by omega]
                show anssD _ (acc.map Prod.fst ++ [(aD bx 0).1]) (aD bx 0).2.1 (aD bx 0).2.2 = _
                rw [na]
              have HNX := Lib.hid hnx
              have HSB := Lib.hid hsb
              have HSN := Lib.hid hsn
              have M1 := Lib.hid m1
              have M2 := Lib.hid m2
              have M3 := Lib.hid m3
              have M4 := Lib.hid m4
              have M5 := Lib.hid m5
              have M6 := Lib.hid m6
              have M7 := Lib.hid m7
              have L2 := Lib.hid l2
              have BT7 := Lib.hid y7
              have BT5 := Lib.hid y5
              have hac : acc.length ≤ 2000 := by omega
              have HLE : Hid (∀ y : Ans × Value, (acc ++ [y]).length = k + 1) := fun y => by rw [List.length_append, List.length_singleton, hal]
              have hgs : g < wr.heap.size := by have := hst.out.2.2.2.2.2.1; omega
              have A0 := Lib.hid (AxS.new (t := 27) hst.out.1 xy hgs)
              clear m1 m2 m3 m4 m5 m6 m7 na y1 y2 y3 y4 y5 y6 y7 y8 i1 i2 i3 i4 c1 c2 c3 c4 l1 l2 hnx hsb hsn hal han x1 x2 x3 hgs
              go_wp2_with fail
              refine (snumE (w.heap.size + 1) g b bx 0 _ A0.out.1 Y.out M1.out).mono ?_; rintro r w3 ⟨rfl, hr, hgw⟩
              have A1 := Lib.hid (A0.out.call hr hgw)
              clear hr hgw x0 A0
              obtain ⟨x0, x1, x2, x3, x4, xg, xw⟩ := A1.out.facts
              have T1 : Hid (AxS wr (w.heap.size + 1) g b (w3.setCell ⟨wr.heap.size, 0, none⟩ (.int .i64 o)) t1 r1 (.int .i64 o) (.bool false) (.string ⟨#[]⟩) (.slice none 0 0) (.int .i64 0)) := A1.out.put (A1.out.2.1.set _).1
              clear x1 x2 x3 x4
              go_wp2_with fail
              refine (snumE (w.heap.size + 1) g b t1 r1 _ T1.out.1 Y.out M2.out).mono ?_; rintro r w4 ⟨rfl, hr, hgw⟩
              have A2 := Lib.hid (T1.out.call hr hgw)
              clear hr hgw x0 xg xw A1 T1
              obtain ⟨p, hp⟩ : ∃ p : Bool, p = decide (r2 = 0 ∧ ¬ (0 ≤ s ∧ s ≤ 1)) := ⟨_, rfl⟩
              have HPP := Lib.hid hp
              obtain ⟨i2, s1, s2, sf, sz, _, _, _, _⟩ := A2.out.1.place
              clear hp
              go_upto_region 34 with fail
              go_cut [141] (fun c wx => c = .bool p ∧ w4 = wx)
              case first => as_aux_lemma =>
                by_cases hr2 : r2 = 0
                · by_cases hin : 0 ≤ s ∧ s ≤ 1
                  · obtain rfl : p = false := by rw [HPP.out, decide_eq_false_iff_not]; omega
                    have DD : Hid (decide (0 ≤ s ∧ s ≤ 1) = true) := by show _ = _; rw [decide_eq_true_iff]; exact hin
                    subst hr2
                    clear hin
                    go_wp2_with (go_at_call 60; (first | (with_reducible refine (in_lit s 0 1 true _ DD.out).mono ?_)); rintro e w' ⟨rfl, rfl⟩)
                    go_meet
                    exact ⟨rfl, rfl⟩
                  · obtain rfl : p = true := by rw [HPP.out, decide_eq_true_iff]; exact ⟨hr2, hin⟩
                    have DD : Hid (decide (0 ≤ s ∧ s ≤ 1) = false) := by show _ = _; rw [decide_eq_false_iff_not]; exact hin
                    subst hr2
                    clear hin
                    go_wp2_with (go_at_call 60; (first | (with_reducible refine (in_lit s 0 1 false _ DD.out).mono ?_)); rintro e w' ⟨rfl, rfl⟩)
                    go_meet
                    exact ⟨rfl, rfl⟩
                · obtain rfl : p = false := by rw [HPP.out, decide_eq_false_iff_not]; exact fun h => hr2 h.1
                  have hne : (r2 == 0) = false := by rw [beq_eq_false_iff_ne]; exact hr2
                  clear hr2
                  go_wp2
                  go_meet
                  exact ⟨rfl, rfl⟩
              case rest => as_aux_lemma =>
                obtain ⟨rfl, rfl⟩ := hcut
                go_upto_if 141 with fail
                go_cut [] (fun wx => Hid (AxS wr (w.heap.size + 1) g b wx t2 (savD s r2) (.int .i64 o) (.bool false) (.string ⟨#[]⟩) (.slice none 0 0) (.int .i64 0)))
                case first => as_aux_lemma =>
                  cases p with
                  | true =>
                    obtain ⟨hr2, hin⟩ := of_decide_eq_true HPP.out.symm
                    have hsv : savD s r2 = 4 := by unfold savD; rw [if_neg (by omega), hr2]; rfl
                    have HSV := Lib.hid hsv
                    clear hsv hin hr2
                    go_wp2
                    go_meet
                    rw [HSV.out]
                    exact Lib.hid (A2.out.call (A2.out.1.err 4) (grown_setC _ _ _ _))
                  | false =>
                    have hno := of_decide_eq_false HPP.out.symm
                    have hsv : savD s r2 = r2 := by
                      unfold savD
                      by_cases h : s = 0 ∨ s = 1
                      · rw [if_pos h]
                      · rw [if_neg h]
                        exact erE_ne (fun q => hno ⟨q, by omega⟩)
                    have HSV := Lib.hid hsv
                    clear hsv hno
                    go_wp2
                    go_meet
                    rw [HSV.out]
                    exact A2
                case rest => as_aux_lemma =>
                  have A3 := hcut
                  have hsb := HSB.out
                  clear s1 s2 sf sz hcut A2 HPP
                  obtain ⟨x0, x1, x2, x3, x4, xg, xw⟩ := A3.out.facts
                  have T3 : Hid (AxS wr (w.heap.size + 1) g b (wc.setCell ⟨wr.heap.size, 1, none⟩ (.bool sb)) t2 (savD s r2) (.int .i64 o) (.bool sb) (.string ⟨#[]⟩) (.slice none 0 0) (.int .i64 0)) := A3.out.put (A3.out.2.1.set _).2.1
                  clear x0 x2 x3 x4
                  go_wp2_with fail
                  refine (scount (w.heap.size + 1) g 24 b t2 (savD s r2) _ T3.out.1 Y.out (by decide) M3.out).mono ?_; rintro r w6 ⟨rfl, hr, hgw⟩
                  have A4 := Lib.hid (T3.out.call hr hgw)
                  clear hr hgw x1 xg xw A3 T3 hsb
                  obtain ⟨i3, s1, s2, sf, sz, si, sbb, sd, sat⟩ := A4.out.1.place
                  have tl : t3.length = b.length - i3 := by rw [← sd, List.length_drop]
                  have TL := Lib.hid tl
                  have SI := Lib.hid si
                  obtain ⟨p2, hp2⟩ : ∃ p2 : Bool, p2 = decide (r3 = 0 ∧ t3.length < kn) := ⟨_, rfl⟩
                  have HP2 := Lib.hid hp2
                  obtain ⟨ra, hra⟩ : ∃ ra : Int, ra = if r3 = 0 ∧ t3.length < kn then 5 else r3 := ⟨_, rfl⟩
                  have hT : (ra = 0 ∧ kn ≤ t3.length ∧ nm = t3.take kn ∧ t4 = t3.drop kn ∧ r4 = 0) ∨ (ra ≠ 0 ∧ nm = [] ∧ t4 = t3 ∧ r4 = ra) := by
                    have h := M4.out
                    unfold tkD at h
                    by_cases q : r3 = 0 ∧ kn ≤ t3.length
                    · rw [if_pos q] at h
                      cases h
                      exact .inl ⟨by rw [hra, if_neg (by omega)]; exact q.1, q.2, rfl, rfl, rfl⟩
                    · rw [if_neg q] at h
                      cases h
                      right
                      by_cases q2 : r3 = 0
                      · have h5 : ra = 5 := by rw [hra, if_pos ⟨q2, by omega⟩]
                        exact ⟨by rw [h5]; decide, rfl, rfl, by rw [h5, q2]; rfl⟩
                      · have h5 : ra = r3 := by rw [hra, if_neg (fun z => q2 z.1)]
                        exact ⟨by rw [h5]; exact q2, rfl, rfl, by rw [h5]; exact erE_ne q2⟩
                  have HT := Lib.hid hT
                  have HRA := Lib.hid hra
                  clear hT hra hp2 tl si sbb sd sat
                  go_upto_region 38 with fail
                  go_cut [166] (fun c wx => c = .bool p2 ∧ w6 = wx)
                  case first => as_aux_lemma =>
                    have sii : (i3 : Int) ≤ (b.length : Int) := by have := SI.out; omega
                    by_cases hr3 : r3 = 0
                    · by_cases hlong : t3.length < kn
                      · obtain rfl : p2 = true := by rw [HP2.out, decide_eq_true_iff]; exact ⟨hr3, hlong⟩
                        have hcmp : (b.length : Int) < (i3 : Int) + (kn : Int) := by have := TL.out; omega
                        subst hr3
                        clear hlong
                        go_wp2
                        go_meet
                        exact ⟨by first | rfl | rw [decide_eq_false (by omega)] | rw [decide_eq_true (by omega)], rfl⟩
                      · obtain rfl : p2 = false := by rw [HP2.out, decide_eq_false_iff_not]; exact fun h => hlong h.2
                        have hcmp : (i3 : Int) + (kn : Int) ≤ (b.length : Int) := by have := TL.out; have := SI.out; omega
                        subst hr3
                        clear hlong
                        go_wp2
                        go_meet
                        exact ⟨by first | rfl | rw [decide_eq_false (by omega)] | rw [decide_eq_true (by omega)], rfl⟩
                    · obtain rfl : p2 = false := by rw [HP2.out, decide_eq_false_iff_not]; exact fun h => hr3 h.1
                      have hne : (r3 == 0) = false := by rw [beq_eq_false_iff_ne]; exact hr3
                      clear hr3
                      go_wp2
                      go_meet
                      exact ⟨by first | rfl | rw [decide_eq_false (by omega)] | rw [decide_eq_true (by omega)], rfl⟩
                  case rest => as_aux_lemma =>
                    obtain ⟨rfl, rfl⟩ := hcut
                    go_upto_if 166 with fail
                    go_cut [] (fun wx => Hid (AxS wr (w.heap.size + 1) g b wx t3 ra (.int .i64 o) (.bool sb) (.string ⟨#[]⟩) (.slice none 0 0) (.int .i64 0)))
                    case first => as_aux_lemma =>
                      cases p2 with
                      | true =>
                        have hq := of_decide_eq_true HP2.out.symm
                        have h5 : ra = 5 := by rw [HRA.out, if_pos hq]
                        have H5 := Lib.hid h5
                        clear hq h5
                        go_wp2
                        go_meet
                        rw [H5.out]
                        exact Lib.hid (A4.out.call (A4.out.1.err 5) (grown_setC _ _ _ _))
                      | false =>
                        have hq := of_decide_eq_false HP2.out.symm
                        have h5 : ra = r3 := by rw [HRA.out, if_neg hq]
                        have H5 := Lib.hid h5
                        clear hq h5
                        go_wp2
                        go_meet
                        rw [H5.out]
                        exact A4
                    case rest => as_aux_lemma =>
                      have A5 := hcut
                      clear s1 s2 sf sz hcut A4 HP2 HRA TL SI
                      obtain ⟨i4, s1, s2, sf, sz, si, sbb, sd, sat⟩ := A5.out.1.place
                      have SI := Lib.hid si
                      have SD := Lib.hid sd
                      have SAT := Lib.hid sat
                      obtain ⟨pz, hpz⟩ : ∃ pz : Bool, (ra == 0) = pz := ⟨_, rfl⟩
                      clear si sbb sd sat
                      go_upto_if 174 with fail
                      go_cut [] (fun wx => Hid (AxS wr (w.heap.size + 1) g b wx t4 r4 (.int .i64 o) (.bool sb) (.string sn) (.slice none 0 0) (.int .i64 0)))
                      case first => as_aux_lemma =>
                        cases pz with
                        | false =>
                          have hra : ra ≠ 0 := by rw [← beq_eq_false_iff_ne]; exact hpz
                          have hq : nm = [] ∧ t4 = t3 ∧ r4 = ra := by
                            rcases HT.out with h | h
                            · exact absurd h.1 hra
                            · exact h.2
                          have HQ := Lib.hid hq
                          clear hra hq hpz
                          go_wp2
                          go_meet
                          obtain ⟨h1, h2, h3⟩ := HQ.out
                          have hs : sn = ⟨#[]⟩ := by rw [← HSN.out, h1]; rfl
                          rw [h2, h3, hs]
                          exact A5
                        | true =>
                          have hra : ra = 0 := by rw [← beq_iff_eq]; exact hpz
                          have hq : kn ≤ t3.length ∧ nm = t3.take kn ∧ t4 = t3.drop kn ∧ r4 = 0 := by
                            rcases HT.out with h | h
                            · exact h.2
                            · exact absurd hra h.1
                          obtain ⟨hkl, hnm, ht4, hr4⟩ := hq
                          have hlen : t3.length = b.length - i4 := by rw [← SD.out, List.length_drop]
                          have hle : i4 + kn ≤ b.length := by have := SI.out; omega
                          have hcw : ∀ m (h : m < b.length), wc.cell? ⟨g, off + m, none⟩ = some (.int .u8 b[m]) := fun m h => by
                            rw [grown_cell A5.out.2.2.1 A5.out.2.2.2.2 (fun q => by have := Option.some.inj q; have := HB.out.1; omega)]
                            exact (hst.out.2.2.2.1.cell (p := ⟨g, off + m, none⟩) HB.out.1).trans (HB.out.2 m h)
                          have hcv : ∀ (q c : Nat), (convert 66 9 (.slice (some ⟨g, off + i4, none⟩) kn c)).run Try.prog (wc.drewN q) = .ok (.string sn) (wc.drewN q) := fun q c => by
                            rw [← HSN.out]
                            refine run_convert_bytes_arg (P := Try.prog) (wc.drewN q) 66 5 Try.underlying66 Try.underlying5 g (off + i4) kn c nm (by rw [hnm, List.length_take]; omega) (fun m hm => ?_) 9 Try.underlying9
                            have h1 := hcw (i4 + m) (by omega)
                            rw [← Nat.add_assoc] at h1
                            have h2 : nm.getD m 0 = b[i4 + m]'(by omega) := by
                              have hm2 : m < (t3.take kn).length := by rw [List.length_take]; omega
                              rw [hnm, List.getD_eq_getElem?_getD, List.getElem?_eq_getElem hm2]
                              simp only [Option.getD_some, List.getElem_take]
                              have : t3 = b.drop i4 := SD.out.symm
                              subst this
                              rw [List.getElem_drop]
                            rw [h2]
                            exact h1
                          have HCV := Lib.hid hcv
                          have hgz : g < wc.heap.size := by have := A5.out.2.2.2.2; have := A5.out.2.2.1.size; omega
                          have hki : (i4 : Int) + (kn : Int) ≤ (b.length : Int) := by omega
                          have hci := HCI.out
                          have hin : i4 + kn ≤ cap := by omega
                          have hii4 : (i4 : Int) + (kn : Int) ≤ (cap : Int) := by omega
                          obtain ⟨x0, x1, x2, x3, x4, xg, xw⟩ := A5.out.facts
                          have HQ := Lib.hid (show _ ∧ _ ∧ _ from ⟨ht4, hr4, hle⟩)
                          have HN0 : Hid (kn = 0 → nm = []) := fun h => by rw [hnm, h]; rfl
                          have HCB : Hid (b.length ≤ cap) := by show _ ≤ _; omega
                          subst hra
                          clear hkl hnm ht4 hr4 hlen hle hcw hcv hpz
                          have hXS : w.heap.size + 1 ≠ wr.heap.size := by have := A5.out.2.2.2.1; omega
                          have hgX : g ≠ wr.heap.size := by have := A5.out.2.2.2.2; omega
                          have hA7 : AxS wr (w.heap.size + 1) g b ((wc.setCell ⟨wr.heap.size, 2, none⟩ (.string sn)).setCell ⟨w.heap.size + 1, 1, none⟩ (.int .i64 ((i4 : Int) + (kn : Int)))).drew t4 r4 (.int .i64 o) (.bool sb) (.string sn) (.slice none 0 0) (.int .i64 0) := by
                            obtain ⟨e1, e2, e3⟩ := HQ.out
                            have A6 := A5.out.put (A5.out.2.1.set (.string sn)).2.2.1
                            rw [← Int.natCast_add, e2]
                            exact (A6.call ⟨i4 + kn, (SAT.out.keep (heap_sx hXS) (heap_sx hgX)).setI (i4 + kn) e3, by rw [e1, ← SD.out, List.drop_drop]⟩ (grown_setC _ _ _ _)).drew
                          have AF := Lib.hid hA7
                          clear hA7 hXS hgX
                          have hnk : i4 + kn - i4 = kn := by omega
                          go_upto_region 41 with fail
                          by_cases hce : cap = i4
                          · have hk0 : kn = 0 := by have := HQ.out.2.2; have := HCB.out; omega
                            have hcv : ∀ c : Nat, (convert 66 9 (.slice (some ⟨g, off, none⟩) kn c)).run Try.prog wc.drew = .ok (.string sn) wc.drew := fun c => by
                              rw [← HSN.out, HN0.out hk0]
                              exact run_convert_bytes_arg (P := Try.prog) wc.drew 66 5 Try.underlying66 Try.underlying5 g off kn c [] (by rw [hk0]; rfl) (fun m hm => by omega) 9 Try.underlying9
                            clear hk0
                            go_region
                            all_goals
                              clear hcv hce
                              go_wp2
                              go_meet
                              exact AF
                          · have hcv : ∀ c : Nat, (convert 66 9 (.slice (some ⟨g, off + i4, none⟩) kn c)).run Try.prog wc.drew = .ok (.string sn) wc.drew := fun c => HCV.out 1 c
                            go_region
                            all_goals
                              clear hcv hce
                              go_wp2
                              go_meet
                              exact AF
                      case rest => as_aux_lemma =>
                        have A6 := hcut
                        clear s1 s2 sf sz hcut A5 HT SI SD SAT hpz
                        go_wp2_with fail
                        refine (scount (w.heap.size + 1) g 6 b t4 r4 _ A6.out.1 Y.out (by decide) M5.out).mono ?_; rintro r w8 ⟨rfl, hr, hgw⟩
                        have A8 := Lib.hid (A6.out.call hr hgw)
                        clear hr hgw A6 xf xy
                        obtain ⟨wo, rfl⟩ : ∃ wo : World, wo = wr := ⟨_, rfl⟩
                        go_wp2
                        go_loopw [13] (fun i wx => ∃ (k1 : Nat) (ac : List Int) (bq : List Int) (eq : Int) (v : Value), i = .int .i64 k1 ∧ k1 ≤ mn ∧ ac.length = k1 ∧ Hid (numsD mn [] t5 r5 = numsD (mn - k1) ac bq eq) ∧ Hid (Byt bq) ∧ Hid (wx.ownsRow (wo.heap.size + 1) 3 1 v ac.length (ac.flatMap encI)) ∧ Hid (AxS wo (w.heap.size + 1) g b wx bq eq (.int .i64 o) (.bool sb) (.string sn) v (.int .i64 0))) (fun i _ => (mn - intOf i).toNat)
                        case atStart => exact ⟨0, [], t5, r5, _, rfl, Nat.zero_le _, rfl, Lib.hid rfl, BT5, Lib.hid (World.ownsRow_nil _ _ _ _), A8⟩
                        case round => as_aux_lemma =>
                          obtain ⟨k1, ac, bq, eq, v, rfl, hk1, hal, hnm, hbq, hoff, hax⟩ := hrel
                          obtain ⟨x0, x1, x2, x3, x4, xg, xw⟩ := hax.out.facts
                          obtain ⟨ao, co, rfl⟩ := own_shape hoff.out
                          have hSX : w.heap.size + 1 < wo.heap.size + 1 := by have := hax.out.2.2.2.1; omega
                          by_cases hlt1 : k1 < mn
                          · obtain ⟨x, bn, en, hx⟩ : ∃ x bn en, numE bq eq = (x, bn, en) := ⟨_, _, _, rfl⟩
                            have HX := Lib.hid hx
                            have HBN : Hid (Byt bn) := by have := numE_byt eq hbq.out; rw [hx] at this; exact this
                            have hnx : numsD mn [] t5 r5 = numsD (mn - (k1 + 1)) (ac ++ [x]) bn en := by
                              rw [hnm.out, show mn - k1 = (mn - (k1 + 1)) + 1 by omega]
                              show numsD _ (ac ++ [(numE bq eq).1]) (numE bq eq).2.1 (numE bq eq).2.2 = _
                              rw [hx]
                            have HNX1 := Lib.hid hnx
                            have hac1 : ac.length ≤ 6 := by omega
                            have hlti1 : (k1 : Int) < (mn : Int) := by omega
                            have HAL : Hid ((ac ++ [x]).length = k1 + 1) := by show _ = _; rw [List.length_append, List.length_singleton, hal]
                            clear hx hnx hal x0 x1 x2 x4
                            go_wp2
                            go_region_law (first | (refine step_append_lies _ (by rfl) _ _ _ (by rfl) (wo.heap.size + 1) 3 ii (.int .i64 0) 1 8 Try.underlying25 hii hiz0 hiz1 hiz2 rfl (by decide) (.slice ao ac.length co) ac.length (ac.flatMap encI) (by rfl) (O9.out.alloc _) ⟨w5.heap.size, 0, none⟩ 1 1 (encI x) (by rfl) (by rfl) (cells_at _ _ _ _ _ rfl rfl) (by intro u hu; simp [encI] at hu; subst hu; rfl) (by omega) (by unfold maxLen; omega) (by omega) (by rw [size_alloc]; omega) (w5.heap.size + 1) (size_alloc _ _) ?_; intro gg cap6 w6 hown1 hgrow hat hltg; have SX := Lib.hid (S9.out.row O9.out hgrow); obtain ⟨_, _, _, z3, _, zf, zz⟩ := SX.out.facts; have HO1 := Lib.hid (own_snocG hown1); clear hown1 hgrow hat) | (go_simp; refine (snumE (w.heap.size + 1) g b bq eq _ hax.out.1.drew Y.out HX.out).mono ?_; rintro r w5 ⟨rfl, hr5, hg5⟩; have S9 := Lib.hid (hax.out.call hr5 (grown_from hg5)); have O9 := Lib.hid (own_grown hoff.out (grown_from hg5) hSX); obtain ⟨_, _, _, y3, _, yf, yz⟩ := S9.out.facts; clear hr5 hg5))
                            all_goals
                              have SY := Lib.hid (SX.out.put (SX.out.2.1.set (.slice (some ⟨gg, 0, none⟩) (ac.length + 1) cap6)).2.2.2.1)
                              have HO2 := Lib.hid (ownsRow_setCell_below (a := ⟨wo.heap.size, 3, none⟩) HO1.out (Nat.lt_succ_self _) (.slice (some ⟨gg, 0, none⟩) (ac.length + 1) cap6))
                              go_wp2
                              go_roundw
                              case rel => exact ⟨k1 + 1, ac ++ [x], bn, en, _, by go_num, by omega, HAL.out, HNX1, HBN, HO2, SY⟩
                              case measure => simp [intOf]; omega
                          · have hke : k1 = mn := by omega
                            have hend : (os, t6, r6) = (ac, bq, eq) := by rw [← M6.out, hnm.out, hke, Nat.sub_self]; rfl
                            cases hend
                            have hge1 : (mn : Int) ≤ (k1 : Int) := by omega
                            clear hke hlt1 x0 x1 x2 x3 x4 xg xw hnm hal
                            go_wp2_with fail
                            refine (snumE (w.heap.size + 1) g b t6 r6 _ hax.out.1 Y.out M7.out).mono ?_; rintro r w9 ⟨rfl, hr, hgw⟩
                            have A9 := Lib.hid (hax.out.call hr hgw)
                            have O9 := Lib.hid (own_grown hoff.out hgw hSX)
                            have TB := Lib.hid (A9.out.put (A9.out.2.1.set (.int .i64 j)).2.2.2.2)
                            have OB := Lib.hid (ownsRow_setCell_below (a := ⟨wo.heap.size, 4, none⟩) O9.out (Nat.lt_succ_self _) (.int .i64 j))
                            obtain ⟨x0, x1, x2, x3, x4, xg, xw⟩ := A9.out.facts
                            clear hr hgw
                            go_upto_region 49 with fail
                            obtain ⟨wB, hwB⟩ : ∃ wB, wB = w9.setCell ⟨wo.heap.size, 4, none⟩ (.int .i64 j) := ⟨_, rfl⟩
                            rw [← hwB] at TB OB ⊢
                            clear hwB x0 x1 x2 x3 x4 xg xw A9 O9
                            have PB := Lib.hid (hst.out.grown TB.out.1 TB.out.2.2.1)
                            have CB := Lib.hid (own_grown hco.out TB.out.2.2.1 (show w.heap.size + 1 < w.heap.size + 1 + 1 + 1 by omega))
                            have QB := Lib.hid (own_grown hpo.out TB.out.2.2.1 (show w.heap.size + 1 < w.heap.size + 1 + 1 + 1 by omega))
                            have AB := Lib.hid (hown.out.grown TB.out.2.2.1 (show w.heap.size + 1 < w.heap.size + 1 + 1 + 1 by omega))
                            have OB2 := Lib.hid (ownsRow_base (show w.heap.size + 1 + 1 + 1 ≤ wo.heap.size + 1 by omega) OB.out)
                            obtain ⟨x0, x1, x2, x3, x4, xg, xw⟩ := TB.out.facts
                            obtain ⟨p0, p1, p2, p3, pf, pz, py⟩ := PB.out.facts
                            go_wp2_with (at_builtin; refine wpList_append_own _ rfl _ _ 32 rfl (w.heap.size + 1 + 1 + 1) 27 ia (.agg #[.int .i64 0, .bool false, .string ⟨#[]⟩, .slice none 0 0, .int .i64 0]) 5 64 Try.underlying32 hia haz0 haz1 haz2 rfl (by decide) _ _ _ rfl (AB.out.1.alloc _) _ 1 1 (encV (⟨⟨o, sb, sn⟩, os, j⟩, Value.slice ao os.length co)) rfl rfl (cells_at _ _ _ _ _ rfl rfl) (encV_one (⟨⟨o, sb, sn⟩, os, j⟩, Value.slice ao os.length co) ⟨ao, os.length, co, rfl⟩) (by unfold maxLen; omega) (by omega) (by rw [size_alloc]; omega) ?_; intro v' w12 hown' hgrow _; obtain ⟨a12, c12, rfl⟩ := own_shape hown'; have SX := Lib.hid (PB.out.below (row_below AB.out.1 (by omega) hgrow)); have CX := Lib.hid (own_beside CB.out AB.out.1 (by decide) hgrow); have PX := Lib.hid (own_beside QB.out AB.out.1 (by decide) hgrow); have HO1 := Lib.hid (AB.out.snoc (y := (⟨⟨o, sb, sn⟩, os, j⟩, Value.slice ao os.length co)) OB2.out hown' hgrow); obtain ⟨n0, n1, n2, n3, nf, nz, ny⟩ := SX.out.facts; clear hown' hgrow)
                            have SY := Lib.hid (SX.out.put (SX.out.2.2.1.set (.slice a12 (acc.length + 1) c12)).2.2)
                            have HO2 := Lib.hid (HO1.out.set (k := w.heap.size + 1 + 1) (o := 2) (u := .slice a12 (acc.length + 1) c12) (Nat.lt_succ_self _))
                            have HC2 := Lib.hid (ownsRow_setCell_below (a := ⟨w.heap.size + 1 + 1, 2, none⟩) CX.out (Nat.lt_succ_self _) (.slice a12 (acc.length + 1) c12))
                            have HP2 := Lib.hid (ownsRow_setCell_below (a := ⟨w.heap.size + 1 + 1, 2, none⟩) PX.out (Nat.lt_succ_self _) (.slice a12 (acc.length + 1) c12))
                            have HNX2 : Hid (anssD kk [] b5 e5 = anssD (kk - (k + 1)) ((acc ++ [((⟨⟨o, sb, sn⟩, os, j⟩ : Ans), Value.slice ao os.length co)]).map Prod.fst) t7 r7) := by show _ = _; rw [List.map_append]; exact HNX.out
                            go_roundw
                            case rel => exact ⟨k + 1, acc ++ [((⟨⟨o, sb, sn⟩, os, j⟩ : Ans), Value.slice ao os.length co)], t7, r7, _, by go_num, by omega, HLE.out _, HNX2, BT7, HC2, HP2, HO2, SY⟩
                            case measure => simp [intOf]; omega
            · have hend : (b6, e6) = (bx, ex) := by
                have h := anssD_err (kk - k) (acc.map Prod.fst) bx hex
                rw [← han.out, N6.out] at h
                exact h
              have hne : (ex == 0) = false := by rw [beq_eq_false_iff_ne]; exact hex
              have HEX := Lib.hid hex
              have HEND := Lib.hid hend
              clear hend hex hal han x1 x2 x3
              go_wp2
              go_meet
              have h := HEND.out
              cases h
              exact ⟨_, acc, Lib.hid (fun h => absurd h HEX.out), hco, hpo, hown, hst⟩
          · have hke : k = kk := by omega
            have hend : (az, b6, e6) = (acc.map Prod.fst, bx, ex) := by rw [← N6.out, han.out, hke, Nat.sub_self]; rfl
            have hge : (kk : Int) ≤ (k : Int) := by omega
            have HEND := Lib.hid hend
            clear hend hke hlt hal han x1 x2 x3
            go_wp2
            go_meet
            have h := HEND.out
            cases h
            exact ⟨_, _, Lib.hid (fun _ => rfl), hco, hpo, hown, hst⟩
      case rest => as_aux_lemma =>
        obtain ⟨v, acc, haz, hco, hpo, hown, hst⟩ := hcut
        obtain ⟨aa, ca, rfl⟩ := hown.out.shape
        obtain ⟨i6, s1, s2, sf, sz, si, sbb, sd, sat⟩ := hst.out.1.place
        have SI := Lib.hid si
        have SD := Lib.hid sd
        have HZR := Lib.hid hst.out.lt
        clear si sbb sd sat S20 C20 P20
        by_cases he6 : e6 = 0
        · have he4 : e4 = 0 := by
            by_cases h : e4 = 0
            · exact h
            · have h5 := N5.out
              rw [cntE_err (by decide) h] at h5
              have h55 : e4 = e5 := (Prod.mk.inj (Prod.mk.inj h5).2).2
              have h6 := anssD_err kk [] b5 (e := e5) (by rw [← h55]; exact h)
              rw [N6.out] at h6
              have : e6 = e5 := (Prod.mk.inj h6).2
              exact absurd (h55.trans (this.symm.trans he6)) h
          obtain rfl := HPQ.out he4
          obtain rfl := haz.out he6
          subst he6
          clear he4
          cases b6 with
          | nil =>
            have hib := drop_nil SI.out SD.out
            have hge6 : (b.length : Int) ≤ (i6 : Int) := by omega
            have hnb := NB.out
            have hed : endD ([] : List Int) 0 = 0 := by unfold endD; rw [if_neg (by simp)]
            rw [hed] at hnb
            unfold finD at hnb
            rw [if_neg (show ¬ ((0 : Int) ≠ 0) by simp)] at hnb
            obtain ⟨vx, vy, vz, hv⟩ : ∃ a b c, verE ⟨cs, pq, acc.map Prod.fst⟩ = (a, b, c) := ⟨_, _, _, rfl⟩
            rw [hv] at hnb
            dsimp only at hnb
            have HV := Lib.hid hv
            have HNB := Lib.hid hnb
            clear hed hv hnb hib
            obtain ⟨x0, x1, x2, x3, xf, xz, xy⟩ := hst.out.facts
            go_wp2_with fail
            refine (verifyOf_any _ _ _ _ wc (prg_rows hco.out hpo.out hown.out OC.out OP.out OA.out) HV.out).mono ?_; rintro r w30 ⟨rfl, hb30⟩
            have S30 := Lib.hid (hst.out.below (hb30.mono (show w.heap.size + 1 + 1 + 1 ≤ wc.heap.size by have := HZR.out; omega)))
            have C30 := Lib.hid (ownsRow_below hco.out hb30 (Nat.le_refl _))
            have P30 := Lib.hid (ownsRow_below hpo.out hb30 (Nat.le_refl _))
            have A30 := Lib.hid (hown.out.below hb30)
            have S31 := Lib.hid (S30.out.call (S30.out.1.err vz) (grown_setC _ _ _ _))
            have C31 := Lib.hid (ownsRow_setCell_below (a := ⟨w.heap.size + 1, 2, none⟩) C30.out (by show w.heap.size + 1 < w.heap.size + 1 + 1 + 1; omega) (.int .i64 vz))
            have P31 := Lib.hid (ownsRow_setCell_below (a := ⟨w.heap.size + 1, 2, none⟩) P30.out (by show w.heap.size + 1 < w.heap.size + 1 + 1 + 1; omega) (.int .i64 vz))
            have A31 := Lib.hid (A30.out.set (k := w.heap.size + 1) (o := 2) (u := .int .i64 vz) (show w.heap.size + 1 < w.heap.size + 1 + 1 + 1 by omega))
            obtain ⟨i7, u1, u2, uf, uz, _, _, _, _⟩ := S30.out.1.place
            clear x0 x1 x2 x3 xf xz xy hb30 s1 s2 sf sz hge6
            go_upto_region 54 with fail
            obtain ⟨wB, hwB⟩ : ∃ wB, wB = w30.setCell ⟨w.heap.size + 1, 2, none⟩ (.int .i64 vz) := ⟨_, rfl⟩
            rw [← hwB] at S31 C31 P31 A31 ⊢
            clear hwB u1 u2 uf uz
            obtain ⟨r0, r1, r2, rf, rz⟩ := S31.out.res
            obtain ⟨x0, x1, x2, x3, xf, xz, xy⟩ := S31.out.facts
            by_cases hvz : vz = 0
            · subst hvz
              have hnb := HNB.out
              rw [if_neg (by simp)] at hnb
              obtain ⟨rfl, rfl⟩ := Prod.mk.inj hnb
              clear hnb HNB
              go_wp2
              refine bodyPost_ret (v := .tuple #[.agg #[.slice av cs.length cv, .slice ap pq.length cp, .slice aa acc.length ca], .int .i64 0]) (by simp [results, Try.results51, go_sem, rz, r0, r1, r2]) rfl ⟨_, _, _, rfl, prg_rows (B := w.heap.size + 1 + 1 + 1) ?_ ?_ ?_ OC.out OP.out OA.out, ?_⟩
              · exact ownsRow_setCell_below (ownsRow_setCell_below (ownsRow_setCell_below C31.out (by show w.heap.size < _; omega) _) (by show w.heap.size < _; omega) _) (by show w.heap.size < _; omega) _
              · exact ownsRow_setCell_below (ownsRow_setCell_below (ownsRow_setCell_below P31.out (by show w.heap.size < _; omega) _) (by show w.heap.size < _; omega) _) (by show w.heap.size < _; omega) _
              · exact ((A31.out.set (by omega)).set (by omega)).set (by omega)
              · exact ((S31.out.2.2.2.1.setCell (Nat.le_refl _) _).setCell (Nat.le_refl _) _).setCell (Nat.le_refl _) _
            · have hnb := HNB.out
              rw [if_pos hvz] at hnb
              have hvb : (vz != 0) = true := by rw [bne_iff_ne]; exact hvz
              obtain ⟨hp0, he0⟩ := Prod.mk.inj hnb
              subst hp0 he0
              clear hnb HNB hvz r0 r1 r2 rf rz
              obtain ⟨r0, r1, r2, rf, rz⟩ := S31.out.res
              go_wp2
              go_region
              all_goals
                go_wp2
                refine bodyPost_ret (v := .tuple #[.agg #[.slice none 0 0, .slice none 0 0, .slice none 0 0], .int .i64 e]) (by simp [results, Try.results51, go_sem, r0, r1, r2]) rfl ⟨_, _, _, rfl, noP_at _, ?_⟩
                first
                  | exact (((S31.out.2.2.2.1.setCell (Nat.le_refl _) _).setCell (Nat.le_refl _) _).setCell (Nat.le_refl _) _).drew
                  | exact ((S31.out.2.2.2.1.drew.setCell (Nat.le_refl _) _).setCell (Nat.le_refl _) _).setCell (Nat.le_refl _) _
          | cons c t =>
            obtain ⟨hib, _, _⟩ := drop_cons SD.out
            have hlt6 : (i6 : Int) < (b.length : Int) := by omega
            have hnb := NB.out
            have hed : endD (c :: t) 0 = 4 := by unfold endD; rw [if_pos ⟨rfl, by simp⟩]
            rw [hed, finD_err (by decide)] at hnb
            obtain ⟨hp0, he0⟩ := Prod.mk.inj hnb
            subst hp0 he0
            have S31 := Lib.hid (hst.out.call (hst.out.1.err 4) (grown_setC _ _ _ _))
            clear hnb hed
            go_upto_region 52 with fail
            obtain ⟨wB, hwB⟩ : ∃ wB, wB = wc.setCell ⟨w.heap.size + 1, 2, none⟩ (.int .i64 4) := ⟨_, rfl⟩
            rw [← hwB] at S31 ⊢
            clear hwB s1 s2 sf sz hlt6
            obtain ⟨x0, x1, x2, x3, xf, xz, xy⟩ := S31.out.facts
            obtain ⟨r0, r1, r2, rf, rz⟩ := S31.out.res
            go_wp2
            go_region
            all_goals
              go_wp2
              refine bodyPost_ret (v := .tuple #[.agg #[.slice none 0 0, .slice none 0 0, .slice none 0 0], .int .i64 4]) (by simp [results, Try.results51, go_sem, r0, r1, r2]) rfl ⟨_, _, _, rfl, noP_at _, ?_⟩
              first
                | exact (((S31.out.2.2.2.1.setCell (Nat.le_refl _) _).setCell (Nat.le_refl _) _).setCell (Nat.le_refl _) _).drew
                | exact ((S31.out.2.2.2.1.drew.setCell (Nat.le_refl _) _).setCell (Nat.le_refl _) _).setCell (Nat.le_refl _) _
        · have hnb := NB.out
          rw [endD_err he6, finD_err he6] at hnb
          obtain ⟨hp0, he0⟩ := Prod.mk.inj hnb
          have hne : (e6 != 0) = true := by rw [bne_iff_ne]; exact he6
          have hne2 : (e6 == 0) = false := by rw [beq_eq_false_iff_ne]; exact he6
          subst hp0 he0
          clear hnb he6
          obtain ⟨r0, r1, r2, rf, rz⟩ := hst.out.res
          go_wp2
          go_region
          all_goals
            go_wp2
            refine bodyPost_ret (v := .tuple #[.agg #[.slice none 0 0, .slice none 0 0, .slice none 0 0], .int .i64 e]) (by simp [results, Try.results51, go_sem, r0, r1, r2]) rfl ⟨_, _, _, rfl, noP_at _, ?_⟩
            first
              | exact (((hst.out.2.2.2.1.setCell (Nat.le_refl _) _).setCell (Nat.le_refl _) _).setCell (Nat.le_refl _) _).drew
              | exact ((hst.out.2.2.2.1.drew.setCell (Nat.le_refl _) _).setCell (Nat.le_refl _) _).setCell (Nat.le_refl _) _
end Go.Proofs.Ytpnmaopompfalaa
