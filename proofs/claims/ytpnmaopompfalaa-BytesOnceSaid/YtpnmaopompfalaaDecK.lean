/-
  code.Decode.
-/
import Derived.Test.YtpnmaopompfalaaDecJ
import Derived.Lib.Bytes
namespace Go.Proofs.Ytpnmaopompfalaa
set_option linter.unusedVariables false
set_option linter.unusedSimpArgs false
open Go.ChangeShapes Go.WideShapes Go.ChangeAt Go.RowKit

theorem prg_rows {w : World} {B : Nat} {vc vp va : Value} {cs : List Ins} {ps : List Int} {l : List (Ans × Value)} (hc : w.ownsRow B 71 2 vc cs.length (cs.flatMap encX)) (hp : w.ownsRow B 3 1 vp ps.length (ps.flatMap encI)) (ha : AnR w B va l) (oC : ∀ x ∈ cs, IOk x) (oP : ∀ x ∈ ps, I64 x) (oA : ∀ x ∈ l.map Prod.fst, AOk x) : PrgAt w vc vp va ⟨cs, ps, l.map Prod.fst⟩ :=
  ⟨slAt_of_own (enc := encX) (by omega) (fun _ => rfl) (fun x hx => ⟨rfl, oC x hx⟩) hc, ints_of_own oP hp, ha.at oA⟩
theorem AnR.below {w w' : World} {B : Nat} {va : Value} {l : List (Ans × Value)} (h : AnR w B va l) (hb : Below w.heap.size w w') : AnR w' B va l := ⟨ownsRow_below h.1 hb (Nat.le_refl _), fun x hx => ownsRow_below (h.2 x hx) hb (Nat.le_refl _)⟩
theorem AnR.shape {w : World} {B : Nat} {va : Value} {l : List (Ans × Value)} (h : AnR w B va l) : ∃ a c, va = .slice a l.length c := own_shape h.1
set_option maxRecDepth 100000 in
set_option maxHeartbeats 16000000 in
theorem decode_main (b : List Int) (g off cap : Nat) (w : World) (hcell : ∀ i (h : i < b.length), w.cell? ⟨g, off + i, none⟩ = some (.int .u8 b[i])) (hcap : b.length ≤ cap ∧ cap ≤ maxLen) (hg : g < w.heap.size) (hb : Byt b) (h3 : 3 ≤ b.length) (hbig : b.length ≤ 200000) {p : Prg} {e : Int} (hd : decD b = (p, e)) :
    Calls Try.prog 50 #[.slice (some ⟨g, off, none⟩) b.length cap] w fun r w' => ∃ vc vp va, r = .returned (.tuple #[.agg #[vc, vp, va], .int .i64 e]) ∧ PrgAt w' vc vp va p ∧ Below w.heap.size w w' := by
  obtain ⟨e0, he0⟩ : ∃ e0 : Int, e0 = if b.take 3 = [115, 100, 49] then 0 else 4 := ⟨_, rfl⟩
  have hd' : bodyD (b.drop 3) e0 = (p, e) := by
    rw [← hd, he0]
    unfold decD
    rw [if_neg (show ¬ 200000 < b.length by omega), if_neg (show ¬ b.length < 3 by omega)]
  obtain ⟨b1, b2, b3, b4, b5, b6, ps, cs, az, nn, mm, kk, e1, e2, e3, e4, e5, e6, n1, n2, n3, n4, n5, n6, nb, ⟨y1, y2, y3, y4, y5, y6⟩, ⟨l1, l2, l3⟩, oC, oP, oA, f1, f3, f5⟩ := body_parts (b.drop 3) e0 (hb.drop 3)
  obtain ⟨ic, hic, hcz0, hcz1, hcz2⟩ := info_parts info_ins
  obtain ⟨ii, hii, hiz0, hiz1, hiz2⟩ := info_parts info_int
  obtain ⟨ia, hia, haz0, haz1, haz2⟩ := info_parts info_an2
  have hl1 : (nn : Int) ≤ 8000 := by omega
  have hl2 : (mm : Int) ≤ 2000 := by omega
  have hl3 : (kk : Int) ≤ 2000 := by omega
  obtain ⟨hs, d0, d1, g0, g1⟩ := two_new w #[.slice none 0 0, .slice none 0 0, .slice none 0 0] #[.slice (some ⟨g, off, none⟩) b.length cap, .int .i64 0] 58 124
  have bw : Below w.heap.size w ((w.alloc (.cells #[.slice none 0 0, .slice none 0 0, .slice none 0 0] 58)).alloc (.cells #[.slice (some ⟨g, off, none⟩) b.length cap, .int .i64 0] 124)) := ((Below.refl _ _).alloc (Nat.le_refl _) _).alloc (size_le_push_ w _) _
  obtain ⟨W, hW⟩ : ∃ W, W = (w.alloc (.cells #[.slice none 0 0, .slice none 0 0, .slice none 0 0] 58)).alloc (.cells #[.slice (some ⟨g, off, none⟩) b.length cap, .int .i64 0] 124) := ⟨_, rfl⟩
  rw [← hW] at hs d0 d1 g0 g1 bw
  have hRd : RdAt W (w.heap.size + 1) g b 0 := ⟨off, cap, d1 0, hcap.1, hcap.2, d1 1, g1, by omega, fun i hi => (bw.cell (p := ⟨g, off + i, none⟩) hg).trans (hcell i hi)⟩
  have hBx : Bx3 W w.heap.size (.slice none 0 0) (.slice none 0 0) (.slice none 0 0) := ⟨d0 0, d0 1, d0 2, g0⟩
  have HRd := Lib.hid hRd
  have HBx := Lib.hid hBx
  have HW := Lib.hid hW
  have HS := Lib.hid hs
  have BW := Lib.hid bw
  have HG := Lib.hid hg
  obtain ⟨sx, hsx⟩ : ∃ sx, sx = strOfNums (b.take 3) := ⟨_, rfl⟩
  have hcmp : (e0 = 0 ∧ (sx.toList == [115, 100, 49]) = true) ∨ (e0 = 4 ∧ (sx.toList == [115, 100, 49]) = false) := by
    by_cases hp : b.take 3 = [115, 100, 49]
    · left
      rw [if_pos hp] at he0
      exact ⟨he0, by rw [hsx, hp]; decide +kernel⟩
    · right
      rw [if_neg hp] at he0
      refine ⟨he0, ?_⟩
      rw [beq_eq_false_iff_ne, hsx, Lib.strOfNums_toList]
      intro q
      exact hp (nums_inj (fun c hc => hb c (List.mem_of_mem_take hc)) (by intro c hc; simp at hc; omega) (q.trans rfl))
  obtain ⟨pb, hpb⟩ : ∃ pb, (sx.toList == [115, 100, 49]) = pb := ⟨_, rfl⟩
  rw [hpb] at hcmp
  have h3i : (3 : Int) ≤ (b.length : Int) := by omega
  have hbi : (b.length : Int) ≤ 200000 := by omega
  have htk : tkD 3 b 0 = (b.take 3, b.drop 3, 0) := by unfold tkD; rw [if_pos ⟨rfl, h3⟩]
  have hbz : Byt (b.drop 3) := hb.drop 3
  obtain ⟨bz, hbzz⟩ : ∃ bz, bz = b.drop 3 := ⟨_, rfl⟩
  obtain ⟨bt, hbt⟩ : ∃ bt, bt = b.take 3 := ⟨_, rfl⟩
  rw [← hbzz] at n1 nb hd' htk hbz
  rw [← hbt] at htk hsx
  have HSX := Lib.hid hsx
  have N1 := Lib.hid n1
  have N2 := Lib.hid n2
  have N3 := Lib.hid n3
  have N4 := Lib.hid n4
  have N5 := Lib.hid n5
  have N6 := Lib.hid n6
  have NB := Lib.hid (hd'.symm.trans nb)
  have ND := Lib.hid hd'
  have Y0 := Lib.hid hbz
  have Y1 := Lib.hid y1
  have Y2 := Lib.hid y2
  have Y3 := Lib.hid y3
  have Y4 := Lib.hid y4
  have Y5 := Lib.hid y5
  have Y6 := Lib.hid y6
  have OC := Lib.hid oC
  have OP := Lib.hid oP
  have OA := Lib.hid oA
  have F1 := Lib.hid f1
  have F3 := Lib.hid f3
  have F5 := Lib.hid f5
  have TK := Lib.hid htk
  clear n1 n2 n3 n4 n5 n6 nb hd hd' hbz y1 y2 y3 y4 y5 y6 oC oP oA f1 f3 f5 htk hs d0 d1 g0 g1 bw hRd hBx hW hg he0 hbzz hsx hcell hcap hb h3 hbig hbt l1 l2 l3
  go_enter Try.func50, Try.ntmps50
  go_wp2_with fail
  rw [← HW.out]
  refine (rtake (w.heap.size + 1) g 3 b 0 W HRd.out TK.out).mono ?_; rintro r w3 ⟨ad3, cap3, rfl, hcv, _, hr, hgw⟩
  rw [← HSX.out] at hcv
  have T3 : Hid (RdAt w3 (w.heap.size + 1) g bz 0 ∧ Bx3 w3 w.heap.size (.slice none 0 0) (.slice none 0 0) (.slice none 0 0) ∧ Below w.heap.size w w3) := ⟨hr, HBx.out.keep (hgw.block _ HBx.out.lt (fun q => by have := Option.some.inj q; omega)), BW.out.grown hgw (by rw [HS.out]; omega) (fun k q => by have := Option.some.inj q; omega)⟩
  have z3 : w.heap.size + 2 ≤ w3.heap.size := by rw [← HS.out]; exact hgw.size
  clear hr hgw
  go_upto_if 21 with fail
  go_cut [] (fun wx => Hid (RdAt wx (w.heap.size + 1) g bz e0 ∧ Bx3 wx w.heap.size (.slice none 0 0) (.slice none 0 0) (.slice none 0 0) ∧ Below w.heap.size w wx) ∧ w.heap.size + 2 ≤ wx.heap.size)
  case first =>
    rcases hcmp with ⟨rfl, rfl⟩ | ⟨rfl, rfl⟩
    · go_wp2
      go_meet
      exact ⟨T3, z3⟩
    · go_wp2_with fail
      refine (wrong_any (w.heap.size + 1) g bz 0 4 w3 T3.out.1).mono ?_; rintro r w4 ⟨rfl, hr, hgw⟩
      have T4 : Hid (RdAt w4 (w.heap.size + 1) g bz 4 ∧ Bx3 w4 w.heap.size (.slice none 0 0) (.slice none 0 0) (.slice none 0 0) ∧ Below w.heap.size w w4) := ⟨hr, T3.out.2.1.keep (hgw.block _ T3.out.2.1.lt (fun q => by have := Option.some.inj q; omega)), T3.out.2.2.grown hgw (by omega) (fun k q => by have := Option.some.inj q; omega)⟩
      have z4 : w.heap.size + 2 ≤ w4.heap.size := Nat.le_trans z3 hgw.size
      clear hr hgw
      go_wp2
      go_meet
      exact ⟨T4, z4⟩
  case rest =>
    obtain ⟨T, z⟩ := hcut
    have hERR : e2 ≠ 0 → p = noP ∧ e = e2 := fun he => by
      have h := body_err N1.out (by rw [Int.toNat_natCast]; exact N2.out) he
      rw [ND.out] at h
      exact Prod.mk.inj h
    have ERR := Lib.hid hERR
    have S5 : Hid (DcS w g w.heap.size wc.heap.size (wc.alloc (.cells #[.slice none 0 0, .slice none 0 0, .slice none 0 0] 58)) bz e0 (.slice none 0 0) (.slice none 0 0) (.slice none 0 0)) := ⟨T.out.1.keep (heap_nw _ (by omega)) (heap_nw _ (by have := HG.out; omega)), T.out.2.1.keep (heap_nw _ (by omega)), ⟨World.cell?_alloc_at (w := wc) _ _ wc.heap.size 0 rfl, World.cell?_alloc_at (w := wc) _ _ wc.heap.size 1 rfl, World.cell?_alloc_at (w := wc) _ _ wc.heap.size 2 rfl, fun j => World.frozen?_alloc_at (w := wc) _ _ wc.heap.size j rfl⟩, T.out.2.2.alloc (by omega) _, rfl, HG.out, z⟩
    clear hERR hcmp hcv z3 T3
    go_wp2_with fail
    refine (rcount (w.heap.size + 1) g 8000 bz e0 _ S5.out.1 Y0.out N1.out).mono ?_; rintro r w6 ⟨rfl, hr, hgw⟩
    have S6 := Lib.hid (S5.out.call hr hgw)
    clear hr hgw
    go_wp2
    go_loopw [27] (fun i wr => ∃ (k : Nat) (acc : List Ins) (bx : List Int) (ex : Int) (v : Value), i = .int .i64 k ∧ k ≤ nn ∧ acc.length = k ∧ Hid (codD nn [] b1 e1 = codD (nn - k) acc bx ex) ∧ Hid (ex = 0 ∨ nn = 0) ∧ Hid (Byt bx) ∧ Hid (wr.ownsRow (wc.heap.size + 1) 71 2 v acc.length (acc.flatMap encX)) ∧ Hid (DcS w g w.heap.size wc.heap.size wr bx ex v (.slice none 0 0) (.slice none 0 0))) (fun i _ => (nn - intOf i).toNat)
    case atStart => exact ⟨0, [], b1, e1, _, rfl, Nat.zero_le _, rfl, Lib.hid rfl, F1, Y1, Lib.hid (World.ownsRow_nil _ _ _ _), S6⟩
    case round =>
      obtain ⟨k, acc, bx, ex, v, rfl, hk, hal, hcd, hex, hby, hown, hst⟩ := hrel
      obtain ⟨av, cv, rfl⟩ := own_shape hown.out
      obtain ⟨x0, x1, x2, x3, xf, xz, xy⟩ := hst.out.facts
      by_cases hlt : k < nn
      · obtain rfl : ex = 0 := by
          rcases hex.out with h | h
          · exact h
          · omega
        have hstep := hcd.out
        rw [show nn - k = (nn - (k + 1)) + 1 by omega] at hstep
        have HLE : Hid (∀ x : Ins, (acc ++ [x]).length = k + 1) := fun x => by rw [List.length_append, List.length_singleton, hal]
        have hac : acc.length ≤ 8000 := by omega
        have hlti : (k : Int) < (nn : Int) := by omega
        have D0 := Lib.hid (DxS.new (t := 71) hst.out hown.out)
        have hXQ := D0.out.2.2.2.1
        have hxx := hst.out.lt
        clear hal hcd hex
        cases bx with
        | nil =>
          rw [codD_nil] at hstep
          have hend := N2.out.symm.trans hstep
          have he2 : e2 = 5 := congrArg (fun z => z.2.2) hend
          obtain ⟨hp0, he0⟩ := ERR.out (by rw [he2]; decide)
          rw [he2] at he0
          subst hp0 he0
          clear hstep hend he2 x0 x1 x2 x3 xf
          go_wp2_with fail
          refine (rtake (w.heap.size + 1) g 1 [] 0 _ D0.out.1.1 (l := []) (b1 := []) (e1 := 5) (by unfold tkD; rw [if_neg (by simp)]; rfl)).mono ?_; rintro r w7 ⟨a7, c7, rfl, _, _, hr, hgw⟩
          have D7 := Lib.hid (D0.out.call hr hgw)
          clear hr hgw
          obtain ⟨p0, p1, p2, p3, pf, pz, py⟩ := D7.out.1.facts
          obtain ⟨q0, q1, qf, qz⟩ := D7.out.facts
          go_wp2_with (go_at_call 89; refine (bare_lit 0 false _ rfl).mono ?_; rintro e w' ⟨rfl, rfl⟩)
          refine (rnumE (w.heap.size + 1) g [] 5 _ D7.out.1.1 hby.out (numE_err (by decide))).mono ?_; rintro r w8 ⟨rfl, hr, hgw⟩
          have D8 := Lib.hid (D7.out.call hr hgw)
          clear hr hgw p0 p1 p2 p3 pf pz py q0 q1 qf qz
          obtain ⟨p0, p1, p2, p3, pf, pz, py⟩ := D8.out.1.facts
          obtain ⟨q0, q1, qf, qz⟩ := D8.out.facts
          have DE := Lib.hid (D8.out.put (D8.out.2.1.set (.int .i64 0)).2).1
          have pe := DE.out.facts.1
          obtain ⟨r0, r1, r2, rf, rz⟩ := DE.out.res
          go_wp2
          go_region
          all_goals
            go_wp2
            refine bodyPost_ret (v := .tuple #[.agg #[.slice none 0 0, .slice none 0 0, .slice none 0 0], .int .i64 5]) (by simp [results, Try.results50, go_sem, r0, r1, r2]) rfl ⟨_, _, _, rfl, noP_at _, ?_⟩
            first
              | exact (((DE.out.2.2.2.1.setCell (Nat.le_refl _) _).setCell (Nat.le_refl _) _).setCell (Nat.le_refl _) _).drew
              | exact ((DE.out.2.2.2.1.drew.setCell (Nat.le_refl _) _).setCell (Nat.le_refl _) _).setCell (Nat.le_refl _) _
        | cons c t =>
          have hct := hby.out c List.mem_cons_self
          obtain ⟨hc1, hc2⟩ := hct
          have HBT : Hid (Byt t) := fun x hx => hby.out x (List.mem_cons_of_mem _ hx)
          have HST := Lib.hid hstep
          clear hstep x0 x1 x2 x3 xf
          go_wp2_with fail
          refine (rtake (w.heap.size + 1) g 1 (c :: t) 0 _ D0.out.1.1 (l := [c]) (b1 := t) (e1 := 0) (by unfold tkD; rw [if_pos ⟨rfl, by simp⟩]; rfl)).mono ?_; rintro r w7 ⟨a7, c7, rfl, _, hc7, hr, hgw⟩
          obtain ⟨o7, rfl, hcc⟩ := hc7 0 (by simp)
          have hcc' : w7.cell? ⟨g, o7, none⟩ = some (.int .u8 c) := hcc
          have hgz := cell_lt hcc'
          have D7 := Lib.hid (D0.out.call hr hgw)
          clear hr hgw hcc hc7
          obtain ⟨p0, p1, p2, p3, pf, pz, py⟩ := D7.out.1.facts
          obtain ⟨q0, q1, qf, qz⟩ := D7.out.facts
          have DA := Lib.hid (D7.out.put (D7.out.2.1.set (.int .i64 c)).1)
          go_upto_region 13 with fail
          clear p0 p1 p2 p3 pf q0 q1 qf hcc'
          obtain ⟨wA, hwA⟩ : ∃ wA, wA = w7.setCell ⟨wr.heap.size, 0, none⟩ (.int .i64 c) := ⟨_, rfl⟩
          rw [← hwA] at DA ⊢
          clear hwA D7 pz py qz
          obtain ⟨p0, p1, p2, p3, pf, pz, py⟩ := DA.out.1.facts
          obtain ⟨q0, q1, qf, qz⟩ := DA.out.facts
          rcases (show (c < 1 ∨ (1 ≤ c ∧ 6 < c)) ∨ (1 ≤ c ∧ c ≤ 6) by omega) with hkind | ⟨hk1, hk6⟩
          · have hend := N2.out.symm.trans (HST.out.trans (codD_kind _ acc c t (by omega)))
            have he2 : e2 = 3 := congrArg (fun z => z.2.2) hend
            obtain ⟨hp0, he0⟩ := ERR.out (by rw [he2]; decide)
            rw [he2] at he0
            subst hp0 he0
            have hbar : barB c = false := by unfold barB; rcases hkind with h | h <;> simp <;> omega
            have HBAR := Lib.hid hbar
            clear hend he2 hbar
            rcases hkind with hk1 | ⟨hk1, hk6⟩
            all_goals
              go_wp2_with fail
              refine (wrong_any (w.heap.size + 1) g t 0 3 _ DA.out.1.1).mono ?_; rintro r w8 ⟨rfl, hr, hgw⟩
              have D8 := Lib.hid (DA.out.call hr hgw)
              clear hr hgw p0 p1 p2 p3 pf pz py q0 q1 qf qz
              obtain ⟨q0, q1, qf, qz⟩ := D8.out.facts
              go_wp2_with (go_at_call 89; refine (bare_lit c false _ HBAR.out).mono ?_; rintro e w' ⟨rfl, rfl⟩)
              refine (rnumE (w.heap.size + 1) g t 3 _ D8.out.1.1 HBT.out (numE_err (by decide))).mono ?_; rintro r w9 ⟨rfl, hr, hgw⟩
              have D9 := Lib.hid (D8.out.call hr hgw)
              clear hr hgw q0 q1 qf qz
              obtain ⟨p0, p1, p2, p3, pf, pz, py⟩ := D9.out.1.facts
              obtain ⟨q0, q1, qf, qz⟩ := D9.out.facts
              have DE := Lib.hid (D9.out.put (D9.out.2.1.set (.int .i64 0)).2).1
              have pe := DE.out.facts.1
              obtain ⟨r0, r1, r2, rf, rz⟩ := DE.out.res
              go_wp2
              go_region
              all_goals
                go_wp2
                refine bodyPost_ret (v := .tuple #[.agg #[.slice none 0 0, .slice none 0 0, .slice none 0 0], .int .i64 3]) (by simp [results, Try.results50, go_sem, r0, r1, r2]) rfl ⟨_, _, _, rfl, noP_at _, ?_⟩
                first
                  | exact (((DE.out.2.2.2.1.setCell (Nat.le_refl _) _).setCell (Nat.le_refl _) _).setCell (Nat.le_refl _) _).drew
                  | exact ((DE.out.2.2.2.1.drew.setCell (Nat.le_refl _) _).setCell (Nat.le_refl _) _).setCell (Nat.le_refl _) _
          · cases hbar : barB c with
            | true =>
              have HNX := Lib.hid (HST.out.trans (codD_bare _ acc c t (by omega) hbar))
              have HBAR := Lib.hid hbar
              clear hbar
              go_upto_region 19 with (go_at_call 89; refine (bare_lit c true _ HBAR.out).mono ?_; rintro e w' ⟨rfl, rfl⟩)
              clear p0 p1 p2 p3 pf pz py q0 q1 qf qz
              obtain ⟨p0, p1, p2, p3, pf, pz, py⟩ := DA.out.1.facts
              obtain ⟨q0, q1, qf, qz⟩ := DA.out.facts
              go_wp2_with (at_builtin; refine wpList_append_own _ rfl _ _ 56 rfl (wc.heap.size + 1) 71 ic (.agg #[.int .i64 0, .int .i64 0]) 2 16 Try.underlying56 hic hcz0 hcz1 hcz2 rfl (by decide) _ _ _ rfl (DA.out.2.2.1.alloc _) _ 1 1 (encX ⟨c, 0⟩) rfl rfl (cells_at _ _ _ _ _ rfl rfl) (encX_one _) (by unfold maxLen; omega) (by omega) (by rw [size_alloc]; omega) ?_; intro v' w9 hown' hgrow _; obtain ⟨a9, c9, rfl⟩ := own_shape hown'; have S9 := Lib.hid (DA.out.1.below (row_below DA.out.2.2.1 (by omega) hgrow)); have HO := Lib.hid (own_snocG hown'); obtain ⟨m0, m1, m2, m3, mf, mz, my⟩ := S9.out.facts; clear hown' hgrow)
              have SY := Lib.hid (S9.out.put (S9.out.2.2.1.set (.slice a9 (acc.length + 1) c9)).1)
              have HO2 := Lib.hid (ownsRow_setCell_below (a := ⟨wc.heap.size, 0, none⟩) HO.out (Nat.lt_succ_self _) (.slice a9 (acc.length + 1) c9))
              go_roundw
              case rel => exact ⟨k + 1, acc ++ [⟨c, 0⟩], t, 0, _, by go_num, by omega, HLE.out _, HNX, Lib.hid (.inl rfl), HBT, HO2, SY⟩
              case measure => simp [intOf]; omega
            | false =>
              obtain ⟨n, t2, en, hn⟩ : ∃ n t2 en, numE t 0 = (n, t2, en) := ⟨_, _, _, rfl⟩
              have hst2 := HST.out.trans (codD_num _ acc c t (by omega) hbar)
              rw [hn] at hst2
              have HST2 := Lib.hid hst2
              have HN2 := Lib.hid hn
              have HBT2 : Hid (Byt t2) := by have := numE_byt 0 HBT.out; rw [hn] at this; exact this
              have HBAR := Lib.hid hbar
              clear hbar hst2 hn
              go_wp2_with (go_at_call 89; refine (bare_lit c false _ HBAR.out).mono ?_; rintro e w' ⟨rfl, rfl⟩)
              refine (rnumE (w.heap.size + 1) g t 0 _ DA.out.1.1 HBT.out HN2.out).mono ?_; rintro r w8 ⟨rfl, hr, hgw⟩
              have D8 := Lib.hid (DA.out.call hr hgw)
              clear hr hgw p0 p1 p2 p3 pf pz py q0 q1 qf qz
              obtain ⟨p0, p1, p2, p3, pf, pz, py⟩ := D8.out.1.facts
              obtain ⟨q0, q1, qf, qz⟩ := D8.out.facts
              have D9 := Lib.hid (D8.out.put (D8.out.2.1.set (.int .i64 n)).2)
              go_upto_region 17 with fail
              obtain ⟨wB, hwB⟩ : ∃ wB, wB = w8.setCell ⟨wr.heap.size, 1, none⟩ (.int .i64 n) := ⟨_, rfl⟩
              rw [← hwB] at D9 ⊢
              clear hwB D8 p0 p1 p2 p3 pf pz py q0 q1 qf qz
              by_cases hen : en = 0
              · subst hen
                obtain ⟨p0, p1, p2, p3, pf, pz, py⟩ := D9.out.1.facts
                obtain ⟨q0, q1, qf, qz⟩ := D9.out.facts
                go_wp2_with (at_builtin; refine wpList_append_own _ rfl _ _ 56 rfl (wc.heap.size + 1) 71 ic (.agg #[.int .i64 0, .int .i64 0]) 2 16 Try.underlying56 hic hcz0 hcz1 hcz2 rfl (by decide) _ _ _ rfl (D9.out.2.2.1.alloc _) _ 1 1 (encX ⟨c, n⟩) rfl rfl (cells_at _ _ _ _ _ rfl rfl) (encX_one _) (by unfold maxLen; omega) (by omega) (by rw [size_alloc]; omega) ?_; intro v' w9 hown' hgrow _; obtain ⟨a9, c9, rfl⟩ := own_shape hown'; have S9 := Lib.hid (D9.out.1.below (row_below D9.out.2.2.1 (by omega) hgrow)); have HO := Lib.hid (own_snocG hown'); obtain ⟨m0, m1, m2, m3, mf, mz, my⟩ := S9.out.facts; clear hown' hgrow)
                have SY := Lib.hid (S9.out.put (S9.out.2.2.1.set (.slice a9 (acc.length + 1) c9)).1)
                have HO2 := Lib.hid (ownsRow_setCell_below (a := ⟨wc.heap.size, 0, none⟩) HO.out (Nat.lt_succ_self _) (.slice a9 (acc.length + 1) c9))
                go_roundw
                case rel => exact ⟨k + 1, acc ++ [⟨c, n⟩], t2, 0, _, by go_num, by omega, HLE.out _, HST2, Lib.hid (.inl rfl), HBT2, HO2, SY⟩
                case measure => simp [intOf]; omega
              · have hend := N2.out.symm.trans (HST2.out.trans (codD_err _ _ t2 hen))
                have he2 : e2 = en := congrArg (fun z => z.2.2) hend
                obtain ⟨hp0, he0⟩ := ERR.out (by rw [he2]; exact hen)
                rw [he2] at he0
                subst hp0 he0
                have hne : (e != 0) = true := by rw [bne_iff_ne]; exact hen
                have DE := Lib.hid D9.out.1
                have pe := DE.out.facts.1
                have py := DE.out.facts.2.2.2.2.2.2
                clear hend he2 hen
                obtain ⟨r0, r1, r2, rf, rz⟩ := DE.out.res
                go_wp2
                go_region
                all_goals
                  go_wp2
                  refine bodyPost_ret (v := .tuple #[.agg #[.slice none 0 0, .slice none 0 0, .slice none 0 0], .int .i64 e]) (by simp [results, Try.results50, go_sem, r0, r1, r2]) rfl ⟨_, _, _, rfl, noP_at _, ?_⟩
                  first
                    | exact (((DE.out.2.2.2.1.setCell (Nat.le_refl _) _).setCell (Nat.le_refl _) _).setCell (Nat.le_refl _) _).drew
                    | exact ((DE.out.2.2.2.1.drew.setCell (Nat.le_refl _) _).setCell (Nat.le_refl _) _).setCell (Nat.le_refl _) _
      · have hke : k = nn := by omega
        have hend : (cs, b2, e2) = (acc, bx, ex) := by rw [← N2.out, hcd.out, hke, Nat.sub_self]; rfl
        cases hend
        have hge : (nn : Int) ≤ (k : Int) := by omega
        clear hke hlt x0 x1 x2 x3 xf xz xy hcd hex hal
        go_wp2_with fail
        refine (rcount (w.heap.size + 1) g 2000 b2 e2 _ hst.out.1 Y2.out N3.out).mono ?_; rintro r w10 ⟨rfl, hr, hgw⟩
        have S10 := Lib.hid (hst.out.call hr hgw)
        have C10 := Lib.hid (own_grown hown.out hgw (show w.heap.size + 1 < wc.heap.size + 1 by omega))
        clear hr hgw hst hown
        go_wp2
        go_loopw [85] (fun i wx => ∃ (k2 : Nat) (acc : List Int) (bx : List Int) (ex : Int) (v : Value), i = .int .i64 k2 ∧ k2 ≤ mm ∧ acc.length = k2 ∧ Hid (numsD mm [] b3 e3 = numsD (mm - k2) acc bx ex) ∧ Hid (Byt bx) ∧ Hid (wx.ownsRow (wc.heap.size + 1) 71 2 (.slice av cs.length cv) cs.length (cs.flatMap encX)) ∧ Hid (wx.ownsRow (wc.heap.size + 1) 3 1 v acc.length (acc.flatMap encI)) ∧ Hid (DcS w g w.heap.size wc.heap.size wx bx ex (.slice av cs.length cv) v (.slice none 0 0))) (fun i _ => (mm - intOf i).toNat)
        case atStart => exact ⟨0, [], b3, e3, _, rfl, Nat.zero_le _, rfl, Lib.hid rfl, Y3, C10, Lib.hid (World.ownsRow_nil _ _ _ _), S10⟩
        case round =>
          obtain ⟨k2, acc, bx, ex, v, rfl, hk2, hal, hnm, hby2, hco, hown, hst⟩ := hrel
          obtain ⟨ap, cp, rfl⟩ := own_shape hown.out
          obtain ⟨x0, x1, x2, x3, xf, xz, xy⟩ := hst.out.facts
          by_cases hlt : k2 < mm
          · obtain ⟨x, bn, en, hx⟩ : ∃ x bn en, numE bx ex = (x, bn, en) := ⟨_, _, _, rfl⟩
            have HX := Lib.hid hx
            have HBN : Hid (Byt bn) := by have := numE_byt ex hby2.out; rw [hx] at this; exact this
            have hnx : numsD mm [] b3 e3 = numsD (mm - (k2 + 1)) (acc ++ [x]) bn en := by
              rw [hnm.out, show mm - k2 = (mm - (k2 + 1)) + 1 by omega]
              show numsD _ (acc ++ [(numE bx ex).1]) (numE bx ex).2.1 (numE bx ex).2.2 = _
              rw [hx]
            have HNX := Lib.hid hnx
            have hac : acc.length ≤ 2000 := by omega
            have hlti : (k2 : Int) < (mm : Int) := by omega
            have HLE : Hid ((acc ++ [x]).length = k2 + 1) := by show _ = _; rw [List.length_append, List.length_singleton, hal]
            clear hx hnx hal x0 x1 x3
            go_wp2
            go_region_law (first | (refine step_append_lies _ (by rfl) _ _ _ (by rfl) (wc.heap.size + 1) 3 ii (.int .i64 0) 1 8 Try.underlying25 hii hiz0 hiz1 hiz2 rfl (by decide) (.slice ap acc.length cp) acc.length (acc.flatMap encI) (by rfl) (O9.out.alloc _) ⟨w5.heap.size, 0, none⟩ 1 1 (encI x) (by rfl) (by rfl) (cells_at _ _ _ _ _ rfl rfl) (by intro u hu; simp [encI] at hu; subst hu; rfl) (by omega) (by unfold maxLen; omega) (by omega) (by rw [size_alloc]; omega) (w5.heap.size + 1) (size_alloc _ _) ?_; intro gg cap6 w6 hown1 hgrow hat hltg; have SX := Lib.hid (S9.out.below (row_below O9.out (by omega) hgrow)); have CX := Lib.hid (own_beside C9.out O9.out (by decide) hgrow); obtain ⟨_, _, z2, _, zf, zz, _⟩ := SX.out.facts; have HO1 := Lib.hid (own_snocG hown1); clear hown1 hgrow hat) | (go_simp; refine (rnumE (w.heap.size + 1) g bx ex _ hst.out.1.drew hby2.out HX.out).mono ?_; rintro r w5 ⟨rfl, hr5, hg5⟩; have S9 := Lib.hid (hst.out.call hr5 (grown_from hg5)); have O9 := Lib.hid (own_grown hown.out (grown_from hg5) (show w.heap.size + 1 < wc.heap.size + 1 by omega)); have C9 := Lib.hid (own_grown hco.out (grown_from hg5) (show w.heap.size + 1 < wc.heap.size + 1 by omega)); obtain ⟨_, _, y2, _, yf, yz, _⟩ := S9.out.facts; clear hr5 hg5))
            all_goals
              have SY := Lib.hid (SX.out.put (SX.out.2.2.1.set (.slice (some ⟨gg, 0, none⟩) (acc.length + 1) cap6)).2.1)
              have HO2 := Lib.hid (ownsRow_setCell_below (a := ⟨wc.heap.size, 1, none⟩) HO1.out (Nat.lt_succ_self _) (.slice (some ⟨gg, 0, none⟩) (acc.length + 1) cap6))
              have HC2 := Lib.hid (ownsRow_setCell_below (a := ⟨wc.heap.size, 1, none⟩) CX.out (Nat.lt_succ_self _) (.slice (some ⟨gg, 0, none⟩) (acc.length + 1) cap6))
              go_wp2
              go_roundw
              case rel => exact ⟨k2 + 1, acc ++ [x], bn, en, _, by go_num, by omega, HLE.out, HNX, HBN, HC2, HO2, SY⟩
              case measure => simp [intOf]; omega
          · have hke : k2 = mm := by omega
            have hend : (ps, b4, e4) = (acc, bx, ex) := by rw [← N4.out, hnm.out, hke, Nat.sub_self]; rfl
            cases hend
            have hge2 : (mm : Int) ≤ (k2 : Int) := by omega
            clear hke hlt x0 x1 x2 x3 xf xz xy hnm hal
            go_wp2_with fail
            refine (rcount (w.heap.size + 1) g 2000 b4 e4 _ hst.out.1 Y4.out N5.out).mono ?_; rintro r w20 ⟨rfl, hr, hgw⟩
            have S20 := Lib.hid (hst.out.call hr hgw)
            have C20 := Lib.hid (own_grown hco.out hgw (show w.heap.size + 1 < wc.heap.size + 1 by omega))
            have P20 := Lib.hid (own_grown hown.out hgw (show w.heap.size + 1 < wc.heap.size + 1 by omega))
            clear hr hgw hst hown hco
            go_wp2
            go_loopw [97] (fun i wx => ∃ (k3 : Nat) (acc : List (Ans × Value)) (bx : List Int) (ex : Int) (v : Value), i = .int .i64 k3 ∧ k3 ≤ kk ∧ acc.length = k3 ∧ Hid (anssD kk [] b5 e5 = anssD (kk - k3) (acc.map Prod.fst) bx ex) ∧ Hid (Byt bx) ∧ Hid (wx.ownsRow (wc.heap.size + 1) 71 2 (.slice av cs.length cv) cs.length (cs.flatMap encX)) ∧ Hid (wx.ownsRow (wc.heap.size + 1) 3 1 (.slice ap ps.length cp) ps.length (ps.flatMap encI)) ∧ Hid (AnR wx (wc.heap.size + 1) v acc) ∧ Hid (DcS w g w.heap.size wc.heap.size wx bx ex (.slice av cs.length cv) (.slice ap ps.length cp) v)) (fun i _ => (kk - intOf i).toNat)
            case atStart => exact ⟨0, [], b5, e5, _, rfl, Nat.zero_le _, rfl, Lib.hid rfl, Y5, C20, P20, Lib.hid (AnR.nil _ _), S20⟩
            case round =>
              obtain ⟨k3, acc, bx, ex, v, rfl, hk3, hal, han, hby3, hco, hpo, hown, hst⟩ := hrel
              obtain ⟨aa, ca, rfl⟩ := hown.out.shape
              obtain ⟨x0, x1, x2, x3, xf, xz, xy⟩ := hst.out.facts
              by_cases hlt : k3 < kk
              · obtain ⟨x, bn, en, hx⟩ : ∃ x bn en, aD bx ex = (x, bn, en) := ⟨_, _, _, rfl⟩
                have HX := Lib.hid hx
                have HBN : Hid (Byt bn) := by have := (aD_ok bx ex hby3.out).2; rw [hx] at this; exact this
                have hnx : anssD kk [] b5 e5 = anssD (kk - (k3 + 1)) (acc.map Prod.fst ++ [x]) bn en := by
                  rw [han.out, show kk - k3 = (kk - (k3 + 1)) + 1 by omega]
                  show anssD _ (acc.map Prod.fst ++ [(aD bx ex).1]) (aD bx ex).2.1 (aD bx ex).2.2 = _
                  rw [hx]
                have HNX := Lib.hid hnx
                have hac : acc.length ≤ 2000 := by omega
                have hlti : (k3 : Int) < (kk : Int) := by omega
                have HLE : Hid (∀ y : Ans × Value, (acc ++ [y]).length = k3 + 1) := fun y => by rw [List.length_append, List.length_singleton, hal]
                have hgs : g < wr.heap.size := by have := hst.out.2.2.2.2.2.1; omega
                have HGS := Lib.hid hgs
                clear hx hnx hal x0 x1 x2 hgs
                go_wp2
                go_region_law (first | (refine step_append_lies _ (by rfl) _ _ _ (by rfl) (wc.heap.size + 1) 27 ia (.agg #[.int .i64 0, .bool false, .string ⟨#[]⟩, .slice none 0 0, .int .i64 0]) 5 64 Try.underlying32 hia haz0 haz1 haz2 rfl (by decide) (.slice aa acc.length ca) acc.length (acc.flatMap encV) (by rfl) (A9.out.1.alloc _) ⟨w5.heap.size, 0, none⟩ 1 1 (encV (x, Value.slice ao x.offs.length co)) (by rfl) (by rfl) (cells_at _ _ _ _ _ rfl rfl) (encV_one (x, Value.slice ao x.offs.length co) ⟨ao, x.offs.length, co, rfl⟩) (by omega) (by unfold maxLen; omega) (by omega) (by rw [size_alloc]; omega) (w5.heap.size + 1) (size_alloc _ _) ?_; intro gg cap6 w6 hown1 hgrow hat hltg; have SX := Lib.hid (S9.out.below (row_below A9.out.1 (by omega) hgrow)); have CX := Lib.hid (own_beside C9.out A9.out.1 (by decide) hgrow); have PX := Lib.hid (own_beside P9.out A9.out.1 (by decide) hgrow); obtain ⟨_, _, _, z2, zf, zz, _⟩ := SX.out.facts; have HO1 := Lib.hid (A9.out.snoc (y := (x, Value.slice ao x.offs.length co)) O9.out hown1 hgrow); clear hown1 hgrow hat) | (go_simp; refine (ranswer (w.heap.size + 1) g bx ex _ hst.out.1.drew hby3.out xy HGS.out HX.out).mono ?_; rintro r w5 ⟨vo, rfl, ho5, hr5, hg5⟩; obtain ⟨ao, co, rfl⟩ := own_shape ho5; have S9 := Lib.hid (hst.out.call hr5 (grown_from hg5)); have O9 := Lib.hid (ownsRow_base (show wc.heap.size + 1 ≤ wr.heap.size by omega) ho5); have A9 := Lib.hid (hown.out.grown (grown_from hg5) (show w.heap.size + 1 < wc.heap.size + 1 by omega)); have C9 := Lib.hid (own_grown hco.out (grown_from hg5) (show w.heap.size + 1 < wc.heap.size + 1 by omega)); have P9 := Lib.hid (own_grown hpo.out (grown_from hg5) (show w.heap.size + 1 < wc.heap.size + 1 by omega)); obtain ⟨_, _, _, y2, yf, yz, _⟩ := S9.out.facts; clear hr5 hg5 ho5))
                all_goals
                  have SY := Lib.hid (SX.out.put (SX.out.2.2.1.set (.slice (some ⟨gg, 0, none⟩) (acc.length + 1) cap6)).2.2)
                  have HO2 := Lib.hid (HO1.out.set (k := wc.heap.size) (o := 2) (u := .slice (some ⟨gg, 0, none⟩) (acc.length + 1) cap6) (Nat.lt_succ_self _))
                  have HC2 := Lib.hid (ownsRow_setCell_below (a := ⟨wc.heap.size, 2, none⟩) CX.out (Nat.lt_succ_self _) (.slice (some ⟨gg, 0, none⟩) (acc.length + 1) cap6))
                  have HP2 := Lib.hid (ownsRow_setCell_below (a := ⟨wc.heap.size, 2, none⟩) PX.out (Nat.lt_succ_self _) (.slice (some ⟨gg, 0, none⟩) (acc.length + 1) cap6))
                  have HNX2 : Hid (anssD kk [] b5 e5 = anssD (kk - (k3 + 1)) ((acc ++ [(x, Value.slice ao x.offs.length co)]).map Prod.fst) bn en) := by show _ = _; rw [List.map_append]; exact HNX.out
                  go_wp2
                  go_roundw
                  case rel => exact ⟨k3 + 1, acc ++ [(x, Value.slice ao x.offs.length co)], bn, en, _, by go_num, by omega, HLE.out _, HNX2, HBN, HC2, HP2, HO2, SY⟩
                  case measure => simp [intOf]; omega
              · have hke : k3 = kk := by omega
                have hend : (az, b6, e6) = (acc.map Prod.fst, bx, ex) := by rw [← N6.out, han.out, hke, Nat.sub_self]; rfl
                cases hend
                have hge3 : (kk : Int) ≤ (k3 : Int) := by omega
                clear hke hlt x0 x1 x2 x3 xf xz xy han hal
                obtain ⟨⟨off6, cap6, a1, a2, a3, a4, a5, a6, a7⟩, _⟩ := hst.out
                have hzr := cell_lt a4
                have HQR := Lib.hid hst.out.lt
                clear a2 a3 a5 a6 a7
                by_cases he6 : e6 = 0
                · subst he6
                  cases b6 with
                  | nil =>
                    have hnb := NB.out
                    have hed : endD ([] : List Int) 0 = 0 := by unfold endD; rw [if_neg (by simp)]
                    rw [hed] at hnb
                    unfold finD at hnb
                    rw [if_neg (show ¬ ((0 : Int) ≠ 0) by simp)] at hnb
                    clear hed
                    obtain ⟨vx, vy, vz, hv⟩ : ∃ a b c, verE ⟨cs, ps, acc.map Prod.fst⟩ = (a, b, c) := ⟨_, _, _, rfl⟩
                    rw [hv] at hnb
                    dsimp only at hnb
                    have HV := Lib.hid hv
                    have HNB := Lib.hid hnb
                    clear hv hnb
                    obtain ⟨x0, x1, x2, x3, xf, xz, xy⟩ := hst.out.facts
                    go_wp2_with fail
                    refine (verify_any _ _ _ _ wr (prg_rows hco.out hpo.out hown.out OC.out OP.out OA.out) HV.out).mono ?_; rintro r w30 ⟨rfl, hb30⟩
                    have S30 := Lib.hid (hst.out.below (hb30.mono (show wc.heap.size + 1 ≤ wr.heap.size by have := HQR.out; omega)))
                    have C30 := Lib.hid (ownsRow_below hco.out hb30 (Nat.le_refl _))
                    have P30 := Lib.hid (ownsRow_below hpo.out hb30 (Nat.le_refl _))
                    have A30 := Lib.hid (hown.out.below hb30)
                    clear x0 x1 x2 x3 xf xz xy hb30 a1 a4 hzr
                    obtain ⟨r0, r1, r2, rf, rz⟩ := S30.out.res
                    obtain ⟨x0, x1, x2, x3, xf, xz, xy⟩ := S30.out.facts
                    by_cases hvz : vz = 0
                    · subst hvz
                      have hnb := HNB.out
                      rw [if_neg (by simp)] at hnb
                      obtain ⟨rfl, rfl⟩ := Prod.mk.inj hnb
                      clear hnb HNB
                      go_wp2
                      refine bodyPost_ret (v := .tuple #[.agg #[.slice av cs.length cv, .slice ap ps.length cp, .slice aa acc.length ca], .int .i64 0]) (by simp [results, Try.results50, go_sem, rz, r0, r1, r2]) rfl ⟨_, _, _, rfl, prg_rows (B := wc.heap.size + 1) ?_ ?_ ?_ OC.out OP.out OA.out, ?_⟩
                      · exact ownsRow_setCell_below (ownsRow_setCell_below (ownsRow_setCell_below C30.out (by show w.heap.size < _; omega) _) (by show w.heap.size < _; omega) _) (by show w.heap.size < _; omega) _
                      · exact ownsRow_setCell_below (ownsRow_setCell_below (ownsRow_setCell_below P30.out (by show w.heap.size < _; omega) _) (by show w.heap.size < _; omega) _) (by show w.heap.size < _; omega) _
                      · exact ((A30.out.set (by omega)).set (by omega)).set (by omega)
                      · exact ((S30.out.2.2.2.1.setCell (Nat.le_refl _) _).setCell (Nat.le_refl _) _).setCell (Nat.le_refl _) _
                    · have hnb := HNB.out
                      rw [if_pos hvz] at hnb
                      have hvb : (vz != 0) = true := by rw [bne_iff_ne]; exact hvz
                      obtain ⟨hp0, he0⟩ := Prod.mk.inj hnb
                      subst hp0 he0
                      clear hnb HNB hvz
                      go_wp2
                      refine bodyPost_ret (v := .tuple #[.agg #[.slice none 0 0, .slice none 0 0, .slice none 0 0], .int .i64 e]) (by simp [results, Try.results50, go_sem, r0, r1, r2]) rfl ⟨_, _, _, rfl, noP_at _, ?_⟩
                      exact ((S30.out.2.2.2.1.setCell (Nat.le_refl _) _).setCell (Nat.le_refl _) _).setCell (Nat.le_refl _) _
                  | cons c t =>
                    have hnb := NB.out
                    have hed : endD (c :: t) 0 = 4 := by unfold endD; rw [if_pos ⟨rfl, by simp⟩]
                    rw [hed, finD_err (by decide)] at hnb
                    obtain ⟨hp0, he0⟩ := Prod.mk.inj hnb
                    subst hp0 he0
                    have hpos : (0 : Int) < ((c :: t).length : Int) := by rw [List.length_cons]; omega
                    obtain ⟨lb, hlb⟩ : ∃ lb, lb = (c :: t).length := ⟨_, rfl⟩
                    rw [← hlb] at a1 hpos
                    clear hnb hed hlb
                    go_wp2_with fail
                    refine (wrong_any (w.heap.size + 1) g (c :: t) 0 4 _ hst.out.1).mono ?_; rintro r w31 ⟨rfl, hr, hgw⟩
                    have S31 : Hid (DcS w g w.heap.size wc.heap.size w31 (c :: t) 4 (.slice av cs.length cv) (.slice ap ps.length cp) (.slice aa acc.length ca)) := hst.out.call hr hgw
                    have s1 := S31.out.facts.1
                    have s2 := S31.out.facts.2.2.2.2.2.2
                    clear hr hgw a1 a4 hzr
                    obtain ⟨r0, r1, r2, rf, rz⟩ := S31.out.res
                    go_wp2
                    go_region
                    all_goals
                      go_wp2
                      refine bodyPost_ret (v := .tuple #[.agg #[.slice none 0 0, .slice none 0 0, .slice none 0 0], .int .i64 4]) (by simp [results, Try.results50, go_sem, r0, r1, r2]) rfl ⟨_, _, _, rfl, noP_at _, ?_⟩
                      first
                        | exact (((S31.out.2.2.2.1.setCell (Nat.le_refl _) _).setCell (Nat.le_refl _) _).setCell (Nat.le_refl _) _).drew
                        | exact ((S31.out.2.2.2.1.drew.setCell (Nat.le_refl _) _).setCell (Nat.le_refl _) _).setCell (Nat.le_refl _) _
                · have hnb := NB.out
                  rw [endD_err he6, finD_err he6] at hnb
                  obtain ⟨hp0, he0⟩ := Prod.mk.inj hnb
                  have hne : (e6 != 0) = true := by rw [bne_iff_ne]; exact he6
                  have hne2 : (e6 == 0) = false := by rw [beq_eq_false_iff_ne]; exact he6
                  subst hp0 he0
                  clear hnb he6
                  obtain ⟨r0, r1, r2, rf, rz⟩ := hst.out.res
                  go_wp2
                  go_region
                  all_goals
                    go_wp2
                    refine bodyPost_ret (v := .tuple #[.agg #[.slice none 0 0, .slice none 0 0, .slice none 0 0], .int .i64 e]) (by simp [results, Try.results50, go_sem, r0, r1, r2]) rfl ⟨_, _, _, rfl, noP_at _, ?_⟩
                    first
                      | exact (((hst.out.2.2.2.1.setCell (Nat.le_refl _) _).setCell (Nat.le_refl _) _).setCell (Nat.le_refl _) _).drew
                      | exact ((hst.out.2.2.2.1.drew.setCell (Nat.le_refl _) _).setCell (Nat.le_refl _) _).setCell (Nat.le_refl _) _
end Go.Proofs.Ytpnmaopompfalaa
