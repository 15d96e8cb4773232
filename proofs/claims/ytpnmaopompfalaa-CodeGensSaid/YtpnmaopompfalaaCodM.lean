/-
  A run, by the document: RanOf.
-/
import Derived.Test.YtpnmaopompfalaaCodL
import Derived.Test.YtpnmaopompfalaaTreeI
namespace Go.Proofs.Ytpnmaopompfalaa
set_option linter.unusedVariables false
set_option linter.unusedSimpArgs false
open Go.ChangeShapes Go.WideShapes Go.ChangeAt Go.RowKit

theorem row_keep {w wA w1 : World} {B C n : Nat} {e : TypeId} {v : Value} {xs : List Value} (hown : w.ownsRow B e 1 v n xs) (hA : Below C w wA) (hC : C ≤ B) (hBz : B ≤ w.heap.size) (hgrow : wA.grownBy w1 v.ownBlock) : Below C w w1 :=
  hA.trans ((Below.refl C wA).grown hgrow (Nat.le_trans (Nat.le_trans hC hBz) hA.size) (fun g hg => Nat.le_trans hC (hown.lt g hg).1))
set_option maxRecDepth 100000 in
set_option maxHeartbeats 8000000 in
theorem ranOf_ok (p : Prg) (vc vp va : Value) (t : Int) (w : World) (hp : PrgAt w vc vp va p) {x0 y0 : Int} (h : verE p = (x0, y0, 0)) {a : Nat} {k : Int} (ha : a < p.answers.length) (hk : 0 ≤ k ∧ k ≤ 8000) (hR : Rn p t 0 [] 0 a k) :
    Calls Try.prog 44 #[.agg #[vc, vp, va], .int .i64 t] w fun e w' => ∃ v', e = .returned (.tuple #[.agg #[.int .i64 p.answers[a].ck.off, .bool p.answers[a].ck.sav, .string p.answers[a].ck.nm, v', .int .i64 p.answers[a].jump], .int .i64 k, .int .i64 0]) ∧ w'.ownsRow w.heap.size 3 1 v' p.answers[a].offs.length (p.answers[a].offs.flatMap encI) ∧ Below w.heap.size w w' := by
  obtain ⟨hg, _⟩ := ver_zero h
  obtain ⟨g0, g1, g2, g3, g4, g5⟩ := prg_good hg
  have go := ansE_offs (g4 a ha)
  have hr : p.answers[a].offs.length * 8 ≤ 140737488355320 := by omega
  obtain ⟨i0, hi, hz0, hz1, hz2⟩ := info_parts info_int
  obtain ⟨ac, cc, rfl, lc⟩ := hp.1.shape
  obtain ⟨aq, cq, rfl, lq⟩ := hp.2.1.shape
  obtain ⟨aa, ca, rfl, la⟩ := hp.2.2.shape
  have HP := Lib.hid hp
  have HV := Lib.hid h
  have HRN := Lib.hid hR
  have HG := Lib.hid hg
  have hcl : (p.code.length : Int) ≤ 8000 := by omega
  have hpl : (p.pool.length : Int) ≤ 2000 := by omega
  have hal : (p.answers.length : Int) ≤ 2000 := by omega
  generalize hx : p.answers[a] = x at hr ⊢
  have HRr := Lib.hid hr
  have HX := Lib.hid hx
  have E := RvAt.new w (.slice ac p.code.length cc) (.slice aq p.pool.length cq) (.slice aa p.answers.length ca)
  clear hx hp h hR hg hr g0 g1 g2 g3 g4 g5 go lc lq la
  go_enter Try.func44, Try.ntmps44
  go_wp2_with fail
  refine (verifyOf_any p _ _ _ _ (HP.out.mono E.hb) HV.out).mono ?_; rintro e w1 ⟨rfl, hb1⟩
  have E1 := Lib.hid (E.below hb1)
  have HP1 := Lib.hid (HP.out.mono E1.out.hb)
  have hz1' : w.heap.size + 1 < w1.heap.size := E1.out.hz
  clear E hb1
  go_wp2
  go_loopw [10, 11, 12] (fun L i s wr => ∃ (ii : Nat) (l : List Int) (ss : Int), i = .int .i64 ii ∧ s = .int .i64 ss ∧ Hid (Rn p t ii l ss a k) ∧ Hid (wr.ownsRow w1.heap.size 3 1 L l.length (l.flatMap encI)) ∧ Below w1.heap.size w1 wr) (fun _ i _ _ => (p.code.length - intOf i).toNat)
  case atStart => exact ⟨0, [], 0, rfl, rfl, HRN, World.ownsRow_nil _ _ _ _, Below.refl _ _⟩
  case round =>
    obtain ⟨ii, l, ss, rfl, rfl, hRn, hown, hbr⟩ := hrel
    have Er := Lib.hid (E1.out.below hbr)
    have q0 := Er.out.q0
    have hzr : w.heap.size < wr.heap.size := by have := Er.out.hz; omega
    have hsz := hbr.size
    have hbx : ∀ o, Below w1.heap.size w1 (wr.alloc o) := fun o => hbr.alloc hsz o
    have hbw : ∀ o, Below w1.heap.size wr (wr.alloc o) := fun o => (Below.refl _ _).alloc hsz o
    have HBX := Lib.hid hbx
    clear hbx
    rcases hRn.out with ⟨hil, ho, hn, hal', h8, hs⟩ | ⟨hil, ho, h8, hs, hnx⟩ | ⟨hil, ho, hn, hm, h8, hs, hnx⟩ | ⟨hil, ho, h8, hs, hnx⟩ | ⟨hil, ho, hn, h8, hs, hnx⟩ | ⟨hil, ho, hn, h8, hs, hnx⟩
    · have hpre := True.intro
      obtain ⟨b, off, rfl, hbb, ⟨c0, c1⟩, _, _⟩ := elemIns HP1.out.1 ii hil
      have d0 := (hbr.cell (p := ⟨b, off + ii * 2, none⟩) hbb).trans c0
      have d1 := (hbr.cell (p := ⟨b, off + ii * 2 + 1, none⟩) hbb).trans c1
      have hil' : (ii : Int) < (p.code.length : Int) := by omega
      rw [ho] at d0
      rw [hn] at d1
      obtain ⟨b', off', vo, rfl, hbb', ⟨e0, e1, e2, e3, e4⟩, hvo, hnm, _, _⟩ := elemAns HP1.out.2.2 a ha
      rw [HX.out] at e0 e1 e2 e4 hvo hnm
      obtain ⟨ao, co, rfl, lo⟩ := hvo.shape
      have f0 := (hbr.cell (p := ⟨b', off' + a * 5, none⟩) hbb').trans e0
      have f1 := (hbr.cell (p := ⟨b', off' + a * 5 + 1, none⟩) hbb').trans e1
      have f2 := (hbr.cell (p := ⟨b', off' + a * 5 + 2, none⟩) hbb').trans e2
      have f3 := (hbr.cell (p := ⟨b', off' + a * 5 + 3, none⟩) hbb').trans e3
      have f4 := (hbr.cell (p := ⟨b', off' + a * 5 + 4, none⟩) hbb').trans e4
      have q2 := Er.out.q2
      have hbz' : b' < wr.heap.size := by omega
      have hal2 : (a : Int) < (p.answers.length : Int) := by omega
      have HVO := Lib.hid (hvo.mono (HBX.out (.cells #[.int .i64 6, .int .i64 a] 71)) fun _ _ h => h)
      have EX := Lib.hid (Er.out.below ((Below.refl _ _).alloc (Nat.le_refl _) (.cells #[.int .i64 6, .int .i64 a] 71)))
      obtain ⟨hs0, hs1⟩ := hs
      have hs8 : ss ≤ 8000 := by omega
      clear c0 c1 e0 e1 e2 e3 e4 hvo lo hpre
      go_wp2_with fail
      refine (answerCopy_any x _ _ HVO.out HRr.out).mono ?_; rintro e w6 ⟨v', rfl, hown6, hb6⟩
      have E6 := EX.out.below hb6
      obtain ⟨av, cv, rfl⟩ := own_shape hown6
      obtain ⟨_, _, _, R0, R1, R2, R3, R4, F1, HZ, HBW⟩ := E6
      have hgt : w.heap.size + 1 < (wr.alloc (.cells #[.int .i64 6, .int .i64 a] 71)).heap.size := by rw [size_alloc]; omega
      clear hb6
      go_wp2
      refine bodyPost_ret (v := .tuple #[.agg #[.int .i64 x.ck.off, .bool x.ck.sav, .string x.ck.nm, .slice av x.offs.length cv, .int .i64 x.jump], .int .i64 (ss + 1), .int .i64 0]) (by simp [results, Try.results44, go_sem, HZ, R0, R1, R2, R3, R4]) rfl ⟨_, rfl, ?_, five_below HBW (by omega) _ _ _ _ _⟩
      exact ownsRow_base (by omega) (five_own hown6 hgt _ _ _ _ _)
    · obtain ⟨b, off, rfl, hbb, ⟨c0, c1⟩, _, _⟩ := elemIns HP1.out.1 ii hil
      have d0 := (hbr.cell (p := ⟨b, off + ii * 2, none⟩) hbb).trans c0
      have d1 := (hbr.cell (p := ⟨b, off + ii * 2 + 1, none⟩) hbb).trans c1
      have hil' : (ii : Int) < (p.code.length : Int) := by omega
      rw [ho] at d0
      obtain ⟨n, hnn⟩ : ∃ n, n = p.code[ii].n := ⟨_, rfl⟩
      rw [← hnn] at d1
      obtain ⟨av, cv, rfl⟩ := own_shape hown.out
      have HNX := Lib.hid hnx
      have hlt : l.length + 1 ≤ 9 := by omega
      obtain ⟨hs0, hs1⟩ := hs
      clear c0 c1 hnx hnn
      go_wp2_with (at_builtin; refine wpList_append_own _ rfl _ _ 25 rfl w1.heap.size 3 i0 (.int .i64 0) 1 8 Try.underlying25 hi hz0 hz1 hz2 rfl (by decide) _ _ _ rfl ((hown.out.alloc _).alloc _) ⟨wr.heap.size + 1, 0, none⟩ 1 1 (encI t) rfl rfl (cells_at _ _ _ _ _ (size_alloc _ _).symm rfl) (by intro u hu; simp [encI] at hu; subst hu; rfl) (by unfold maxLen; omega) (by omega) (by rw [size_alloc, size_alloc]; omega) ?_; intro v' w2 hown' hgrow _; have HB := row_keep hown.out (below_alloc2 hsz _ _) (Nat.le_refl _) hsz hgrow; have HO := Lib.hid (own_snocG hown'); clear hown' hgrow)
      have HB2 := hbr.trans HB
      clear HB
      go_roundw
      case rel => exact ⟨ii + 1, _, ss + 1, by go_num, by go_num, HNX, HO, HB2⟩
      case measure => simp [intOf]; omega
    · rename_i m
      obtain ⟨b, off, rfl, hbb, ⟨c0, c1⟩, _, _⟩ := elemIns HP1.out.1 ii hil
      have d0 := (hbr.cell (p := ⟨b, off + ii * 2, none⟩) hbb).trans c0
      have d1 := (hbr.cell (p := ⟨b, off + ii * 2 + 1, none⟩) hbb).trans c1
      have hil' : (ii : Int) < (p.code.length : Int) := by omega
      rw [ho] at d0
      rw [hn] at d1
      obtain ⟨b', off', rfl, hbb', c2, _⟩ := elemInt HP1.out.2.1 _ hm
      have d2 := (hbr.cell (p := ⟨b', off' + m, none⟩) hbb').trans c2
      have q1 := Er.out.q1
      have hbz' : b' < wr.heap.size := by omega
      have hml : (m : Int) < (p.pool.length : Int) := by omega
      obtain ⟨x, hx⟩ : ∃ x, x = p.pool[m] := ⟨_, rfl⟩
      rw [← hx] at d2 hnx
      obtain ⟨av, cv, rfl⟩ := own_shape hown.out
      have HNX := Lib.hid hnx
      have hlt : l.length + 1 ≤ 9 := by omega
      obtain ⟨hs0, hs1⟩ := hs
      clear c0 c1 c2 hnx hx
      go_wp2_with (at_builtin; refine wpList_append_own _ rfl _ _ 25 rfl w1.heap.size 3 i0 (.int .i64 0) 1 8 Try.underlying25 hi hz0 hz1 hz2 rfl (by decide) _ _ _ rfl ((hown.out.alloc _).alloc _) ⟨wr.heap.size + 1, 0, none⟩ 1 1 (encI x) rfl rfl (cells_at _ _ _ _ _ (size_alloc _ _).symm rfl) (by intro u hu; simp [encI] at hu; subst hu; rfl) (by unfold maxLen; omega) (by omega) (by rw [size_alloc, size_alloc]; omega) ?_; intro v' w2 hown' hgrow _; have HB := row_keep hown.out (below_alloc2 hsz _ _) (Nat.le_refl _) hsz hgrow; have HO := Lib.hid (own_snocG hown'); clear hown' hgrow)
      have HB2 := hbr.trans HB
      clear HB
      go_roundw
      case rel => exact ⟨ii + 1, _, ss + 1, by go_num, by go_num, HNX, HO, HB2⟩
      case measure => simp [intOf]; omega
    · rename_i l' x y
      obtain ⟨b, off, rfl, hbb, ⟨c0, c1⟩, _, _⟩ := elemIns HP1.out.1 ii hil
      have d0 := (hbr.cell (p := ⟨b, off + ii * 2, none⟩) hbb).trans c0
      have d1 := (hbr.cell (p := ⟨b, off + ii * 2 + 1, none⟩) hbb).trans c1
      have hil' : (ii : Int) < (p.code.length : Int) := by omega
      rw [ho] at d0
      obtain ⟨n, hnn⟩ : ∃ n, n = p.code[ii].n := ⟨_, rfl⟩
      rw [← hnn] at d1
      obtain ⟨av, cv, rfl⟩ := own_shape hown.out
      have hlen : (l' ++ [x, y]).length = l'.length + 2 := by simp
      obtain ⟨g, rfl, hgB, hgs, hgc⟩ := own_some hown.out (by rw [hlen]; omega)
      have e0 := own_intAt hown.out l'.length (by rw [hlen]; omega)
      have e1 := own_intAt hown.out (l'.length + 1) (by rw [hlen]; omega)
      rw [show (l' ++ [x, y])[l'.length]'(by rw [hlen]; omega) = x from by simp] at e0
      rw [show (l' ++ [x, y])[l'.length + 1]'(by rw [hlen]; omega) = y from by simp] at e1
      have hpre : wr.ownsRow w1.heap.size 3 1 (.slice (some ⟨g, 0, none⟩) l'.length cv) l'.length (l'.flatMap encI) := by
        have h1 := hown.out
        rw [List.flatMap_append, hlen] at h1
        exact own_pre h1 (flatI_len l') (by omega)
      have HPRE := Lib.hid hpre
      rw [hlen] at hgc h8 ⊢
      have HNX := Lib.hid hnx
      have hlt : l'.length + 1 ≤ 9 := by omega
      have hcv : (l'.length : Int) ≤ (cv : Int) := by omega
      obtain ⟨hs0, hs1⟩ := hs
      clear c0 c1 hnx hnn hpre hlen
      rcases (show x < y ∨ y ≤ x by omega) with hxy | hxy
      · have HN2 : Hid (Rn p t (ii + 1) (l' ++ [1]) (ss + 1) a k) := by have := HNX.out; rw [if_pos hxy] at this; exact this
        go_wp2
        go_quiet (fail)
        go_wp2_with (at_builtin; refine wpList_append_own _ rfl _ _ 25 rfl w1.heap.size 3 i0 (.int .i64 0) 1 8 Try.underlying25 hi hz0 hz1 hz2 rfl (by decide) _ _ _ rfl ((World.ownsRow.drewN (HPRE.out.alloc _) nq).alloc _) ⟨wr.heap.size + 1, 0, none⟩ 1 1 (encI 1) rfl rfl (cells_at _ _ _ _ _ (size_alloc wr _).symm rfl) (by intro u hu; simp [encI] at hu; subst hu; rfl) (by unfold maxLen; omega) (by omega) (by rw [size_alloc]; show w1.heap.size ≤ (wr.alloc _).heap.size + 1; rw [size_alloc]; omega) ?_; intro v' w2 hown' hgrow _; have HB := row_keep HPRE.out ((below_draws (hbw _) nq).alloc (Nat.le_trans hsz (size_le_push_ wr _)) _) (Nat.le_refl _) hsz hgrow; have HO := Lib.hid (own_snocG hown'); clear hown' hgrow)
        have HB2 := hbr.trans HB
        clear HB
        go_roundw
        case rel => exact ⟨ii + 1, _, ss + 1, by go_num, by go_num, HN2, HO, HB2⟩
        case measure => simp [intOf]; omega
      · have HN2 : Hid (Rn p t (ii + 1) (l' ++ [0]) (ss + 1) a k) := by have := HNX.out; rw [if_neg (by omega)] at this; exact this
        go_wp2
        go_quiet (fail)
        go_wp2_with (at_builtin; refine wpList_append_own _ rfl _ _ 25 rfl w1.heap.size 3 i0 (.int .i64 0) 1 8 Try.underlying25 hi hz0 hz1 hz2 rfl (by decide) _ _ _ rfl ((World.ownsRow.drewN (HPRE.out.alloc _) nq).alloc _) ⟨wr.heap.size + 1, 0, none⟩ 1 1 (encI 0) rfl rfl (cells_at _ _ _ _ _ (size_alloc wr _).symm rfl) (by intro u hu; simp [encI] at hu; subst hu; rfl) (by unfold maxLen; omega) (by omega) (by rw [size_alloc]; show w1.heap.size ≤ (wr.alloc _).heap.size + 1; rw [size_alloc]; omega) ?_; intro v' w2 hown' hgrow _; have HB := row_keep HPRE.out ((below_draws (hbw _) nq).alloc (Nat.le_trans hsz (size_le_push_ wr _)) _) (Nat.le_refl _) hsz hgrow; have HO := Lib.hid (own_snocG hown'); clear hown' hgrow)
        have HB2 := hbr.trans HB
        clear HB
        go_roundw
        case rel => exact ⟨ii + 1, _, ss + 1, by go_num, by go_num, HN2, HO, HB2⟩
        case measure => simp [intOf]; omega
    · rename_i l' x m
      obtain ⟨b, off, rfl, hbb, ⟨c0, c1⟩, _, _⟩ := elemIns HP1.out.1 ii hil
      have d0 := (hbr.cell (p := ⟨b, off + ii * 2, none⟩) hbb).trans c0
      have d1 := (hbr.cell (p := ⟨b, off + ii * 2 + 1, none⟩) hbb).trans c1
      have hil' : (ii : Int) < (p.code.length : Int) := by omega
      rw [ho] at d0
      rw [hn] at d1
      obtain ⟨av, cv, rfl⟩ := own_shape hown.out
      have hlen : (l' ++ [x]).length = l'.length + 1 := by simp
      obtain ⟨g, rfl, hgB, hgs, hgc⟩ := own_some hown.out (by rw [hlen]; omega)
      have e0 := own_intAt hown.out l'.length (by rw [hlen]; omega)
      rw [show (l' ++ [x])[l'.length]'(by rw [hlen]; omega) = x from by simp] at e0
      have hpre : wr.ownsRow w1.heap.size 3 1 (.slice (some ⟨g, 0, none⟩) l'.length cv) l'.length (l'.flatMap encI) := by
        have h1 := hown.out
        rw [List.flatMap_append, hlen] at h1
        exact own_pre h1 (flatI_len l') (by omega)
      have HPRE : Hid ((wr.alloc (.cells #[.int .i64 4, .int .i64 m] 71)).ownsRow w1.heap.size 3 1 (.slice (some ⟨g, 0, none⟩) l'.length cv) l'.length (l'.flatMap encI)) := hpre.alloc _
      have HB2 := HBX.out (.cells #[.int .i64 4, .int .i64 m] 71)
      rw [hlen] at hgc h8 ⊢
      have hcv : (l'.length : Int) ≤ (cv : Int) := by omega
      have h8' : (l'.length : Int) ≤ 8 := by omega
      have hn8 := (ins_n8 HG.out hil).2
      rw [hn] at hn8
      obtain ⟨hs0, hs1⟩ := hs
      clear c0 c1 hpre hlen
      by_cases hx : x = 0
      · have hxb : (x == 0) = true := by rw [beq_iff_eq]; exact hx
        have HN2 : Hid (Rn p t (ii + 1 + m) l' (ss + 1) a k) := by have := hnx; rw [if_pos hx] at this; exact this
        clear hnx hx
        go_wp2
        go_roundw
        case rel => exact ⟨ii + 1 + m, _, ss + 1, by go_num, by go_num, HN2, HPRE, HB2⟩
        case measure => simp [intOf]; omega
      · have hxb : (x == 0) = false := by rw [beq_eq_false_iff_ne]; exact hx
        have HN2 : Hid (Rn p t (ii + 1) l' (ss + 1) a k) := by have := hnx; rw [if_neg hx] at this; exact this
        clear hnx hx
        go_wp2
        go_roundw
        case rel => exact ⟨ii + 1, _, ss + 1, by go_num, by go_num, HN2, HPRE, HB2⟩
        case measure => simp [intOf]; omega
    · rename_i m
      obtain ⟨b, off, rfl, hbb, ⟨c0, c1⟩, _, _⟩ := elemIns HP1.out.1 ii hil
      have d0 := (hbr.cell (p := ⟨b, off + ii * 2, none⟩) hbb).trans c0
      have d1 := (hbr.cell (p := ⟨b, off + ii * 2 + 1, none⟩) hbb).trans c1
      have hil' : (ii : Int) < (p.code.length : Int) := by omega
      rw [ho] at d0
      rw [hn] at d1
      have HOW : Hid ((wr.alloc (.cells #[.int .i64 5, .int .i64 m] 71)).ownsRow w1.heap.size 3 1 u10 l.length (l.flatMap encI)) := hown.out.alloc _
      have HB2 := HBX.out (.cells #[.int .i64 5, .int .i64 m] 71)
      have HNX := Lib.hid hnx
      have hn8 := (ins_n8 HG.out hil).2
      rw [hn] at hn8
      obtain ⟨hs0, hs1⟩ := hs
      clear c0 c1 hnx
      go_wp2
      go_roundw
      case rel => exact ⟨ii + 1 + m, _, ss + 1, by go_num, by go_num, HNX, HOW, HB2⟩
      case measure => simp [intOf]; omega
end Go.Proofs.Ytpnmaopompfalaa
