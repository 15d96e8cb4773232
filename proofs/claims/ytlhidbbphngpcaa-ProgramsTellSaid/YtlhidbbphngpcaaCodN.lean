/-
  A run: code.Run.
-/
import Derived.Test.YtlhidbbphngpcaaCodL
import Derived.Deep.AppendLies
import Derived.Deep.RegionLaw
namespace Go.Proofs.Ytlhidbbphngpcaa
set_option linter.unusedVariables false
set_option linter.unusedSimpArgs false
open Go.ChangeShapes Go.WideShapes Go.ChangeAt Go.RowKit

theorem mid_keep {wr Wb w1 : World} {o : Obj} {B n sz : Nat} {e : TypeId} {v : Value} {l : List Value} (hon : wr.ownsRow B e sz v n l) (honb : Wb.ownsRow B e sz v n l) (hB : B ≤ wr.heap.size) (hsb : Wb.heap.size = wr.heap.size + 1)
    (hg : ((Wb.alloc o).drew).grownBy w1 v.ownBlock) : (∀ j, w1.cell? ⟨wr.heap.size, j, none⟩ = Wb.cell? ⟨wr.heap.size, j, none⟩) ∧ Below B Wb w1 := by
  have hs := size_alloc Wb o
  have hB2 : Below B Wb ((Wb.alloc o).drew) := ((Below.refl B Wb).alloc (by omega) _).drew
  refine ⟨fun j => ?_, append_keep honb hB2 (by omega) hg⟩
  have hne : some wr.heap.size ≠ v.ownBlock := by
    intro e
    have := (hon.lt wr.heap.size e.symm).2
    omega
  rw [grown_cell hg (by show wr.heap.size < (Wb.alloc o).heap.size; omega) hne]
  exact ((Below.refl Wb.heap.size _).alloc (Nat.le_refl _) _).cell (p := ⟨wr.heap.size, j, none⟩) (by rw [hsb]; exact Nat.lt_succ_self _)
theorem stk_set {w1 : World} {O n : Nat} {u v : Value} {l : List Int} (hc : w1.cell? ⟨O, 0, none⟩ = some u) (hf : w1.frozen? ⟨O, 0, none⟩ = false) (hn : n = l.length) (ho : w1.ownsRow (O + 1) 3 1 v n (l.flatMap encI)) : StkAt (w1.setCell ⟨O, 0, none⟩ v) O (O + 1) l := by
  subst hn
  exact ⟨v, World.cell?_setCell_same (h := hc) .., by rw [World.frozen?_setCell]; exact hf, ownsRow_setCell_below ho (Nat.lt_succ_self _) _⟩
theorem StkAt.alloc {w : World} {O B : Nat} {l : List Int} (h : StkAt w O B l) (hO : O < w.heap.size) (o : Obj) : StkAt (w.alloc o) O B l := by
  obtain ⟨v, h1, h2, h3⟩ := h
  have hb := (Below.refl w.heap.size w).alloc (Nat.le_refl _) o
  exact ⟨v, (hb.cell (p := ⟨O, 0, none⟩) hO).trans h1, (hb.frozen (p := ⟨O, 0, none⟩) hO).trans h2, h3.alloc _⟩
set_option maxRecDepth 100000 in
set_option maxHeartbeats 8000000 in
theorem run_ok (p : Prg) (vc vp va : Value) (t : Int) (w : World) (hp : PrgAt w vc vp va p) {x0 y0 : Int} (h : verE p = (x0, y0, 0)) {a : Nat} {k : Int} (ha : a < p.answers.length) (hk : 0 ≤ k ∧ k ≤ 8000) (hR : Rn p t 0 [] 0 a k) :
    Calls Try.prog 31 #[.agg #[vc, vp, va], .int .i64 t] w fun e w' => ∃ v', e = .returned (.tuple #[.agg #[.int .i64 p.answers[a].ck.off, .bool p.answers[a].ck.sav, .string p.answers[a].ck.nm, v', .int .i64 p.answers[a].jump], .int .i64 k, .int .i64 0]) ∧ w'.ownsRow w.heap.size 3 1 v' p.answers[a].offs.length (p.answers[a].offs.flatMap encI) ∧ Below w.heap.size w w' := by
  obtain ⟨hg, _⟩ := ver_zero h
  obtain ⟨g0, g1, g2, g3, g4, g5⟩ := prg_good hg
  have go := ansE_offs (g4 a ha)
  have hr : p.answers[a].offs.length * 8 ≤ 140737488355320 := by omega
  obtain ⟨i0, hi, hz0, hz1, hz2⟩ := info_parts info_int
  obtain ⟨ac, cc, rfl, lc⟩ := hp.1.shape
  obtain ⟨aq, cq, rfl, lq⟩ := hp.2.1.shape
  obtain ⟨aa, ca, rfl, la⟩ := hp.2.2.shape
  have HP := Lib.hid hp
  have HV := Lib.hid h
  have HRN := Lib.hid hR
  have HG := Lib.hid hg
  have hcl : (p.code.length : Int) ≤ 8000 := by omega
  have hpl : (p.pool.length : Int) ≤ 2000 := by omega
  have hal : (p.answers.length : Int) ≤ 2000 := by omega
  generalize hx : p.answers[a] = x at hr ⊢
  have HRr := Lib.hid hr
  have HX := Lib.hid hx
  have E := RvAt.new w (.slice ac p.code.length cc) (.slice aq p.pool.length cq) (.slice aa p.answers.length ca)
  clear hx hp h hR hg hr g0 g1 g2 g3 g4 g5 go lc lq la
  go_enter Try.func31, Try.ntmps31
  go_wp2_with fail
  refine (verify_any p _ _ _ _ (HP.out.mono E.hb) HV.out).mono ?_; rintro e w1 ⟨rfl, hb1⟩
  have E1 := Lib.hid (E.below hb1)
  have HP1 := Lib.hid (HP.out.mono E1.out.hb)
  have hz1' : w.heap.size + 1 < w1.heap.size := E1.out.hz
  have hs1 := size_alloc w1 (.cells #[.slice none 0 0] 34)
  have HS0 : Hid (StkAt (w1.alloc (.cells #[.slice none 0 0] 34)) w1.heap.size (w1.heap.size + 1) []) := ⟨.slice none 0 0, World.cell?_alloc_at (w := w1) _ _ w1.heap.size 0 rfl, World.frozen?_alloc_at (w := w1) _ _ w1.heap.size 0 rfl, World.ownsRow_nil _ _ _ _⟩
  have hB0 : Below w1.heap.size w1 (w1.alloc (.cells #[.slice none 0 0] 34)) := (Below.refl _ _).alloc (Nat.le_refl _) _
  have hS1 : w1.heap.size + 1 ≤ (w1.alloc (.cells #[.slice none 0 0] 34)).heap.size := by omega
  clear E hb1 hs1
  go_wp2
  obtain ⟨O, hO⟩ : ∃ O, O = w1.heap.size := ⟨_, rfl⟩
  rw [← hO] at HS0 hB0 hS1 hz1' ⊢
  have HO1 := Lib.hid hO
  clear hO
  go_loopw [12, 13] (fun i s wr => ∃ (ii : Nat) (l : List Int) (ss : Int), i = .int .i64 ii ∧ s = .int .i64 (ss + 1) ∧ Hid (Rn p t ii l ss a k) ∧ Hid (StkAt wr O (O + 1) l) ∧ Below O w1 wr ∧ O + 1 ≤ wr.heap.size) (fun i _ _ => (p.code.length - intOf i).toNat)
  case atStart => exact ⟨0, [], 0, rfl, rfl, HRN, HS0, hB0, hS1⟩
  case round =>
    obtain ⟨ii, l, ss, rfl, rfl, hRn, hst, hbr, hsz⟩ := hrel
    have Er := Lib.hid (E1.out.up hz1' hbr)
    have q0 := Er.out.q0
    have hzr : w.heap.size < wr.heap.size := by have := Er.out.hz; omega
    have hOr : O < wr.heap.size := by omega
    have hOw : O ≤ w1.heap.size := Nat.le_of_eq HO1.out
    have hOw' : w1.heap.size ≤ O := Nat.le_of_eq HO1.out.symm
    have hbx : ∀ o, Below O w1 (wr.alloc o) := fun o => hbr.alloc (Nat.le_of_lt hOr) o
    have HBX := Lib.hid hbx
    have hsx : ∀ o, (wr.alloc o).heap.size = wr.heap.size + 1 := fun o => size_alloc _ _
    have HSX := Lib.hid hsx
    clear hbx hsx
    rcases hRn.out with ⟨hil, ho, hn, hal', h8, hs⟩ | ⟨hil, ho, h8, hs, hnx⟩ | ⟨hil, ho, hn, hm, h8, hs, hnx⟩ | ⟨hil, ho, h8, hs, hnx⟩ | ⟨hil, ho, hn, h8, hs, hnx⟩ | ⟨hil, ho, hn, h8, hs, hnx⟩
    all_goals
      obtain ⟨b, off, rfl, hbb, ⟨c0, c1⟩, j1, j2⟩ := elemIns HP1.out.1 ii hil
      have d0 := (hbr.cell (p := ⟨b, off + ii * 2, none⟩) (by show b < O; omega)).trans c0
      have d1 := (hbr.cell (p := ⟨b, off + ii * 2 + 1, none⟩) (by show b < O; omega)).trans c1
      have hil' : (ii : Int) < (p.code.length : Int) := by omega
      rw [ho] at d0
      obtain ⟨hs0, hs1⟩ := hs
      clear c0 c1 j1 j2
    · rw [hn] at d1
      obtain ⟨b', off', vo, rfl, hbb', ⟨e0, e1, e2, e3, e4⟩, hvo, hnm, _, _⟩ := elemAns HP1.out.2.2 a ha
      rw [HX.out] at e0 e1 e2 e4 hvo hnm
      obtain ⟨ao, co, rfl, lo⟩ := hvo.shape
      have f0 := (hbr.cell (p := ⟨b', off' + a * 5, none⟩) (by show b' < O; omega)).trans e0
      have f1 := (hbr.cell (p := ⟨b', off' + a * 5 + 1, none⟩) (by show b' < O; omega)).trans e1
      have f2 := (hbr.cell (p := ⟨b', off' + a * 5 + 2, none⟩) (by show b' < O; omega)).trans e2
      have f3 := (hbr.cell (p := ⟨b', off' + a * 5 + 3, none⟩) (by show b' < O; omega)).trans e3
      have f4 := (hbr.cell (p := ⟨b', off' + a * 5 + 4, none⟩) (by show b' < O; omega)).trans e4
      have q2 := Er.out.q2
      have hbz' : b' < wr.heap.size := by omega
      have hal2 : (a : Int) < (p.answers.length : Int) := by omega
      have hs8 : ss ≤ 8000 := by omega
      have HVO := Lib.hid (hvo.mono (((HBX.out (.cells #[.int .i64 6, .int .i64 a] 102)).alloc (by rw [HSX.out]; omega) (.cells #[.int .i64 x.ck.off, .bool x.ck.sav, .string x.ck.nm, .slice ao x.offs.length co, .int .i64 x.jump] 39)).mono hOw') fun _ _ h => h)
      obtain ⟨hs2, _, b1, _, g1⟩ := two_new wr #[.int .i64 6, .int .i64 a] #[.int .i64 x.ck.off, .bool x.ck.sav, .string x.ck.nm, .slice ao x.offs.length co, .int .i64 x.jump] 102 39
      have HB1 := Lib.hid b1
      have HG1 := Lib.hid g1
      have HS2 := Lib.hid hs2
      have hrr := HRr.out
      clear e0 e1 e2 e3 e4 lo hvo b1 g1 hs2
      go_wp2_with fail
      refine (cloneInts_any _ x.offs _ HVO.out (by omega)).mono ?_; rintro e w6 ⟨v', rfl, hown6, hb6⟩
      have hlt2 : wr.heap.size + 1 < ((wr.alloc (.cells #[.int .i64 6, .int .i64 a] 102)).alloc (.cells #[.int .i64 x.ck.off, .bool x.ck.sav, .string x.ck.nm, .slice ao x.offs.length co, .int .i64 x.jump] 39)).heap.size := by rw [HS2.out]; omega
      have k : ∀ j, w6.cell? ⟨wr.heap.size + 1, j, none⟩ = _ := fun j => (hb6.cell (p := ⟨wr.heap.size + 1, j, none⟩) hlt2).trans (HB1.out j)
      have k0 := k 0
      have k1 := k 1
      have k2 := k 2
      have k3 := k 3
      have k4 := k 4
      have kf : ∀ j, w6.frozen? ⟨wr.heap.size + 1, j, none⟩ = false := fun j => (hb6.frozen (p := ⟨wr.heap.size + 1, j, none⟩) hlt2).trans (HG1.out j)
      have kz : wr.heap.size + 1 < w6.heap.size := Nat.lt_of_lt_of_le hlt2 hb6.size
      have hB6 : Below wr.heap.size wr w6 := (below_alloc2 (Nat.le_refl _) _ _).trans (hb6.mono (by rw [HS2.out]; omega))
      have E6 := Er.out.below hB6
      obtain ⟨av, cv, rfl⟩ := own_shape hown6
      obtain ⟨_, _, _, R0, R1, R2, R3, R4, F1, HZ, HBW⟩ := E6
      rw [HS2.out] at hown6
      have HOW := Lib.hid hown6
      have hne1 : ¬ wr.heap.size + 1 = w.heap.size + 1 := by omega
      have hne2 : ¬ w.heap.size + 1 = wr.heap.size + 1 := by omega
      have hne3 : ¬ wr.heap.size = w.heap.size := by omega
      have hne4 : ¬ w.heap.size = wr.heap.size := by omega
      clear k hb6 hB6 hown6 hrr hlt2
      go_wp2
      refine bodyPost_ret (v := .tuple #[.agg #[.int .i64 x.ck.off, .bool x.ck.sav, .string x.ck.nm, .slice av x.offs.length cv, .int .i64 x.jump], .int .i64 (ss + 1), .int .i64 0]) (by simp [results, Try.results31, go_sem, HZ, R0, R1, R2, R3, R4, hne1, hne2, hne3, hne4]) rfl ⟨_, rfl, ?_, five_below (HBW.setCell (p := ⟨wr.heap.size + 1, 3, none⟩) (by show w.heap.size ≤ wr.heap.size + 1; omega) _) (by omega) _ _ _ _ _⟩
      exact ownsRow_base (by omega) (five_own (ownsRow_setCell_below (a := ⟨wr.heap.size + 1, 3, none⟩) HOW.out (by show wr.heap.size + 1 < wr.heap.size + 2; omega) _) (by omega) _ _ _ _ _)
    · obtain ⟨n, hnn⟩ : ∃ n, n = p.code[ii].n := ⟨_, rfl⟩
      rw [← hnn] at d1
      obtain ⟨v, g0, g1, hown⟩ := hst.out
      obtain ⟨av, cv, rfl⟩ := own_shape hown
      have HNX := Lib.hid hnx
      have hlt : l.length + 1 ≤ 9 := by omega
      have HOWN := Lib.hid hown
      have HG0 := Lib.hid g0
      have HG1 := Lib.hid g1
      clear hnx hnn hown
      go_wp2_with (at_builtin; refine wpList_append_own _ rfl _ _ 34 rfl (O + 1) 3 i0 (.int .i64 0) 1 8 Try.underlying34 hi hz0 hz1 hz2 rfl (by decide) _ _ _ rfl ((HOWN.out.alloc _).alloc _) ⟨wr.heap.size + 1, 0, none⟩ 1 1 (encI t) rfl rfl (cells_at _ _ _ _ _ (size_alloc _ _).symm rfl) (by intro u hu; simp [encI] at hu; subst hu; rfl) (by unfold maxLen; omega) (by omega) (by rw [size_alloc, size_alloc]; omega) ?_; intro v' w2 hown' hgrow _; obtain ⟨a2, c2, rfl⟩ := own_shape hown'; have HB := append_keep HOWN.out (below_alloc2 hsz _ _) hsz hgrow; obtain ⟨y0, y1, y2⟩ := cell_keep HB hsz (Nat.lt_succ_self _) HG0.out HG1.out; have HO := Lib.hid (own_snocG hown'); have HY0 := Lib.hid y0; have HY1 := Lib.hid y1; clear hown' hgrow)
      go_roundw
      case rel => exact ⟨ii + 1, _, ss + 1, by go_num, by go_num, HNX, stk_set HY0.out HY1.out rfl HO.out, (hbr.trans (HB.mono (Nat.le_succ _))).setCell (Nat.le_refl _) _, by rw [World.size_setCell]; have := HB.size; omega⟩
      case measure => simp [intOf]; omega
    · rename_i m
      rw [hn] at d1
      obtain ⟨b', off', rfl, hbb', e2, _⟩ := elemInt HP1.out.2.1 _ hm
      have d2 := (hbr.cell (p := ⟨b', off' + m, none⟩) (by show b' < O; omega)).trans e2
      have qq := Er.out.q1
      have hbz' : b' < wr.heap.size := by omega
      have hml : (m : Int) < (p.pool.length : Int) := by omega
      obtain ⟨z, hzz⟩ : ∃ z, z = p.pool[m] := ⟨_, rfl⟩
      rw [← hzz] at d2 hnx
      obtain ⟨v, g0, g1, hown⟩ := hst.out
      obtain ⟨av, cv, rfl⟩ := own_shape hown
      have HNX := Lib.hid hnx
      have hlt : l.length + 1 ≤ 9 := by omega
      have hbB : Below wr.heap.size wr (wr.alloc (.cells #[.int .i64 2, .int .i64 m] 102)) := (Below.refl _ _).alloc (Nat.le_refl _) _
      have bx : (wr.alloc (.cells #[.int .i64 2, .int .i64 m] 102)).cell? ⟨wr.heap.size, 1, none⟩ = some (.int .i64 m) := World.cell?_alloc_at (w := wr) _ _ wr.heap.size 1 rfl
      have hsx := HSX.out (.cells #[.int .i64 2, .int .i64 m] 102)
      have HON := Lib.hid hown
      have HON1 := Lib.hid (hown.alloc (.cells #[.int .i64 2, .int .i64 m] 102))
      clear hnx hown e2 hzz
      go_wp2
      generalize wr.alloc (.cells #[.int .i64 2, .int .i64 m] 102) = Wb at *
      have p0 := (hbB.cell (p := ⟨O, 0, none⟩) hOr).trans g0
      have p1 := (hbB.frozen (p := ⟨O, 0, none⟩) hOr).trans g1
      have p2 := (hbB.cell (p := ⟨w.heap.size, 1, none⟩) hzr).trans qq
      have p3 := (hbB.cell (p := ⟨b', off' + m, none⟩) hbz').trans d2
      have hzO : O < Wb.heap.size := by omega
      have HSB := Lib.hid hsx
      have hn1 : ¬ w.heap.size = O := by omega
      have hn2 : ¬ wr.heap.size = O := by omega
      have hn3 : ¬ b' = O := by omega
      have hn4 : ¬ O = w.heap.size := by omega
      have hn5 : ¬ O = wr.heap.size := by omega
      have hn6 : ¬ O = b' := by omega
      clear g0 g1 qq d2 q0 d0 d1 hsx
      go_region_law (first | (refine step_append_lies _ (by rfl) _ _ _ (by rfl) (O + 1) 3 i0 (.int .i64 0) 1 8 Try.underlying34 hi hz0 hz1 hz2 rfl (by decide) (.slice av l.length cv) l.length (l.flatMap encI) (by rfl) ((HON1.out.alloc _).drew) ⟨Wb.heap.size, 0, none⟩ 1 1 (encI z) (by rfl) (by rfl) (cells_at _ _ _ _ _ rfl rfl) (by intro u hu; simp [encI] at hu; subst hu; rfl) (by omega) (by unfold maxLen; omega) (by omega) (Nat.le_of_lt (Nat.lt_of_lt_of_eq (show O + 1 < Wb.heap.size + 1 by omega) (size_alloc _ _).symm)) (Wb.heap.size + 1) (size_alloc _ _) ?_; intro gg cap w2 hown1 hgrow hat hltg; obtain ⟨k1, k2⟩ := mid_keep HON.out HON1.out hsz HSB.out hgrow; have y0 : w2.cell? ⟨O, 0, none⟩ = _ := (k2.cell (p := ⟨O, 0, none⟩) (Nat.lt_succ_self _)).trans p0; have y1 : w2.frozen? ⟨O, 0, none⟩ = false := (k2.frozen (p := ⟨O, 0, none⟩) (Nat.lt_succ_self _)).trans p1; have y3 : O < w2.heap.size := Nat.lt_of_lt_of_le hzO k2.size; have HO1 := Lib.hid (own_snocG hown1); clear hown1 hgrow hat k1))
      all_goals
        have HB2 : Below O w1 w2 := (hbr.trans (hbB.mono (Nat.le_of_lt hOr))).trans (k2.mono (Nat.le_succ _))
        have HY0 := Lib.hid y0
        have HY1 := Lib.hid y1
        clear y0 y1 k2 p0 p1
        go_wp2
        go_roundw
        case rel => exact ⟨ii + 1, _, ss + 1, by go_num, by go_num, HNX, stk_set HY0.out HY1.out rfl HO1.out, HB2.setCell (Nat.le_refl _) _, by rw [World.size_setCell]; omega⟩
        case measure => simp [intOf]; omega
    · rename_i l' y1 y2
      obtain ⟨n, hnn⟩ : ∃ n, n = p.code[ii].n := ⟨_, rfl⟩
      rw [← hnn] at d1
      have hst1 : StkAt (wr.alloc (.cells #[.int .i64 3, .int .i64 n] 102)) O (O + 1) ((l' ++ [y1]) ++ [y2]) := by
        rw [List.append_assoc]
        exact hst.out.alloc hOr _
      have hlen : l'.length + 2 ≤ 8 := by simpa using h8
      have hsx := HSX.out (.cells #[.int .i64 3, .int .i64 n] 102)
      have HNX := Lib.hid hnx
      clear hnx hnn h8
      go_wp2_with fail
      refine (pop_any O (O + 1) (l' ++ [y1]) y2 _ (Nat.lt_succ_self _) (by omega) (by simp; omega) hst1).mono ?_; rintro e w5 ⟨rfl, hst5, hb5, _, hz5⟩
      go_wp2_with fail
      refine (pop_any O (O + 1) l' y1 _ (Nat.lt_succ_self _) (by omega) (by omega) hst5).mono ?_; rintro e w6 ⟨rfl, hst6, hb6, _, hz6⟩
      obtain ⟨v, g0, g1, hown⟩ := hst6
      obtain ⟨av, cv, rfl⟩ := own_shape hown
      have hlt : l'.length + 1 ≤ 9 := by omega
      have HOWN := Lib.hid hown
      have HG0 := Lib.hid g0
      have HG1 := Lib.hid g1
      have hsz6 : O + 1 ≤ w6.heap.size := by omega
      have hbr6 : Below O w1 w6 := ((HBX.out _).trans hb5).trans hb6
      clear hown hst5 hst1 hb5 hb6 hsx hz5 hz6
      rcases (show y1 < y2 ∨ y2 ≤ y1 by omega) with hxy | hxy
      · have HN2 : Hid (Rn p t (ii + 1) (l' ++ [1]) (ss + 1) a k) := by have := HNX.out; rw [if_pos hxy] at this; exact this
        go_wp2_with (at_builtin; refine wpList_append_own _ rfl _ _ 34 rfl (O + 1) 3 i0 (.int .i64 0) 1 8 Try.underlying34 hi hz0 hz1 hz2 rfl (by decide) _ _ _ rfl (HOWN.out.alloc _) ⟨w6.heap.size, 0, none⟩ 1 1 (encI 1) rfl rfl (cells_at _ _ _ _ _ rfl rfl) (by intro u hu; simp [encI] at hu; subst hu; rfl) (by unfold maxLen; omega) (by omega) (by rw [size_alloc]; omega) ?_; intro v' w2 hown' hgrow _; obtain ⟨a2, c2, rfl⟩ := own_shape hown'; have HB := append_keep HOWN.out ((Below.refl _ _).alloc hsz6 _) hsz6 hgrow; obtain ⟨y0, y1, y2⟩ := cell_keep HB hsz6 (Nat.lt_succ_self _) HG0.out HG1.out; have HO := Lib.hid (own_snocG hown'); have HY0 := Lib.hid y0; have HY1 := Lib.hid y1; clear hown' hgrow)
        go_roundw
        case rel => exact ⟨ii + 1, _, ss + 1, by go_num, by go_num, HN2, stk_set HY0.out HY1.out rfl HO.out, (hbr6.trans (HB.mono (Nat.le_succ _))).setCell (Nat.le_refl _) _, by rw [World.size_setCell]; have := HB.size; omega⟩
        case measure => simp [intOf]; omega
      · have HN2 : Hid (Rn p t (ii + 1) (l' ++ [0]) (ss + 1) a k) := by have := HNX.out; rw [if_neg (by omega)] at this; exact this
        go_wp2_with (at_builtin; refine wpList_append_own _ rfl _ _ 34 rfl (O + 1) 3 i0 (.int .i64 0) 1 8 Try.underlying34 hi hz0 hz1 hz2 rfl (by decide) _ _ _ rfl (HOWN.out.alloc _) ⟨w6.heap.size, 0, none⟩ 1 1 (encI 0) rfl rfl (cells_at _ _ _ _ _ rfl rfl) (by intro u hu; simp [encI] at hu; subst hu; rfl) (by unfold maxLen; omega) (by omega) (by rw [size_alloc]; omega) ?_; intro v' w2 hown' hgrow _; obtain ⟨a2, c2, rfl⟩ := own_shape hown'; have HB := append_keep HOWN.out ((Below.refl _ _).alloc hsz6 _) hsz6 hgrow; obtain ⟨y0, y1, y2⟩ := cell_keep HB hsz6 (Nat.lt_succ_self _) HG0.out HG1.out; have HO := Lib.hid (own_snocG hown'); have HY0 := Lib.hid y0; have HY1 := Lib.hid y1; clear hown' hgrow)
        go_roundw
        case rel => exact ⟨ii + 1, _, ss + 1, by go_num, by go_num, HN2, stk_set HY0.out HY1.out rfl HO.out, (hbr6.trans (HB.mono (Nat.le_succ _))).setCell (Nat.le_refl _) _, by rw [World.size_setCell]; have := HB.size; omega⟩
        case measure => simp [intOf]; omega
    · rename_i l' y m
      rw [hn] at d1
      have hst1 : StkAt (wr.alloc (.cells #[.int .i64 4, .int .i64 m] 102)) O (O + 1) (l' ++ [y]) := hst.out.alloc hOr _
      have hlen : l'.length + 1 ≤ 8 := by simpa using h8
      have hsx := HSX.out (.cells #[.int .i64 4, .int .i64 m] 102)
      have bx : (wr.alloc (.cells #[.int .i64 4, .int .i64 m] 102)).cell? ⟨wr.heap.size, 1, none⟩ = some (.int .i64 m) := World.cell?_alloc_at (w := wr) _ _ wr.heap.size 1 rfl
      have hn8 := (ins_n8 HG.out hil).2
      rw [hn] at hn8
      have HNX := Lib.hid hnx
      clear hnx h8
      go_wp2_with fail
      refine (pop_any O (O + 1) l' y _ (Nat.lt_succ_self _) (by omega) (by omega) hst1).mono ?_; rintro e w5 ⟨rfl, hst5, hb5, hoth, hz5⟩
      have bx5 : w5.cell? ⟨wr.heap.size, 1, none⟩ = some (.int .i64 m) := (hoth _ _ (by omega)).trans bx
      have hbr5 : Below O w1 w5 := (HBX.out _).trans hb5
      have hsz5 : O + 1 ≤ w5.heap.size := by omega
      have hzz5 : wr.heap.size < w5.heap.size := by omega
      have HST5 := Lib.hid hst5
      clear hst5 hb5 hoth bx hst1 hsx hz5
      by_cases hx : y = 0
      · have hxb : (y == 0) = true := by rw [beq_iff_eq]; exact hx
        have HN2 : Hid (Rn p t (ii + 1 + m) l' (ss + 1) a k) := by have := HNX.out; rw [if_pos hx] at this; exact this
        clear hx
        go_wp2
        go_roundw
        case rel => exact ⟨ii + 1 + m, _, ss + 1, by go_num, by go_num, HN2, HST5, hbr5, hsz5⟩
        case measure => simp [intOf]; omega
      · have hxb : (y == 0) = false := by rw [beq_eq_false_iff_ne]; exact hx
        have HN2 : Hid (Rn p t (ii + 1) l' (ss + 1) a k) := by have := HNX.out; rw [if_neg hx] at this; exact this
        clear hx
        go_wp2
        go_roundw
        case rel => exact ⟨ii + 1, _, ss + 1, by go_num, by go_num, HN2, HST5, hbr5, hsz5⟩
        case measure => simp [intOf]; omega
    · rename_i m
      rw [hn] at d1
      have HST5 : Hid (StkAt (wr.alloc (.cells #[.int .i64 5, .int .i64 m] 102)) O (O + 1) l) := hst.out.alloc hOr _
      have hsx := HSX.out (.cells #[.int .i64 5, .int .i64 m] 102)
      have hbr5 := HBX.out (.cells #[.int .i64 5, .int .i64 m] 102)
      have hsz5 : O + 1 ≤ (wr.alloc (.cells #[.int .i64 5, .int .i64 m] 102)).heap.size := by omega
      have hn8 := (ins_n8 HG.out hil).2
      rw [hn] at hn8
      have HNX := Lib.hid hnx
      clear hnx hsx
      go_wp2
      go_roundw
      case rel => exact ⟨ii + 1 + m, _, ss + 1, by go_num, by go_num, HNX, HST5, hbr5, hsz5⟩
      case measure => simp [intOf]; omega
end Go.Proofs.Ytlhidbbphngpcaa
