/-
  (*reader).answer: the answer that is next.
-/
import Derived.Test.YtpnmaopompfalaaDecG
import Derived.Deep.AppendLies
import Derived.Deep.RegionLaw
import Derived.Deep.DeepCutAuto
import Derived.Deep.CutRange
import Derived.Deep.CutBlock
namespace Go.Proofs.Ytpnmaopompfalaa
set_option linter.unusedVariables false
set_option linter.unusedSimpArgs false
open Go.ChangeShapes Go.WideShapes Go.ChangeAt Go.RowKit

/-- block b holds five cells and may be written. -/
def Bx5 (w : World) (b : Nat) (v0 v1 v2 v3 v4 : Value) : Prop := w.cell? ⟨b, 0, none⟩ = some v0 ∧ w.cell? ⟨b, 1, none⟩ = some v1 ∧ w.cell? ⟨b, 2, none⟩ = some v2 ∧ w.cell? ⟨b, 3, none⟩ = some v3 ∧ w.cell? ⟨b, 4, none⟩ = some v4 ∧ ∀ j, w.frozen? ⟨b, j, none⟩ = false
theorem Bx5.lt {w : World} {b : Nat} {v0 v1 v2 v3 v4 : Value} (h : Bx5 w b v0 v1 v2 v3 v4) : b < w.heap.size := cell_lt h.1
theorem Bx5.keep {w w' : World} {b : Nat} {v0 v1 v2 v3 v4 : Value} (h : Bx5 w b v0 v1 v2 v3 v4) (h1 : w'.heap[b]? = w.heap[b]?) : Bx5 w' b v0 v1 v2 v3 v4 := by
  obtain ⟨c0, c1, c2, c3, c4, f⟩ := h
  exact ⟨(cell_blk h1 _).trans c0, (cell_blk h1 _).trans c1, (cell_blk h1 _).trans c2, (cell_blk h1 _).trans c3, (cell_blk h1 _).trans c4, fun j => (froz_blk h1 _).trans (f j)⟩
theorem Bx5.set {w : World} {b : Nat} {v0 v1 v2 v3 v4 : Value} (h : Bx5 w b v0 v1 v2 v3 v4) (u : Value) :
    Bx5 (w.setCell ⟨b, 0, none⟩ u) b u v1 v2 v3 v4 ∧ Bx5 (w.setCell ⟨b, 1, none⟩ u) b v0 u v2 v3 v4 ∧ Bx5 (w.setCell ⟨b, 2, none⟩ u) b v0 v1 u v3 v4 ∧ Bx5 (w.setCell ⟨b, 3, none⟩ u) b v0 v1 v2 u v4 ∧ Bx5 (w.setCell ⟨b, 4, none⟩ u) b v0 v1 v2 v3 u := by
  obtain ⟨c0, c1, c2, c3, c4, f⟩ := h
  have oth : ∀ {i j : Nat} {v : Value}, j ≠ i → w.cell? ⟨b, j, none⟩ = some v → (w.setCell ⟨b, i, none⟩ u).cell? ⟨b, j, none⟩ = some v := fun {i j v} hne hc => by
    rw [World.cell?_setCell_other (h := by simp [hne])]; exact hc
  have same : ∀ {i : Nat} {v : Value}, w.cell? ⟨b, i, none⟩ = some v → (w.setCell ⟨b, i, none⟩ u).cell? ⟨b, i, none⟩ = some u := fun {i v} hc => World.cell?_setCell_same (h := hc) ..
  have fz : ∀ i j, (w.setCell ⟨b, i, none⟩ u).frozen? ⟨b, j, none⟩ = false := fun i j => by rw [World.frozen?_setCell]; exact f j
  refine ⟨⟨same c0, oth (by omega) c1, oth (by omega) c2, oth (by omega) c3, oth (by omega) c4, fz 0⟩, ⟨oth (by omega) c0, same c1, oth (by omega) c2, oth (by omega) c3, oth (by omega) c4, fz 1⟩, ⟨oth (by omega) c0, oth (by omega) c1, same c2, oth (by omega) c3, oth (by omega) c4, fz 2⟩, ⟨oth (by omega) c0, oth (by omega) c1, oth (by omega) c2, same c3, oth (by omega) c4, fz 3⟩, ⟨oth (by omega) c0, oth (by omega) c1, oth (by omega) c2, oth (by omega) c3, same c4, fz 4⟩⟩
/-- the state of (*reader).answer: the reader, the result's block q, the answer's block q + 1. -/
def AnS (w : World) (P g q : Nat) (wx : World) (bs : List Int) (e : Int) (v0 v1 v2 v3 v4 : Value) : Prop :=
  RdAt wx P g bs e ∧ Bx5 wx q (.int .i64 0) (.bool false) (.string ⟨#[]⟩) (.slice none 0 0) (.int .i64 0) ∧ Bx5 wx (q + 1) v0 v1 v2 v3 v4 ∧ w.grownBy wx (some P) ∧ w.heap.size = q ∧ P < q ∧ g < q
theorem AnS.call {w wx w' : World} {P g q : Nat} {bs b1 : List Int} {e e1 : Int} {v0 v1 v2 v3 v4 : Value} (h : AnS w P g q wx bs e v0 v1 v2 v3 v4) (hr : RdAt w' P g b1 e1) (hg : wx.grownBy w' (some P)) : AnS w P g q w' b1 e1 v0 v1 v2 v3 v4 := by
  obtain ⟨h1, h2, h3, h4, h5, h6, h7⟩ := h
  exact ⟨hr, h2.keep (hg.block _ h2.lt (fun q => by cases q; omega)), h3.keep (hg.block _ h3.lt (fun q => by cases q; omega)), grown_two h4 hg, h5, h6, h7⟩
theorem AnS.put {w wx : World} {P g q o : Nat} {bs : List Int} {e : Int} {v0 v1 v2 v3 v4 u0 u1 u2 u3 u4 v : Value} (h : AnS w P g q wx bs e v0 v1 v2 v3 v4) (hb : Bx5 (wx.setCell ⟨q + 1, o, none⟩ v) (q + 1) u0 u1 u2 u3 u4) : AnS w P g q (wx.setCell ⟨q + 1, o, none⟩ v) bs e u0 u1 u2 u3 u4 := by
  obtain ⟨h1, h2, h3, h4, h5, h6, h7⟩ := h
  exact ⟨h1.set (by omega) (by omega), h2.keep (heap_sx (by omega)), hb, grown_sx h4 (by omega), h5, h6, h7⟩
theorem AnS.facts {w wx : World} {P g q : Nat} {bs : List Int} {e : Int} {v0 v1 v2 v3 v4 : Value} (h : AnS w P g q wx bs e v0 v1 v2 v3 v4) : wx.cell? ⟨q + 1, 0, none⟩ = some v0 ∧ wx.cell? ⟨q + 1, 1, none⟩ = some v1 ∧ wx.cell? ⟨q + 1, 2, none⟩ = some v2 ∧ wx.cell? ⟨q + 1, 3, none⟩ = some v3 ∧ wx.cell? ⟨q + 1, 4, none⟩ = some v4 ∧ (∀ j, wx.frozen? ⟨q + 1, j, none⟩ = false) ∧ q + 1 < wx.heap.size :=
  ⟨h.2.2.1.1, h.2.2.1.2.1, h.2.2.1.2.2.1, h.2.2.1.2.2.2.1, h.2.2.1.2.2.2.2.1, h.2.2.1.2.2.2.2.2, h.2.2.1.lt⟩
theorem AnS.row {w wx wo w' : World} {P g q n sz : Nat} {t : TypeId} {vv : Value} {xs : List Value} {bs : List Int} {e : Int} {v0 v1 v2 v3 v4 : Value} {o : Obj} (h : AnS w P g q wx bs e v0 v1 v2 v3 v4) (hown : wo.ownsRow (q + 2) t sz vv n xs) (hg : (wx.alloc o).grownBy w' vv.ownBlock) : AnS w P g q w' bs e v0 v1 v2 v3 v4 := by
  obtain ⟨h1, h2, h3, h4, h5, h6, h7⟩ := h
  have hs := size_alloc wx o
  have z2 := h2.lt
  have z3 := h3.lt
  have k : ∀ b, b < q + 2 → b < wx.heap.size → w'.heap[b]? = wx.heap[b]? := fun b hb hz => (hg.block b (by omega) (row_ne hown hb)).trans (heap_nw o hz)
  have hP : P < wx.heap.size := by omega
  exact ⟨h1.keep (k P (by omega) (by omega)) (k g (by omega) (by omega)), h2.keep (k q (by omega) z2), h3.keep (k (q + 1) (by omega) z3), grown_in (grown_new h4 o) hg (fun j hj => by have := (hown.lt j hj).1; omega), h5, h6, h7⟩
set_option maxRecDepth 100000 in
set_option maxHeartbeats 8000000 in
theorem ranswer (P g : Nat) (bs : List Int) (e : Int) (w : World) (h : RdAt w P g bs e) (hb : Byt bs) (hP : P < w.heap.size) (hg : g < w.heap.size) {a : Ans} {bz : List Int} {ez : Int} (ha : aD bs e = (a, bz, ez)) :
    Calls Try.prog 98 #[.pointer (some ⟨P, 0, none⟩)] w fun r w' => ∃ v, r = .returned (.agg #[.int .i64 a.ck.off, .bool a.ck.sav, .string a.ck.nm, v, .int .i64 a.jump]) ∧ w'.ownsRow w.heap.size 3 1 v a.offs.length (a.offs.flatMap encI) ∧ RdAt w' P g bz ez ∧ w.grownBy w' (some P) := by
  obtain ⟨b1, b2, b3, b4, b5, b6, b7, nm, os, o, s, k, m, j, e1, e2, e3, e4, e5, e6, e7, n1, n2, n3, n4, n5, n6, n7, na, ⟨y1, y2, y3, y4, y5, y6, y7, y8⟩, ⟨i1, i2, i3, i4⟩, ⟨c1, c2, c3, c4⟩, l1, l2⟩ := aD_parts bs e hb
  rw [na] at ha
  cases ha
  obtain ⟨kn, rfl⟩ : ∃ kn : Nat, k = kn := ⟨k.toNat, by omega⟩
  obtain ⟨mn, rfl⟩ : ∃ mn : Nat, m = mn := ⟨m.toNat, by omega⟩
  rw [Int.toNat_natCast] at n4 n6 l1 l2
  have hm6 : (mn : Int) ≤ 6 := by omega
  obtain ⟨i0, hi, hz0, hz1, hz2⟩ := info_parts info_int
  obtain ⟨hs, d0, d1, g0, g1⟩ := two_new w #[.int .i64 0, .bool false, .string ⟨#[]⟩, .slice none 0 0, .int .i64 0] #[.int .i64 0, .bool false, .string ⟨#[]⟩, .slice none 0 0, .int .i64 0] 27 27
  have hA2 : w.grownBy ((w.alloc (.cells #[.int .i64 0, .bool false, .string ⟨#[]⟩, .slice none 0 0, .int .i64 0] 27)).alloc (.cells #[.int .i64 0, .bool false, .string ⟨#[]⟩, .slice none 0 0, .int .i64 0] 27)) (some P) := grown_new (grown_new (grown_refl w _) _) _
  have hR2 : RdAt ((w.alloc (.cells #[.int .i64 0, .bool false, .string ⟨#[]⟩, .slice none 0 0, .int .i64 0] 27)).alloc (.cells #[.int .i64 0, .bool false, .string ⟨#[]⟩, .slice none 0 0, .int .i64 0] 27)) P g bs e := (h.alloc hP hg _).alloc (Nat.lt_of_lt_of_le hP (size_le_push_ w _)) (Nat.lt_of_lt_of_le hg (size_le_push_ w _)) _
  obtain ⟨W2, hW2⟩ : ∃ W2, W2 = (w.alloc (.cells #[.int .i64 0, .bool false, .string ⟨#[]⟩, .slice none 0 0, .int .i64 0] 27)).alloc (.cells #[.int .i64 0, .bool false, .string ⟨#[]⟩, .slice none 0 0, .int .i64 0] 27) := ⟨_, rfl⟩
  rw [← hW2] at hs d0 d1 g0 g1 hA2 hR2
  have S2 : Hid (AnS w P g w.heap.size W2 bs e (.int .i64 0) (.bool false) (.string ⟨#[]⟩) (.slice none 0 0) (.int .i64 0)) := ⟨hR2, ⟨d0 0, d0 1, d0 2, d0 3, d0 4, g0⟩, ⟨d1 0, d1 1, d1 2, d1 3, d1 4, g1⟩, hA2, rfl, hP, hg⟩
  have HW2 := Lib.hid hW2
  have N1 := Lib.hid n1
  have N2 := Lib.hid n2
  have N3 := Lib.hid n3
  have N4 := Lib.hid n4
  have N5 := Lib.hid n5
  have N6 := Lib.hid n6
  have N7 := Lib.hid n7
  have Y0 := Lib.hid hb
  have Y1 := Lib.hid y1
  have Y2 := Lib.hid y2
  have Y4 := Lib.hid y4
  have Y5 := Lib.hid y5
  have Y6 := Lib.hid y6
  have L2 := Lib.hid l2
  have I4 := Lib.hid i4
  clear h hb n1 n2 n3 n4 n5 n6 n7 na y1 y2 y3 y4 y5 y6 y7 y8 i1 i2 i3 i4 c1 c2 c3 c4 l1 l2 hs d0 d1 g0 g1 hA2 hR2 hW2
  obtain ⟨sb, hsb⟩ : ∃ sb : Bool, (s == 1) = sb := ⟨_, rfl⟩
  obtain ⟨sn, hsn⟩ : ∃ sn, strOfNums nm = sn := ⟨_, rfl⟩
  rw [hsb, hsn]
  have HSN := Lib.hid hsn
  have HSB := Lib.hid hsb
  clear hsb hsn
  dsimp only
  go_enter Try.func98, Try.ntmps98
  go_wp2_with fail
  rw [← HW2.out]
  refine (rnumE P g bs e _ S2.out.1 Y0.out N1.out).mono ?_; rintro r w3 ⟨rfl, hr, hgw⟩
  have S3 := Lib.hid (S2.out.call hr hgw)
  obtain ⟨x0, x1, x2, x3, x4, xf, xz⟩ := S3.out.facts
  have T3 : Hid (AnS w P g w.heap.size (w3.setCell ⟨w.heap.size + 1, 0, none⟩ (.int .i64 o)) b1 e1 (.int .i64 o) (.bool false) (.string ⟨#[]⟩) (.slice none 0 0) (.int .i64 0)) := S3.out.put (S3.out.2.2.1.set _).1
  clear hr hgw x1 x2 x3 x4
  go_wp2_with fail
  refine (rnumE P g b1 e1 _ T3.out.1 Y1.out N2.out).mono ?_; rintro r w4 ⟨rfl, hr, hgw⟩
  have S4 := Lib.hid (T3.out.call hr hgw)
  obtain ⟨p, hp⟩ : ∃ p : Bool, p = decide (¬ (s = 0 ∨ s = 1)) := ⟨_, rfl⟩
  have HPP := Lib.hid hp
  clear hr hgw x0 xf xz hp S2 S3 T3
  go_upto_region 4 with fail
  go_cut [17] (fun c wx => c = .bool p ∧ w4 = wx)
  case first =>
    rcases (show s = 0 ∨ s = 1 ∨ (s ≠ 0 ∧ s ≠ 1) by omega) with hs0 | hs0 | ⟨hs0, hs1⟩
    · have hp0 : p = false := by rw [HPP.out, hs0]; rfl
      subst hs0 hp0
      go_wp2
      go_meet
      exact ⟨rfl, rfl⟩
    · have hp0 : p = false := by rw [HPP.out, hs0]; rfl
      subst hs0 hp0
      go_wp2
      go_meet
      exact ⟨rfl, rfl⟩
    · have hp0 : p = true := by rw [HPP.out, decide_eq_true_iff]; omega
      have hq0 : (s != 0) = true := by rw [bne_iff_ne]; exact hs0
      have hq1 : (s != 1) = true := by rw [bne_iff_ne]; exact hs1
      subst hp0
      clear hs0 hs1
      go_wp2
      go_meet
      exact ⟨rfl, rfl⟩
  case rest =>
    obtain ⟨rfl, rfl⟩ := hcut
    go_upto_if 17 with fail
    go_cut [] (fun wx => Hid (AnS w P g w.heap.size wx b2 (savD s e2) (.int .i64 o) (.bool false) (.string ⟨#[]⟩) (.slice none 0 0) (.int .i64 0)))
    case first =>
      cases p with
      | true =>
        have hsv : savD s e2 = erE e2 4 := by unfold savD; rw [if_neg (of_decide_eq_true HPP.out.symm)]
        have HSV := Lib.hid hsv
        clear hsv
        go_wp2_with fail
        refine (wrong_any P g b2 e2 4 _ S4.out.1).mono ?_; rintro r w5 ⟨rfl, hr, hgw⟩
        have S5 := Lib.hid (S4.out.call hr hgw)
        clear hr hgw
        go_wp2
        go_meet
        rw [HSV.out]
        exact S5
      | false =>
        have hsv : savD s e2 = e2 := by unfold savD; rw [if_pos (Classical.not_not.1 (of_decide_eq_false HPP.out.symm))]
        have HSV := Lib.hid hsv
        clear hsv
        go_wp2
        go_meet
        rw [HSV.out]
        exact S4
    case rest =>
      have S5 := hcut
      have hsb := HSB.out
      obtain ⟨x0, x1, x2, x3, x4, xf, xz⟩ := S5.out.facts
      have T5 : Hid (AnS w P g w.heap.size (wc.setCell ⟨w.heap.size + 1, 1, none⟩ (.bool sb)) b2 (savD s e2) (.int .i64 o) (.bool sb) (.string ⟨#[]⟩) (.slice none 0 0) (.int .i64 0)) := S5.out.put (S5.out.2.2.1.set _).2.1
      clear x0 x2 x3 x4 hcut S4 HPP
      go_wp2_with fail
      refine (rcount P g 24 b2 (savD s e2) _ T5.out.1 Y2.out N3.out).mono ?_; rintro r w6 ⟨rfl, hr, hgw⟩
      have S6 := Lib.hid (T5.out.call hr hgw)
      clear hr hgw x1 xf xz hsb
      go_wp2_with fail
      refine (rtake P g kn b3 e3 _ S6.out.1 N4.out).mono ?_; rintro r w7 ⟨a7, c7, rfl, hcv, _, hr, hgw⟩
      rw [HSN.out] at hcv
      have S7 := Lib.hid (S6.out.call hr hgw)
      obtain ⟨x0, x1, x2, x3, x4, xf, xz⟩ := S7.out.facts
      have T7 : Hid (AnS w P g w.heap.size (w7.setCell ⟨w.heap.size + 1, 2, none⟩ (.string sn)) b4 e4 (.int .i64 o) (.bool sb) (.string sn) (.slice none 0 0) (.int .i64 0)) := S7.out.put (S7.out.2.2.1.set _).2.2.1
      clear x0 x1 x3 x4 hr hgw
      go_wp2_with fail
      refine (rcount P g 6 b4 e4 _ T7.out.1 Y4.out N5.out).mono ?_; rintro r w8 ⟨rfl, hr, hgw⟩
      have S8 := Lib.hid (T7.out.call hr hgw)
      clear hr hgw x2 xf xz hcv
      go_wp2
      go_loopw [33] (fun i wr => ∃ (k : Nat) (acc bx : List Int) (ex : Int) (v : Value), i = .int .i64 k ∧ k ≤ mn ∧ acc.length = k ∧ Hid (numsD mn [] b5 e5 = numsD (mn - k) acc bx ex) ∧ Hid (Byt bx) ∧ Hid (wr.ownsRow (w.heap.size + 2) 3 1 v acc.length (acc.flatMap encI)) ∧ Hid (AnS w P g w.heap.size wr bx ex (.int .i64 o) (.bool sb) (.string sn) v (.int .i64 0))) (fun i _ => (mn - intOf i).toNat)
      case atStart => exact ⟨0, [], b5, e5, _, rfl, Nat.zero_le _, rfl, Lib.hid rfl, Y5, Lib.hid (World.ownsRow_nil _ _ _ _), S8⟩
      case round =>
        obtain ⟨k, acc, bx, ex, v, rfl, hk, hal, hnm, hby, hown, hst⟩ := hrel
        obtain ⟨x0, x1, x2, x3, x4, xf, xz⟩ := hst.out.facts
        obtain ⟨av, cv, rfl⟩ := own_shape hown.out
        by_cases hlt : k < mn
        · obtain ⟨x, bn, en, hx⟩ : ∃ x bn en, numE bx ex = (x, bn, en) := ⟨_, _, _, rfl⟩
          have HX := Lib.hid hx
          have HBN : Hid (Byt bn) := by have := numE_byt ex hby.out; rw [hx] at this; exact this
          have hnx : numsD mn [] b5 e5 = numsD (mn - (k + 1)) (acc ++ [x]) bn en := by
            rw [hnm.out, show mn - k = (mn - (k + 1)) + 1 by omega]
            show numsD _ (acc ++ [(numE bx ex).1]) (numE bx ex).2.1 (numE bx ex).2.2 = _
            rw [hx]
          have HNX := Lib.hid hnx
          have hac : acc.length ≤ 6 := by omega
          have hlti : (k : Int) < (mn : Int) := by omega
          have HAL := Lib.hid hal
          clear hx hnx hal x0 x1 x2 x4
          have f3 := xf 3
          go_wp2
          go_region_law (first | (refine step_append_lies _ (by rfl) _ _ _ (by rfl) (w.heap.size + 2) 3 i0 (.int .i64 0) 1 8 Try.underlying25 hi hz0 hz1 hz2 rfl (by decide) (.slice av acc.length cv) acc.length (acc.flatMap encI) (by rfl) (O9.out.alloc _) ⟨w5.heap.size, 0, none⟩ 1 1 (encI x) (by rfl) (by rfl) (cells_at _ _ _ _ _ rfl rfl) (by intro u hu; simp [encI] at hu; subst hu; rfl) (by omega) (by unfold maxLen; omega) (by omega) (by rw [size_alloc]; omega) (w5.heap.size + 1) (size_alloc _ _) ?_; intro gg cap w6 hown1 hgrow hat hltg; have SX := Lib.hid (S9.out.row O9.out hgrow); obtain ⟨_, _, _, z3, _, zf, zz⟩ := SX.out.facts; have HO1 := Lib.hid (own_snocG hown1); clear hown1 hgrow hat) | (go_simp; refine (rnumE P g bx ex _ hst.out.1.drew hby.out HX.out).mono ?_; rintro r w5 ⟨rfl, hr5, hg5⟩; have S9 := Lib.hid (hst.out.call hr5 (grown_from hg5)); have O9 := Lib.hid (own_grown hown.out (grown_from hg5) (show P < w.heap.size + 2 by omega)); obtain ⟨_, _, _, y3, _, yf, yz⟩ := S9.out.facts; clear hr5 hg5))
          all_goals
            have SY : Hid (AnS w P g w.heap.size (w6.setCell ⟨w.heap.size + 1, 3, none⟩ (.slice (some ⟨gg, 0, none⟩) (acc.length + 1) cap)) bn en (.int .i64 o) (.bool sb) (.string sn) (.slice (some ⟨gg, 0, none⟩) (acc.length + 1) cap) (.int .i64 0)) := SX.out.put (SX.out.2.2.1.set _).2.2.2.1
            have HO2 : Hid ((w6.setCell ⟨w.heap.size + 1, 3, none⟩ (.slice (some ⟨gg, 0, none⟩) (acc.length + 1) cap)).ownsRow (w.heap.size + 2) 3 1 (.slice (some ⟨gg, 0, none⟩) (acc.length + 1) cap) (acc ++ [x]).length ((acc ++ [x]).flatMap encI)) := ownsRow_setCell_below HO1.out (by show w.heap.size + 1 < w.heap.size + 2; omega) _
            have HLE : Hid ((acc ++ [x]).length = k + 1) := by show _ = _; rw [List.length_append, List.length_singleton, HAL.out]
            go_wp2
            go_roundw
            case rel => exact ⟨k + 1, acc ++ [x], bn, en, _, by go_num, by omega, HLE.out, HNX, HBN, HO2, SY⟩
            case measure => simp [intOf]; omega
        · have hke : k = mn := by omega
          have hend : (os, b6, e6) = (acc, bx, ex) := by
            rw [← N6.out, hnm.out, hke, Nat.sub_self]
            rfl
          cases hend
          have hge : (mn : Int) ≤ (k : Int) := by omega
          clear hke hlt x0 x1 x2 x3 x4 xf xz hnm
          go_wp2_with fail
          refine (rnumE P g b6 e6 _ hst.out.1 Y6.out N7.out).mono ?_; rintro r w9 ⟨rfl, hr, hgw⟩
          have S9 := Lib.hid (hst.out.call hr hgw)
          have O9 := Lib.hid (own_grown hown.out hgw (show P < w.heap.size + 2 by omega))
          obtain ⟨x0, x1, x2, x3, x4, xf, xz⟩ := S9.out.facts
          obtain ⟨r0, r1, r2, r3, r4, rf⟩ := S9.out.2.1
          have rz := S9.out.2.1.lt
          clear hr hgw
          go_wp2
          refine bodyPost_ret (v := .agg #[.int .i64 o, .bool sb, .string sn, .slice av os.length cv, .int .i64 j]) (by simp [results, Try.results98, go_sem, hal, rz, xz, x0, x1, x2, x3, x4, r0, r1, r2, r3, r4]) rfl ⟨_, rfl, ?_, ?_, ?_⟩
          · exact ownsRow_base (B := w.heap.size + 2) (by omega) (five_own (ownsRow_setCell_below O9.out (by show w.heap.size + 1 < _; omega) _) (by omega) _ _ _ _ _)
          · have q1 : P ≠ w.heap.size := by omega
            have q2 : g ≠ w.heap.size := by omega
            exact (((((S9.out.1.set (by omega) (by omega)).set q1 q2).set q1 q2).set q1 q2).set q1 q2).set q1 q2
          · have q := Nat.le_refl w.heap.size
            exact grown_sx (grown_sx (grown_sx (grown_sx (grown_sx (grown_sx S9.out.2.2.2.1 (Nat.le_succ _)) q) q) q) q) q
end Go.Proofs.Ytpnmaopompfalaa
