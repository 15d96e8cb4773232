/-
  tree.merged: the answers.
-/
import Derived.Test.YtlhidbbphngpcaaOptK
import Derived.Test.YtlhidbbphngpcaaOptF
import Derived.Test.YtlhidbbphngpcaaOptZ
import Derived.Test.YtlhidbbphngpcaaFwdD
import Derived.Deep.OwnRows
import Derived.Deep.AppendLies
import Derived.Deep.RegionLaw
import Derived.Deep.DeepCutAuto
import Derived.Deep.CutRange
import Derived.Deep.CutBlock
namespace Go.Proofs.Ytlhidbbphngpcaa
set_option linter.unusedVariables false
set_option linter.unusedSimpArgs false
open Go.ChangeShapes Go.WideShapes Go.ChangeAt Go.RowKit

/-- a forest's box. -/
def OBx (w : World) (O : Nat) (vn va : Value) : Prop := w.cell? ⟨O, 0, none⟩ = some vn ∧ w.cell? ⟨O, 1, none⟩ = some va ∧ (∀ j, w.frozen? ⟨O, j, none⟩ = false) ∧ O < w.heap.size
theorem OBx.new (w : World) (vn va : Value) : OBx (w.alloc (.cells #[vn, va] 26)) w.heap.size vn va :=
  ⟨World.cell?_alloc_at (w := w) _ _ w.heap.size 0 rfl, World.cell?_alloc_at (w := w) _ _ w.heap.size 1 rfl, fun j => World.frozen?_alloc_at (w := w) _ _ w.heap.size j rfl, by rw [size_alloc]; omega⟩
theorem OBx.block {w w' : World} {O : Nat} {vn va : Value} (h : OBx w O vn va) (e : w'.heap[O]? = w.heap[O]?) (hz : O < w'.heap.size) : OBx w' O vn va := by
  obtain ⟨h0, h1, h2, _⟩ := h
  exact ⟨(World.cell?_of_block (a := ⟨O, 0, none⟩) e).trans h0, (World.cell?_of_block (a := ⟨O, 1, none⟩) e).trans h1, fun j => (World.frozen?_of_block (a := ⟨O, j, none⟩) e).trans (h2 j), hz⟩
theorem OBx.below {w w' : World} {O B : Nat} {vn va : Value} (h : OBx w O vn va) (hb : Below B w w') (hO : O < B) : OBx w' O vn va := h.block (hb.block O hO) (Nat.lt_of_lt_of_le h.2.2.2 hb.size)
theorem OBx.set0 {w : World} {O : Nat} {vn va : Value} (h : OBx w O vn va) (u : Value) : OBx (w.setCell ⟨O, 0, none⟩ u) O u va := by
  obtain ⟨h0, h1, h2, h3⟩ := h
  exact ⟨World.cell?_setCell_same (h := h0) .., by rw [World.cell?_setCell_other (h := by simp)]; exact h1, fun j => by rw [World.frozen?_setCell]; exact h2 j, by rw [World.size_setCell]; exact h3⟩
theorem OBx.set1 {w : World} {O : Nat} {vn va : Value} (h : OBx w O vn va) (u : Value) : OBx (w.setCell ⟨O, 1, none⟩ u) O vn u := by
  obtain ⟨h0, h1, h2, h3⟩ := h
  exact ⟨by rw [World.cell?_setCell_other (h := by simp)]; exact h0, World.cell?_setCell_same (h := h1) .., fun j => by rw [World.frozen?_setCell]; exact h2 j, by rw [World.size_setCell]; exact h3⟩
/-- answers in a forest's box of the call's own: O the box, rows from B on. -/
def MgS (w1 wr : World) (O B : Nat) (vz : Value) (l : List (Ans × Value)) : Prop := AnG wr B vz l ∧ OBx wr O (.slice none 0 0) vz ∧ Below O w1 wr ∧ O < B ∧ B ≤ wr.heap.size
theorem MgS.keep {w1 wr w' : World} {O B : Nat} {vz : Value} {l : List (Ans × Value)} (h : MgS w1 wr O B vz l) (hb : Below wr.heap.size wr w') : MgS w1 w' O B vz l := by
  obtain ⟨h1, h2, h3, h4, h5⟩ := h
  exact ⟨h1.mv fun c _ hc => hb.block c hc, h2.below hb h2.2.2.2, h3.trans (hb.mono (by omega)), h4, Nat.le_trans h5 hb.size⟩
theorem MgS.more {w1 wx w' : World} {O B : Nat} {vz vz' : Value} {l : List (Ans × Value)} {y : Ans × Value} {o : Obj} (h : MgS w1 wx O B vz l) (hy : wx.ownsRow B 3 1 y.2 y.1.offs.length (y.1.offs.flatMap encI)) (ho : w'.ownsRow B 39 5 vz' (l.length + 1) (l.flatMap encW ++ encW y)) (hg : (wx.alloc o).grownBy w' vz.ownBlock) :
    (w'.cell? ⟨O, 1, none⟩ = some vz ∧ (∀ j, w'.frozen? ⟨O, j, none⟩ = false) ∧ O < w'.heap.size) ∧ MgS w1 (w'.setCell ⟨O, 1, none⟩ vz') O B vz' (l ++ [y]) ∧ ∀ R, R < B → R ≠ O → (w'.setCell ⟨O, 1, none⟩ vz').heap[R]? = wx.heap[R]? := by
  obtain ⟨h1, h2, h3, h4, h5⟩ := h
  have hb : Below B wx w' := row_low h1.1 h5 hg
  have hB := h2.below hb h4
  have hA := h1.snoc hy ho hg
  refine ⟨⟨hB.2.1, hB.2.2.1, hB.2.2.2⟩, ⟨hA.mv fun c hc _ => Below.heap_setCell _ _ _ _ (by show c ≠ O; omega), hB.set1 vz', (h3.trans (hb.mono (by omega))).setCell (Nat.le_refl _) _, h4, ?_⟩, fun R hR hne => ?_⟩
  · rw [World.size_setCell]; exact Nat.le_trans h5 hb.size
  · exact (Below.heap_setCell _ _ _ _ hne).trans (hb.block R hR)
theorem MgS.side {w1 wr : World} {O B R o : Nat} {vz u : Value} {l : List (Ans × Value)} (h : MgS w1 wr O B vz l) (hR : O < R) (hB : R < B) : MgS w1 (wr.setCell ⟨R, o, none⟩ u) O B vz l := by
  obtain ⟨h1, h2, h3, h4, h5⟩ := h
  have k : ∀ c, c ≠ R → (wr.setCell ⟨R, o, none⟩ u).heap[c]? = wr.heap[c]? := fun c hc => Below.heap_setCell _ _ _ _ hc
  exact ⟨h1.mv fun c hc _ => k c (by omega), h2.block (k _ (by omega)) (by rw [World.size_setCell]; exact h2.2.2.2), h3.setCell (by show O ≤ R; omega) _, h4, by rw [World.size_setCell]; exact h5⟩
def nowI (now : List Int) (j : Nat) : Value := .int .i64 (now.getD j 0)
theorem row_setI {w : World} {b n k : Nat} {now : List Int} {z : Int} (h : w.rowIs b 3 n (nowI now)) (hk : now.length = k) : (w.setCell ⟨b, k, none⟩ (.int .i64 z)).rowIs b 3 n (nowI (now ++ [z])) := by
  refine (h.set k _).congr fun i hi => ?_
  unfold nowI
  by_cases e : i = k
  · subst e
    rw [if_pos rfl, List.getD_eq_getElem?_getD, List.getElem?_append_right (by omega)]
    simp [hk]
  · rw [if_neg e, List.getD_eq_getElem?_getD, List.getD_eq_getElem?_getD]
    by_cases e2 : i < now.length
    · rw [List.getElem?_append_left e2]
    · rw [List.getElem?_eq_none (by omega), List.getElem?_eq_none (by simp; omega)]
theorem mg_take {az : List Ans} {k : Nat} (h : k < az.length) : mg (az.take (k + 1)) = mgStep (mg (az.take k)) az[k] := by
  rw [take_snoc az k h, mg_snoc]
theorem mg_idx_lt {az : List Ans} : ∀ x ∈ (mg az).2, 0 ≤ x ∧ x < (mg az).1.length := by
  intro x hx
  obtain ⟨i, hi, rfl⟩ := List.mem_iff_getElem.1 hx
  have h := mg_inv _ az rfl
  obtain ⟨h1, h2, h3, _⟩ := h.img i (by rw [← h.len]; exact hi)
  omega
theorem mg_start (w : World) (vn va : Value) (n : Nat) (W1 : World) (h : W1 = (((w.alloc (.cells #[vn, va] 26)).alloc (.cells #[.slice none 0 0, .slice none 0 0] 26)).alloc (.cells #[.slice none 0 0, .slice none 0 0] 26)).alloc (.cells (madeCells #[.int .i64 0] n) 3)) :
    Below w.heap.size w W1 ∧ OBx W1 w.heap.size vn va ∧ OBx W1 (w.heap.size + 1) (.slice none 0 0) (.slice none 0 0) ∧ OBx W1 (w.heap.size + 2) (.slice none 0 0) (.slice none 0 0) ∧ W1.rowIs (w.heap.size + 3) 3 n (nowI []) ∧ W1.heap.size = w.heap.size + 4 := by
  have s1 := size_alloc w (.cells #[vn, va] 26)
  have a1 := OBx.new w vn va
  have b1 : Below w.heap.size w (w.alloc (.cells #[vn, va] 26)) := (Below.refl _ _).alloc (Nat.le_refl _) _
  generalize w.alloc (.cells #[vn, va] 26) = w1 at *
  have s2 := size_alloc w1 (.cells #[.slice none 0 0, .slice none 0 0] 26)
  have a2 := OBx.new w1 (.slice none 0 0) (.slice none 0 0)
  have b2 : Below w1.heap.size w1 (w1.alloc (.cells #[.slice none 0 0, .slice none 0 0] 26)) := (Below.refl _ _).alloc (Nat.le_refl _) _
  generalize w1.alloc (.cells #[.slice none 0 0, .slice none 0 0] 26) = w2 at *
  have s3 := size_alloc w2 (.cells #[.slice none 0 0, .slice none 0 0] 26)
  have a3 := OBx.new w2 (.slice none 0 0) (.slice none 0 0)
  have b3 : Below w2.heap.size w2 (w2.alloc (.cells #[.slice none 0 0, .slice none 0 0] 26)) := (Below.refl _ _).alloc (Nat.le_refl _) _
  generalize w2.alloc (.cells #[.slice none 0 0, .slice none 0 0] 26) = w3 at *
  have s4 := size_alloc w3 (.cells (madeCells #[.int .i64 0] n) 3)
  have a4 := World.rowIs_made w3 (.int .i64 0) n 3
  have b4 : Below w3.heap.size w3 (w3.alloc (.cells (madeCells #[.int .i64 0] n) 3)) := (Below.refl _ _).alloc (Nat.le_refl _) _
  rw [← h] at s4 a4 b4
  clear h
  have b34 := b3.trans (b4.mono (by omega))
  have b24 := b2.trans (b34.mono (by omega))
  rw [show w3.heap.size = w.heap.size + 3 by omega] at a4
  refine ⟨b1.trans (b24.mono (by omega)), a1.below b24 (by omega), ?_, ?_, a4.congr fun i hi => rfl, by omega⟩
  · rw [show w.heap.size + 1 = w1.heap.size by omega]; exact a2.below b34 (by omega)
  · rw [show w.heap.size + 2 = w2.heap.size by omega]; exact a3.below b4 (by omega)
theorem AnG.base {w : World} {B C : Nat} {va : Value} {l : List (Ans × Value)} (hC : C ≤ B) (h : AnG w B va l) : AnG w C va l := ⟨ownsRow_base hC h.1, fun x hx => ownsRow_base hC (h.2 x hx)⟩
theorem fst_len {l : List (Ans × Value)} {az : List Ans} (h : l.map Prod.fst = az) : l.length = az.length := by rw [← h, List.length_map]
set_option maxRecDepth 100000 in
set_option maxHeartbeats 8000000 in
theorem merged_any (f : Frs) (F : Int → Int) (hT : Tells f F) (vn va vp : Value) (w : World) (hf : FrsAt w vn va f) (hp : SlAt w 2 RPc vp (pcsOf f.nodes F)) :
    Calls Try.prog 51 #[.agg #[vn, va], vp] w fun e w' => ∃ va' vp' l, e = .returned (.tuple #[.agg #[.slice none 0 0, va'], vp']) ∧ AnG w' w.heap.size va' l ∧ l.map Prod.fst = (mg f.answers).1 ∧ w'.ownsRow w.heap.size 83 2 vp' (optP f F true).length ((optP f F true).flatMap encP) ∧ Below w.heap.size w w' := by
  obtain ⟨h0, h8, h2, h3, h4⟩ := frs_good hT.ok
  have HPA := Lib.hid (pcsOf_an hT)
  have HPL : Hid ((pcsOf f.nodes F).length ≤ 8001) := by
    show _ ≤ _
    have h5 : (cuts f.nodes).length ≤ (srtC (bnds f.nodes)).length := List.length_filter_le _ _
    have h6 := srtC_len (bnds f.nodes)
    have h7 := nod_count f.nodes
    rw [pcsOf_len]
    omega
  have H3 := Lib.hid h3
  have h9 : 0 < f.answers.length := by have := hT.lt 0; omega
  obtain ⟨an, cn, rfl, ln⟩ := hf.1.shape
  obtain ⟨aa, ca, rfl, la⟩ := hf.2.shape
  obtain ⟨ap, cp, rfl, lp⟩ := hp.shape
  have hmk := run_make_row' (P := Try.prog) 34 3 (.int .i64 0) 8 Try.underlying34 info_int rfl .i64 .i64 f.answers.length (by omega) (by omega)
  obtain ⟨ia, hia, hza0, hza1, hza2⟩ := info_parts info_ansZ
  obtain ⟨ip, hip, hzp0, hzp1, hzp2⟩ := info_parts info_pcZ
  have HA0 := Lib.hid hf.2
  have HP0 := Lib.hid hp
  have HANO := Lib.hid (fun x hx => anO_of hf.2 x hx)
  have H2 := Lib.hid h2
  have hma : Hid (optP f F true = ddp ((pcsOf f.nodes F).map fun p => ⟨p.fr, nowAt (mg f.answers).2 p.an⟩)) := Lib.hid rfl
  clear hT hf hp ln la lp h0 h8 h3 h4 h9
  go_enter Try.func51, Try.ntmps51
  go_wp2_with fail
  obtain ⟨W1, hW1⟩ : ∃ W1, W1 = (((w.alloc (.cells #[.slice an f.nodes.length cn, .slice aa f.answers.length ca] 26)).alloc (.cells #[.slice none 0 0, .slice none 0 0] 26)).alloc (.cells #[.slice none 0 0, .slice none 0 0] 26)).alloc (.cells (madeCells #[.int .i64 0] f.answers.length) 3) := ⟨_, rfl⟩
  obtain ⟨bw, oF, oR, oO, rN, hs1⟩ := mg_start w (.slice an f.nodes.length cn) (.slice aa f.answers.length ca) f.answers.length W1 hW1
  rw [← hW1]
  clear hW1 hmk
  have HF := Lib.hid oF
  have HR := Lib.hid oR
  have HS1 := Lib.hid hs1
  have HB1 := Lib.hid bw
  have hH1 : w.heap.size + 2 < W1.heap.size := by omega
  have hS0 := Lib.hid (show MgS W1 W1 (w.heap.size + 2) (w.heap.size + 4) (.slice none 0 0) [] from ⟨AnG.nil _ _, oO, Below.refl _ _, by omega, by omega⟩)
  have hN0 := Lib.hid rN
  clear bw oF oR oO rN hs1
  generalize haz : f.answers = az at *
  have HAZ := Lib.hid haz
  clear haz
  go_loopw [23] (fun t wr => ∃ (k : Nat) (l : List (Ans × Value)) (vz : Value) (now : List Int), k ≤ az.length ∧ t = .int .i64 (k : Int) ∧ Hid (MgS W1 wr (w.heap.size + 2) (w.heap.size + 4) vz l) ∧ Hid (wr.rowIs (w.heap.size + 3) 3 az.length (nowI now)) ∧ Hid ((l.map Prod.fst, now) = mg (az.take k))) (fun t _ => (az.length - intOf t).toNat)
  case atStart => exact ⟨0, [], _, [], by omega, rfl, hS0, hN0, rfl⟩
  case round =>
    obtain ⟨k, l, vz, now, hk, rfl, hS, hN, hM⟩ := hrel
    obtain ⟨az2, cz, rfl⟩ := own_shape hS.out.1.1
    have hbr := hS.out.2.2.1
    have o1 := hS.out.2.1.2.1
    have xf0 := (HF.out.below hbr (by omega)).1
    have xf1 := (HF.out.below hbr (by omega)).2.1
    have h2000 := H2.out
    by_cases hlt : k < az.length
    · have hbw := HB1.out.trans (hbr.mono (by omega))
      have hX := HA0.out.mono hbw (RAns.mono hbw)
      obtain ⟨b1, q1, vo, e1, z1, ⟨c0, c1, c2, c3, c4⟩, ho, hnm, i1, i2⟩ := elemAns hX k hlt
      subst e1
      have hano := HANO.out az[k] (List.getElem_mem hlt)
      have hoff : az[k].offs.length ≤ 6 := (ansE_offs (H3.out k hlt)).1
      have hT1 := Lib.hid (mg_take hlt)
      have hlen : l.length ≤ k := by
        have := (mg_inv _ (az.take k) rfl).le
        rw [← hM.out] at this
        simp at this
        omega
      have hnl : now.length = k := by
        have := (mg_inv _ (az.take k) rfl).len
        rw [← hM.out] at this
        simp at this
        omega
      have HNL := Lib.hid hnl
      have hok : ∀ x ∈ l.map Prod.fst, AnO x := fun x hx => by
        have := hM.out
        obtain ⟨p, hp, rfl⟩ := List.mem_iff_getElem.1 hx
        have e : l.map Prod.fst = (mg (az.take k)).1 := by rw [← this]
        have h2 := (mg_inv _ (az.take k) rfl).src p (by rw [← e]; exact hp)
        simp only [← e] at h2
        exact HANO.out _ (List.mem_of_mem_take h2)
      obtain ⟨ao, co, rfl, -⟩ := ho.shape
      have hki : (k : Int) < (az.length : Int) := by omega
      generalize az[k] = A at *
      have hAA : Below wr.heap.size wr (wr.alloc (.cells #[.int .i64 A.ck.off, .bool A.ck.sav, .string A.ck.nm, .slice ao A.offs.length co, .int .i64 A.jump] 39)) := (Below.refl _ _).alloc (Nat.le_refl _) _
      have HBX := Lib.hid (AnBx.new wr A (.slice ao A.offs.length co))
      have HO2 := Lib.hid (ho.mono hAA fun _ _ h => h)
      have HSa := Lib.hid (hS.out.keep hAA)
      have HNa := Lib.hid (hN.out.alloc (.cells #[.int .i64 A.ck.off, .bool A.ck.sav, .string A.ck.nm, .slice ao A.offs.length co, .int .i64 A.jump] 39))
      have HFa := Lib.hid ((HF.out.below hbr (by omega)).below hAA (by have := HF.out.2.2.2; have := hbr.size; omega))
      have HHa : Hid (w.heap.size + 4 ≤ wr.heap.size) := Lib.hid hS.out.2.2.2.2
      clear hX ho hnm i1 i2 hbr hnl
      go_upto_region 6 with (fail)
      generalize wr.alloc (.cells #[.int .i64 A.ck.off, .bool A.ck.sav, .string A.ck.nm, .slice ao A.offs.length co, .int .i64 A.jump] 39) = wa at *
      generalize wr.heap.size = T at *
      have HAT := HSa.out.1.at hok
      have HID := Lib.hid (idxMerged_any A T _ _ (l.map Prod.fst) wa HBX.out HO2.out HAT)
      have o2 := HSa.out.2.1.2.1
      clear o1 xf0 xf1 c0 c1 c2 c3 c4 HAT hok hAA
      obtain ⟨r, hr⟩ : ∃ r, r = fidx (eqA A) (l.map Prod.fst) := ⟨_, rfl⟩
      have hrb := fidx_lo (eqA A) (l.map Prod.fst)
      rw [List.length_map] at hrb
      rw [← hr] at HID hrb
      obtain ⟨hr1, hr2⟩ := hrb
      have HST : Hid (mg (az.take (k + 1)) = if r < 0 then (l.map Prod.fst ++ [A], now ++ [(l.length : Int)]) else (l.map Prod.fst, now ++ [r])) := by
        show _ = _
        rw [hT1.out, ← hM.out]
        unfold mgStep
        rw [hr]
        simp only [List.length_map]
      clear hr
      go_wp2_with fail
      refine HID.out.mono ?_; rintro e wb ⟨rfl, hbb⟩
      have HBb := Lib.hid (HBX.out.below hbb HBX.out.2)
      have HOb := Lib.hid (HO2.out.mono hbb fun _ _ h => h)
      have HSb := Lib.hid (HSa.out.keep hbb)
      have HNb := Lib.hid (HNa.out.of_block (hbb.block _ HNa.out.lt))
      have HFb := Lib.hid (HFa.out.below hbb HFa.out.2.2.2)
      have HLB := Lib.hid hbb.size
      have HTL := Lib.hid HBX.out.2
      clear HBX HO2 HSa HNa HFa HID o2 hbb
      go_upto_if 33 with (fail)
      go_cut [10] (fun kk wx => ∃ (z : Int) (l2 : List (Ans × Value)) (v2 : Value), kk = .int .i64 z ∧ I64 z ∧ Hid (MgS W1 wx (w.heap.size + 2) (w.heap.size + 4) v2 l2) ∧ Hid (wx.rowIs (w.heap.size + 3) 3 az.length (nowI now)) ∧ Hid (mg (az.take (k + 1)) = (l2.map Prod.fst, now ++ [z])))
      case first =>
        by_cases hneg : r < 0
        · have HM2 : Hid (mg (az.take (k + 1)) = (l.map Prod.fst ++ [A], now ++ [(l.length : Int)])) := by
            show _ = _
            rw [HST.out, if_pos hneg]
          have HCL := Lib.hid (fun (W : World) (hb : Below wb.heap.size wb W) => clone_any A (.slice ao A.offs.length co) W (HOb.out.mono hb fun _ _ h => h) (by omega))
          obtain ⟨⟨b0, b1, b2, b3, b4⟩, hTz⟩ := HBb.out
          have o1 := HSb.out.2.1.2.1
          have HH4 : Hid (w.heap.size + 4 ≤ wb.heap.size) := Lib.hid HSb.out.2.2.2.2
          have hl2 : l.length ≤ 2000 := by omega
          clear HBb HOb HST HNL hT1
          go_wp2_with fail
          go_region_law (first | (refine step_append_lies _ (by rfl) _ _ _ (by rfl) (w.heap.size + 4) 39 ia (.agg #[.int .i64 0, .bool false, .string ⟨#[]⟩, .slice none 0 0, .int .i64 0]) 5 64 Try.underlying24 hia hza0 hza1 hza2 rfl (by decide) (.slice az2 l.length cz) l.length (l.flatMap encW) (by rfl) (S5.out.1.1.alloc _) ⟨w5.heap.size, 0, none⟩ 1 1 (encW (A, Value.slice a5 A.offs.length c5)) (by rfl) (by rfl) (cells_at _ _ _ _ _ rfl rfl) (encW_one (A, Value.slice a5 A.offs.length c5) ⟨a5, A.offs.length, c5, rfl⟩) (by omega) (by unfold maxLen; omega) (by omega) (by rw [size_alloc]; have := HH5.out; omega) (w5.heap.size + 1) (size_alloc _ _) ?_; intro gg cap6 w6 hown1 hgrow hat hltg; obtain ⟨⟨z1, zf, zz⟩, SX, NX⟩ := S5.out.more (y := (A, Value.slice a5 A.offs.length c5)) O5.out hown1 hgrow; have SX := Lib.hid SX; have NX := Lib.hid (N5.out.of_block (NX (w.heap.size + 3) (by omega) (by omega))); clear hown1 hgrow hat) | (go_simp; refine (HCL.out _ (Below.refl _ _).drew).mono ?_; rintro r5 w5 ⟨v5, rfl, ho5, hb5⟩; obtain ⟨a5, c5, rfl⟩ := own_shape ho5; have S5 := Lib.hid (HSb.out.keep (show Below wb.heap.size wb w5 from (Below.refl _ wb).drew.trans hb5)); have O5 := Lib.hid (ownsRow_base (show w.heap.size + 4 ≤ wb.drew.heap.size from HH4.out) ho5); have N5 := Lib.hid (HNb.out.of_block (hb5.block _ HNb.out.lt)); have HH5 := Lib.hid (Nat.le_trans HH4.out hb5.size); have y1 := S5.out.2.1.2.1; have yz := S5.out.2.1.2.2.2; clear hb5 ho5))
          all_goals
            go_wp2_with fail
            go_meet
            exact ⟨(l.length : Int), l ++ [(A, Value.slice a5 A.offs.length c5)], _, rfl, i64_nat _ (by omega), SX.out, NX.out, by show _ = _; rw [HM2.out, List.map_append]; rfl⟩
        · have HM2 : Hid (mg (az.take (k + 1)) = (l.map Prod.fst, now ++ [r])) := by
            show _ = _
            rw [HST.out, if_neg hneg]
          go_wp2_with fail
          go_meet
          exact ⟨r, l, _, rfl, i64_of (by omega) (by omega), HSb.out, HNb.out, HM2.out⟩
      case rest =>
        obtain ⟨z, l2, v2, rfl, hz64, HS2, HN2, HM2⟩ := hcut
        clear HBb HOb HSb HNb HFb HST hr1 hr2
        have rk := HN2.out.cell (i := k) (by omega)
        have rf := HN2.out.frozen
        have rz := HN2.out.lt
        unfold nowI at rk
        have HN3 := Lib.hid (row_setI (z := z) HN2.out HNL.out)
        have HS3 := Lib.hid (HS2.out.side (o := k) (u := .int .i64 z) (show w.heap.size + 2 < w.heap.size + 3 by omega) (by omega))
        generalize now.getD k 0 = nk at *
        go_wp2_with fail
        go_roundw
        case rel => exact ⟨k + 1, l2, v2, now ++ [z], by omega, by go_num, HS3, HN3, HM2.out.symm⟩
        case measure => simp [intOf]; omega
    · have hkx : k = az.length := by omega
      have HMA : Hid ((l.map Prod.fst, now) = mg az) := by
        show _ = _
        rw [hM.out, hkx, List.take_of_length_le (Nat.le_refl _)]
      have hNL : now.length = az.length := by
        have := (mg_inv _ az rfl).len
        rw [← HMA.out] at this
        exact this
      have HNV : Hid (∀ a : Nat, a < az.length → now.getD a 0 = nowAt (mg az).2 a) := fun a ha => by
        rw [← HMA.out]; rfl
      have HN64 : Hid (∀ a : Nat, a < az.length → I64 (now.getD a 0)) := fun a ha => by
        have h1 : now = (mg az).2 := by rw [← HMA.out]
        have h2 := mg_idx_lt (az := az) (now.getD a 0) (by rw [← h1, List.getD_eq_getElem?_getD, List.getElem?_eq_getElem (by omega)]; exact List.getElem_mem (by omega))
        have h3 := (mg_inv _ az rfl).le
        exact i64_of (by omega) (by omega)
      have HB2 := Lib.hid (HB1.out.trans (hbr.mono (by omega)))
      have HR2 := Lib.hid (HR.out.below hbr (by omega))
      clear hM hkx hNL o1 xf0 xf1 hbr
      go_wp2_with fail
      clear hlt
      obtain ⟨W2, hW2⟩ : ∃ W2, W2 = wr := ⟨_, rfl⟩
      rw [← hW2] at hS hN HB2 HR2
      rw [← hW2]
      clear hW2
      have hH2 : w.heap.size + 4 ≤ W2.heap.size := hS.out.2.2.2.2
      obtain ⟨PS, hPS⟩ : ∃ PS, PS = pcsOf f.nodes F := ⟨_, rfl⟩
      rw [← hPS] at hma HPA HPL HP0
      rw [← hPS]
      clear hPS
      have hpl := HPL.out
      obtain ⟨PM, hPM⟩ : ∃ PM, PM = PS.map fun p => (⟨p.fr, nowAt (mg az).2 p.an⟩ : Pc) := ⟨_, rfl⟩
      rw [← hPM] at hma
      have HPM := Lib.hid hPM
      have hpml : PM.length = PS.length := by rw [hPM, List.length_map]
      have HPML := Lib.hid hpml
      clear hPM hpml
      go_loopw [11, 51] (fun ps t wq => ∃ (k : Nat) (P : List Pc), k ≤ PS.length ∧ t = .int .i64 (k : Int) ∧ Hid (wq.ownsRow W2.heap.size 83 2 ps P.length (P.flatMap encP)) ∧ Hid (P = ddp (PM.take k)) ∧ Below W2.heap.size W2 wq) (fun _ t _ => (PS.length - intOf t).toNat)
      case atStart => exact ⟨0, [], by omega, rfl, World.ownsRow_nil _ _ _ _, rfl, Below.refl _ _⟩
      case round =>
        obtain ⟨k, P, hk, rfl, hO, hD, hbq⟩ := hrel
        obtain ⟨ao, co, rfl⟩ := own_shape hO.out
        have hsz := hbq.size
        by_cases hlt : k < PS.length
        · have hki : (k : Int) < (PS.length : Int) := by omega
          obtain ⟨b1, q1, e1, z1, c0, c1⟩ := elemPc (HP0.out.mono (HB2.out.trans (hbq.mono (by omega))) fun _ _ h => h) k hlt
          subst e1
          obtain ⟨g0, g1⟩ := HPA.out PS[k] (List.getElem_mem hlt)
          obtain ⟨a, ha⟩ : ∃ a : Nat, PS[k].an = (a : Int) := ⟨PS[k].an.toNat, by omega⟩
          rw [ha] at c1 g0 g1
          have hal : a < az.length := by omega
          have hST : Hid (ddp (PM.take (k + 1)) = ddStep P ⟨PS[k].fr, now.getD a 0⟩) := by
            show _ = _
            have hk' : k < PM.length := by rw [HPML.out]; exact hlt
            rw [take_snoc PM k hk', ddp_snoc, ← hD.out]
            have e : PM[k] = ⟨PS[k].fr, nowAt (mg az).2 PS[k].an⟩ := by simp only [HPM.out, List.getElem_map]
            rw [e, ha, HNV.out a hal]
          have hPl : P.length ≤ k := by
            have := (ddp_inv _ (PM.take k) rfl).le
            rw [← hD.out, List.length_take] at this
            omega
          have rk := (hN.out.of_block (hbq.block _ hN.out.lt)).cell (i := a) hal
          have rz : w.heap.size + 3 < wr.heap.size := by omega
          have h64 := HN64.out a hal
          unfold nowI at rk
          have hgi : (a : Int) < (az.length : Int) := by omega
          have hH64 := Lib.hid h64
          clear g0 g1 ha h64
          generalize now.getD a 0 = q at *
          generalize PS[k].fr = fr at *
          by_cases h0 : P.length = 0
          · obtain rfl : P = [] := List.length_eq_zero_iff.1 h0
            have HS2 : Hid (ddp (PM.take (k + 1)) = [] ++ [⟨fr, q⟩]) := hST.out
            clear h0 hST hD
            go_wp2_with fail
            go_quiet (fail)
            have OA : Hid (((wr.alloc (.cells #[.int .i64 fr, .int .i64 q] 83)).drewN nq).ownsRow W2.heap.size 83 2 (.slice ao 0 co) 0 []) := Lib.hid (hO.out.alloc (.cells #[.int .i64 fr, .int .i64 q] 83))
            go_wp2_with (at_builtin; refine wpList_append_own _ rfl _ _ 78 rfl W2.heap.size 83 ip (.agg #[.int .i64 0, .int .i64 0]) 2 16 Try.underlying78 hip hzp0 hzp1 hzp2 rfl (by decide) (.slice ao 0 co) 0 [] rfl (OA.out.alloc _) ⟨wr.heap.size + 1, 0, none⟩ 1 1 (encP ⟨fr, q⟩) rfl rfl (cells_at _ _ _ _ _ (size_alloc wr _).symm rfl) (encP_one _) (by unfold maxLen; omega) (by omega) (by rw [size_alloc]; exact Nat.le_trans hsz (Nat.le_trans (size_le_push_ wr _) (Nat.le_succ _))) ?_; intro v7 w7 hown' hgrow _)
            have hB : Below W2.heap.size W2 w7 := ((below_draws (hbq.alloc hsz (.cells #[.int .i64 fr, .int .i64 q] 83)) nq).alloc (Nat.le_trans hsz (size_le_push_ wr _)) _).grown hgrow (by rw [size_alloc]; exact Nat.le_trans hsz (Nat.le_trans (size_le_push_ wr _) (Nat.le_succ _))) (fun g hg => (OA.out.lt g hg).1)
            have HO7 : Hid (w7.ownsRow W2.heap.size 83 2 v7 (([] : List Pc) ++ [(⟨fr, q⟩ : Pc)]).length ((([] : List Pc) ++ [(⟨fr, q⟩ : Pc)]).flatMap encP)) := own_snocG hown'
            clear hown' hgrow
            go_wp2_with fail
            go_roundw
            case rel => exact ⟨k + 1, ([] : List Pc) ++ [(⟨fr, q⟩ : Pc)], by omega, by go_num, HO7, HS2.out.symm, hB⟩
            case measure => simp [intOf]; omega
          · obtain ⟨last, hlast⟩ : ∃ last, P[P.length - 1]? = some last := ⟨_, List.getElem?_eq_getElem (by omega)⟩
            have HLA : Hid (P.getLast? = some last) := by
              show _ = _
              rw [List.getLast?_eq_getElem?]; exact hlast
            have hSP : SlAt wr 2 RPc (.slice ao P.length co) P := slAt_of_own (by omega) (fun _ => rfl) (fun _ _ => rfl) hO.out
            obtain ⟨b2, q2, e2, z2, _, d1⟩ := elemPc hSP (P.length - 1) (by omega)
            subst e2
            obtain ⟨hlt2, hl2⟩ := List.getElem?_eq_some_iff.1 hlast
            rw [hl2] at d1
            have hz0 : ((P.length : Int) == 0) = false := by rw [beq_eq_false_iff_ne]; omega
            have hz1 : (P.length : Int) - 1 = ((P.length - 1 : Nat) : Int) := by omega
            have hz2 : ((P.length - 1 : Nat) : Int) < (P.length : Int) := by omega
            clear hSP hlast hl2 hlt2
            by_cases hq : last.an = q
            · have HS2 : Hid (ddp (PM.take (k + 1)) = P) := by
                show _ = _
                rw [hST.out]; unfold ddStep; rw [HLA.out, if_pos (by simp [hq])]
              rw [hq] at d1
              clear hq hST HLA
              go_wp2_with fail
              go_quiet (fail)
              go_wp2_with fail
              go_roundw
              case rel => exact ⟨k + 1, P, by omega, by go_num, Lib.hid (hO.out.alloc (.cells #[.int .i64 fr, .int .i64 q] 83)), HS2.out.symm, below_draws (hbq.alloc hsz _) nq⟩
              case measure => simp [intOf]; omega
            · have HS2 : Hid (ddp (PM.take (k + 1)) = P ++ [⟨fr, q⟩]) := by
                show _ = _
                rw [hST.out]; unfold ddStep; rw [HLA.out, if_neg (by simp [hq])]
              have hqb : (last.an != q) = true := by rw [bne_iff_ne]; exact hq
              generalize last.an = la at *
              clear hq hST HLA
              go_wp2_with fail
              go_quiet (fail)
              have OA : Hid (((wr.alloc (.cells #[.int .i64 fr, .int .i64 q] 83)).drewN nq).ownsRow W2.heap.size 83 2 (.slice (some ⟨b2, q2, none⟩) P.length co) P.length (P.flatMap encP)) := Lib.hid (hO.out.alloc (.cells #[.int .i64 fr, .int .i64 q] 83))
              go_wp2_with (at_builtin; refine wpList_append_own _ rfl _ _ 78 rfl W2.heap.size 83 ip (.agg #[.int .i64 0, .int .i64 0]) 2 16 Try.underlying78 hip hzp0 hzp1 hzp2 rfl (by decide) (.slice (some ⟨b2, q2, none⟩) P.length co) P.length (P.flatMap encP) rfl (OA.out.alloc _) ⟨wr.heap.size + 1, 0, none⟩ 1 1 (encP ⟨fr, q⟩) rfl rfl (cells_at _ _ _ _ _ (size_alloc wr _).symm rfl) (encP_one _) (by unfold maxLen; omega) (by omega) (by rw [size_alloc]; exact Nat.le_trans hsz (Nat.le_trans (size_le_push_ wr _) (Nat.le_succ _))) ?_; intro v7 w7 hown' hgrow _)
              have hB : Below W2.heap.size W2 w7 := ((below_draws (hbq.alloc hsz (.cells #[.int .i64 fr, .int .i64 q] 83)) nq).alloc (Nat.le_trans hsz (size_le_push_ wr _)) _).grown hgrow (by rw [size_alloc]; exact Nat.le_trans hsz (Nat.le_trans (size_le_push_ wr _) (Nat.le_succ _))) (fun g hg => (OA.out.lt g hg).1)
              have HO7 : Hid (w7.ownsRow W2.heap.size 83 2 v7 (P ++ [(⟨fr, q⟩ : Pc)]).length ((P ++ [(⟨fr, q⟩ : Pc)]).flatMap encP)) := own_snocG hown'
              clear hown' hgrow
              go_wp2_with fail
              go_roundw
              case rel => exact ⟨k + 1, P ++ [(⟨fr, q⟩ : Pc)], by omega, by go_num, HO7, HS2.out.symm, hB⟩
              case measure => simp [intOf]; omega
        · have hkx : k = PS.length := by omega
          have HPF : Hid (P = optP f F true) := by
            show _ = _
            rw [hD.out, hkx, hma.out, List.take_of_length_le (by rw [HPML.out]; exact Nat.le_refl _)]
          have HOX := Lib.hid (hS.out.2.1.below hbq (by omega))
          have HRX := Lib.hid (HR2.out.below hbq (by omega))
          obtain ⟨i0, i1, _, z3⟩ := HOX.out
          obtain ⟨i3, i4, i5, z4⟩ := HRX.out
          have z5 : ¬ w.heap.size + 1 = w.heap.size + 2 := by omega
          have z6 : ¬ w.heap.size + 2 = w.heap.size + 1 := by omega
          have HAG := Lib.hid (hS.out.1.mv (w' := wr) fun c _ hc => hbq.block c hc)
          have HBE := Lib.hid (HB2.out.trans (hbq.mono (by omega)))
          rw [HPF.out] at hO ⊢
          have HMF : Hid (l.map Prod.fst = (mg az).1) := by
            show _ = _
            rw [← HMA.out]
          clear hkx hbq hsz
          generalize hPT : optP f F true = PT at *
          have HPT := Lib.hid hPT
          clear hPT
          go_wp2_with fail
          refine bodyPost_ret (v := .tuple #[.agg #[.slice none 0 0, .slice az2 l.length cz], .slice ao PT.length co]) (by simp [results, Try.results51, go_sem, i0, i1, i3, i4, z4, z3, z5, z6]) rfl ⟨_, _, l, rfl, ?_, by rw [HAZ.out]; exact HMF.out, ?_, ?_⟩
          · exact AnG.base (B := w.heap.size + 4) (by omega) ((HAG.out.mv (fun c hc _ => Below.heap_setCell _ _ _ _ (by show c ≠ w.heap.size + 1; omega))).mv (fun c hc _ => Below.heap_setCell _ _ _ _ (by show c ≠ w.heap.size + 1; omega)))
          · rw [HPT.out]
            exact ownsRow_base (B := W2.heap.size) (by omega) (ownsRow_setCell_below (a := ⟨w.heap.size + 1, 1, none⟩) (ownsRow_setCell_below (a := ⟨w.heap.size + 1, 0, none⟩) hO.out (by show w.heap.size + 1 < _; omega) _) (by show w.heap.size + 1 < _; omega) _)
          · exact (HBE.out.setCell (by show w.heap.size ≤ w.heap.size + 1; omega) _).setCell (by show w.heap.size ≤ w.heap.size + 1; omega) _
end Go.Proofs.Ytlhidbbphngpcaa
