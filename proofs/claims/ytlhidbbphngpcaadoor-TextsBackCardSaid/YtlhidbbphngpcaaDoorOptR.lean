/-
  tree.merged: the answers.
  tree.Opt: what is refused; numbers of the nodes.
  tree.Opt: what is made less.
  sameInts, sameAnswer, twins, exactly.
  The law on tree.Opt.
-/
import Derived.Deep.OwnRows
import Derived.Deep.AppendLies
import Derived.Deep.RegionLaw
import Derived.Deep.DeepCutAuto
import Derived.Deep.CutRange
import Derived.Deep.CutBlock
import Derived.StillTailTactics
import Derived.Test.YtlhidbbphngpcaaDoorOptQ
import Derived.Test.YtlhidbbphngpcaaDoorOptP
import Derived.Test.YtlhidbbphngpcaaDoorTreeT
namespace Go.Proofs.YtlhidbbphngpcaaDoor
set_option linter.unusedVariables false
set_option linter.unusedSimpArgs false
open Go.ChangeShapes Go.WideShapes Go.ChangeAt Go.RowKit

/-- a forest's box. -/
def OBx (w : World) (O : Nat) (vn va : Value) : Prop := w.cell? ⟨O, 0, none⟩ = some vn ∧ w.cell? ⟨O, 1, none⟩ = some va ∧ (∀ j, w.frozen? ⟨O, j, none⟩ = false) ∧ O < w.heap.size
theorem OBx.new (w : World) (vn va : Value) : OBx (w.alloc (.cells #[vn, va] 64)) w.heap.size vn va :=
  ⟨World.cell?_alloc_at (w := w) _ _ w.heap.size 0 rfl, World.cell?_alloc_at (w := w) _ _ w.heap.size 1 rfl, fun j => World.frozen?_alloc_at (w := w) _ _ w.heap.size j rfl, by rw [size_alloc]; omega⟩
theorem OBx.block {w w' : World} {O : Nat} {vn va : Value} (h : OBx w O vn va) (e : w'.heap[O]? = w.heap[O]?) (hz : O < w'.heap.size) : OBx w' O vn va := by
  obtain ⟨h0, h1, h2, _⟩ := h
  exact ⟨(World.cell?_of_block (a := ⟨O, 0, none⟩) e).trans h0, (World.cell?_of_block (a := ⟨O, 1, none⟩) e).trans h1, fun j => (World.frozen?_of_block (a := ⟨O, j, none⟩) e).trans (h2 j), hz⟩
theorem OBx.below {w w' : World} {O B : Nat} {vn va : Value} (h : OBx w O vn va) (hb : Below B w w') (hO : O < B) : OBx w' O vn va := h.block (hb.block O hO) (Nat.lt_of_lt_of_le h.2.2.2 hb.size)
theorem OBx.set0 {w : World} {O : Nat} {vn va : Value} (h : OBx w O vn va) (u : Value) : OBx (w.setCell ⟨O, 0, none⟩ u) O u va := by
  obtain ⟨h0, h1, h2, h3⟩ := h
  exact ⟨World.cell?_setCell_same (h := h0) .., by rw [World.cell?_setCell_other (h := by simp)]; exact h1, fun j => by rw [World.frozen?_setCell]; exact h2 j, by rw [World.size_setCell]; exact h3⟩
theorem OBx.set1 {w : World} {O : Nat} {vn va : Value} (h : OBx w O vn va) (u : Value) : OBx (w.setCell ⟨O, 1, none⟩ u) O vn u := by
  obtain ⟨h0, h1, h2, h3⟩ := h
  exact ⟨by rw [World.cell?_setCell_other (h := by simp)]; exact h0, World.cell?_setCell_same (h := h1) .., fun j => by rw [World.frozen?_setCell]; exact h2 j, by rw [World.size_setCell]; exact h3⟩
/-- answers in a forest's box of the call's own: O the box, rows from B on. -/
def MgS (w1 wr : World) (O B : Nat) (vz : Value) (l : List (Ans × Value)) : Prop := AnG wr B vz l ∧ OBx wr O (.slice none 0 0) vz ∧ Below O w1 wr ∧ O < B ∧ B ≤ wr.heap.size
theorem MgS.keep {w1 wr w' : World} {O B : Nat} {vz : Value} {l : List (Ans × Value)} (h : MgS w1 wr O B vz l) (hb : Below wr.heap.size wr w') : MgS w1 w' O B vz l := by
  obtain ⟨h1, h2, h3, h4, h5⟩ := h
  exact ⟨h1.mv fun c _ hc => hb.block c hc, h2.below hb h2.2.2.2, h3.trans (hb.mono (by omega)), h4, Nat.le_trans h5 hb.size⟩
theorem MgS.more {w1 wx w' : World} {O B : Nat} {vz vz' : Value} {l : List (Ans × Value)} {y : Ans × Value} {o : Obj} (h : MgS w1 wx O B vz l) (hy : wx.ownsRow B 3 1 y.2 y.1.offs.length (y.1.offs.flatMap encI)) (ho : w'.ownsRow B 79 5 vz' (l.length + 1) (l.flatMap encW ++ encW y)) (hg : (wx.alloc o).grownBy w' vz.ownBlock) :
    (w'.cell? ⟨O, 1, none⟩ = some vz ∧ (∀ j, w'.frozen? ⟨O, j, none⟩ = false) ∧ O < w'.heap.size) ∧ MgS w1 (w'.setCell ⟨O, 1, none⟩ vz') O B vz' (l ++ [y]) ∧ ∀ R, R < B → R ≠ O → (w'.setCell ⟨O, 1, none⟩ vz').heap[R]? = wx.heap[R]? := by
  obtain ⟨h1, h2, h3, h4, h5⟩ := h
  have hb : Below B wx w' := row_low h1.1 h5 hg
  have hB := h2.below hb h4
  have hA := h1.snoc hy ho hg
  refine ⟨⟨hB.2.1, hB.2.2.1, hB.2.2.2⟩, ⟨hA.mv fun c hc _ => Below.heap_setCell _ _ _ _ (by show c ≠ O; omega), hB.set1 vz', (h3.trans (hb.mono (by omega))).setCell (Nat.le_refl _) _, h4, ?_⟩, fun R hR hne => ?_⟩
  · rw [World.size_setCell]; exact Nat.le_trans h5 hb.size
  · exact (Below.heap_setCell _ _ _ _ hne).trans (hb.block R hR)
theorem MgS.side {w1 wr : World} {O B R o : Nat} {vz u : Value} {l : List (Ans × Value)} (h : MgS w1 wr O B vz l) (hR : O < R) (hB : R < B) : MgS w1 (wr.setCell ⟨R, o, none⟩ u) O B vz l := by
  obtain ⟨h1, h2, h3, h4, h5⟩ := h
  have k : ∀ c, c ≠ R → (wr.setCell ⟨R, o, none⟩ u).heap[c]? = wr.heap[c]? := fun c hc => Below.heap_setCell _ _ _ _ hc
  exact ⟨h1.mv fun c hc _ => k c (by omega), h2.block (k _ (by omega)) (by rw [World.size_setCell]; exact h2.2.2.2), h3.setCell (by show O ≤ R; omega) _, h4, by rw [World.size_setCell]; exact h5⟩
def nowI (now : List Int) (j : Nat) : Value := .int .i64 (now.getD j 0)
theorem row_setI {w : World} {b n k : Nat} {now : List Int} {z : Int} (h : w.rowIs b 3 n (nowI now)) (hk : now.length = k) : (w.setCell ⟨b, k, none⟩ (.int .i64 z)).rowIs b 3 n (nowI (now ++ [z])) := by
  refine (h.set k _).congr fun i hi => ?_
  unfold nowI
  by_cases e : i = k
  · subst e
    rw [if_pos rfl, List.getD_eq_getElem?_getD, List.getElem?_append_right (by omega)]
    simp [hk]
  · rw [if_neg e, List.getD_eq_getElem?_getD, List.getD_eq_getElem?_getD]
    by_cases e2 : i < now.length
    · rw [List.getElem?_append_left e2]
    · rw [List.getElem?_eq_none (by omega), List.getElem?_eq_none (by simp; omega)]
theorem mg_take {az : List Ans} {k : Nat} (h : k < az.length) : mg (az.take (k + 1)) = mgStep (mg (az.take k)) az[k] := by
  rw [take_snoc az k h, mg_snoc]
theorem mg_idx_lt {az : List Ans} : ∀ x ∈ (mg az).2, 0 ≤ x ∧ x < (mg az).1.length := by
  intro x hx
  obtain ⟨i, hi, rfl⟩ := List.mem_iff_getElem.1 hx
  have h := mg_inv _ az rfl
  obtain ⟨h1, h2, h3, _⟩ := h.img i (by rw [← h.len]; exact hi)
  omega
theorem mg_start (w : World) (vn va : Value) (n : Nat) (W1 : World) (h : W1 = (((w.alloc (.cells #[vn, va] 64)).alloc (.cells #[.slice none 0 0, .slice none 0 0] 64)).alloc (.cells #[.slice none 0 0, .slice none 0 0] 64)).alloc (.cells (madeCells #[.int .i64 0] n) 3)) :
    Below w.heap.size w W1 ∧ OBx W1 w.heap.size vn va ∧ OBx W1 (w.heap.size + 1) (.slice none 0 0) (.slice none 0 0) ∧ OBx W1 (w.heap.size + 2) (.slice none 0 0) (.slice none 0 0) ∧ W1.rowIs (w.heap.size + 3) 3 n (nowI []) ∧ W1.heap.size = w.heap.size + 4 := by
  have s1 := size_alloc w (.cells #[vn, va] 64)
  have a1 := OBx.new w vn va
  have b1 : Below w.heap.size w (w.alloc (.cells #[vn, va] 64)) := (Below.refl _ _).alloc (Nat.le_refl _) _
  generalize w.alloc (.cells #[vn, va] 64) = w1 at *
  have s2 := size_alloc w1 (.cells #[.slice none 0 0, .slice none 0 0] 64)
  have a2 := OBx.new w1 (.slice none 0 0) (.slice none 0 0)
  have b2 : Below w1.heap.size w1 (w1.alloc (.cells #[.slice none 0 0, .slice none 0 0] 64)) := (Below.refl _ _).alloc (Nat.le_refl _) _
  generalize w1.alloc (.cells #[.slice none 0 0, .slice none 0 0] 64) = w2 at *
  have s3 := size_alloc w2 (.cells #[.slice none 0 0, .slice none 0 0] 64)
  have a3 := OBx.new w2 (.slice none 0 0) (.slice none 0 0)
  have b3 : Below w2.heap.size w2 (w2.alloc (.cells #[.slice none 0 0, .slice none 0 0] 64)) := (Below.refl _ _).alloc (Nat.le_refl _) _
  generalize w2.alloc (.cells #[.slice none 0 0, .slice none 0 0] 64) = w3 at *
  have s4 := size_alloc w3 (.cells (madeCells #[.int .i64 0] n) 3)
  have a4 := World.rowIs_made w3 (.int .i64 0) n 3
  have b4 : Below w3.heap.size w3 (w3.alloc (.cells (madeCells #[.int .i64 0] n) 3)) := (Below.refl _ _).alloc (Nat.le_refl _) _
  rw [← h] at s4 a4 b4
  clear h
  have b34 := b3.trans (b4.mono (by omega))
  have b24 := b2.trans (b34.mono (by omega))
  rw [show w3.heap.size = w.heap.size + 3 by omega] at a4
  refine ⟨b1.trans (b24.mono (by omega)), a1.below b24 (by omega), ?_, ?_, a4.congr fun i hi => rfl, by omega⟩
  · rw [show w.heap.size + 1 = w1.heap.size by omega]; exact a2.below b34 (by omega)
  · rw [show w.heap.size + 2 = w2.heap.size by omega]; exact a3.below b4 (by omega)
theorem AnG.base {w : World} {B C : Nat} {va : Value} {l : List (Ans × Value)} (hC : C ≤ B) (h : AnG w B va l) : AnG w C va l := ⟨ownsRow_base hC h.1, fun x hx => ownsRow_base hC (h.2 x hx)⟩
theorem fst_len {l : List (Ans × Value)} {az : List Ans} (h : l.map Prod.fst = az) : l.length = az.length := by rw [← h, List.length_map]
set_option maxRecDepth 100000 in
set_option maxHeartbeats 8000000 in
theorem merged_any (f : Frs) (F : Int → Int) (hT : Tells f F) (vn va vp : Value) (w : World) (hf : FrsAt w vn va f) (hp : SlAt w 2 RPc vp (pcsOf f.nodes F)) :
    Calls Tryd.prog 41 #[.agg #[vn, va], vp] w fun e w' => ∃ va' vp' l, e = .returned (.tuple #[.agg #[.slice none 0 0, va'], vp']) ∧ AnG w' w.heap.size va' l ∧ l.map Prod.fst = (mg f.answers).1 ∧ w'.ownsRow w.heap.size 116 2 vp' (optP f F true).length ((optP f F true).flatMap encP) ∧ Below w.heap.size w w' := by
  obtain ⟨h0, h8, h2, h3, h4⟩ := frs_good hT.ok
  have HPA := Lib.hid (pcsOf_an hT)
  have HPL : Hid ((pcsOf f.nodes F).length ≤ 8001) := by
    show _ ≤ _
    have h5 : (cuts f.nodes).length ≤ (srtC (bnds f.nodes)).length := List.length_filter_le _ _
    have h6 := srtC_len (bnds f.nodes)
    have h7 := nod_count f.nodes
    rw [pcsOf_len]
    omega
  have H3 := Lib.hid h3
  have h9 : 0 < f.answers.length := by have := hT.lt 0; omega
  obtain ⟨an, cn, rfl, ln⟩ := hf.1.shape
  obtain ⟨aa, ca, rfl, la⟩ := hf.2.shape
  obtain ⟨ap, cp, rfl, lp⟩ := hp.shape
  have hmk := run_make_row' (P := Tryd.prog) 32 3 (.int .i64 0) 8 Tryd.underlying32 info_int rfl .i64 .i64 f.answers.length (by omega) (by omega)
  obtain ⟨ia, hia, hza0, hza1, hza2⟩ := info_parts info_ansZ
  obtain ⟨ip, hip, hzp0, hzp1, hzp2⟩ := info_parts info_pcZ
  have HA0 := Lib.hid hf.2
  have HP0 := Lib.hid hp
  have HANO := Lib.hid (fun x hx => anO_of hf.2 x hx)
  have H2 := Lib.hid h2
  have hma : Hid (optP f F true = ddp ((pcsOf f.nodes F).map fun p => ⟨p.fr, nowAt (mg f.answers).2 p.an⟩)) := Lib.hid rfl
  clear hT hf hp ln la lp h0 h8 h3 h4 h9
  go_enter Tryd.func41, Tryd.ntmps41
  go_wp2_with fail
  obtain ⟨W1, hW1⟩ : ∃ W1, W1 = (((w.alloc (.cells #[.slice an f.nodes.length cn, .slice aa f.answers.length ca] 64)).alloc (.cells #[.slice none 0 0, .slice none 0 0] 64)).alloc (.cells #[.slice none 0 0, .slice none 0 0] 64)).alloc (.cells (madeCells #[.int .i64 0] f.answers.length) 3) := ⟨_, rfl⟩
  obtain ⟨bw, oF, oR, oO, rN, hs1⟩ := mg_start w (.slice an f.nodes.length cn) (.slice aa f.answers.length ca) f.answers.length W1 hW1
  rw [← hW1]
  clear hW1 hmk
  have HF := Lib.hid oF
  have HR := Lib.hid oR
  have HS1 := Lib.hid hs1
  have HB1 := Lib.hid bw
  have hH1 : w.heap.size + 2 < W1.heap.size := by omega
  have hS0 := Lib.hid (show MgS W1 W1 (w.heap.size + 2) (w.heap.size + 4) (.slice none 0 0) [] from ⟨AnG.nil _ _, oO, Below.refl _ _, by omega, by omega⟩)
  have hN0 := Lib.hid rN
  clear bw oF oR oO rN hs1
  generalize haz : f.answers = az at *
  have HAZ := Lib.hid haz
  clear haz
  go_loopw [23] (fun t wr => ∃ (k : Nat) (l : List (Ans × Value)) (vz : Value) (now : List Int), k ≤ az.length ∧ t = .int .i64 (k : Int) ∧ Hid (MgS W1 wr (w.heap.size + 2) (w.heap.size + 4) vz l) ∧ Hid (wr.rowIs (w.heap.size + 3) 3 az.length (nowI now)) ∧ Hid ((l.map Prod.fst, now) = mg (az.take k))) (fun t _ => (az.length - intOf t).toNat)
  case atStart => exact ⟨0, [], _, [], by omega, rfl, hS0, hN0, rfl⟩
  case round =>
    obtain ⟨k, l, vz, now, hk, rfl, hS, hN, hM⟩ := hrel
    obtain ⟨az2, cz, rfl⟩ := own_shape hS.out.1.1
    have hbr := hS.out.2.2.1
    have o1 := hS.out.2.1.2.1
    have xf0 := (HF.out.below hbr (by omega)).1
    have xf1 := (HF.out.below hbr (by omega)).2.1
    have h2000 := H2.out
    by_cases hlt : k < az.length
    · have hbw := HB1.out.trans (hbr.mono (by omega))
      have hX := HA0.out.mono hbw (RAns.mono hbw)
      obtain ⟨b1, q1, vo, e1, z1, ⟨c0, c1, c2, c3, c4⟩, ho, hnm, i1, i2⟩ := elemAns hX k hlt
      subst e1
      have hano := HANO.out az[k] (List.getElem_mem hlt)
      have hoff : az[k].offs.length ≤ 6 := (ansE_offs (H3.out k hlt)).1
      have hT1 := Lib.hid (mg_take hlt)
      have hlen : l.length ≤ k := by
        have := (mg_inv _ (az.take k) rfl).le
        rw [← hM.out] at this
        simp at this
        omega
      have hnl : now.length = k := by
        have := (mg_inv _ (az.take k) rfl).len
        rw [← hM.out] at this
        simp at this
        omega
      have HNL := Lib.hid hnl
      have hok : ∀ x ∈ l.map Prod.fst, AnO x := fun x hx => by
        have := hM.out
        obtain ⟨p, hp, rfl⟩ := List.mem_iff_getElem.1 hx
        have e : l.map Prod.fst = (mg (az.take k)).1 := by rw [← this]
        have h2 := (mg_inv _ (az.take k) rfl).src p (by rw [← e]; exact hp)
        simp only [← e] at h2
        exact HANO.out _ (List.mem_of_mem_take h2)
      obtain ⟨ao, co, rfl, -⟩ := ho.shape
      have hki : (k : Int) < (az.length : Int) := by omega
      generalize az[k] = A at *
      have hAA : Below wr.heap.size wr (wr.alloc (.cells #[.int .i64 A.ck.off, .bool A.ck.sav, .string A.ck.nm, .slice ao A.offs.length co, .int .i64 A.jump] 79)) := (Below.refl _ _).alloc (Nat.le_refl _) _
      have HBX := Lib.hid (AnBx.new wr A (.slice ao A.offs.length co))
      have HO2 := Lib.hid (ho.mono hAA fun _ _ h => h)
      have HSa := Lib.hid (hS.out.keep hAA)
      have HNa := Lib.hid (hN.out.alloc (.cells #[.int .i64 A.ck.off, .bool A.ck.sav, .string A.ck.nm, .slice ao A.offs.length co, .int .i64 A.jump] 79))
      have HFa := Lib.hid ((HF.out.below hbr (by omega)).below hAA (by have := HF.out.2.2.2; have := hbr.size; omega))
      have HHa : Hid (w.heap.size + 4 ≤ wr.heap.size) := Lib.hid hS.out.2.2.2.2
      clear hX ho hnm i1 i2 hbr hnl
      go_upto_region 6 with (fail)
      generalize wr.alloc (.cells #[.int .i64 A.ck.off, .bool A.ck.sav, .string A.ck.nm, .slice ao A.offs.length co, .int .i64 A.jump] 79) = wa at *
      generalize wr.heap.size = T at *
      have HAT := HSa.out.1.at hok
      have HID := Lib.hid (idxMerged_any A T _ _ (l.map Prod.fst) wa HBX.out HO2.out HAT)
      have o2 := HSa.out.2.1.2.1
      clear o1 xf0 xf1 c0 c1 c2 c3 c4 HAT hok hAA
      obtain ⟨r, hr⟩ : ∃ r, r = fidx (eqA A) (l.map Prod.fst) := ⟨_, rfl⟩
      have hrb := fidx_lo (eqA A) (l.map Prod.fst)
      rw [List.length_map] at hrb
      rw [← hr] at HID hrb
      obtain ⟨hr1, hr2⟩ := hrb
      have HST : Hid (mg (az.take (k + 1)) = if r < 0 then (l.map Prod.fst ++ [A], now ++ [(l.length : Int)]) else (l.map Prod.fst, now ++ [r])) := by
        show _ = _
        rw [hT1.out, ← hM.out]
        unfold mgStep
        rw [hr]
        simp only [List.length_map]
      clear hr
      go_wp2_with fail
      refine HID.out.mono ?_; rintro e wb ⟨rfl, hbb⟩
      have HBb := Lib.hid (HBX.out.below hbb HBX.out.2)
      have HOb := Lib.hid (HO2.out.mono hbb fun _ _ h => h)
      have HSb := Lib.hid (HSa.out.keep hbb)
      have HNb := Lib.hid (HNa.out.of_block (hbb.block _ HNa.out.lt))
      have HFb := Lib.hid (HFa.out.below hbb HFa.out.2.2.2)
      have HLB := Lib.hid hbb.size
      have HTL := Lib.hid HBX.out.2
      clear HBX HO2 HSa HNa HFa HID o2 hbb
      go_upto_if 33 with (fail)
      go_cut [10] (fun kk wx => ∃ (z : Int) (l2 : List (Ans × Value)) (v2 : Value), kk = .int .i64 z ∧ I64 z ∧ Hid (MgS W1 wx (w.heap.size + 2) (w.heap.size + 4) v2 l2) ∧ Hid (wx.rowIs (w.heap.size + 3) 3 az.length (nowI now)) ∧ Hid (mg (az.take (k + 1)) = (l2.map Prod.fst, now ++ [z])))
      case first =>
        by_cases hneg : r < 0
        · have HM2 : Hid (mg (az.take (k + 1)) = (l.map Prod.fst ++ [A], now ++ [(l.length : Int)])) := by
            show _ = _
            rw [HST.out, if_pos hneg]
          have HCL := Lib.hid (fun (W : World) (hb : Below wb.heap.size wb W) => clone_any A (.slice ao A.offs.length co) W (HOb.out.mono hb fun _ _ h => h) (by omega))
          obtain ⟨⟨b0, b1, b2, b3, b4⟩, hTz⟩ := HBb.out
          have o1 := HSb.out.2.1.2.1
          have HH4 : Hid (w.heap.size + 4 ≤ wb.heap.size) := Lib.hid HSb.out.2.2.2.2
          have hl2 : l.length ≤ 2000 := by omega
          clear HBb HOb HST HNL hT1
          go_wp2_with fail
          go_region_law (first | (refine step_append_lies _ (by rfl) _ _ _ (by rfl) (w.heap.size + 4) 79 ia (.agg #[.int .i64 0, .bool false, .string ⟨#[]⟩, .slice none 0 0, .int .i64 0]) 5 64 Tryd.underlying33 hia hza0 hza1 hza2 rfl (by decide) (.slice az2 l.length cz) l.length (l.flatMap encW) (by rfl) (S5.out.1.1.alloc _) ⟨w5.heap.size, 0, none⟩ 1 1 (encW (A, Value.slice a5 A.offs.length c5)) (by rfl) (by rfl) (cells_at _ _ _ _ _ rfl rfl) (encW_one (A, Value.slice a5 A.offs.length c5) ⟨a5, A.offs.length, c5, rfl⟩) (by omega) (by unfold maxLen; omega) (by omega) (by rw [size_alloc]; have := HH5.out; omega) (w5.heap.size + 1) (size_alloc _ _) ?_; intro gg cap6 w6 hown1 hgrow hat hltg; obtain ⟨⟨z1, zf, zz⟩, SX, NX⟩ := S5.out.more (y := (A, Value.slice a5 A.offs.length c5)) O5.out hown1 hgrow; have SX := Lib.hid SX; have NX := Lib.hid (N5.out.of_block (NX (w.heap.size + 3) (by omega) (by omega))); clear hown1 hgrow hat) | (go_simp; refine (HCL.out _ (Below.refl _ _).drew).mono ?_; rintro r5 w5 ⟨v5, rfl, ho5, hb5⟩; obtain ⟨a5, c5, rfl⟩ := own_shape ho5; have S5 := Lib.hid (HSb.out.keep (show Below wb.heap.size wb w5 from (Below.refl _ wb).drew.trans hb5)); have O5 := Lib.hid (ownsRow_base (show w.heap.size + 4 ≤ wb.drew.heap.size from HH4.out) ho5); have N5 := Lib.hid (HNb.out.of_block (hb5.block _ HNb.out.lt)); have HH5 := Lib.hid (Nat.le_trans HH4.out hb5.size); have y1 := S5.out.2.1.2.1; have yz := S5.out.2.1.2.2.2; clear hb5 ho5))
          all_goals
            go_wp2_with fail
            go_meet
            exact ⟨(l.length : Int), l ++ [(A, Value.slice a5 A.offs.length c5)], _, rfl, i64_nat _ (by omega), SX.out, NX.out, by show _ = _; rw [HM2.out, List.map_append]; rfl⟩
        · have HM2 : Hid (mg (az.take (k + 1)) = (l.map Prod.fst, now ++ [r])) := by
            show _ = _
            rw [HST.out, if_neg hneg]
          go_wp2_with fail
          go_meet
          exact ⟨r, l, _, rfl, i64_of (by omega) (by omega), HSb.out, HNb.out, HM2.out⟩
      case rest =>
        obtain ⟨z, l2, v2, rfl, hz64, HS2, HN2, HM2⟩ := hcut
        clear HBb HOb HSb HNb HFb HST hr1 hr2
        have rk := HN2.out.cell (i := k) (by omega)
        have rf := HN2.out.frozen
        have rz := HN2.out.lt
        unfold nowI at rk
        have HN3 := Lib.hid (row_setI (z := z) HN2.out HNL.out)
        have HS3 := Lib.hid (HS2.out.side (o := k) (u := .int .i64 z) (show w.heap.size + 2 < w.heap.size + 3 by omega) (by omega))
        generalize now.getD k 0 = nk at *
        go_wp2_with fail
        go_roundw
        case rel => exact ⟨k + 1, l2, v2, now ++ [z], by omega, by go_num, HS3, HN3, HM2.out.symm⟩
        case measure => simp [intOf]; omega
    · have hkx : k = az.length := by omega
      have HMA : Hid ((l.map Prod.fst, now) = mg az) := by
        show _ = _
        rw [hM.out, hkx, List.take_of_length_le (Nat.le_refl _)]
      have hNL : now.length = az.length := by
        have := (mg_inv _ az rfl).len
        rw [← HMA.out] at this
        exact this
      have HNV : Hid (∀ a : Nat, a < az.length → now.getD a 0 = nowAt (mg az).2 a) := fun a ha => by
        rw [← HMA.out]; rfl
      have HN64 : Hid (∀ a : Nat, a < az.length → I64 (now.getD a 0)) := fun a ha => by
        have h1 : now = (mg az).2 := by rw [← HMA.out]
        have h2 := mg_idx_lt (az := az) (now.getD a 0) (by rw [← h1, List.getD_eq_getElem?_getD, List.getElem?_eq_getElem (by omega)]; exact List.getElem_mem (by omega))
        have h3 := (mg_inv _ az rfl).le
        exact i64_of (by omega) (by omega)
      have HB2 := Lib.hid (HB1.out.trans (hbr.mono (by omega)))
      have HR2 := Lib.hid (HR.out.below hbr (by omega))
      clear hM hkx hNL o1 xf0 xf1 hbr
      go_wp2_with fail
      clear hlt
      obtain ⟨W2, hW2⟩ : ∃ W2, W2 = wr := ⟨_, rfl⟩
      rw [← hW2] at hS hN HB2 HR2
      rw [← hW2]
      clear hW2
      have hH2 : w.heap.size + 4 ≤ W2.heap.size := hS.out.2.2.2.2
      obtain ⟨PS, hPS⟩ : ∃ PS, PS = pcsOf f.nodes F := ⟨_, rfl⟩
      rw [← hPS] at hma HPA HPL HP0
      rw [← hPS]
      clear hPS
      have hpl := HPL.out
      obtain ⟨PM, hPM⟩ : ∃ PM, PM = PS.map fun p => (⟨p.fr, nowAt (mg az).2 p.an⟩ : Pc) := ⟨_, rfl⟩
      rw [← hPM] at hma
      have HPM := Lib.hid hPM
      have hpml : PM.length = PS.length := by rw [hPM, List.length_map]
      have HPML := Lib.hid hpml
      clear hPM hpml
      go_loopw [11, 51] (fun ps t wq => ∃ (k : Nat) (P : List Pc), k ≤ PS.length ∧ t = .int .i64 (k : Int) ∧ Hid (wq.ownsRow W2.heap.size 116 2 ps P.length (P.flatMap encP)) ∧ Hid (P = ddp (PM.take k)) ∧ Below W2.heap.size W2 wq) (fun _ t _ => (PS.length - intOf t).toNat)
      case atStart => exact ⟨0, [], by omega, rfl, World.ownsRow_nil _ _ _ _, rfl, Below.refl _ _⟩
      case round =>
        obtain ⟨k, P, hk, rfl, hO, hD, hbq⟩ := hrel
        obtain ⟨ao, co, rfl⟩ := own_shape hO.out
        have hsz := hbq.size
        by_cases hlt : k < PS.length
        · have hki : (k : Int) < (PS.length : Int) := by omega
          obtain ⟨b1, q1, e1, z1, c0, c1⟩ := elemPc (HP0.out.mono (HB2.out.trans (hbq.mono (by omega))) fun _ _ h => h) k hlt
          subst e1
          obtain ⟨g0, g1⟩ := HPA.out PS[k] (List.getElem_mem hlt)
          obtain ⟨a, ha⟩ : ∃ a : Nat, PS[k].an = (a : Int) := ⟨PS[k].an.toNat, by omega⟩
          rw [ha] at c1 g0 g1
          have hal : a < az.length := by omega
          have hST : Hid (ddp (PM.take (k + 1)) = ddStep P ⟨PS[k].fr, now.getD a 0⟩) := by
            show _ = _
            have hk' : k < PM.length := by rw [HPML.out]; exact hlt
            rw [take_snoc PM k hk', ddp_snoc, ← hD.out]
            have e : PM[k] = ⟨PS[k].fr, nowAt (mg az).2 PS[k].an⟩ := by simp only [HPM.out, List.getElem_map]
            rw [e, ha, HNV.out a hal]
          have hPl : P.length ≤ k := by
            have := (ddp_inv _ (PM.take k) rfl).le
            rw [← hD.out, List.length_take] at this
            omega
          have rk := (hN.out.of_block (hbq.block _ hN.out.lt)).cell (i := a) hal
          have rz : w.heap.size + 3 < wr.heap.size := by omega
          have h64 := HN64.out a hal
          unfold nowI at rk
          have hgi : (a : Int) < (az.length : Int) := by omega
          have hH64 := Lib.hid h64
          clear g0 g1 ha h64
          generalize now.getD a 0 = q at *
          generalize PS[k].fr = fr at *
          by_cases h0 : P.length = 0
          · obtain rfl : P = [] := List.length_eq_zero_iff.1 h0
            have HS2 : Hid (ddp (PM.take (k + 1)) = [] ++ [⟨fr, q⟩]) := hST.out
            clear h0 hST hD
            go_wp2_with fail
            go_quiet (fail)
            have OA : Hid (((wr.alloc (.cells #[.int .i64 fr, .int .i64 q] 116)).drewN nq).ownsRow W2.heap.size 116 2 (.slice ao 0 co) 0 []) := Lib.hid (hO.out.alloc (.cells #[.int .i64 fr, .int .i64 q] 116))
            go_wp2_with (at_builtin; refine wpList_append_own _ rfl _ _ 81 rfl W2.heap.size 116 ip (.agg #[.int .i64 0, .int .i64 0]) 2 16 Tryd.underlying81 hip hzp0 hzp1 hzp2 rfl (by decide) (.slice ao 0 co) 0 [] rfl (OA.out.alloc _) ⟨wr.heap.size + 1, 0, none⟩ 1 1 (encP ⟨fr, q⟩) rfl rfl (cells_at _ _ _ _ _ (size_alloc wr _).symm rfl) (encP_one _) (by unfold maxLen; omega) (by omega) (by rw [size_alloc]; exact Nat.le_trans hsz (Nat.le_trans (size_le_push_ wr _) (Nat.le_succ _))) ?_; intro v7 w7 hown' hgrow _)
            have hB : Below W2.heap.size W2 w7 := ((below_draws (hbq.alloc hsz (.cells #[.int .i64 fr, .int .i64 q] 116)) nq).alloc (Nat.le_trans hsz (size_le_push_ wr _)) _).grown hgrow (by rw [size_alloc]; exact Nat.le_trans hsz (Nat.le_trans (size_le_push_ wr _) (Nat.le_succ _))) (fun g hg => (OA.out.lt g hg).1)
            have HO7 : Hid (w7.ownsRow W2.heap.size 116 2 v7 (([] : List Pc) ++ [(⟨fr, q⟩ : Pc)]).length ((([] : List Pc) ++ [(⟨fr, q⟩ : Pc)]).flatMap encP)) := own_snocG hown'
            clear hown' hgrow
            go_wp2_with fail
            go_roundw
            case rel => exact ⟨k + 1, ([] : List Pc) ++ [(⟨fr, q⟩ : Pc)], by omega, by go_num, HO7, HS2.out.symm, hB⟩
            case measure => simp [intOf]; omega
          · obtain ⟨last, hlast⟩ : ∃ last, P[P.length - 1]? = some last := ⟨_, List.getElem?_eq_getElem (by omega)⟩
            have HLA : Hid (P.getLast? = some last) := by
              show _ = _
              rw [List.getLast?_eq_getElem?]; exact hlast
            have hSP : SlAt wr 2 RPc (.slice ao P.length co) P := slAt_of_own (by omega) (fun _ => rfl) (fun _ _ => rfl) hO.out
            obtain ⟨b2, q2, e2, z2, _, d1⟩ := elemPc hSP (P.length - 1) (by omega)
            subst e2
            obtain ⟨hlt2, hl2⟩ := List.getElem?_eq_some_iff.1 hlast
            rw [hl2] at d1
            have hz0 : ((P.length : Int) == 0) = false := by rw [beq_eq_false_iff_ne]; omega
            have hz1 : (P.length : Int) - 1 = ((P.length - 1 : Nat) : Int) := by omega
            have hz2 : ((P.length - 1 : Nat) : Int) < (P.length : Int) := by omega
            clear hSP hlast hl2 hlt2
            by_cases hq : last.an = q
            · have HS2 : Hid (ddp (PM.take (k + 1)) = P) := by
                show _ = _
                rw [hST.out]; unfold ddStep; rw [HLA.out, if_pos (by simp [hq])]
              rw [hq] at d1
              clear hq hST HLA
              go_wp2_with fail
              go_quiet (fail)
              go_wp2_with fail
              go_roundw
              case rel => exact ⟨k + 1, P, by omega, by go_num, Lib.hid (hO.out.alloc (.cells #[.int .i64 fr, .int .i64 q] 116)), HS2.out.symm, below_draws (hbq.alloc hsz _) nq⟩
              case measure => simp [intOf]; omega
            · have HS2 : Hid (ddp (PM.take (k + 1)) = P ++ [⟨fr, q⟩]) := by
                show _ = _
                rw [hST.out]; unfold ddStep; rw [HLA.out, if_neg (by simp [hq])]
              have hqb : (last.an != q) = true := by rw [bne_iff_ne]; exact hq
              generalize last.an = la at *
              clear hq hST HLA
              go_wp2_with fail
              go_quiet (fail)
              have OA : Hid (((wr.alloc (.cells #[.int .i64 fr, .int .i64 q] 116)).drewN nq).ownsRow W2.heap.size 116 2 (.slice (some ⟨b2, q2, none⟩) P.length co) P.length (P.flatMap encP)) := Lib.hid (hO.out.alloc (.cells #[.int .i64 fr, .int .i64 q] 116))
              go_wp2_with (at_builtin; refine wpList_append_own _ rfl _ _ 81 rfl W2.heap.size 116 ip (.agg #[.int .i64 0, .int .i64 0]) 2 16 Tryd.underlying81 hip hzp0 hzp1 hzp2 rfl (by decide) (.slice (some ⟨b2, q2, none⟩) P.length co) P.length (P.flatMap encP) rfl (OA.out.alloc _) ⟨wr.heap.size + 1, 0, none⟩ 1 1 (encP ⟨fr, q⟩) rfl rfl (cells_at _ _ _ _ _ (size_alloc wr _).symm rfl) (encP_one _) (by unfold maxLen; omega) (by omega) (by rw [size_alloc]; exact Nat.le_trans hsz (Nat.le_trans (size_le_push_ wr _) (Nat.le_succ _))) ?_; intro v7 w7 hown' hgrow _)
              have hB : Below W2.heap.size W2 w7 := ((below_draws (hbq.alloc hsz (.cells #[.int .i64 fr, .int .i64 q] 116)) nq).alloc (Nat.le_trans hsz (size_le_push_ wr _)) _).grown hgrow (by rw [size_alloc]; exact Nat.le_trans hsz (Nat.le_trans (size_le_push_ wr _) (Nat.le_succ _))) (fun g hg => (OA.out.lt g hg).1)
              have HO7 : Hid (w7.ownsRow W2.heap.size 116 2 v7 (P ++ [(⟨fr, q⟩ : Pc)]).length ((P ++ [(⟨fr, q⟩ : Pc)]).flatMap encP)) := own_snocG hown'
              clear hown' hgrow
              go_wp2_with fail
              go_roundw
              case rel => exact ⟨k + 1, P ++ [(⟨fr, q⟩ : Pc)], by omega, by go_num, HO7, HS2.out.symm, hB⟩
              case measure => simp [intOf]; omega
        · have hkx : k = PS.length := by omega
          have HPF : Hid (P = optP f F true) := by
            show _ = _
            rw [hD.out, hkx, hma.out, List.take_of_length_le (by rw [HPML.out]; exact Nat.le_refl _)]
          have HOX := Lib.hid (hS.out.2.1.below hbq (by omega))
          have HRX := Lib.hid (HR2.out.below hbq (by omega))
          obtain ⟨i0, i1, _, z3⟩ := HOX.out
          obtain ⟨i3, i4, i5, z4⟩ := HRX.out
          have z5 : ¬ w.heap.size + 1 = w.heap.size + 2 := by omega
          have z6 : ¬ w.heap.size + 2 = w.heap.size + 1 := by omega
          have HAG := Lib.hid (hS.out.1.mv (w' := wr) fun c _ hc => hbq.block c hc)
          have HBE := Lib.hid (HB2.out.trans (hbq.mono (by omega)))
          rw [HPF.out] at hO ⊢
          have HMF : Hid (l.map Prod.fst = (mg az).1) := by
            show _ = _
            rw [← HMA.out]
          clear hkx hbq hsz
          generalize hPT : optP f F true = PT at *
          have HPT := Lib.hid hPT
          clear hPT
          go_wp2_with fail
          refine bodyPost_ret (v := .tuple #[.agg #[.slice none 0 0, .slice az2 l.length cz], .slice ao PT.length co]) (by simp [results, Tryd.results41, go_sem, i0, i1, i3, i4, z4, z3, z5, z6]) rfl ⟨_, _, l, rfl, ?_, by rw [HAZ.out]; exact HMF.out, ?_, ?_⟩
          · exact AnG.base (B := w.heap.size + 4) (by omega) ((HAG.out.mv (fun c hc _ => Below.heap_setCell _ _ _ _ (by show c ≠ w.heap.size + 1; omega))).mv (fun c hc _ => Below.heap_setCell _ _ _ _ (by show c ≠ w.heap.size + 1; omega)))
          · rw [HPT.out]
            exact ownsRow_base (B := W2.heap.size) (by omega) (ownsRow_setCell_below (a := ⟨w.heap.size + 1, 1, none⟩) (ownsRow_setCell_below (a := ⟨w.heap.size + 1, 0, none⟩) hO.out (by show w.heap.size + 1 < _; omega) _) (by show w.heap.size + 1 < _; omega) _)
          · exact (HBE.out.setCell (by show w.heap.size ≤ w.heap.size + 1; omega) _).setCell (by show w.heap.size ≤ w.heap.size + 1; omega) _
end Go.Proofs.YtlhidbbphngpcaaDoor
namespace Go.Proofs.YtlhidbbphngpcaaDoor
set_option linter.unusedVariables false
set_option linter.unusedSimpArgs false
open Go.ChangeShapes Go.WideShapes Go.ChangeAt Go.RowKit

theorem balF_64 : ∀ (F : Nat) (l : List Pc) (b : Nat), 0 < l.length → l.length ≤ F → b + 2 * l.length ≤ 100000 → (∀ p ∈ l, I64 p.fr ∧ I64 p.an) → ∀ n ∈ balF F l b, N64 n
  | 0, l, b, h0, h, _, _, _, _ => by omega
  | F + 1, l, b, h0, h, hb, hp, n, hn => by
    by_cases h1 : l.length ≤ 1
    · rw [balF_one h1] at hn
      rw [List.mem_singleton.1 hn, anAt_eq h0]
      exact ⟨(hp _ (List.getElem_mem h0)).2, i64_zero, i64_zero, i64_zero⟩
    · rw [balF_two h1] at hn
      rcases List.mem_append.1 hn with hn | hn
      · rcases List.mem_append.1 hn with hn | hn
        · exact balF_64 F _ _ (by rw [List.length_take]; omega) (by rw [List.length_take]; omega) (by rw [List.length_take]; omega) (fun p h => hp p (List.mem_of_mem_take h)) n hn
        · exact balF_64 F _ _ (by rw [List.length_drop]; omega) (by rw [List.length_drop]; omega) (by rw [List.length_drop]; omega) (fun p h => hp p (List.mem_of_mem_drop h)) n hn
      · rw [List.mem_singleton.1 hn, frAt_eq (by omega)]
        exact ⟨i64_zero, (hp _ (List.getElem_mem (show l.length / 2 < l.length by omega))).1, i64_nat _ (by omega), i64_nat _ (by omega)⟩
theorem optN_64 (b : Bool) {ps : List Pc} (h0 : 0 < ps.length) (h9 : ps.length ≤ 9000) (hp : ∀ p ∈ ps, I64 p.fr ∧ I64 p.an) : ∀ n ∈ optN b ps, N64 n := by
  unfold optN
  cases b
  · simp only [Bool.false_eq_true, if_false]; exact chN_64Z ps h9 hp
  · simp only [if_true]; exact balF_64 _ _ _ h0 (Nat.le_refl _) (by omega) hp
theorem optP_64 {f : Frs} {F : Int → Int} (h : Tells f F) (hb : ∀ n ∈ f.nodes, I64 n.bd) (m : Bool) : ∀ p ∈ optP f F m, I64 p.fr ∧ I64 p.an := by
  obtain ⟨_, h8, h2, _, _⟩ := frs_good h.ok
  have hfr : ∀ p ∈ pcsOf f.nodes F, I64 p.fr := fun p hp => by
    unfold pcsOf at hp
    rcases List.mem_cons.1 hp with rfl | hp
    · exact i64_zero
    · obtain ⟨x, hx, rfl⟩ := List.mem_map.1 hp
      obtain ⟨n, hn, rfl⟩ := List.mem_map.1 ((cuts_mem _ _).1 hx).1
      exact hb n (List.mem_filter.1 hn).1
  intro p hp
  obtain ⟨a1, a2⟩ := optP_an h m p hp
  have hl := optAns_le f m
  refine ⟨?_, i64_of (by omega) (by omega)⟩
  unfold optP at hp
  cases m
  · simp only [Bool.false_eq_true, if_false] at hp; exact hfr p hp
  · simp only [if_true] at hp
    obtain ⟨q, hq, rfl⟩ := List.mem_map.1 ((ddp_inv _ (pcsM f F) rfl).mem p hp)
    exact hfr q hq
theorem optP_9000 {f : Frs} {F : Int → Int} (h : Tells f F) (m : Bool) : (optP f F m).length ≤ 8001 := by
  obtain ⟨_, h8, _⟩ := frs_good h.ok
  have h4 := optP_le f F m
  have h5 : (cuts f.nodes).length ≤ (srtC (bnds f.nodes)).length := List.length_filter_le _ _
  have h6 := srtC_len (bnds f.nodes)
  have h7 := nod_count f.nodes
  omega
set_option maxRecDepth 100000 in
set_option maxHeartbeats 4000000 in
theorem opt_bad (f : Frs) (vn va : Value) (wy : Int) (w : World) (hf : FrsAt w vn va f) (hb : frsE f ≠ 0 ∨ wy < 0 ∨ 7 < wy) :
    Calls Tryd.prog 27 #[.agg #[vn, va], .int .i64 wy] w fun e w' => e = .returned (.tuple #[.agg #[.slice none 0 0, .slice none 0 0], .int .i64 (if frsE f ≠ 0 then frsE f else 2)]) ∧ Below w.heap.size w w' := by
  obtain ⟨r, hr⟩ : ∃ r, r = frsE f := ⟨_, rfl⟩
  rw [← hr] at hb ⊢
  have HR := Lib.hid hr
  obtain ⟨ao, cap, rfl, hl⟩ := hf.1.shape
  obtain ⟨bo, cap2, rfl, hl2⟩ := hf.2.shape
  have bw : Below w.heap.size w ((w.alloc (.cells #[.slice ao f.nodes.length cap, .slice bo f.answers.length cap2] 64)).alloc (.cells #[.slice none 0 0, .slice none 0 0] 64)) := below_alloc2 (Nat.le_refl _) _ _
  have HC := Lib.hid (fun W hb => check_any f _ _ W (hf.mono (w' := W) hb))
  have hs0 := size_alloc w (.cells #[.slice ao f.nodes.length cap, .slice bo f.answers.length cap2] 64)
  have o1 := (OBx.new (w.alloc (.cells #[.slice ao f.nodes.length cap, .slice bo f.answers.length cap2] 64)) (.slice none 0 0) (.slice none 0 0))
  rw [hs0] at o1
  have O1 := Lib.hid o1
  have BW := Lib.hid bw
  clear hf hr hl hl2 hs0 o1 bw
  by_cases hbad : r = 0
  · subst hbad
    have hwy := hb.resolve_left (by simp)
    rw [if_neg (by simp)]
    clear hb
    by_cases hneg : wy < 0
    · clear hwy
      go_enter Tryd.func27, Tryd.ntmps27
      go_wp2_with fail
      refine (HC.out _ BW.out).mono ?_; rintro e w1 ⟨rfl, hb1⟩
      rw [← HR.out]
      have O2 := Lib.hid (O1.out.below hb1 O1.out.2.2.2)
      obtain ⟨c0, c1, c2, c3⟩ := O2.out
      have HB := Lib.hid (BW.out.trans (hb1.mono (by have := BW.out.size; exact this)))
      clear hb1
      go_wp2_with fail
      exact bodyPost_ret (v := .tuple #[.agg #[.slice none 0 0, .slice none 0 0], .int .i64 2]) (by simp [results, Tryd.results27, go_sem, c0, c1, c3]) rfl ⟨rfl, (HB.out.setCell (by show w.heap.size ≤ w.heap.size + 1; omega) _).setCell (by show w.heap.size ≤ w.heap.size + 1; omega) _⟩
    · have hpos : 7 < wy := by omega
      clear hwy
      go_enter Tryd.func27, Tryd.ntmps27
      go_wp2_with fail
      refine (HC.out _ BW.out).mono ?_; rintro e w1 ⟨rfl, hb1⟩
      rw [← HR.out]
      have O2 := Lib.hid (O1.out.below hb1 O1.out.2.2.2)
      obtain ⟨c0, c1, c2, c3⟩ := O2.out
      have HB := Lib.hid (BW.out.trans (hb1.mono (by have := BW.out.size; exact this)))
      clear hb1
      go_wp2_with fail
      exact bodyPost_ret (v := .tuple #[.agg #[.slice none 0 0, .slice none 0 0], .int .i64 2]) (by simp [results, Tryd.results27, go_sem, c0, c1, c3]) rfl ⟨rfl, (HB.out.setCell (by show w.heap.size ≤ w.heap.size + 1; omega) _).setCell (by show w.heap.size ≤ w.heap.size + 1; omega) _⟩
  · have hrb : (r != 0) = true := by rw [bne_iff_ne]; exact hbad
    rw [if_pos hbad]
    clear hb hbad
    go_enter Tryd.func27, Tryd.ntmps27
    go_wp2_with fail
    refine (HC.out _ BW.out).mono ?_; rintro e w1 ⟨rfl, hb1⟩
    rw [← HR.out]
    have O2 := Lib.hid (O1.out.below hb1 O1.out.2.2.2)
    obtain ⟨c0, c1, c2, c3⟩ := O2.out
    have HB := Lib.hid (BW.out.trans (hb1.mono (by have := BW.out.size; exact this)))
    clear hb1
    go_wp2_with fail
    exact bodyPost_ret (v := .tuple #[.agg #[.slice none 0 0, .slice none 0 0], .int .i64 r]) (by simp [results, Tryd.results27, go_sem, c0, c1, c3]) rfl ⟨rfl, (HB.out.setCell (by show w.heap.size ≤ w.heap.size + 1; omega) _).setCell (by show w.heap.size ≤ w.heap.size + 1; omega) _⟩
end Go.Proofs.YtlhidbbphngpcaaDoor
namespace Go.Proofs.YtlhidbbphngpcaaDoor
set_option linter.unusedVariables false
set_option linter.unusedSimpArgs false
open Go.ChangeShapes Go.WideShapes Go.ChangeAt Go.RowKit

theorem optAns_sub {f : Frs} {m : Bool} {x : Ans} (h : x ∈ optAns f m) : x ∈ f.answers := by
  unfold optAns at h
  cases m
  · simpa using h
  · simp only [if_true] at h
    obtain ⟨p, hp, rfl⟩ := List.mem_iff_getElem.1 h
    exact (mg_inv _ f.answers rfl).src p hp
/-- nodes and answers in a forest's box of the call's own. -/
def NdS (w1 wr : World) (O B : Nat) (vn va : Value) (ns : List Nod) (l : List (Ans × Value)) : Prop := AnG wr B va l ∧ wr.ownsRow B 90 5 vn ns.length (ns.flatMap encN) ∧ OBx wr O vn va ∧ Below O w1 wr ∧ O < B ∧ B ≤ wr.heap.size
theorem MgS.swap {w1 wr : World} {O B : Nat} {vz va : Value} {l l' : List (Ans × Value)} (h : MgS w1 wr O B vz l) (ha : AnG wr B va l') : MgS w1 ((wr.setCell ⟨O, 0, none⟩ (.slice none 0 0)).setCell ⟨O, 1, none⟩ va) O B va l' := by
  obtain ⟨h1, h2, h3, h4, h5⟩ := h
  refine ⟨(ha.mv fun c hc _ => Below.heap_setCell _ _ _ _ (by show c ≠ O; omega)).mv fun c hc _ => Below.heap_setCell _ _ _ _ (by show c ≠ O; omega), (h2.set0 _).set1 _, (h3.setCell (Nat.le_refl _) _).setCell (Nat.le_refl _) _, h4, ?_⟩
  rw [World.size_setCell, World.size_setCell]; exact h5
theorem MgS.nod {w1 wr : World} {O B : Nat} {vz vn : Value} {l : List (Ans × Value)} {ns : List Nod} (h : MgS w1 wr O B vz l) (ho : wr.ownsRow B 90 5 vn ns.length (ns.flatMap encN)) : NdS w1 (wr.setCell ⟨O, 0, none⟩ vn) O B vn vz ns l := by
  obtain ⟨h1, h2, h3, h4, h5⟩ := h
  refine ⟨h1.mv fun c hc _ => Below.heap_setCell _ _ _ _ (by show c ≠ O; omega), ownsRow_setCell_below (a := ⟨O, 0, none⟩) ho h4 _, h2.set0 _, h3.setCell (Nat.le_refl _) _, h4, ?_⟩
  rw [World.size_setCell]; exact h5
theorem NdS.keep {w1 wr w' : World} {O B : Nat} {vn va : Value} {ns : List Nod} {l : List (Ans × Value)} (h : NdS w1 wr O B vn va ns l) (hb : Below wr.heap.size wr w') : NdS w1 w' O B vn va ns l := by
  obtain ⟨h1, h0, h2, h3, h4, h5⟩ := h
  exact ⟨h1.mv fun c _ hc => hb.block c hc, own_mv h0 fun c _ hc => hb.block c hc, h2.below hb h2.2.2.2, h3.trans (hb.mono (by omega)), h4, Nat.le_trans h5 hb.size⟩
theorem NdS.nod {w1 wr : World} {O B : Nat} {vn va vm : Value} {ns ms : List Nod} {l : List (Ans × Value)} (h : NdS w1 wr O B vn va ns l) (ho : wr.ownsRow B 90 5 vm ms.length (ms.flatMap encN)) : NdS w1 (wr.setCell ⟨O, 0, none⟩ vm) O B vm va ms l := by
  obtain ⟨h1, _, h2, h3, h4, h5⟩ := h
  refine ⟨h1.mv fun c hc _ => Below.heap_setCell _ _ _ _ (by show c ≠ O; omega), ownsRow_setCell_below (a := ⟨O, 0, none⟩) ho h4 _, h2.set0 _, h3.setCell (Nat.le_refl _) _, h4, ?_⟩
  rw [World.size_setCell]; exact h5
theorem NdS.frsK {w1 wr w' : World} {O B : Nat} {vn va : Value} {ns : List Nod} {l : List (Ans × Value)} (h : NdS w1 wr O B vn va ns l) (hok : ∀ x ∈ l.map Prod.fst, AnO x) (h64 : ∀ n ∈ ns, N64 n) (k : ∀ c, B ≤ c → w'.heap[c]? = wr.heap[c]?) : FrsAt w' vn va ⟨ns, l.map Prod.fst⟩ := by
  obtain ⟨h1, h0, h2, h3, h4, h5⟩ := h
  exact ⟨slAt_of_own (enc := encN) (by omega) (fun _ => rfl) (fun x hx => ⟨rfl, h64 x hx⟩) (own_mv h0 fun c hc _ => k c hc), (h1.mv fun c hc _ => k c hc).at hok⟩
theorem NdS.frs {w1 wr : World} {O B R : Nat} {vn va u u' : Value} {ns : List Nod} {l : List (Ans × Value)} (h : NdS w1 wr O B vn va ns l) (hok : ∀ x ∈ l.map Prod.fst, AnO x) (h64 : ∀ n ∈ ns, N64 n) (hR : R < B) : FrsAt ((wr.setCell ⟨R, 0, none⟩ u).setCell ⟨R, 1, none⟩ u') vn va ⟨ns, l.map Prod.fst⟩ := by
  obtain ⟨h1, h0, h2, h3, h4, h5⟩ := h
  have h1' : AnG ((wr.setCell ⟨R, 0, none⟩ u).setCell ⟨R, 1, none⟩ u') B va l := (h1.mv fun c hc _ => Below.heap_setCell _ _ _ _ (by show c ≠ R; omega)).mv fun c hc _ => Below.heap_setCell _ _ _ _ (by show c ≠ R; omega)
  exact ⟨slAt_of_own (enc := encN) (by omega) (fun _ => rfl) (fun x hx => ⟨rfl, h64 x hx⟩) (ownsRow_setCell_below (a := ⟨R, 1, none⟩) (ownsRow_setCell_below (a := ⟨R, 0, none⟩) h0 hR _) hR _), h1'.at hok⟩
set_option maxRecDepth 100000 in
set_option maxHeartbeats 4000000 in
theorem opt_ok (f : Frs) (F : Int → Int) (hT : Tells f F) (hbd : ∀ n ∈ f.nodes, I64 n.bd) (vn va : Value) (wy : Int) (w : World) (hf : FrsAt w vn va f) (h0 : 0 ≤ wy) (h7 : wy ≤ 7) (zm zs zb : Int) (hzm : bits .and .i64 wy 1 = zm) (hzs : bits .and .i64 wy 2 = zs) (hzb : bits .and .i64 wy 4 = zb) :
    Calls Tryd.prog 27 #[.agg #[vn, va], .int .i64 wy] w fun e w' => ∃ g, OptIs f F (zm != 0) (zs != 0) (zb != 0) g ∧ (∀ n ∈ g.nodes, N64 n) ∧ ((g.nodes.length ≤ 8000 ∧ ∃ vn' va', e = .returned (.tuple #[.agg #[vn', va'], .int .i64 0]) ∧ FrsAt w' vn' va' g ∧ ∀ (G : Nat) (u u' : Value), G < w.heap.size → FrsAt ((w'.setCell ⟨G, 0, none⟩ u).setCell ⟨G, 1, none⟩ u') vn' va' g) ∨ (8000 < g.nodes.length ∧ e = .returned (.tuple #[.agg #[.slice none 0 0, .slice none 0 0], .int .i64 1]))) ∧ Below w.heap.size w w' := by
  obtain ⟨m, hm⟩ : ∃ m, m = (zm != 0) := ⟨_, rfl⟩
  obtain ⟨s, hs⟩ : ∃ s, s = (zs != 0) := ⟨_, rfl⟩
  obtain ⟨b, hb⟩ : ∃ b, b = (zb != 0) := ⟨_, rfl⟩
  rw [← hm, ← hs, ← hb]
  have HM := Lib.hid hm
  have HS := Lib.hid hs
  have HBb := Lib.hid hb
  clear hm hs hb
  obtain ⟨ao, cap, rfl, hl⟩ := hf.1.shape
  obtain ⟨bo, cap2, rfl, hl2⟩ := hf.2.shape
  have bw : Below w.heap.size w ((w.alloc (.cells #[.slice ao f.nodes.length cap, .slice bo f.answers.length cap2] 64)).alloc (.cells #[.slice none 0 0, .slice none 0 0] 64)) := below_alloc2 (Nat.le_refl _) _ _
  have HC : Hid (∀ (W : World), Below w.heap.size w W → Calls Tryd.prog 38 #[.agg #[.slice ao f.nodes.length cap, .slice bo f.answers.length cap2]] W fun e w' => e = .returned (.int .i64 0) ∧ Below W.heap.size W w') := fun W hb => by
    have := check_any f _ _ W (hf.mono (w' := W) hb)
    rw [hT.ok] at this
    exact this
  have hs0 := size_alloc w (.cells #[.slice ao f.nodes.length cap, .slice bo f.answers.length cap2] 64)
  have f1 := (OBx.new w (.slice ao f.nodes.length cap) (.slice bo f.answers.length cap2))
  have f2 := f1.below ((Below.refl _ _).alloc (Nat.le_refl _) (.cells #[.slice none 0 0, .slice none 0 0] 64)) f1.2.2.2
  have o1 := (OBx.new (w.alloc (.cells #[.slice ao f.nodes.length cap, .slice bo f.answers.length cap2] 64)) (.slice none 0 0) (.slice none 0 0))
  rw [hs0] at o1
  have O1 := Lib.hid o1
  have F1 := Lib.hid f2
  have BW := Lib.hid bw
  have HF := Lib.hid hf
  have HT := Lib.hid hT
  have HBD := Lib.hid hbd
  clear hf hl hl2 hs0 o1 bw f1 f2 hT hbd
  go_enter Tryd.func27, Tryd.ntmps27
  go_wp2_with fail
  refine (HC.out _ BW.out).mono ?_; rintro e w1 ⟨rfl, hb1⟩
  have O2 := Lib.hid (O1.out.below hb1 O1.out.2.2.2)
  have F2 := Lib.hid (F1.out.below hb1 F1.out.2.2.2)
  have HB := Lib.hid (BW.out.trans (hb1.mono (by have := BW.out.size; exact this)))
  clear hb1 O1 F1 HC BW
  obtain ⟨c0, c1, c2, c3⟩ := F2.out
  obtain ⟨h0', h8, h2, h3, h4⟩ := frs_good HT.out.ok
  have H2 := Lib.hid h2
  have H3 := Lib.hid h3
  have HA0 := Lib.hid (SlAt.mono (HF.out.2) HB.out (RAns.mono HB.out))
  have HANO := Lib.hid (fun x hx => anO_of HF.out.2 x hx)
  obtain ⟨ia, hia, hza0, hza1, hza2⟩ := info_parts info_ansZ
  clear h0' h8 h2 h3 h4
  go_wp2_with fail
  obtain ⟨W1, hW1⟩ : ∃ W1, W1 = w1.alloc (.cells #[.slice none 0 0, .slice none 0 0] 64) := ⟨_, rfl⟩
  have b11 : Below w1.heap.size w1 W1 := by rw [hW1]; exact (Below.refl _ _).alloc (Nat.le_refl _) _
  have oO : OBx W1 w1.heap.size (.slice none 0 0) (.slice none 0 0) := by rw [hW1]; exact OBx.new _ _ _
  have hs1 : W1.heap.size = w1.heap.size + 1 := by rw [hW1]; exact size_alloc _ _
  rw [← hW1]
  clear hW1
  have HA1 := Lib.hid (HA0.out.mono b11 (RAns.mono b11))
  obtain ⟨O, hO⟩ : ∃ O, O = w1.heap.size := ⟨_, rfl⟩
  rw [← hO] at oO hs1 c3 b11 ⊢
  have HB1 : Hid (Below w.heap.size w W1) := Lib.hid (HB.out.trans (b11.mono (by omega)))
  have HF1 := Lib.hid (F2.out.below (b11.mono (by omega)) c3)
  have HR1 := Lib.hid (O2.out.below b11 (by have := O2.out.2.2.2; omega))
  have hRO : w.heap.size + 1 < O := by have := O2.out.2.2.2; omega
  have HS1 := Lib.hid hs1
  have hS0 := Lib.hid (show MgS W1 W1 O (O + 1) (.slice none 0 0) [] from ⟨AnG.nil _ _, oO, Below.refl _ _, by omega, by omega⟩)
  have HWR : Hid (∀ wr, Below O W1 wr → Below w.heap.size w wr) := fun wr hb => HB1.out.trans (hb.mono (by omega))
  clear HA0 F2 O2 HB b11 oO c0 c1 c2 hs1 hO
  generalize haz : f.answers = az at *
  have HAZ := Lib.hid haz
  clear haz
  go_loopw [28] (fun t wr => ∃ (k : Nat) (l : List (Ans × Value)) (vz : Value), k ≤ az.length ∧ t = .int .i64 (k : Int) ∧ Hid (MgS W1 wr O (O + 1) vz l) ∧ Hid (l.map Prod.fst = az.take k)) (fun t _ => (az.length - intOf t).toNat)
  case atStart => exact ⟨0, [], _, by omega, rfl, hS0, rfl⟩
  case round =>
    obtain ⟨k, l, vz, hk, rfl, hS, hM⟩ := hrel
    obtain ⟨az2, cz, rfl⟩ := own_shape hS.out.1.1
    have hbr := hS.out.2.2.1
    have o1 := hS.out.2.1.2.1
    have h2000 := H2.out
    by_cases hlt : k < az.length
    · have hX : SlAt wr 5 (RAns wr) (.slice bo az.length cap2) az := by
        have := SlAt.mono HF.out.2 (HWR.out wr hbr) (RAns.mono (HWR.out wr hbr))
        rw [HAZ.out] at this; exact this
      obtain ⟨b1, q1, vo, e1, z1, ⟨c0, c1, c2, c3', c4⟩, ho, hnm, i1, i2⟩ := elemAns hX k hlt
      subst e1
      have hoff : az[k].offs.length ≤ 6 := (ansE_offs (H3.out k hlt)).1
      have hlen : l.length ≤ k := by
        have := fst_len hM.out
        rw [List.length_take] at this
        omega
      obtain ⟨ao, co, rfl, -⟩ := ho.shape
      have hki : (k : Int) < (az.length : Int) := by omega
      have HM1 : Hid (az.take (k + 1) = l.map Prod.fst ++ [az[k]]) := by
        show _ = _
        rw [hM.out, List.take_succ_eq_append_getElem hlt]
      generalize az[k] = A at *
      have hAA : Below wr.heap.size wr (wr.alloc (.cells #[.int .i64 A.ck.off, .bool A.ck.sav, .string A.ck.nm, .slice ao A.offs.length co, .int .i64 A.jump] 79)) := (Below.refl _ _).alloc (Nat.le_refl _) _
      have HBX := Lib.hid (AnBx.new wr A (.slice ao A.offs.length co))
      have HO2 := Lib.hid (ho.mono hAA fun _ _ h => h)
      have HSa := Lib.hid (hS.out.keep hAA)
      have HHa : Hid (O + 1 ≤ wr.heap.size) := Lib.hid hS.out.2.2.2.2
      clear hX ho hnm i1 i2 hbr
      go_upto_region 10 with (fail)
      generalize wr.alloc (.cells #[.int .i64 A.ck.off, .bool A.ck.sav, .string A.ck.nm, .slice ao A.offs.length co, .int .i64 A.jump] 79) = wb at *
      generalize wr.heap.size = T at *
      have HCL := Lib.hid (fun (W : World) (hb : Below wb.heap.size wb W) => clone_any A (.slice ao A.offs.length co) W (HO2.out.mono hb fun _ _ h => h) (by omega))
      obtain ⟨⟨b0, b1, b2, b3, b4⟩, hTz⟩ := HBX.out
      have o2 := HSa.out.2.1.2.1
      have HH4 : Hid (O + 1 ≤ wb.heap.size) := Lib.hid HSa.out.2.2.2.2
      have hl2 : l.length ≤ 2000 := by omega
      clear HBX HO2 o1 c0 c1 c2 c3' c4 hAA hM
      go_region_law (first | (refine step_append_lies _ (by rfl) _ _ _ (by rfl) (O + 1) 79 ia (.agg #[.int .i64 0, .bool false, .string ⟨#[]⟩, .slice none 0 0, .int .i64 0]) 5 64 Tryd.underlying33 hia hza0 hza1 hza2 rfl (by decide) (.slice az2 l.length cz) l.length (l.flatMap encW) (by rfl) (S5.out.1.1.alloc _) ⟨w5.heap.size, 0, none⟩ 1 1 (encW (A, Value.slice a5 A.offs.length c5)) (by rfl) (by rfl) (cells_at _ _ _ _ _ rfl rfl) (encW_one (A, Value.slice a5 A.offs.length c5) ⟨a5, A.offs.length, c5, rfl⟩) (by omega) (by unfold maxLen; omega) (by omega) (by rw [size_alloc]; have := HH5.out; omega) (w5.heap.size + 1) (size_alloc _ _) ?_; intro gg cap6 w6 hown1 hgrow hat hltg; obtain ⟨⟨z1, zf, zz⟩, SX, NX⟩ := S5.out.more (y := (A, Value.slice a5 A.offs.length c5)) O5.out hown1 hgrow; have SX := Lib.hid SX; clear hown1 hgrow hat NX) | (go_simp; refine (HCL.out _ (Below.refl _ _).drew).mono ?_; rintro r5 w5 ⟨v5, rfl, ho5, hb5⟩; obtain ⟨a5, c5, rfl⟩ := own_shape ho5; have S5 := Lib.hid (HSa.out.keep (show Below wb.heap.size wb w5 from (Below.refl _ wb).drew.trans hb5)); have O5 := Lib.hid (ownsRow_base (show O + 1 ≤ wb.drew.heap.size from HH4.out) ho5); have HH5 := Lib.hid (Nat.le_trans HH4.out hb5.size); have y1 := S5.out.2.1.2.1; have yz := S5.out.2.1.2.2.2; clear hb5 ho5))
      all_goals
        go_wp2_with fail
        go_roundw
        case rel => exact ⟨k + 1, l ++ [(A, Value.slice a5 A.offs.length c5)], _, by omega, by go_num, SX.out, by show _ = _; rw [HM1.out, List.map_append]; rfl⟩
        case measure => simp [intOf]; omega
    · have hkx : k = az.length := by omega
      have HMA : Hid (l.map Prod.fst = az) := by
        show _ = _
        rw [hM.out, hkx, List.take_of_length_le (Nat.le_refl _)]
      obtain ⟨x0, x1, x2, x3⟩ := HF1.out.below hbr c3
      have hlw : w.heap.size < wr.heap.size := x3
      have HP : Hid (∀ W, Below w.heap.size w W → Calls Tryd.prog 40 #[.agg #[.slice ao f.nodes.length cap, .slice bo az.length cap2]] W fun e w' => ∃ v', e = .returned v' ∧ w'.ownsRow W.heap.size 116 2 v' (pcsOf f.nodes F).length ((pcsOf f.nodes F).flatMap encP) ∧ Below W.heap.size W w') := fun W hb => pieces_any f F HT.out _ _ W (HF.out.mono hb)
      have HHW := Lib.hid (HWR.out wr hbr)
      have HMX : Hid (∀ (v : Value) (W : World), Below w.heap.size w W → SlAt W 2 RPc v (pcsOf f.nodes F) → Calls Tryd.prog 41 #[.agg #[.slice ao f.nodes.length cap, .slice bo az.length cap2], v] W fun e w' => ∃ va' vp' l, e = .returned (.tuple #[.agg #[.slice none 0 0, va'], vp']) ∧ AnG w' W.heap.size va' l ∧ l.map Prod.fst = (mg az).1 ∧ w'.ownsRow W.heap.size 116 2 vp' (optP f F true).length ((optP f F true).flatMap encP) ∧ Below W.heap.size W w') := fun v W hb hv => by
        have := merged_any f F HT.out (.slice ao f.nodes.length cap) (.slice bo az.length cap2) v W (HF.out.mono hb) hv
        rw [HAZ.out] at this
        exact this
      clear hkx hM o1 hbr
      go_wp2_with fail
      clear hlt
      refine (HP.out _ HHW.out).mono ?_; rintro e w3 ⟨vl, rfl, hol, hb3⟩
      have HOL := Lib.hid (show SlAt w3 2 RPc vl (pcsOf f.nodes F) from slAt_of_own (by omega) (fun _ => rfl) (fun _ _ => rfl) hol)
      have HHX := Lib.hid (HHW.out.trans (hb3.mono (by have := HHW.out.size; exact this)))
      have HS3 := Lib.hid (hS.out.keep hb3)
      obtain ⟨x4, x5, x6, x7⟩ := HF1.out.below HS3.out.2.2.1 c3
      clear hol hb3 x0 x1 x2 x3 hlw hS
      go_upto_if 44 with (fail)
      go_cut [10] (fun kl wx => ∃ (vz : Value) (l2 : List (Ans × Value)), Hid (SlAt wx 2 RPc kl (optP f F m)) ∧ Hid (MgS W1 wx O (O + 1) vz l2) ∧ Hid (l2.map Prod.fst = optAns f m))
      case first =>
        by_cases hz : zm = 0
        · subst hz
          have hmf : m = false := by rw [HM.out]; rfl
          have HE1 : Hid (optP f F m = pcsOf f.nodes F) := by show _ = _; rw [hmf]; simp [optP]
          have HE2 : Hid (optAns f m = az) := by show _ = _; rw [hmf, ← HAZ.out]; simp [optAns]
          clear hmf
          go_wp2_with fail
          go_meet
          exact ⟨_, l, by rw [HE1.out]; exact HOL, HS3.out, by rw [HE2.out]; exact HMA.out⟩
        · have hzt : (zm != 0) = true := by rw [bne_iff_ne]; exact hz
          clear hz
          have o2 := HS3.out.2.1
          obtain ⟨y0, y1, y2, y3⟩ := o2
          go_wp2_with fail
          refine (HMX.out _ _ HHX.out HOL.out).mono ?_; rintro e w4 ⟨va', vp', l', rfl, hg4, hf4, hp4, hb4⟩
          obtain ⟨a5, c5, rfl⟩ := own_shape hg4.1
          obtain ⟨a6, c6, rfl⟩ := own_shape hp4
          have HP4 := Lib.hid hp4
          have HG4 := Lib.hid hg4
          have HF4 := Lib.hid hf4
          have HS4 := Lib.hid (HS3.out.keep hb4)
          have o4 := HS4.out.2.1
          obtain ⟨y4, y5, y6, y7⟩ := o4
          have HO3 : Hid (O + 1 ≤ w3.heap.size) := Lib.hid HS3.out.2.2.2.2
          clear hp4 hg4 hf4 hb4
          go_wp2_with fail
          go_meet
          refine ⟨_, l', ?_, HS4.out.swap (AnG.base HO3.out HG4.out), ?_⟩
          · show SlAt _ 2 RPc _ _
            rw [HM.out, hzt]
            exact slAt_of_own (by omega) (fun _ => rfl) (fun _ _ => rfl) (ownsRow_setCell_below (a := ⟨O, 1, none⟩) (ownsRow_setCell_below (a := ⟨O, 0, none⟩) HP4.out (by show O < _; have := HO3.out; omega) _) (by show O < _; have := HO3.out; omega) _)
          · show _ = _
            rw [HF4.out, ← HAZ.out, HM.out, hzt]; simp [optAns]
      case rest =>
        obtain ⟨vz, l2, HP5, HS5, HF5⟩ := hcut
        have HX0 := Lib.hid (fun x (hx : x ∈ optAns f m) => optAns_sub (m := m) hx)
        have HGD := Lib.hid (fun b => optN_ok HT.out m b)
        have HPS := Lib.hid (optP_pos f F m)
        have HP64 := Lib.hid (optP_64 HT.out HBD.out m)
        have HP80 := Lib.hid (optP_9000 HT.out m)
        clear HP HMX HOL HS3 x4 x5 x6 x7 HHX HHW HMA h2000 hk HA1
        obtain ⟨PP, hPP⟩ : ∃ PP, PP = optP f F m := ⟨_, rfl⟩
        rw [← hPP] at HP5 HGD HPS HP64 HP80
        have HPP := Lib.hid hPP
        clear hPP
        have HBL : Hid (∀ (v : Value) (W : World), SlAt W 2 RPc v PP → Calls Tryd.prog 42 #[v, .slice none 0 0] W fun e w' => ∃ a c z, e = .returned (.tuple #[.slice a (optN true PP).length c, .int .i64 z]) ∧ w'.ownsRow W.heap.size 90 5 (.slice a (optN true PP).length c) (optN true PP).length ((optN true PP).flatMap encN) ∧ Below W.heap.size W w') := fun v W hv => by
          refine (balanced_any W.heap.size W PP.length PP [] v (.slice none 0 0) W HPS.out (Nat.le_refl _) (fun W' hb => hv.mono hb fun _ _ h => h) (Below.refl _ _) (Nat.le_refl _) (World.ownsRow_nil _ _ _ _) (by have := HP80.out; simp only [List.length_nil]; omega)).mono ?_
          rintro e w' ⟨nv', rfl, ho, hb⟩
          have e : ([] : List Nod) ++ balF PP.length PP ([] : List Nod).length = optN true PP := by simp [optN]
          rw [e] at ho ⊢
          obtain ⟨a, c, rfl⟩ := own_shape ho
          exact ⟨a, c, _, rfl, ho, hb⟩
        have HCN : Hid (∀ (v : Value) (W : World), SlAt W 2 RPc v PP → Calls Tryd.prog 43 #[v] W fun e w' => ∃ a c, e = .returned (.slice a (optN false PP).length c) ∧ w'.ownsRow W.heap.size 90 5 (.slice a (optN false PP).length c) (optN false PP).length ((optN false PP).flatMap encN) ∧ Below W.heap.size W w') := fun v W hv => by
          refine (chain_any v PP W hv HPS.out (by have := HP80.out; omega)).mono ?_
          rintro e w' ⟨nv', rfl, ho, hb⟩
          have e : chN PP = optN false PP := by simp [optN]
          rw [e] at ho
          obtain ⟨a, c, rfl⟩ := own_shape ho
          exact ⟨a, c, rfl, ho, hb⟩
        have HSH : Hid (∀ (v : Value) (W : World) (b : Bool), SlAt W 5 RNod v (optN b PP) → Calls Tryd.prog 44 #[v] W fun e w' => ∃ a c out now, e = .returned (.slice a out.length c) ∧ w'.ownsRow W.heap.size 90 5 (.slice a out.length c) out.length (out.flatMap encN) ∧ ShI (optN b PP) (optN b PP).length out now ∧ (∀ n ∈ out, N64 n) ∧ Below W.heap.size W w') := fun v W b hv => by
          have hl := optN_len b HPS.out
          have hp := HPS.out
          have h8 := HP80.out
          refine (shared_any _ _ v W hv (HGD.out b) (by omega) (by omega)).mono ?_
          rintro e w' ⟨v', out, now, rfl, ho, h1, h2, hb⟩
          obtain ⟨a, c, rfl⟩ := own_shape ho
          exact ⟨a, c, out, now, rfl, ho, h1, h2, hb⟩
        have HN64 := Lib.hid (fun b => optN_64 b HPS.out (by have := HP80.out; omega) HP64.out)
        clear HPS HP64 HP80 HGD
        have o5 := HS5.out.2.1
        obtain ⟨y0, y1, y2, y3⟩ := o5
        obtain ⟨a2, c2, rfl⟩ := own_shape HS5.out.1.1
        clear HS1 hS0 H3 H2 HWR
        go_upto_if 53 with (fail)
        go_cut [] (fun wx => ∃ (vn : Value), Hid (NdS W1 wx O (O + 1) vn (.slice a2 l2.length c2) (optN b PP) l2))
        case first =>
          by_cases hz : zb = 0
          · subst hz
            go_wp2_with fail
            refine (HCN.out _ _ HP5.out).mono ?_; rintro e w4 ⟨a5, c5, rfl, ho4, hb4⟩
            have HS6 := Lib.hid (HS5.out.keep hb4)
            have HO6 := Lib.hid (ownsRow_base HS5.out.2.2.2.2 ho4)
            have o6 := HS6.out.2.1
            obtain ⟨y4, y5, y6, y7⟩ := o6
            clear ho4 hb4
            go_wp2_with fail
            go_meet
            have hbf : b = false := by rw [HBb.out]; rfl
            exact ⟨_, by rw [hbf]; exact HS6.out.nod HO6.out⟩
          · have hzt : (zb != 0) = true := by rw [bne_iff_ne]; exact hz
            clear hz
            go_wp2_with fail
            refine (HBL.out _ _ HP5.out).mono ?_; rintro e w4 ⟨a5, c5, z5, rfl, ho4, hb4⟩
            have HS6 := Lib.hid (HS5.out.keep hb4)
            have HO6 := Lib.hid (ownsRow_base HS5.out.2.2.2.2 ho4)
            have o6 := HS6.out.2.1
            obtain ⟨y4, y5, y6, y7⟩ := o6
            clear ho4 hb4
            go_wp2_with fail
            go_meet
            exact ⟨_, by rw [HBb.out, hzt]; exact HS6.out.nod HO6.out⟩
        case rest =>
          obtain ⟨vn, HS7⟩ := hcut
          have h8 : (optN b PP).length ≤ 8000 ∨ 8000 < (optN b PP).length := by omega
          obtain ⟨NS, hNS⟩ : ∃ NS, NS = optN b PP := ⟨_, rfl⟩
          have HNS := Lib.hid hNS
          rw [← hNS] at HS7 h8
          obtain ⟨a7, c7, rfl⟩ := own_shape HS7.out.2.1
          have HW0 : Hid (∀ n ∈ NS, N64 n) := fun n hn => HN64.out b n (by rw [← HNS.out]; exact hn)
          clear hNS HBL HCN y0 y1 y2 y3 HN64
          have HXO : Hid (∀ x ∈ l2.map Prod.fst, AnO x) := fun x hx => HANO.out x (by rw [← HAZ.out]; exact HX0.out x (by rw [← HF5.out]; exact hx))
          by_cases hz : zs = 0
          · subst hz
            have HG : Hid (OptIs f F m s b ⟨NS, l2.map Prod.fst⟩) := ⟨HF5.out, by have : s = false := by { rw [HS.out]; rfl }; rw [if_neg (by simp [this])]; show NS = _; rw [HNS.out, HPP.out]⟩
            have HS8 := HS7
            have HW := HW0
            clear h8
            have HBE := Lib.hid (HB1.out.trans (HS8.out.2.2.2.1.mono (show w.heap.size ≤ O by omega)))
            obtain ⟨u0, u1, u2, u3⟩ := HS8.out.2.2.1
            obtain ⟨r0, r1, r2, r3⟩ := HR1.out.below HS8.out.2.2.2.1 hRO
            have z5 : ¬ w.heap.size + 1 = O := by omega
            have z6 : ¬ O = w.heap.size + 1 := by omega
            rcases Nat.lt_or_ge 8000 NS.length with hgt | hle
            · have hlI : (8000 : Int) < (NS.length : Int) := by omega
              go_wp2_with fail
              refine bodyPost_ret (v := .tuple #[.agg #[.slice none 0 0, .slice none 0 0], .int .i64 1]) (by simp [results, Tryd.results27, go_sem, r0, r1, r3]) rfl ⟨⟨NS, l2.map Prod.fst⟩, HG.out, HW.out, .inr ⟨hgt, rfl⟩, ?_⟩
              exact (HBE.out.setCell (by show w.heap.size ≤ w.heap.size + 1; omega) _).setCell (by show w.heap.size ≤ w.heap.size + 1; omega) _
            · have hlI : ¬ (8000 : Int) < (NS.length : Int) := by omega
              go_wp2_with fail
              refine bodyPost_ret (v := .tuple #[.agg #[(.slice a7 NS.length c7), .slice a2 l2.length c2], .int .i64 0]) (by simp [results, Tryd.results27, go_sem, r0, r1, r3, u0, u1, u3, z5, z6]) rfl ⟨⟨NS, l2.map Prod.fst⟩, HG.out, HW.out, .inl ⟨hle, _, _, rfl, HS8.out.frs HXO.out HW.out (by omega), fun G u u' hG => HS8.out.frsK HXO.out HW.out (fun c hc => (Below.heap_setCell _ _ _ _ (by show c ≠ G; omega)).trans ((Below.heap_setCell _ _ _ _ (by show c ≠ G; omega)).trans ((Below.heap_setCell _ _ _ _ (by show c ≠ w.heap.size + 1; omega)).trans (Below.heap_setCell _ _ _ _ (by show c ≠ w.heap.size + 1; omega)))))⟩, ?_⟩
              exact (HBE.out.setCell (by show w.heap.size ≤ w.heap.size + 1; omega) _).setCell (by show w.heap.size ≤ w.heap.size + 1; omega) _
          · have hzt : (zs != 0) = true := by rw [bne_iff_ne]; exact hz
            have HSt : Hid (s = true) := by show _ = _; rw [HS.out, hzt]
            clear hz h8
            have HSA : Hid (SlAt wc 5 RNod (.slice a7 NS.length c7) (optN b PP)) := by
              have := HS7.out.2.1
              rw [HNS.out] at this ⊢
              exact slAt_of_own (enc := encN) (by omega) (fun _ => rfl) (fun x hx => ⟨rfl, HW0.out x (by rw [HNS.out]; exact hx)⟩) this
            obtain ⟨u0, u1, u2, u3⟩ := HS7.out.2.2.1
            go_wp2_with fail
            refine (HSH.out _ _ b HSA.out).mono ?_; rintro e w4 ⟨a5, c5, ms, now, rfl, ho4, hsi, hm64, hb4⟩
            have HW := Lib.hid hm64
            have HSI := Lib.hid hsi
            have HS6 := Lib.hid (HS7.out.keep hb4)
            have HO6 := Lib.hid (ownsRow_base HS7.out.2.2.2.2.2 ho4)
            have HS8 := Lib.hid (HS6.out.nod HO6.out)
            have HG : Hid (OptIs f F m s b ⟨ms, l2.map Prod.fst⟩) := ⟨HF5.out, by rw [if_pos HSt.out, ← HPP.out]; exact ⟨now, HSI.out⟩⟩
            clear ho4 hb4 hsi hm64 u0 u1 u2 u3
            have HBE := Lib.hid (HB1.out.trans (HS8.out.2.2.2.1.mono (show w.heap.size ≤ O by omega)))
            obtain ⟨u0, u1, u2, u3⟩ := HS6.out.2.2.1
            obtain ⟨r0, r1, r2, r3⟩ := HR1.out.below HS6.out.2.2.2.1 hRO
            have z5 : ¬ w.heap.size + 1 = O := by omega
            have z6 : ¬ O = w.heap.size + 1 := by omega
            rcases Nat.lt_or_ge 8000 ms.length with hgt | hle
            · have hlI : (8000 : Int) < (ms.length : Int) := by omega
              go_wp2_with fail
              refine bodyPost_ret (v := .tuple #[.agg #[.slice none 0 0, .slice none 0 0], .int .i64 1]) (by simp [results, Tryd.results27, go_sem, r0, r1, r3]) rfl ⟨⟨ms, l2.map Prod.fst⟩, HG.out, HW.out, .inr ⟨hgt, rfl⟩, ?_⟩
              exact (HBE.out.setCell (by show w.heap.size ≤ w.heap.size + 1; omega) _).setCell (by show w.heap.size ≤ w.heap.size + 1; omega) _
            · have hlI : ¬ (8000 : Int) < (ms.length : Int) := by omega
              go_wp2_with fail
              refine bodyPost_ret (v := .tuple #[.agg #[(.slice a5 ms.length c5), .slice a2 l2.length c2], .int .i64 0]) (by simp [results, Tryd.results27, go_sem, r0, r1, r3, u0, u1, u3, z5, z6]) rfl ⟨⟨ms, l2.map Prod.fst⟩, HG.out, HW.out, .inl ⟨hle, _, _, rfl, HS8.out.frs HXO.out HW.out (by omega), fun G u u' hG => HS8.out.frsK HXO.out HW.out (fun c hc => (Below.heap_setCell _ _ _ _ (by show c ≠ G; omega)).trans ((Below.heap_setCell _ _ _ _ (by show c ≠ G; omega)).trans ((Below.heap_setCell _ _ _ _ (by show c ≠ w.heap.size + 1; omega)).trans (Below.heap_setCell _ _ _ _ (by show c ≠ w.heap.size + 1; omega)))))⟩, ?_⟩
              exact (HBE.out.setCell (by show w.heap.size ≤ w.heap.size + 1; omega) _).setCell (by show w.heap.size ≤ w.heap.size + 1; omega) _
end Go.Proofs.YtlhidbbphngpcaaDoor
namespace Go.Proofs.YtlhidbbphngpcaaDoor
set_option linter.unusedVariables false
set_option linter.unusedSimpArgs false
open Go.ChangeShapes Go.WideShapes Go.ChangeAt Go.RowKit

end Go.Proofs.YtlhidbbphngpcaaDoor
namespace Go.Proofs.YtlhidbbphngpcaaDoor
set_option linter.unusedVariables false
set_option linter.unusedSimpArgs false
open Go.ChangeShapes Go.WideShapes Go.ChangeAt Go.RowKit

theorem lp_lf {ns : List Nod} {t : Int} : ∀ {i : Nat} {a : Int} {n : Nat}, Lp ns t i a n → Lf ns t i a := fun h => h.lf
theorem i64_ge {x : Int} (h : I64 x) : -9223372036854775808 ≤ x := by
  have h' : (Lit.int .i64 x).wf = true := h
  simp [Lit.wf, IntKind.min, IntKind.max, IntKind.signed, IntKind.bits] at h'
  omega
theorem opt_big {f g : Frs} {F : Int → Int} {m s b : Bool} (h : Tells f F) (hg : OptIs f F m s b g) (h8 : 8000 < g.nodes.length) : 1000 < f.nodes.length := by
  have h1 := optP_le f F m
  have h2 : (cuts f.nodes).length ≤ (srtC (bnds f.nodes)).length := List.length_filter_le _ _
  have h3 := srtC_len (bnds f.nodes)
  have h4 := nod_count f.nodes
  have hs := hg.size h
  have h5 := srtC_len ((optP f F m).map Pc.an)
  rw [List.length_map] at h5
  unfold szP at hs
  split at hs <;> omega
/-- two forests in boxes of the call's own. -/
def LwS (w W : World) (G : Nat) (fn fa gn ga : Value) (g : Frs) : Prop := OBx W w.heap.size fn fa ∧ OBx W G gn ga ∧ Below w.heap.size w W ∧ FrsAt W gn ga g
theorem LwS.keep {w W W' : World} {G : Nat} {fn fa gn ga : Value} {g : Frs} (h : LwS w W G fn fa gn ga g) (hb : Below W.heap.size W W') : LwS w W' G fn fa gn ga g :=
  ⟨h.1.below hb h.1.2.2.2, h.2.1.below hb h.2.1.2.2.2, h.2.2.1.trans (hb.mono h.2.2.1.size), h.2.2.2.mono hb⟩
theorem LwS.new {w w1 : World} {fn fa gn ga : Value} {g : Frs} (h1 : OBx w1 w.heap.size fn fa) (h2 : Below w.heap.size w w1) (h3 : FrsAt w1 gn ga g) : LwS w (w1.alloc (.cells #[gn, ga] 64)) w1.heap.size fn fa gn ga g := by
  have hb : Below w1.heap.size w1 (w1.alloc (.cells #[gn, ga] 64)) := (Below.refl _ _).alloc (Nat.le_refl _) _
  exact ⟨h1.below hb h1.2.2.2, OBx.new _ _ _, h2.trans (hb.mono h2.size), h3.mono hb⟩
theorem LwS.facts {w W : World} {G : Nat} {fn fa gn ga : Value} {g : Frs} (h : LwS w W G fn fa gn ga g) : (W.cell? ⟨w.heap.size, 0, none⟩ = some fn ∧ W.cell? ⟨w.heap.size, 1, none⟩ = some fa ∧ w.heap.size < W.heap.size) ∧ W.cell? ⟨G, 0, none⟩ = some gn ∧ W.cell? ⟨G, 1, none⟩ = some ga ∧ G < W.heap.size :=
  ⟨⟨h.1.1, h.1.2.1, h.1.2.2.2⟩, h.2.1.1, h.2.1.2.1, h.2.1.2.2.2⟩
theorem wy_bits {wy : Int} (h0 : 0 ≤ wy) (h7 : wy ≤ 7) : (wy.tmod 2 = 1 ↔ (bits .and .i64 wy 1 != 0) = true) ∧ (wy.tmod 2 = 0 ∨ wy.tmod 2 = 1) := by
  have : wy = 0 ∨ wy = 1 ∨ wy = 2 ∨ wy = 3 ∨ wy = 4 ∨ wy = 5 ∨ wy = 6 ∨ wy = 7 := by omega
  rcases this with rfl | rfl | rfl | rfl | rfl | rfl | rfl | rfl <;> decide
end Go.Proofs.YtlhidbbphngpcaaDoor
