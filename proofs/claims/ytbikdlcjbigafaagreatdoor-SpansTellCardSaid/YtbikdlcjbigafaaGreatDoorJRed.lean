/-
  A source of raw things, read and checked: the walk of sundialkeep.read.
-/
import Derived.BigQuiet
import Derived.Deep.RegionHeld3
import Derived.Test.YtbikdlcjbigafaaGreatDoorJLnT
import Derived.Test.YtbikdlcjbigafaaGreatDoorJKsB
import Derived.Test.YtbikdlcjbigafaaGreatDoorJSbd
import Derived.Test.YtbikdlcjbigafaaGreatDoorJZonY0
import Derived.Test.YtbikdlcjbigafaaGreatDoorJSpB
namespace Go.Proofs.YtbikdlcjbigafaaGreatDoor
set_option linter.unusedVariables false
set_option linter.unusedSimpArgs false
open Go.ChangeShapes Go.WideShapes Go.ChangeAt Go.RowKit Civ

def strV (u : Value) : Prop := ∃ s, u = .string s
/-- a source is as it was where a block that holds no text is written. -/
theorem srcAt_aside {w w' : World} {b : Nat} {vr vz vl : Value} {s : Src} (h : SrcAt w vr vz vl s) (hb : ∀ i u, w.cell? ⟨b, i, none⟩ = some u → ¬ strV u)
    (hw : ∀ c, c < w.heap.size → c ≠ b → w'.heap[c]? = w.heap[c]?) (hs : w.heap.size ≤ w'.heap.size) : SrcAt w' vr vz vl s := by
  obtain ⟨h1, h2, h3⟩ := h
  have h2' := h2.aside strV (j := 0) (b := b) (by decide) (fun cs z hz => by obtain ⟨v, rfl, -, -⟩ := hz; exact ⟨_, rfl, _, rfl⟩) hb hw hs
  refine ⟨h1.aside strV (j := 0) (b := b) (by decide) (fun cs r hr => by rw [hr.1]; exact ⟨_, rfl, _, rfl⟩) hb hw hs, slAt_mem h2' fun cs z hz hr => ?_, h3.aside strV (j := 0) (b := b) (by decide) (fun cs r hr => by rw [hr.1]; exact ⟨_, rfl, _, rfl⟩) hb hw hs⟩
  obtain ⟨v, e1, e2, e3⟩ := hr
  exact ⟨v, e1, e2.aside strV (j := 1) (b := b) (by decide) (fun cs r hr => by rw [hr.1]; exact ⟨_, rfl, _, rfl⟩) hb hw hs, e3⟩
/-- the result's cells, the box that is loaded. -/
structure RdB (w wx : World) (B : Nat) (vr vz vl : Value) (s : Src) : Prop where
  b : Below w.heap.size w wx
  d : BxO wx w.heap.size #[.slice none 0 0, .slice none 0 0, .slice none 0 0] 28
  x : BxO wx B #[vr, vz, vl] 28
  s : SrcAt wx vr vz vl s
theorem RdB.next {w wx w' : World} {B : Nat} {vr vz vl : Value} {s : Src} (h : RdB w wx B vr vz vl s) (hb : Below wx.heap.size wx w') : RdB w w' B vr vz vl s :=
  ⟨h.b.trans (hb.mono h.b.size), (hb.block _ h.d.lt).trans h.d, (hb.block _ h.x.lt).trans h.x, h.s.mono hb⟩
theorem RdB.done {w wx : World} {B : Nat} {vr vz vl : Value} {s : Src} (h : RdB w wx B vr vz vl s) (a b c : Value) : SrcAt (((wx.setCell ⟨w.heap.size, 0, none⟩ a).setCell ⟨w.heap.size, 1, none⟩ b).setCell ⟨w.heap.size, 2, none⟩ c) vr vz vl s ∧ Below w.heap.size w (((wx.setCell ⟨w.heap.size, 0, none⟩ a).setCell ⟨w.heap.size, 1, none⟩ b).setCell ⟨w.heap.size, 2, none⟩ c) := by
  refine ⟨srcAt_aside h.s (b := w.heap.size) (fun i u hu => ?_) (fun k _ hk => ?_) (by simp [World.size_setCell]), ((h.b.setCell (Nat.le_refl _) _).setCell (Nat.le_refl _) _).setCell (Nat.le_refl _) _⟩
  · rw [h.d.cell i] at hu
    rintro ⟨t, rfl⟩
    match i, hu with
    | 0, hu => simp at hu
    | 1, hu => simp at hu
    | 2, hu => simp at hu
    | n + 3, hu => simp at hu
  · rw [Below.heap_setCell _ _ _ _ hk, Below.heap_setCell _ _ _ _ hk, Below.heap_setCell _ _ _ _ hk]
set_option maxRecDepth 100000 in
set_option maxHeartbeats 4000000 in
theorem read_s (v : Value) (xs : List Rz) (w : World) (hs : SlAt w 4 RRz v xs) (hV : SrV w) (hT : PwT w) (hM : Tab w) :
    Calls Tryz.prog 8 #[v] w fun e w' => ∃ vr vz vl, e = .returned (.tuple #[.agg #[vr, vz, vl], .bool (decide (srcE (srcO xs) = 0))]) ∧ SrcAt w' vr vz vl (srcO xs) ∧ Below w.heap.size w w' := by
  obtain ⟨W0, hW0⟩ : ∃ W0, W0 = w.alloc (.cells #[.slice none 0 0, .slice none 0 0, .slice none 0 0] 28) := ⟨_, rfl⟩
  have B0 : Hid (Below w.heap.size w W0) := by show Below _ _ _; rw [hW0]; exact (Below.refl _ _).alloc (Nat.le_refl _) _
  have D0 : Hid (BxO W0 w.heap.size #[.slice none 0 0, .slice none 0 0, .slice none 0 0] 28) := by show BxO _ _ _ _; rw [hW0]; exact BxO.new _ _ _
  have H0 := Lib.hid hW0
  have HSO := Lib.hid (Source_s xs v W0 (hs.mono B0.out fun _ _ h => h) (hT.below B0.out))
  have HV := Lib.hid hV
  have HM := Lib.hid (And.intro hM hV.mx)
  have HRD := Lib.hid (fun wx (h : SrV wx) => Read_any (bx (srcT xs)) wx h (by rw [bx_size]; have := srcT_len xs; unfold maxLen; omega))
  have sb := srcV_bd (bx (srcT xs)) (by rw [bx_size]; have := srcT_len xs; unfold maxLen; omega)
  obtain ⟨q1, q2, q3⟩ := src_reads xs
  rw [q1, q2, q3] at HRD
  rw [q3] at sb
  have HCK := Lib.hid (fun wx vr vz vl h hv => zcheck_any (srcO xs) vr vz vl wx h hv)
  obtain ⟨O, hO⟩ : ∃ o, srcO xs = o := ⟨_, rfl⟩
  rw [hO] at HRD HCK sb ⊢
  obtain ⟨C, hC⟩ : ∃ c, srcE O = c := ⟨_, rfl⟩
  have HC := Lib.hid hC
  rw [hC] at HCK ⊢
  obtain ⟨DC, hDC⟩ : ∃ d, decide (C = 0) = d := ⟨_, rfl⟩
  have hCC : (C == 0) = DC := by rw [← hDC]; rfl
  rw [hDC]
  clear hDC
  clear hW0 hs hV hT hM q1 q2 q3 hO hC
  go_enter Tryz.func8, Tryz.ntmps8
  go_upto_region 1 with fail
  rw [← H0.out]
  clear H0
  go_wp2_with fail
  refine HSO.out.mono ?_; rintro e w1 ⟨rfl, b1⟩
  have B1 : Hid (Below w.heap.size w w1) := B0.out.trans (b1.mono B0.out.size)
  have D1 : Hid (BxO w1 w.heap.size #[.slice none 0 0, .slice none 0 0, .slice none 0 0] 28) := (b1.block _ D0.out.lt).trans D0.out
  clear b1 HSO B0 D0
  go_wp2_with fail
  refine (HRD.out _ (HV.out.below B1.out)).mono ?_; rintro e w2 ⟨vr, vz, vl, rfl, hx, b2⟩
  obtain ⟨W2, hW2⟩ : ∃ W2, W2 = w2.alloc (.cells #[vr, vz, vl] 28) := ⟨_, rfl⟩
  have R2 : Hid (RdB w W2 w2.heap.size vr vz vl O) := by
    show RdB _ _ _ _ _ _ _
    have ba := (Below.refl w2.heap.size w2).alloc (Nat.le_refl _) (.cells #[vr, vz, vl] 28)
    rw [hW2]
    exact ⟨(B1.out.trans (b2.mono B1.out.size)).trans (ba.mono (Nat.le_trans B1.out.size b2.size)), (ba.block _ (Nat.lt_of_lt_of_le D1.out.lt b2.size)).trans ((b2.block _ D1.out.lt).trans D1.out), BxO.new _ _ _, srcAt_of (hx.mono ba) sb⟩
  have H2 := Lib.hid hW2
  obtain ⟨a0, c0, rfl, -⟩ := hx.1.shape
  obtain ⟨a1, c1, rfl, -⟩ := hx.2.1.shape
  obtain ⟨a2, c2, rfl, -⟩ := hx.2.2.shape
  generalize O.rules.length = n0 at *
  generalize O.zones.length = n1 at *
  generalize O.links.length = n2 at *
  have hne : w2.heap.size ≠ w.heap.size := by have h1 := D1.out.lt; have h2 := b2.size; omega
  have hne' : w.heap.size ≠ w2.heap.size := fun e => hne e.symm
  clear hW2 hx b2 HRD B1 D1 sb
  go_upto_region 2 with fail
  rw [← H2.out]
  clear H2
  have x0 : W2.cell? ⟨w2.heap.size, 0, none⟩ = some (.slice a0 n0 c0) := R2.out.x.cell 0
  have x1 : W2.cell? ⟨w2.heap.size, 1, none⟩ = some (.slice a1 n1 c1) := R2.out.x.cell 1
  have x2 : W2.cell? ⟨w2.heap.size, 2, none⟩ = some (.slice a2 n2 c2) := R2.out.x.cell 2
  have xl := R2.out.x.lt
  go_region_held3 (fun w' => w'.cell? ⟨w2.heap.size, 0, none⟩ = some (.slice a0 n0 c0) ∧ w'.cell? ⟨w2.heap.size, 1, none⟩ = some (.slice a1 n1 c1) ∧ w'.cell? ⟨w2.heap.size, 2, none⟩ = some (.slice a2 n2 c2)) (first | (with_reducible exact ⟨x0, x1, x2⟩) | (with_reducible exact ⟨y0, y1, y2⟩) | go_keep) (first | (go_at_call 30; refine (HCK.out _ _ _ _ (by first | exact R2.out.s | exact (R2.out.next ((Below.refl _ _).drew)).s) (by first | exact ⟨HM.out.1.below R2.out.b, HM.out.2.below R2.out.b⟩ | exact ⟨HM.out.1.below (R2.out.next ((Below.refl _ _).drew)).b, HM.out.2.below (R2.out.next ((Below.refl _ _).drew)).b⟩)).mono ?_; rintro e w3 ⟨rfl, b3⟩; have R3 := Lib.hid (R2.out.next (by first | exact b3 | exact ((Below.refl _ _).drew).trans b3)); have y0 : w3.cell? ⟨w2.heap.size, 0, none⟩ = some (.slice a0 n0 c0) := R3.out.x.cell 0; have y1 : w3.cell? ⟨w2.heap.size, 1, none⟩ = some (.slice a1 n1 c1) := R3.out.x.cell 1; have y2 : w3.cell? ⟨w2.heap.size, 2, none⟩ = some (.slice a2 n2 c2) := R3.out.x.cell 2; have r0 : w3.cell? ⟨w.heap.size, 0, none⟩ = some (.slice none 0 0) := R3.out.d.cell 0; have r1 : w3.cell? ⟨w.heap.size, 1, none⟩ = some (.slice none 0 0) := R3.out.d.cell 1; have r2 : w3.cell? ⟨w.heap.size, 2, none⟩ = some (.slice none 0 0) := R3.out.d.cell 2; have f0 : w3.frozen? ⟨w.heap.size, 0, none⟩ = false := R3.out.d.frozen 0; have f1 : w3.frozen? ⟨w.heap.size, 1, none⟩ = false := R3.out.d.frozen 1; have f2 : w3.frozen? ⟨w.heap.size, 2, none⟩ = false := R3.out.d.frozen 2; have zl := R3.out.d.lt; clear b3))
  all_goals
    go_wp2
    refine bodyPost_ret (v := .tuple #[.agg #[.slice a0 n0 c0, .slice a1 n1 c1, .slice a2 n2 c2], .bool DC]) (by simp [results, Tryz.results8, go_sem, r0, r1, r2, zl]) rfl ⟨_, _, _, rfl, R3.out.done _ _ _⟩
end Go.Proofs.YtbikdlcjbigafaaGreatDoor
