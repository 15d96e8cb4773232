/-
  tree.Inverse. · What the law of tree.Inverse calls besides: wide, edges; the forest may be.
-/
import Derived.Laws.EntriesVeiled
import Derived.Shelf.Small.Bits
import Derived.Shelf.Sort.Plain
import Derived.Shelf.Slices.CompactI
import Derived.Shelf.Slices.Cells
import Derived.Shelf.Slices.In.SortNone
import Derived.Laws.AppendOwnNone
import Derived.DeepKeys4
import Derived.Maps.OwnOps
import Derived.RegionTactic
import Derived.Deep.OwnRows
import Derived.Deep.AppendLies
import Derived.Deep.RegionHeld3
import Derived.Test.YtbikdlcjbigafaaGreatDoorJInvD
import Derived.Test.YtbikdlcjbigafaaGreatDoorProg
import Derived.Test.YtbikdlcjbigafaaGreatDoorJTreeT
import Derived.Test.YtbikdlcjbigafaaGreatDoorJOptP
import Derived.Test.YtbikdlcjbigafaaGreatDoorJSrcT
import Derived.Test.YtbikdlcjbigafaaGreatDoorJSrtZ
import Derived.Test.YtbikdlcjbigafaaGreatDoorJFwdH
namespace Go.Proofs.YtbikdlcjbigafaaGreatDoor
set_option linter.unusedVariables false
set_option linter.unusedSimpArgs false
open Go.ChangeShapes Go.WideShapes Go.ChangeAt Go.RowKit Go.Shelf

/-- a forest's box. -/
def FBx (w : World) (O : Nat) (vn va : Value) : Prop := w.cell? ⟨O, 0, none⟩ = some vn ∧ w.cell? ⟨O, 1, none⟩ = some va ∧ (∀ j, w.frozen? ⟨O, j, none⟩ = false) ∧ O < w.heap.size
theorem FBx.new (w : World) (vn va : Value) : FBx (w.alloc (.cells #[vn, va] 74)) w.heap.size vn va :=
  ⟨World.cell?_alloc_at (w := w) _ _ w.heap.size 0 rfl, World.cell?_alloc_at (w := w) _ _ w.heap.size 1 rfl, fun j => World.frozen?_alloc_at (w := w) _ _ w.heap.size j rfl, by rw [size_alloc]; omega⟩
theorem FBx.below {w w' : World} {O B : Nat} {vn va : Value} (h : FBx w O vn va) (hb : Below B w w') (hO : O < B) : FBx w' O vn va := by
  obtain ⟨h0, h1, h2, h3⟩ := h
  exact ⟨(hb.cell (p := ⟨O, 0, none⟩) hO).trans h0, (hb.cell (p := ⟨O, 1, none⟩) hO).trans h1, fun j => (hb.frozen (p := ⟨O, j, none⟩) hO).trans (h2 j), Nat.lt_of_lt_of_le h3 hb.size⟩
theorem FBx.set {w : World} {O : Nat} {vn va : Value} (h : FBx w O vn va) (u u' : Value) : FBx ((w.setCell ⟨O, 0, none⟩ u).setCell ⟨O, 1, none⟩ u') O u u' := by
  obtain ⟨h0, h1, h2, h3⟩ := h
  refine ⟨?_, ?_, fun j => ?_, ?_⟩
  · rw [World.cell?_setCell_other (h := by simp)]; exact World.cell?_setCell_same (h := h0) ..
  · exact World.cell?_setCell_same (h := (show (w.setCell ⟨O, 0, none⟩ u).cell? ⟨O, 1, none⟩ = some va by rw [World.cell?_setCell_other (h := by simp)]; exact h1)) ..
  · rw [World.frozen?_setCell, World.frozen?_setCell]; exact h2 j
  · rw [World.size_setCell, World.size_setCell]; exact h3
theorem atL_take (xs : List Spn) (k : Nat) (h : k < xs.length) : atL ((segs xs).take (k + 1)) = atL ((segs xs).take k) ++ [(segF xs k xs[k]).lo, (segF xs k xs[k]).hi] := by
  rw [segs_take xs k h]
  simp [atL]
theorem own_snoc2 {w : World} {B : Nat} {e : TypeId} {v : Value} {xs : List Int} {x y : Int} (h : w.ownsRow B e 1 v (xs.length + 2) (xs.flatMap encI ++ [.int .i64 x, .int .i64 y])) : w.ownsRow B e 1 v (xs ++ [x, y]).length ((xs ++ [x, y]).flatMap encI) := by
  have e1 : (xs ++ [x, y]).flatMap encI = xs.flatMap encI ++ [.int .i64 x, .int .i64 y] := by simp [encI]
  rw [e1, List.length_append]
  exact h
theorem atS_bd {xs : List Spn} (hb : ∀ j (hj : j < xs.length), SpB xs[j]) {z : Int} (hz : z ∈ atS xs) : -2300000000 ≤ z ∧ z ≤ 4200000000 := by
  have h := (srtC_mem _ _).1 hz
  obtain ⟨s, hs, hm⟩ := List.mem_flatMap.1 h
  obtain ⟨i, hi, rfl⟩ := List.mem_iff_getElem.1 hs
  rw [segs_len] at hi
  rw [segs_at xs i hi] at hm
  obtain ⟨a, b, c, d⟩ := hb i hi
  obtain ⟨e, f⟩ := nextF_bd hb i
  have h1 : (segF xs i xs[i]).lo = xs[i].fr + xs[i].ck.off := rfl
  have h2 : (segF xs i xs[i]).hi = nextF xs i + xs[i].ck.off := rfl
  simp only [List.mem_cons, List.not_mem_nil, or_false] at hm
  rcases hm with rfl | rfl <;> omega
theorem InS.new (w : World) : InS w w.heap.size ((w.alloc (.cells #[.slice none 0 0, .slice none 0 0] 74)).alloc (.cells #[.slice none 0 0] 108)) (.slice none 0 0) (.slice none 0 0) [] [] := by
  have hb : Below (w.alloc (.cells #[.slice none 0 0, .slice none 0 0] 74)).heap.size (w.alloc (.cells #[.slice none 0 0, .slice none 0 0] 74)) ((w.alloc (.cells #[.slice none 0 0, .slice none 0 0] 74)).alloc (.cells #[.slice none 0 0] 108)) := (Below.refl _ _).alloc (Nat.le_refl _) _
  have hz : w.heap.size < (w.alloc (.cells #[.slice none 0 0, .slice none 0 0] 74)).heap.size := by rw [size_alloc]; exact Nat.lt_succ_self _
  have e := (size_alloc w (.cells #[.slice none 0 0, .slice none 0 0] 74)).symm
  refine ⟨?_, ?_, ?_, fun j => ?_, fun j => ?_, AnG.nil _ _, World.ownsRow_nil _ _ _ _, by rw [size_alloc, size_alloc]; omega, below_alloc2 (Nat.le_refl _) _ _⟩
  · exact (hb.cell (p := ⟨w.heap.size, 0, none⟩) hz).trans (World.cell?_alloc_at (w := w) _ _ w.heap.size 0 rfl)
  · exact (hb.cell (p := ⟨w.heap.size, 1, none⟩) hz).trans (World.cell?_alloc_at (w := w) _ _ w.heap.size 1 rfl)
  · exact World.cell?_alloc_at (w := w.alloc (.cells #[.slice none 0 0, .slice none 0 0] 74)) _ _ (w.heap.size + 1) 0 e
  · exact (hb.frozen (p := ⟨w.heap.size, j, none⟩) hz).trans (World.frozen?_alloc_at (w := w) _ _ w.heap.size j rfl)
  · exact World.frozen?_alloc_at (w := w.alloc (.cells #[.slice none 0 0, .slice none 0 0] 74)) _ _ (w.heap.size + 1) j e
theorem inv_any {xs : List Spn} {t : Int} (h : tellA (segs xs) t ∈ invAn xs) (hb : bigA (tellA (segs xs) t) = true) : invE xs = true := by
  unfold invE
  rw [Bool.or_eq_true]
  exact .inl (List.any_eq_true.2 ⟨_, h, hb⟩)
theorem invAn_take (xs : List Spn) (k : Nat) (h : k < (atS xs).length) : (invAn xs).take (k + 1 + 1) = (invAn xs).take (k + 1) ++ [tellA (segs xs) (atS xs)[k]] := by
  rw [List.take_succ_eq_append_getElem (by rw [invAn_len]; omega)]
  congr 1
  simp [invAn]
theorem invP_take (xs : List Spn) (k : Nat) (h : k < (atS xs).length) : (invP xs).take (k + 1 + 1) = (invP xs).take (k + 1) ++ [⟨(atS xs)[k], (k : Int) + 1⟩] := by
  rw [List.take_succ_eq_append_getElem (by rw [invP_len]; omega)]
  congr 1
  simp [invP]
theorem invP_64 {xs : List Spn} (hb : ∀ j (hj : j < xs.length), SpB xs[j]) (h1 : xs.length ≤ 1000) : ∀ p ∈ invP xs, I64 p.fr ∧ I64 p.an := by
  intro p hp
  unfold invP at hp
  rcases List.mem_cons.1 hp with rfl | hp
  · exact ⟨i64_zero, i64_zero⟩
  · obtain ⟨i, hi, rfl⟩ := List.mem_iff_getElem.1 hp
    rw [List.length_mapIdx] at hi
    rw [List.getElem_mapIdx]
    have h2 := atS_bd hb (List.getElem_mem hi)
    have h3 : (atS xs).length ≤ 2 * xs.length := by
      refine Nat.le_trans (srtC_len _) ?_
      rw [atL_len, segs_len]
      exact Nat.le_refl _
    show I64 (atS xs)[i] ∧ I64 ((i : Int) + 1)
    exact ⟨i64_of (by omega) (by omega), i64_of (by omega) (by omega)⟩
theorem invAn_ok {xs : List Spn} (hb : ∀ j (hj : j < xs.length), SpB xs[j]) : ∀ x ∈ invAn xs, AnO x := by
  intro x hx
  unfold invAn at hx
  rcases List.mem_cons.1 hx with rfl | hx
  · exact tell_ok hb _
  · obtain ⟨t, _, rfl⟩ := List.mem_map.1 hx
    exact tell_ok hb _
theorem AnG.set {w : World} {B b : Nat} {va : Value} {l : List (Ans × Value)} (h : AnG w B va l) (hb : b < B) (j : Nat) (u : Value) : AnG (w.setCell ⟨b, j, none⟩ u) B va l :=
  ⟨ownsRow_setCell_below h.1 hb _, fun x hx => ownsRow_setCell_below (h.2 x hx) hb _⟩
theorem FBx.oth {w : World} {O G : Nat} {vn va : Value} (h : FBx w O vn va) (n : O ≠ G) (j : Nat) (u : Value) : FBx (w.setCell ⟨G, j, none⟩ u) O vn va := by
  obtain ⟨h0, h1, h2, h3⟩ := h
  have e : (w.setCell ⟨G, j, none⟩ u).heap[O]? = w.heap[O]? := Below.heap_setCell _ _ _ _ n
  exact ⟨(World.cell?_of_block (a := ⟨O, 0, none⟩) e).trans h0, (World.cell?_of_block (a := ⟨O, 1, none⟩) e).trans h1, fun j => (World.frozen?_of_block (a := ⟨O, j, none⟩) e).trans (h2 j), by rw [World.size_setCell]; exact h3⟩
def InvR (xs : List Spn) (w : World) (e : Ending) (w' : World) : Prop :=
  (invE xs = true ∧ e = .returned (.tuple #[.agg #[.slice none 0 0, .slice none 0 0], .int .i64 1]) ∧ Below w.heap.size w w') ∨
  (invE xs = false ∧ ∃ a c a' c', e = .returned (.tuple #[.agg #[.slice a (invF xs).nodes.length c, .slice a' (invF xs).answers.length c'], .int .i64 0]) ∧ FrsAt w' (.slice a (invF xs).nodes.length c) (.slice a' (invF xs).answers.length c') (invF xs) ∧ Below w.heap.size w w')
set_option maxRecDepth 100000 in
set_option maxHeartbeats 4000000 in
theorem inverse_ok (v : Value) (xs : List Spn) (w : World) (hv : SlAt w 4 RSpn v xs) (hg : spnE xs = 0) :
    Calls Tryz.prog 24 #[v] w (InvR xs w) := by
  obtain ⟨av, cv, rfl, -⟩ := hv.shape
  obtain ⟨n0, n1, -⟩ := spn_good hg
  have HBD := Lib.hid (spB_of hg)
  have b0 := below_alloc2 (Nat.le_refl w.heap.size) (.cells #[.slice av xs.length cv] 31) (.cells #[.slice none 0 0, .slice none 0 0] 74)
  have hx := FBx.new (w.alloc (.cells #[.slice av xs.length cv] 31)) (.slice none 0 0) (.slice none 0 0)
  have hl : ((w.alloc (.cells #[.slice av xs.length cv] 31)).alloc (.cells #[.slice none 0 0, .slice none 0 0] 74)).cell? ⟨w.heap.size, 0, none⟩ = some (.slice av xs.length cv) := by
    rw [((Below.refl _ _).alloc (Nat.le_refl _) _).cell (p := ⟨w.heap.size, 0, none⟩) (by rw [size_alloc]; exact Nat.lt_succ_self _)]
    exact World.cell?_alloc_at (w := w) _ _ w.heap.size 0 rfl
  have hv0 := hv.mono b0 fun _ _ h => h
  have hc := checkSpans_any _ xs _ hv0
  rw [hg] at hc
  have HC := Lib.hid hc
  rw [size_alloc] at hx
  have HX := Lib.hid hx
  have HB := Lib.hid b0
  have HL := Lib.hid hl
  have HV0 := Lib.hid hv0
  clear hv hg b0 hx hc hl hv0
  go_enter Tryz.func24, Tryz.ntmps24
  go_wp2_with fail
  generalize (w.alloc (.cells #[.slice av xs.length cv] 31)).alloc (.cells #[.slice none 0 0, .slice none 0 0] 74) = w0 at *
  refine HC.out.mono ?_; rintro e w1 ⟨rfl, hb1⟩
  have zR := HX.out.2.2.2
  have hl1 := (hb1.cell (p := ⟨w.heap.size, 0, none⟩) (by show w.heap.size < _; omega)).trans HL.out
  have HX1 := Lib.hid (HX.out.below hb1 zR)
  have HB1 := Lib.hid (HB.out.trans (hb1.mono HB.out.size))
  have HV1 := Lib.hid (HV0.out.mono hb1 fun _ _ h => h)
  have zL : w.heap.size + 1 < w1.heap.size := HX1.out.2.2.2
  clear hb1 HC HX HB HL HV0 zR
  generalize hRR : w.heap.size = R at *
  have HRR := Lib.hid hRR
  clear hRR
  have zR0 : R < w1.heap.size := by omega
  obtain ⟨i0, hi, hzi0, hzi1, hzi2⟩ := info_parts info_int
  go_wp2_with (go_at_call 11; refine (winIn _).mono ?_; rintro e w' ⟨rfl, rfl⟩)
  have hb2 : Below w1.heap.size w1 ((w1.alloc (.cells #[.int .i64 4102444800] 3)).alloc (.cells #[.func (.func 50) #[] #[.pointer (some ⟨w1.heap.size, 0, none⟩), .pointer (some ⟨R, 0, none⟩)]] 112)) := below_alloc2 (Nat.le_refl _) _ _
  have hs2 : ((w1.alloc (.cells #[.int .i64 4102444800] 3)).alloc (.cells #[.func (.func 50) #[] #[.pointer (some ⟨w1.heap.size, 0, none⟩), .pointer (some ⟨R, 0, none⟩)]] 112)).heap.size = w1.heap.size + 2 := by rw [size_alloc, size_alloc]
  have ht2 : ((w1.alloc (.cells #[.int .i64 4102444800] 3)).alloc (.cells #[.func (.func 50) #[] #[.pointer (some ⟨w1.heap.size, 0, none⟩), .pointer (some ⟨R, 0, none⟩)]] 112)).cell? ⟨w1.heap.size, 0, none⟩ = some (.int .i64 4102444800) := by
    rw [((Below.refl _ _).alloc (Nat.le_refl _) _).cell (p := ⟨w1.heap.size, 0, none⟩) (by rw [size_alloc]; exact Nat.lt_succ_self _)]
    exact World.cell?_alloc_at (w := w1) _ _ w1.heap.size 0 rfl
  have he2 : ((w1.alloc (.cells #[.int .i64 4102444800] 3)).alloc (.cells #[.func (.func 50) #[] #[.pointer (some ⟨w1.heap.size, 0, none⟩), .pointer (some ⟨R, 0, none⟩)]] 112)).cell? ⟨w1.heap.size + 1, 0, none⟩ = some (.func (.func 50) #[] #[.pointer (some ⟨w1.heap.size, 0, none⟩), .pointer (some ⟨R, 0, none⟩)]) := by
    have h := World.cell?_alloc_at (w := w1.alloc (.cells #[.int .i64 4102444800] 3)) #[.func (.func 50) #[] #[.pointer (some ⟨w1.heap.size, 0, none⟩), .pointer (some ⟨R, 0, none⟩)]] 112 (w1.heap.size + 1) 0 (size_alloc _ _).symm
    exact h
  have hl2 := (hb2.cell (p := ⟨R, 0, none⟩) zR0).trans hl1
  have HX2 := Lib.hid (HX1.out.below hb2 HX1.out.2.2.2)
  have HB2 := Lib.hid (HB1.out.trans (hb2.mono (Nat.le_of_lt zR0)))
  have HV2 := Lib.hid (HV1.out.mono hb2 fun _ _ h => h)
  clear hb2 hl1 HX1 HB1 HV1
  generalize (w1.alloc (.cells #[.int .i64 4102444800] 3)).alloc (.cells #[.func (.func 50) #[] #[.pointer (some ⟨w1.heap.size, 0, none⟩), .pointer (some ⟨R, 0, none⟩)]] 112) = w2 at *
  generalize w1.heap.size = T at *
  have HS2 := Lib.hid hs2
  have zT : T < w2.heap.size := by omega
  have zE : T + 1 < w2.heap.size := by omega
  have zR2 : R < w2.heap.size := by omega
  clear hs2
  go_loopw [8, 32] (fun av' iv wr => ∃ (k : Nat) (ys : List Int), k ≤ xs.length ∧ iv = .int .i64 (k : Int) ∧ Hid (ys = atL ((segs xs).take k)) ∧ ys.length = 2 * k ∧ Hid (wr.ownsRow w2.heap.size 3 1 av' ys.length (ys.flatMap encI)) ∧ Below w2.heap.size w2 wr) (fun _ iv _ => (xs.length - intOf iv).toNat)
  case atStart => exact ⟨0, [], by omega, rfl, rfl, rfl, World.ownsRow_nil _ _ _ _, Below.refl _ _⟩
  case round =>
    obtain ⟨k, ys, hk, rfl, hY, hyl, hO, hbr⟩ := hrel
    obtain ⟨ao, co, rfl⟩ := own_shape hO.out
    have hbw := hbr.size
    have HYL := Lib.hid hyl
    clear hyl
    by_cases hlt : k < xs.length
    · have HEN := Lib.hid (ends_any xs _ T R k wr hlt ((hbr.cell (p := ⟨T, 0, none⟩) zT).trans ht2) ((hbr.cell (p := ⟨R, 0, none⟩) zR2).trans hl2) (HV2.out.mono hbr fun _ _ h => h) HBD.out)
      have mE := (hbr.cell (p := ⟨T + 1, 0, none⟩) zE).trans he2
      have HTK := Lib.hid (atL_take xs k hlt)
      have hki : (k : Int) < (xs.length : Int) := by omega
      generalize (segF xs k xs[k]).lo = lo at *
      generalize (segF xs k xs[k]).hi = hh at *
      go_wp2_with (first | (go_at_call 50; refine HEN.out.mono ?_; rintro e w' ⟨rfl, nq, rfl⟩) | (at_builtin; refine wpList_append_own _ rfl _ _ 77 rfl w2.heap.size 3 i0 (.int .i64 0) 1 8 Tryz.underlying77 hi hzi0 hzi1 hzi2 rfl (by decide) (.slice ao ys.length co) ys.length (ys.flatMap encI) rfl (World.ownsRow.alloc (w := wr.drewN nq) hO.out _) ⟨wr.heap.size, 0, none⟩ 2 2 [.int .i64 lo, .int .i64 hh] rfl rfl (cells_at _ _ _ _ _ rfl rfl) (by intro u hu; simp at hu; rcases hu with rfl | rfl <;> rfl) (by have := HYL.out; unfold maxLen; omega) (by have := HYL.out; omega) (Nat.le_trans hbw (size_le_push_ _ _)) ?_; intro v' w6 hown' hgrow _; have HO7 := Lib.hid (own_snoc2 hown'); have HB7 : Hid (Below w2.heap.size w2 w6) := (below_draws hbr nq).trans (row_low (wx := wr.drewN nq) hO.out hbw hgrow); clear hown' hgrow))
      go_roundw
      case rel => exact ⟨k + 1, ys ++ [lo, hh], by omega, by go_num, by show _ = _; rw [HTK.out, ← hY.out], by rw [List.length_append]; have := HYL.out; simp; omega, HO7, HB7.out⟩
      case measure => simp [intOf]; omega
    · have hkx : k = xs.length := by omega
      have et : (segs xs).take k = segs xs := List.take_of_length_le (by rw [segs_len]; omega)
      have HY2 : Hid (ys = atL (segs xs)) := by
        have h := hY.out
        rw [et] at h
        exact h
      have HBR := Lib.hid hbr
      have hki : ¬ (k : Int) < (xs.length : Int) := by omega
      clear hY et hkx hbr
      go_wp2_with fail
      refine (sort_own _ ys _ wr hO.out (by have := HYL.out; omega)).mono ?_; rintro e w3 ⟨rfl, hO3, hg3⟩
      have HO3 := Lib.hid hO3
      have HB3 : Hid (Below w2.heap.size w2 w3) := HBR.out.grown hg3 hbw (fun q hq => (hO.out.lt q hq).1)
      clear hO3 hg3
      have hle3 := HB3.out.size
      go_wp2_with fail
      refine (compact_own _ (srt ys) _ w3 HO3.out).mono ?_; rintro e w4 ⟨v4, rfl, hO4, hg4, -⟩
      have HB4 : Hid (Below w2.heap.size w2 w4) := HB3.out.grown hg4 hle3 (fun q hq => (HO3.out.lt q hq).1)
      obtain ⟨a4, c4, rfl⟩ := own_shape hO4
      have hle4 := HB4.out.size
      obtain ⟨zs, hzs⟩ : ∃ zs, zs = Lib.compact (srt ys) := ⟨_, rfl⟩
      rw [← hzs] at hO4
      rw [← hzs]
      have HZS : Hid (zs = atS xs) := by
        show zs = srtC (atL (segs xs))
        rw [hzs, HY2.out]
        rfl
      have hzp : 0 < zs.length := by rw [HZS.out]; exact atS_pos n0
      have hz2 : zs.length ≤ 2 * xs.length := by
        rw [HZS.out]
        refine Nat.le_trans (srtC_len _) ?_
        rw [atL_len, segs_len]
        exact Nat.le_refl _
      have HZB : Hid (∀ z ∈ zs, -2300000000 ≤ z ∧ z ≤ 4200000000) := fun z hz => by
        rw [HZS.out] at hz
        exact atS_bd HBD.out hz
      have H64 : ∀ z ∈ zs, I64 z := fun z hz => by
        have := HZB.out z hz
        exact i64_of (by omega) (by omega)
      have HRow := Lib.hid (ints_of_own H64 hO4)
      clear hzs hO4 hg4 H64 HY2 HYL HO3 HB3 HBR hO hle3 hki hk hlt hbw
      obtain ⟨b4, o4, rfl, hbb, c0, -⟩ := elemInt HRow.out 0 hzp
      have hbd0 := HZB.out _ (List.getElem_mem hzp)
      have HZ0 : Hid (zs[0] = at0 xs) := by
        have h := HZS.out
        subst h
        exact (at0_eq hzp).symm
      have c0' : w4.cell? ⟨b4, o4, none⟩ = some (.int .i64 zs[0]) := c0
      have hx4 := HX2.out.below HB4.out HX2.out.2.2.2
      have hl4 := (HB4.out.cell (p := ⟨R, 0, none⟩) zR2).trans hl2
      have ht4 := (HB4.out.cell (p := ⟨T, 0, none⟩) zT).trans ht2
      have he4 := (HB4.out.cell (p := ⟨T + 1, 0, none⟩) zE).trans he2
      have HV4 := Lib.hid (HV2.out.mono HB4.out fun _ _ h => h)
      have HX4 := Lib.hid hx4
      have HB4w := Lib.hid (HB2.out.trans (HB4.out.mono (Nat.le_of_lt zR2)))
      have zT4 : T < w4.heap.size := by omega
      have zE4 : T + 1 < w4.heap.size := by omega
      have zR4 : R < w4.heap.size := by omega
      have zR41 : R + 1 < w4.heap.size := hx4.2.2.2
      have hk0 : (0 : Int) < (zs.length : Int) := by omega
      clear hx4 hl2 ht2 he2 HV2 HX2 HB2 HB4 hle4 zT zE zR2 c0 HS2
      obtain ⟨z0, hz0⟩ : ∃ z0, z0 = zs[0] := ⟨_, rfl⟩
      rw [← hz0] at c0' hbd0 HZ0
      obtain ⟨q1, q2⟩ := hbd0
      have HIS : Hid (InS w4 w4.heap.size ((w4.alloc (.cells #[.slice none 0 0, .slice none 0 0] 74)).alloc (.cells #[.slice none 0 0] 108)) (.slice none 0 0) (.slice none 0 0) [] []) := InS.new w4
      have HTL : Hid (∀ (fr lc : Int) (wa : World) (va vp : Value) (al : List (Ans × Value)) (pl : List Pc), InS w4 w4.heap.size wa va vp al pl → al.length ≤ 3000 → pl.length ≤ 3000 → I64 lc → I64 fr → Calls Tryz.prog 53 #[.int .i64 fr, .int .i64 lc, .pointer (some ⟨T, 0, none⟩), .pointer (some ⟨R, 0, none⟩), .pointer (some ⟨T + 1, 0, none⟩), .pointer (some ⟨w4.heap.size, 0, none⟩), .pointer (some ⟨w4.heap.size + 1, 0, none⟩)] wa (TellR w4 w4.heap.size al pl (tellA (segs xs) lc) fr)) :=
        fun fr lc wa va vp al pl hS ha hp h1 h2 => tell_any xs (.slice av xs.length cv) va vp T R (T + 1) w4.heap.size fr lc w4 wa al pl hS HV4.out n0 n1 HBD.out ht4 hl4 he4 zT4 zR4 zE4 rfl ha hp h1 h2
      clear hz0 hl4 ht4 he4
      go_wp2_with fail
      refine (HTL.out 0 (z0 - 1) _ _ _ _ _ HIS.out (Nat.zero_le _) (Nat.zero_le _) (i64_of (by omega) (by omega)) i64_zero).mono ?_; rintro e w6 (⟨hbig, rfl, hb6⟩ | ⟨hsm, va, vp, vo, rfl, hI⟩)
      · have HIE : Hid (invE xs = true) := inv_any (t := at0 xs - 1) (by simp [invAn]) (by rw [← HZ0.out]; exact hbig)
        have hx6 := HX4.out.below hb6 zR41
        have HX6 := Lib.hid hx6
        have HB6 := Lib.hid (HB4w.out.trans (hb6.mono (Nat.le_of_lt zR4)))
        obtain ⟨x0, x1, x2, x3⟩ := hx6
        clear hbig hb6 HIS
        go_wp2_with fail
        obtain ⟨u0, u1, -, -⟩ := HX6.out.set (.slice none 0 0) (.slice none 0 0)
        refine bodyPost_ret (v := .tuple #[.agg #[.slice none 0 0, .slice none 0 0], .int .i64 1]) (by simp [results, Tryz.results24, go_sem, u0, u1]) rfl (.inl ⟨HIE.out, rfl, ?_⟩)
        rw [HRR.out]
        exact (HB6.out.setCell (p := ⟨R + 1, 0, none⟩) (Nat.le_succ _) _).setCell (p := ⟨R + 1, 1, none⟩) (Nat.le_succ _) _
      · have HI := Lib.hid hI
        have HAL : Hid (([] ++ [(tellA (segs xs) (z0 - 1), vo)]).map Prod.fst = (invAn xs).take 1 ∧ ([] ++ [⟨0, (([] : List (Ans × Value)).length : Nat)⟩] : List Pc) = (invP xs).take 1 ∧ ∀ a ∈ (invAn xs).take 1, bigA a = false) := by
          refine ⟨by rw [HZ0.out]; rfl, rfl, fun a ha => ?_⟩
          obtain rfl : a = tellA (segs xs) (at0 xs - 1) := by simpa [invAn] using ha
          rw [← HZ0.out]
          exact hsm
        generalize hal0 : [] ++ [(tellA (segs xs) (z0 - 1), vo)] = al0 at *
        generalize hpl0 : ([] ++ [⟨0, (([] : List (Ans × Value)).length : Nat)⟩] : List Pc) = pl0 at *
        have HLN : Hid (al0.length = 0 + 1 ∧ pl0.length = 0 + 1) := ⟨by rw [← hal0]; rfl, by rw [← hpl0]; rfl⟩
        clear hI hsm HIS hal0 hpl0 c0'
        go_wp2_with fail
        go_loopw [65] (fun iv wr => ∃ (k : Nat) (va vp : Value) (al : List (Ans × Value)) (pl : List Pc), k ≤ zs.length ∧ iv = .int .i64 (k : Int) ∧ Hid (InS w4 w4.heap.size wr va vp al pl) ∧ Hid (al.map Prod.fst = (invAn xs).take (k + 1) ∧ pl = (invP xs).take (k + 1) ∧ ∀ a ∈ (invAn xs).take (k + 1), bigA a = false) ∧ Hid (al.length = k + 1 ∧ pl.length = k + 1)) (fun iv _ => (zs.length - intOf iv).toNat)
        case atStart => exact ⟨0, va, vp, al0, pl0, by omega, rfl, HI, HAL, HLN⟩
        case round =>
          obtain ⟨k, va, vp, al, pl, hk, rfl, hI, hA, hL⟩ := hrel
          have hlo := hI.out.lo
          have hsz := hI.out.sz
          by_cases hlt : k < zs.length
          · obtain ⟨b', o', e1, -, c0, h64⟩ := elemInt HRow.out k hlt
            obtain ⟨rfl, rfl⟩ : b4 = b' ∧ o4 = o' := by simpa using e1
            have ck := (hlo.cell (p := ⟨b4, o4 + k, none⟩) hbb).trans c0
            have hki : (k : Int) < (zs.length : Int) := by omega
            have hzk : Hid (k < (atS xs).length ∧ ∀ h : k < (atS xs).length, zs[k] = (atS xs)[k]) := by
              have h := HZS.out
              subst h
              exact ⟨hlt, fun _ => rfl⟩
            have HTA : Hid ((invAn xs).take (k + 1 + 1) = (invAn xs).take (k + 1) ++ [tellA (segs xs) zs[k]]) := by
              exact (invAn_take xs k hzk.out.1).trans (congrArg (fun z => (invAn xs).take (k + 1) ++ [tellA (segs xs) z]) (hzk.out.2 hzk.out.1).symm)
            have HTP : Hid ((invP xs).take (k + 1 + 1) = (invP xs).take (k + 1) ++ [⟨zs[k], (k : Int) + 1⟩]) := by
              exact (invP_take xs k hzk.out.1).trans (congrArg (fun z => (invP xs).take (k + 1) ++ [(⟨z, (k : Int) + 1⟩ : Pc)]) (hzk.out.2 hzk.out.1).symm)
            have HIN : Hid (tellA (segs xs) zs[k] ∈ invAn xs) := by
              have e := congrArg (tellA (segs xs)) (hzk.out.2 hzk.out.1)
              exact e ▸ List.mem_cons_of_mem _ (List.mem_map_of_mem (List.getElem_mem _))
            have HTC := Lib.hid (HTL.out zs[k] zs[k] wr va vp al pl hI.out (by have := hL.out.1; omega) (by have := hL.out.2; omega) h64 h64)
            clear c0 h64 e1 hzk
            generalize zs[k] = z at *
            go_wp2_with fail
            refine HTC.out.mono ?_; rintro e w6 (⟨hbig, rfl, hb6⟩ | ⟨hsm, va', vp', vo, rfl, hI6⟩)
            · have HIE : Hid (invE xs = true) := inv_any HIN.out hbig
              have hx6 := HX4.out.below hb6 zR41
              have HX6 := Lib.hid hx6
              have HB6 := Lib.hid (HB4w.out.trans (hb6.mono (Nat.le_of_lt zR4)))
              obtain ⟨x0, x1, x2, x3⟩ := hx6
              clear hbig hb6
              go_wp2_with fail
              obtain ⟨u0, u1, -, -⟩ := HX6.out.set (.slice none 0 0) (.slice none 0 0)
              refine bodyPost_ret (v := .tuple #[.agg #[.slice none 0 0, .slice none 0 0], .int .i64 1]) (by simp [results, Tryz.results24, go_sem, u0, u1]) rfl (.inl ⟨HIE.out, rfl, ?_⟩)
              rw [HRR.out]
              exact (HB6.out.setCell (p := ⟨R + 1, 0, none⟩) (Nat.le_succ _) _).setCell (p := ⟨R + 1, 1, none⟩) (Nat.le_succ _) _
            · have HI6 := Lib.hid hI6
              have HA6 : Hid ((al ++ [(tellA (segs xs) z, vo)]).map Prod.fst = (invAn xs).take (k + 1 + 1) ∧ pl ++ [(⟨z, (al.length : Nat)⟩ : Pc)] = (invP xs).take (k + 1 + 1) ∧ ∀ a ∈ (invAn xs).take (k + 1 + 1), bigA a = false) := by
                refine ⟨?_, ?_, fun a ha => ?_⟩
                · rw [HTA.out, List.map_append, hA.out.1]; rfl
                · rw [HTP.out, ← hA.out.2.1, hL.out.1]; rfl
                · rw [HTA.out] at ha
                  rcases List.mem_append.1 ha with h | h
                  · exact hA.out.2.2 a h
                  · rw [List.mem_singleton.1 h]; exact hsm
              have HL6 : Hid ((al ++ [(tellA (segs xs) z, vo)]).length = k + 1 + 1 ∧ (pl ++ [(⟨z, (al.length : Nat)⟩ : Pc)]).length = k + 1 + 1) := by
                refine ⟨?_, ?_⟩
                · rw [List.length_append, hL.out.1]; rfl
                · rw [List.length_append, hL.out.2]; rfl
              generalize al ++ [(tellA (segs xs) z, vo)] = al6 at *
              generalize pl ++ [(⟨z, (al.length : Nat)⟩ : Pc)] = pl6 at *
              clear hI6 hsm
              go_wp2_with fail
              go_roundw
              case rel => exact ⟨k + 1, va', vp', al6, pl6, by omega, by go_num, HI6, HA6, HL6⟩
              case measure => simp [intOf]; omega
          · have hkx : k = zs.length := by omega
            have hki : ¬ (k : Int) < (zs.length : Int) := by omega
            have hlA : zs.length = (atS xs).length := by rw [← HZS.out]
            have HEA : Hid (al.map Prod.fst = invAn xs ∧ pl = invP xs ∧ (∀ a ∈ invAn xs, bigA a = false) ∧ al.length = (invAn xs).length ∧ pl.length = (invP xs).length) := by
              obtain ⟨a1, a2, a3⟩ := hA.out
              have e1 : (invAn xs).take (k + 1) = invAn xs := List.take_of_length_le (by rw [invAn_len]; omega)
              have e2 : (invP xs).take (k + 1) = invP xs := List.take_of_length_le (by rw [invP_len]; omega)
              rw [e1] at a1 a3
              rw [e2] at a2
              exact ⟨a1, a2, a3, by rw [← a1, List.length_map], by rw [a2]⟩
            have HPL : Hid (0 < pl.length ∧ pl.length ≤ 2001) := ⟨by have := hL.out.2; omega, by have := hL.out.2; omega⟩
            clear hA hL hkx hlA hlt
            obtain ⟨az, cz, rfl⟩ := own_shape hI.out.an.1
            obtain ⟨ap, cp, rfl⟩ := own_shape hI.out.ps
            have f0 := hI.out.f0
            have f1 := hI.out.f1
            have p0 := hI.out.p0
            have fz0 := hI.out.fz
            have zF : w4.heap.size < wr.heap.size := by omega
            have zP : w4.heap.size + 1 < wr.heap.size := by omega
            by_cases h2 : 2000 < al.length
            · have h2i : (2000 : Int) < (al.length : Int) := by omega
              have HIE : Hid (invE xs = true) := by
                show _ = _
                unfold invE
                rw [Bool.or_eq_true]
                refine .inr ?_
                rw [decide_eq_true_eq, ← HEA.out.2.2.2.1]
                omega
              have hx6 := HX4.out.below hlo zR41
              have HX6 := Lib.hid hx6
              have HB6 := Lib.hid (HB4w.out.trans (hlo.mono (Nat.le_of_lt zR4)))
              obtain ⟨x0, x1, x2, x3⟩ := hx6
              clear h2 hlo
              go_wp2_with fail
              obtain ⟨u0, u1, -, -⟩ := HX6.out.set (.slice none 0 0) (.slice none 0 0)
              refine bodyPost_ret (v := .tuple #[.agg #[.slice none 0 0, .slice none 0 0], .int .i64 1]) (by simp [results, Tryz.results24, go_sem, u0, u1]) rfl (.inl ⟨HIE.out, rfl, ?_⟩)
              rw [HRR.out]
              exact (HB6.out.setCell (p := ⟨R + 1, 0, none⟩) (Nat.le_succ _) _).setCell (p := ⟨R + 1, 1, none⟩) (Nat.le_succ _) _
            · have h2i : ¬ (2000 : Int) < (al.length : Int) := by omega
              have HIE : Hid (invE xs = false) := by
                show _ = _
                unfold invE
                rw [Bool.or_eq_false_iff]
                refine ⟨?_, ?_⟩
                · rw [List.any_eq_false]
                  intro a ha
                  rw [HEA.out.2.2.1 a ha]
                  simp
                · rw [decide_eq_false_iff_not, ← HEA.out.2.2.2.1]
                  omega
              have HSP : Hid (SlAt wr 2 RPc (.slice ap pl.length cp) pl) := slAt_of_own (by omega) (fun _ => rfl) (fun _ _ => rfl) hI.out.ps
              clear h2
              go_wp2_with fail
              refine (chain_any _ pl _ HSP.out HPL.out.1 (by have := HPL.out.2; omega)).mono ?_; rintro e w7 ⟨vn, rfl, hvn, hb7⟩
              obtain ⟨an3, cn3, rfl⟩ := own_shape hvn
              have hI7 := hI.out.below hb7
              have HI7 := Lib.hid hI7
              have HVN := Lib.hid hvn
              have g0 := hI7.f0
              have g1 := hI7.f1
              have gz := hI7.fz
              have hx7 := HX4.out.below hI7.lo zR41
              have hx8 := hx7.oth (G := w4.heap.size) (by omega) 0 (.slice an3 (chN pl).length cn3)
              have HX8 := Lib.hid (hx8.set (.slice an3 (chN pl).length cn3) (.slice az al.length cz))
              have HB7 := Lib.hid (HB4w.out.trans (hI7.lo.mono (Nat.le_of_lt zR4)))
              have zF7 : w4.heap.size < w7.heap.size := Nat.lt_of_lt_of_le zF hb7.size
              have z6 : ¬ w4.heap.size = R + 1 := by omega
              have z7 : ¬ R + 1 = w4.heap.size := by omega
              obtain ⟨x0, x1, x2, x3⟩ := hx7
              clear hI7 hvn hb7 hx8 f0 f1 p0 fz0 hlo
              go_wp2_with fail
              obtain ⟨u0, u1, -, -⟩ := HX8.out
              have e1 : (invF xs).nodes.length = (chN pl).length := by
                show (chN (invP xs)).length = _
                rw [HEA.out.2.1]
              have e2 : (invF xs).answers.length = al.length := HEA.out.2.2.2.1.symm
              refine bodyPost_ret (v := .tuple #[.agg #[.slice an3 (chN pl).length cn3, .slice az al.length cz], .int .i64 0]) (by simp [results, Tryz.results24, go_sem, u0, u1]) rfl (.inr ⟨HIE.out, an3, cn3, az, cz, by rw [e1, e2], ?_, ?_⟩)
              · rw [e1, e2]
                refine ⟨?_, ?_⟩
                · show SlAt _ 5 RNod _ (chN (invP xs))
                  rw [← HEA.out.2.1]
                  exact slAt_of_own (enc := encN) (by omega) (fun _ => rfl) (fun x hx => ⟨rfl, chN_64 pl (by have := HPL.out.2; omega) (by rw [HEA.out.2.1]; exact invP_64 HBD.out n1) x hx⟩) (ownsRow_setCell_below (ownsRow_setCell_below (ownsRow_setCell_below HVN.out (by show w4.heap.size < _; omega) _) (by show R + 1 < _; omega) _) (by show R + 1 < _; omega) _)
                · show SlAt _ 5 (RAns _) _ (invAn xs)
                  rw [← HEA.out.1]
                  exact (((HI7.out.an.set (by omega) _ _).set (by omega) _ _).set (by omega) _ _).at fun x hx => by
                    rw [HEA.out.1] at hx
                    exact invAn_ok HBD.out x hx
              · rw [HRR.out]
                exact ((HB7.out.setCell (p := ⟨w4.heap.size, 0, none⟩) (Nat.le_of_lt zR4) _).setCell (p := ⟨R + 1, 0, none⟩) (Nat.le_succ _) _).setCell (p := ⟨R + 1, 1, none⟩) (Nat.le_succ _) _
end Go.Proofs.YtbikdlcjbigafaaGreatDoor

namespace Go.Proofs.YtbikdlcjbigafaaGreatDoor
set_option linter.unusedVariables false
set_option linter.unusedSimpArgs false
open Go.ChangeShapes Go.WideShapes Go.ChangeAt Go.RowKit

theorem tell_small {xs : List Spn} (hb : ∀ j (hj : j < xs.length), SpB xs[j]) (t : Int) (h : bigA (tellA (segs xs) t) = false) : ansE (tellA (segs xs) t) = 0 := by
  obtain ⟨j1, j2⟩ := jump_bd hb t
  have hj : -2208988800 ≤ (tellA (segs xs) t).jump ∧ (tellA (segs xs) t).jump ≤ 4102444800 := by
    show -2208988800 ≤ (if _ then _ else _) ∧ (if _ then _ else _) ≤ _
    split <;> omega
  have h6 : ((tellA (segs xs) t).offs.length : Int) ≤ 6 := by
    unfold bigA at h
    rw [decide_eq_false_iff_not] at h
    omega
  have ho : (tellA (segs xs) t).offs.any oddB = false := by
    rw [List.any_eq_false]
    intro o h2
    obtain ⟨i, hi, rfl⟩ := offs_mem h2
    obtain ⟨_, _, a, b⟩ := hb i hi
    rw [oddB_no a b]
    simp
  have e0 : (tellA (segs xs) t).ck = ⟨0, false, ⟨#[]⟩⟩ := rfl
  generalize tellA (segs xs) t = A at *
  have e1 : ansBad A = false := by
    unfold ansBad
    rw [e0, ho]
    simp [oddB]
    omega
  have e2 : ansBig A = false := by
    unfold ansBig
    rw [e0, Bool.or_eq_false_iff, decide_eq_false_iff_not, decide_eq_false_iff_not]
    refine ⟨by omega, ?_⟩
    show ¬ (24 : Int) < 0
    omega
  unfold ansE
  rw [e1, e2]
  rfl
theorem inv_good {xs : List Spn} (hg : spnE xs = 0) (h : invE xs = false) : frsE (invF xs) = 0 := by
  have hb := spB_of hg
  obtain ⟨n0, n1, -⟩ := spn_good hg
  unfold invE at h
  rw [Bool.or_eq_false_iff, List.any_eq_false, decide_eq_false_iff_not] at h
  obtain ⟨h1, h2⟩ := h
  have hA := invAn_len xs
  have hP := invP_len xs
  have hl : (chN (invP xs)).length = 2 * (atS xs).length + 1 := by
    unfold invP
    rw [chN_len, List.length_mapIdx]
  unfold frsE invF
  dsimp only
  rw [if_neg (by omega), if_neg (by omega)]
  have ha : anssE (invAn xs) = 0 := by
    refine ferr_none _ _ _ fun i hi => ?_
    have hm := List.getElem_mem hi
    have hs : bigA (invAn xs)[i] = false := by simpa using h1 _ hm
    unfold invAn at hm
    rcases List.mem_cons.1 hm with e | hm
    · show ansE (invAn xs)[i] = 0
      rw [show (invAn xs)[i] = _ from e] at hs ⊢
      exact tell_small hb _ hs
    · obtain ⟨t, _, e⟩ := List.mem_map.1 hm
      show ansE (invAn xs)[i] = 0
      rw [show (invAn xs)[i] = _ from e.symm] at hs ⊢
      exact tell_small hb _ hs
  rw [if_neg (by simpa using ha)]
  refine ferr_none _ _ _ fun i hi => ?_
  rw [Nat.zero_add]
  refine chN_good _ (invP xs) (fun p hp => ?_) i hi
  unfold invP at hp
  rcases List.mem_cons.1 hp with rfl | hp
  · show (0 : Int) ≤ 0 ∧ (0 : Int) < _
    omega
  · obtain ⟨j, hj, rfl⟩ := List.mem_iff_getElem.1 hp
    rw [List.length_mapIdx] at hj
    rw [List.getElem_mapIdx]
    show (0 : Int) ≤ (j : Int) + 1 ∧ (j : Int) + 1 < _
    omega
end Go.Proofs.YtbikdlcjbigafaaGreatDoor
