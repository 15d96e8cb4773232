/-
  LinksLong: the walk.
-/
import Derived.Test.YtdpbedkppomffaaDoorLkA
import Derived.Test.YtdpbedkppomffaaDoorZonY0
import Derived.Test.YtdpbedkppomffaaDoorShIto
import Derived.Lib.ItoaLen
namespace Go.Proofs.YtdpbedkppomffaaDoor
set_option linter.unusedVariables false
set_option linter.unusedSimpArgs false
open Go.ChangeShapes Go.WideShapes Go.ChangeAt Go.RowKit Civ

def eroV0 : Array Value := #[.int .i64 0, .string ⟨#[]⟩, .int .i64 0, .string ⟨#[88]⟩, .bool false, .int .i64 0, .int .i64 0, .int .i64 0, .int .i64 0, .int .i64 0, .int .i64 0, .int .i64 0]
def encL (x : Lnk) : List Value := [.string x.of, .string x.nm]
theorem info_lnk : (Tryd.prog.info? 42).map (fun i => (i.zero, i.size, i.bytes)) = some (some (.agg #[.string ⟨#[]⟩, .string ⟨#[]⟩]), 2, 32) := by kernel_rfl
/-- a block that is known whole reads as a list. -/
theorem slAt_bx {α : Type} {w : World} {b : Nat} {t : TypeId} {cs : Array Value} {enc : α → List Value} {R : List Value → α → Prop} {sz : Nat} {xs : List α} (h : BxO w b cs t) (e : cs.toList = xs.flatMap enc) (hsz : ∀ x, (enc x).length = sz) (hR : ∀ x ∈ xs, R (enc x) x) (h0 : 0 < xs.length) (hl : xs.length ≤ maxLen) :
    SlAt w sz R (.slice (some ⟨b, 0, none⟩) xs.length xs.length) xs := by
  refine .inr ⟨b, 0, xs.length, rfl, h0, Nat.le_refl _, hl, h.lt, fun i hi => ⟨enc xs[i], hsz _, hR _ (List.getElem_mem hi), fun j hj => ?_⟩⟩
  rw [h.cell, Nat.zero_add, ← Array.getElem?_toList, e]
  exact flat_at hsz xs i j hi hj
/-- the source that is made: its eras, its zone, itself, its links. -/
structure LkS (w wx : World) (vl : Value) (l : List Lnk) : Prop where
  e : BxO wx w.heap.size eroV0 36
  z : BxO wx (w.heap.size + 1) #[.string ⟨#[122]⟩, .slice (some ⟨w.heap.size, 0, none⟩) 1 1] 39
  s : BxO wx (w.heap.size + 1 + 1) #[.slice none 0 0, .slice (some ⟨w.heap.size + 1, 0, none⟩) 1 1, vl] 26
  l : wx.ownsRow (w.heap.size + 3) 42 2 vl l.length (l.flatMap encL)
  b : Below w.heap.size w wx
theorem LkS.new (w : World) : LkS w (((w.alloc (.cells eroV0 36)).alloc (.cells #[.string ⟨#[122]⟩, .slice (some ⟨w.heap.size, 0, none⟩) 1 1] 39)).alloc (.cells #[.slice none 0 0, .slice (some ⟨w.heap.size + 1, 0, none⟩) 1 1, .slice none 0 0] 26)) (.slice none 0 0) [] := by
  have h1 := size_alloc w (.cells eroV0 36)
  have h2 := size_alloc (w.alloc (.cells eroV0 36)) (.cells #[.string ⟨#[122]⟩, .slice (some ⟨w.heap.size, 0, none⟩) 1 1] 39)
  refine ⟨((BxO.new w _ _).alloc _).alloc _, ?_, ?_, World.ownsRow_nil _ _ _ _, ((Below.refl _ _).alloc (Nat.le_refl _) _).alloc (by omega) _ |>.alloc (by omega) _⟩
  · refine BxO.alloc ?_ _
    rw [← h1]
    exact BxO.new _ _ _
  · rw [← h1, ← h2]
    exact BxO.new _ _ _
theorem LkS.low {w wx w' : World} {vl : Value} {l : List Lnk} (h : LkS w wx vl l) (hb : Below wx.heap.size wx w') : LkS w w' vl l :=
  ⟨(hb.block _ h.e.lt).trans h.e, (hb.block _ h.z.lt).trans h.z, (hb.block _ h.s.lt).trans h.s, ownsRow_below h.l hb (Nat.le_refl _), h.b.trans (hb.mono h.b.size)⟩
theorem LkS.zat {w wx : World} {vl : Value} {l : List Lnk} (h : LkS w wx vl l) {w' : World} (hb : Below wx.heap.size wx w') : SlAt w' 2 (RZon w') (.slice (some ⟨w.heap.size + 1, 0, none⟩) 1 1) [lkZ] := by
  have h' := h.low hb
  refine slAt_bx (xs := [lkZ]) (enc := fun z : Zon => [.string z.nm, .slice (some ⟨w.heap.size, 0, none⟩) 1 1]) h'.z rfl (fun _ => rfl) (fun x hx => ?_) (by simp) (by unfold maxLen; simp)
  obtain rfl := List.mem_singleton.1 hx
  refine ⟨_, rfl, ?_, by unfold maxLen; decide⟩
  exact slAt_bx (xs := lkZ.eras) (enc := EroV) h'.e rfl (fun _ => rfl) (fun x hx => by
    obtain rfl := List.mem_singleton.1 hx
    exact ⟨rfl, by unfold E64 M64 I64 maxLen; decide⟩) (by simp [lkZ]) (by unfold maxLen; simp [lkZ])
theorem LkS.put {w wx w' : World} {vl v' : Value} {l : List Lnk} {x : Lnk} (h : LkS w wx vl l) (hb : Below (w.heap.size + 3) wx w') (ho : w'.ownsRow (w.heap.size + 3) 42 2 v' (l.length + 1) (l.flatMap encL ++ encL x)) : LkS w (w'.setCell ⟨w.heap.size + 1 + 1, 2, none⟩ v') v' (l ++ [x]) := by
  have hs : BxO w' (w.heap.size + 1 + 1) #[.slice none 0 0, .slice (some ⟨w.heap.size + 1, 0, none⟩) 1 1, vl] 26 := (hb.block _ (by omega)).trans h.s
  refine ⟨BxO.other ((hb.block _ (by omega)).trans h.e) (by omega) _ _, BxO.other ((hb.block _ (by omega)).trans h.z) (by omega) _ _, hs.set2 _, ?_, ?_⟩
  · exact ownsRow_setCell_below (a := ⟨w.heap.size + 1 + 1, 2, none⟩) (own_snocG ho) (by show w.heap.size + 1 + 1 < w.heap.size + 3; omega) _
  · exact (h.b.trans (hb.mono (by omega))).setCell (p := ⟨w.heap.size + 1 + 1, 2, none⟩) (by show w.heap.size ≤ w.heap.size + 1 + 1; omega) _
/-- a source beside it, with links of its own. -/
structure RgB (w wx : World) (R : Nat) (ls : List Lnk) : Prop where
  s : BxO wx R #[.slice none 0 0, .slice (some ⟨w.heap.size + 1, 0, none⟩) 1 1, .slice (some ⟨R + 1, 0, none⟩) ls.length ls.length] 26
  l : BxO wx (R + 1) (ls.flatMap encL).toArray 42
theorem RgB.low {w wx w' : World} {R : Nat} {ls : List Lnk} (h : RgB w wx R ls) (hb : Below wx.heap.size wx w') : RgB w w' R ls := ⟨(hb.block _ h.s.lt).trans h.s, (hb.block _ h.l.lt).trans h.l⟩
theorem RgB.new (w x : World) (ls : List Lnk) (cs : Array Value) (hc : cs = (ls.flatMap encL).toArray) : RgB w ((x.alloc (.cells #[.slice none 0 0, .slice (some ⟨w.heap.size + 1, 0, none⟩) 1 1, .slice (some ⟨x.heap.size + 1, 0, none⟩) ls.length ls.length] 26)).alloc (.cells cs 42)) x.heap.size ls := by
  subst hc
  refine ⟨(BxO.new x _ _).alloc _, ?_⟩
  have h := BxO.new (x.alloc (.cells #[.slice none 0 0, .slice (some ⟨w.heap.size + 1, 0, none⟩) 1 1, .slice (some ⟨x.heap.size + 1, 0, none⟩) ls.length ls.length] 26)) (ls.flatMap encL).toArray 42
  rw [size_alloc] at h
  exact h
theorem RgB.src {w wx : World} {vl : Value} {l ls : List Lnk} {R : Nat} (h : RgB w wx R ls) (g : LkS w wx vl l) (h0 : 0 < ls.length) (hl : ls.length ≤ maxLen) (hs : ∀ x ∈ ls, x.of.size ≤ maxLen ∧ x.nm.size ≤ maxLen) : SrcAt wx (.slice none 0 0) (.slice (some ⟨w.heap.size + 1, 0, none⟩) 1 1) (.slice (some ⟨R + 1, 0, none⟩) ls.length ls.length) ⟨[], [lkZ], ls⟩ :=
  ⟨.inl ⟨_, _, rfl, rfl⟩, g.zat (Below.refl _ _), slAt_bx (enc := encL) h.l rfl (fun _ => rfl) (fun x hx => ⟨rfl, hs x hx⟩) h0 hl⟩
def ring0 : List Lnk := [⟨⟨#[98]⟩, ⟨#[97]⟩⟩, ⟨⟨#[97]⟩, ⟨#[98]⟩⟩]
def lost0 : List Lnk := [⟨⟨#[98]⟩, ⟨#[97]⟩⟩]
def twice0 : List Lnk := [⟨⟨#[122]⟩, ⟨#[122]⟩⟩]
theorem below2 (w : World) (o o' : Obj) : Below w.heap.size w ((w.alloc o).alloc o') := below_alloc2 (Nat.le_refl _) o o'
def lastN0 (k : Nat) : ByteArray := if k = 0 then ⟨#[122]⟩ else lkN (k - 1)
theorem lkL_succ (k : Nat) : lkL (k + 1) = lkL k ++ [⟨lastN0 k, lkN k⟩] := by
  cases k with
  | zero => rfl
  | succ k => rfl
theorem lkL_len (k : Nat) : (lkL k).length = k := by
  induction k with
  | zero => rfl
  | succ k ih => rw [lkL_succ, List.length_append, ih]; rfl
theorem lkN_size (k : Nat) (h : k ≤ 12) : (lkN k).size ≤ maxLen := by
  have h1 : k = 0 ∨ k = 1 ∨ k = 2 ∨ k = 3 ∨ k = 4 ∨ k = 5 ∨ k = 6 ∨ k = 7 ∨ k = 8 ∨ k = 9 ∨ k = 10 ∨ k = 11 ∨ k = 12 := by omega
  unfold maxLen
  rcases h1 with rfl | rfl | rfl | rfl | rfl | rfl | rfl | rfl | rfl | rfl | rfl | rfl | rfl <;> decide +kernel
theorem lkL_64 : ∀ k, k ≤ 12 → ∀ x ∈ lkL k, x.of.size ≤ maxLen ∧ x.nm.size ≤ maxLen
  | 0, _, x, hx => by cases hx
  | k + 1, h, x, hx => by
    rw [lkL_succ] at hx
    rcases List.mem_append.1 hx with hx | hx
    · exact lkL_64 k (by omega) x hx
    · obtain rfl := List.mem_singleton.1 hx
      refine ⟨?_, lkN_size k (by omega)⟩
      unfold lastN0
      split
      · show (1 : Nat) ≤ maxLen; unfold maxLen; decide
      · exact lkN_size _ (by omega)
theorem LkS.src {w wx : World} {vl : Value} {k : Nat} (h : LkS w wx vl (lkL k)) (hk : k ≤ 12) : SrcAt wx (.slice none 0 0) (.slice (some ⟨w.heap.size + 1, 0, none⟩) 1 1) vl ⟨[], [lkZ], lkL k⟩ :=
  ⟨.inl ⟨_, _, rfl, rfl⟩, h.zat (Below.refl _ _), slAt_of_own (enc := encL) (by omega) (fun _ => rfl) (fun x hx => ⟨rfl, lkL_64 k hk x hx⟩) h.l⟩
set_option maxHeartbeats 4000000 in
set_option maxRecDepth 100000 in
theorem walkLinksLong (n : Int) (W : World) (hn : (Lit.int .i64 n).wf = true) (hV : (Tab W ∧ MxL W) ∧ Lib.TabIs Tryd.prog W "internal/strconv.uint64pow10" .u64 Lib.pow10Tab) :
    Calls Tryd.prog 4 #[.int .i64 n] W fun e w' => e = .returned (.bool true) ∧ Below W.heap.size W w' := by
  have HP := Lib.hid (picked_v n 12 W hn (by omega) (by omega))
  obtain ⟨p0, p1⟩ := pkv_bd n 12 (by omega)
  have HV := Lib.hid hV
  clear hn hV
  obtain ⟨k, hk⟩ : ∃ k : Nat, pkv n 12 = (k : Int) := ⟨(pkv n 12).toNat, by omega⟩
  rw [hk] at HP p0 p1
  clear hk
  have hk12 : k < 12 := by omega
  have tw : IntKind.i64.wrap (1 + (k : Int)) = 1 + (k : Int) := IntWalk.i64_in _ (by omega)
  go_enter Tryd.func4, Tryd.ntmps4
  go_wp2_with fail
  refine HP.out.mono ?_; rintro e w1 ⟨rfl, rfl⟩
  have L0 := Lib.hid (LkS.new W)
  obtain ⟨W0, hW0⟩ : ∃ W0, W0 = ((W.alloc (.cells eroV0 36)).alloc (.cells #[.string ⟨#[122]⟩, .slice (some ⟨W.heap.size, 0, none⟩) 1 1] 39)).alloc (.cells #[.slice none 0 0, .slice (some ⟨W.heap.size + 1, 0, none⟩) 1 1, .slice none 0 0] 26) := ⟨_, rfl⟩
  rw [← hW0] at L0
  have HW := Lib.hid (show W0 = ((W.alloc (.cells #[.int .i64 0, .string ⟨#[]⟩, .int .i64 0, .string ⟨#[88]⟩, .bool false, .int .i64 0, .int .i64 0, .int .i64 0, .int .i64 0, .int .i64 0, .int .i64 0, .int .i64 0] 36)).alloc (.cells #[.string ⟨#[122]⟩, .slice (some ⟨W.heap.size, 0, none⟩) 1 1] 39)).alloc (.cells #[.slice none 0 0, .slice (some ⟨W.heap.size + 1, 0, none⟩) 1 1, .slice none 0 0] 26) from hW0)
  clear hW0
  have HTB := Lib.hid (Lib.tabBelow_of_tabIs HV.out.2)
  go_upto_region 3 with fail
  rw [← HW.out]
  clear HW HP
  go_wp2
  obtain ⟨i0, hi, hz0, hz1, hz2⟩ := info_parts info_lnk
  go_loopw [5, 22] (fun t i wr => ∃ (j : Nat) (a : Option Addr) (c : Nat), j ≤ k + 1 ∧ i = .int .i64 j ∧ t = .string (lastN0 j) ∧ Hid (LkS W wr (.slice a j c) (lkL j))) (fun _ i _ => (k + 1 - intOf i).toNat)
  case atStart => exact ⟨0, none, 0, by omega, rfl, rfl, L0⟩
  case round =>
    obtain ⟨j, a, c, hj, rfl, rfl, LJ⟩ := hrel
    by_cases hlt : j < k + 1
    · have hji : (j : Int) < 1 + (k : Int) := by omega
      have HIT := Lib.hid (itoa_any (j : Int) (by omega) (by omega) wr (HTB.out wr LJ.out.b))
      obtain ⟨T, hT⟩ : ∃ T, T = Lib.itoa (j : Int) := ⟨_, rfl⟩
      have HTL : Hid ((T.length : Int) ≤ 8388608) := by show _ ≤ _; rw [hT]; have := Lib.itoa_length_le (j : Int) (by omega) (by omega); omega
      have HNM : Hid (lkN j = ⟨([108] ++ T).toArray⟩) := by show _ = _; rw [hT]; rfl
      have HLS := Lib.hid (lkL_succ j)
      have HLA : Hid (lastN0 (j + 1) = lkN j) := by show lastN0 (j + 1) = _; unfold lastN0; rw [if_neg (by omega)]; rfl
      rw [← hT] at HIT
      rw [HNM.out] at HLS HLA
      generalize lastN0 j = la at *
      clear hT
      go_wp2_with fail
      refine HIT.out.mono ?_; rintro e w2 ⟨rfl, hb2⟩
      have L2 := Lib.hid (LJ.out.low hb2)
      clear hb2 HIT
      have hcs := run_string_add_lists (P := Tryd.prog) w2 [108] T (by decide) HTL.out
      have d0 : w2.cell? ⟨W.heap.size + 1 + 1, 2, none⟩ = some (.slice a j c) := L2.out.s.cell 2
      have df : w2.frozen? ⟨W.heap.size + 1 + 1, 2, none⟩ = false := L2.out.s.frozen 2
      have dz : W.heap.size + 1 + 1 < w2.heap.size := L2.out.s.lt
      have hll := lkL_len j
      obtain ⟨N, hN⟩ : ∃ N : ByteArray, N = ⟨([108] ++ T).toArray⟩ := ⟨_, rfl⟩
      rw [← hN] at hcs HLS HLA
      clear hN
      go_wp2_with (at_builtin; refine wpList_append_own _ rfl _ _ 24 rfl (W.heap.size + 3) 42 i0 (.agg #[.string ⟨#[]⟩, .string ⟨#[]⟩]) 2 32 Tryd.underlying24 hi hz0 hz1 hz2 rfl (by decide) (.slice a j c) j ((lkL j).flatMap encL) rfl (World.ownsRow.alloc (show w2.ownsRow (W.heap.size + 3) 42 2 (.slice a j c) j ((lkL j).flatMap encL) from by have := L2.out.l; rw [hll] at this; exact this) _) ⟨w2.heap.size, 0, none⟩ 1 1 (encL ⟨la, N⟩) rfl rfl (cells_at _ _ _ _ _ rfl rfl) (by intro u hu; simp [encL] at hu; rcases hu with rfl | rfl <;> rfl) (by unfold maxLen; omega) (by omega) (by rw [size_alloc]; omega) ?_; intro v' w3 hown' hgrow _; have hle : W.heap.size + 3 ≤ w2.heap.size := (by omega); have hk3 := append_keep (show w2.ownsRow (W.heap.size + 3) 42 2 (.slice a j c) j ((lkL j).flatMap encL) from by have := L2.out.l; rw [hll] at this; exact this) ((Below.refl (W.heap.size + 3) w2).alloc hle _) hle hgrow; have L3 := Lib.hid (LkS.put (x := ⟨la, N⟩) L2.out hk3 (by rw [hll]; exact hown')); have df3 : w3.frozen? ⟨W.heap.size + 1 + 1, 2, none⟩ = false := (hk3.frozen (p := ⟨W.heap.size + 1 + 1, 2, none⟩) (by show W.heap.size + 1 + 1 < W.heap.size + 3; omega)).trans df; obtain ⟨a', c', rfl⟩ := own_shape hown'; have d3 : w3.cell? ⟨W.heap.size + 1 + 1, 2, none⟩ = some (.slice a j c) := (hk3.cell (p := ⟨W.heap.size + 1 + 1, 2, none⟩) (by show W.heap.size + 1 + 1 < W.heap.size + 3; omega)).trans d0; clear hown' hgrow hk3 d0 df)
      rw [← HLS.out] at L3
      clear d3 df3 hcs dz hll
      go_roundw
      case rel => exact ⟨j + 1, a', c', by omega, by go_num, by rw [HLA.out], L3⟩
      case measure => simp [intOf]; omega
    · obtain rfl : j = k + 1 := by omega
      have hji : ¬ ((k + 1 : Nat) : Int) < 1 + (k : Int) := by omega
      have hji2 : ¬ ((k : Int) + 1 < 1 + (k : Int)) := by omega
      have HC := Lib.hid (check_any ⟨[], [lkZ], lkL (k + 1)⟩ _ _ _ wr (LJ.out.src (by omega)) ⟨HV.out.1.1.below LJ.out.b, HV.out.1.2.below LJ.out.b⟩)
      rw [lkE (k + 1) (by omega) (by omega)] at HC
      obtain ⟨E, hE⟩ : ∃ E : Int, E = if 8 < k + 1 then 9 else 0 := ⟨_, rfl⟩
      rw [← hE] at HC
      have HE := Lib.hid hE
      have d0 : wr.cell? ⟨W.heap.size + 1 + 1, 0, none⟩ = some (.slice none 0 0) := LJ.out.s.cell 0
      have d1 : wr.cell? ⟨W.heap.size + 1 + 1, 1, none⟩ = some (.slice (some ⟨W.heap.size + 1, 0, none⟩) 1 1) := LJ.out.s.cell 1
      have d2 : wr.cell? ⟨W.heap.size + 1 + 1, 2, none⟩ = some (.slice a (k + 1) c) := LJ.out.s.cell 2
      have dz : W.heap.size + 1 + 1 < wr.heap.size := LJ.out.s.lt
      clear hE hlt
      go_wp2_with fail
      refine HC.out.mono ?_; rintro e w2 ⟨rfl, hb2⟩
      have L2 := Lib.hid (LJ.out.low hb2)
      clear hb2 HC d0 d1 d2 dz
      have d0 : w2.cell? ⟨W.heap.size + 1 + 1, 0, none⟩ = some (.slice none 0 0) := L2.out.s.cell 0
      have d1 : w2.cell? ⟨W.heap.size + 1 + 1, 1, none⟩ = some (.slice (some ⟨W.heap.size + 1, 0, none⟩) 1 1) := L2.out.s.cell 1
      have d2 : w2.cell? ⟨W.heap.size + 1 + 1, 2, none⟩ = some (.slice a (k + 1) c) := L2.out.s.cell 2
      have dz : W.heap.size + 1 + 1 < w2.heap.size := L2.out.s.lt
      have hnx := below2 w2 (.cells #[.slice none 0 0, .slice (some ⟨W.heap.size + 1, 0, none⟩) 1 1, .slice (some ⟨w2.heap.size + 1, 0, none⟩) 2 2] 26) (.cells #[.string ⟨#[98]⟩, .string ⟨#[97]⟩, .string ⟨#[97]⟩, .string ⟨#[98]⟩] 42)
      have L3 := Lib.hid (L2.out.low hnx)
      have R3 := Lib.hid (RgB.new W w2 ring0 #[.string ⟨#[98]⟩, .string ⟨#[97]⟩, .string ⟨#[97]⟩, .string ⟨#[98]⟩] rfl)
      obtain ⟨w3, hw3⟩ : ∃ w3, w3 = (w2.alloc (.cells #[.slice none 0 0, .slice (some ⟨W.heap.size + 1, 0, none⟩) 1 1, .slice (some ⟨w2.heap.size + 1, 0, none⟩) 2 2] 26)).alloc (.cells #[.string ⟨#[98]⟩, .string ⟨#[97]⟩, .string ⟨#[97]⟩, .string ⟨#[98]⟩] 42) := ⟨_, rfl⟩
      rw [← hw3] at L3
      have R3' : RgB W w3 w2.heap.size ring0 := by rw [hw3]; exact R3.out
      have R3 := Lib.hid R3'
      have HW3 := Lib.hid hw3
      clear hw3 R3' hnx
      go_upto_region 14 with fail
      rw [← HW3.out]
      clear d0 d1 d2 dz HW3
      generalize w2.heap.size = r2 at *
      have d0 : w3.cell? ⟨W.heap.size + 1 + 1, 0, none⟩ = some (.slice none 0 0) := L3.out.s.cell 0
      have d1 : w3.cell? ⟨W.heap.size + 1 + 1, 1, none⟩ = some (.slice (some ⟨W.heap.size + 1, 0, none⟩) 1 1) := L3.out.s.cell 1
      have d2 : w3.cell? ⟨W.heap.size + 1 + 1, 2, none⟩ = some (.slice a (k + 1) c) := L3.out.s.cell 2
      have dz : W.heap.size + 1 + 1 < w3.heap.size := L3.out.s.lt
      have hnx := below2 w3 (.cells #[.slice none 0 0, .slice (some ⟨W.heap.size + 1, 0, none⟩) 1 1, .slice (some ⟨w3.heap.size + 1, 0, none⟩) 1 1] 26) (.cells #[.string ⟨#[98]⟩, .string ⟨#[97]⟩] 42)
      have L4 := Lib.hid (L3.out.low hnx)
      have R4 := Lib.hid (R3.out.low hnx)
      obtain ⟨w4, hw4⟩ : ∃ w4, w4 = (w3.alloc (.cells #[.slice none 0 0, .slice (some ⟨W.heap.size + 1, 0, none⟩) 1 1, .slice (some ⟨w3.heap.size + 1, 0, none⟩) 1 1] 26)).alloc (.cells #[.string ⟨#[98]⟩, .string ⟨#[97]⟩] 42) := ⟨_, rfl⟩
      rw [← hw4] at L4 R4
      have S4' : RgB W w4 w3.heap.size lost0 := by rw [hw4]; exact RgB.new W w3 lost0 _ rfl
      have S4 := Lib.hid S4'
      have HW4 := Lib.hid hw4
      clear hw4 S4' hnx
      go_upto_region 16 with fail
      rw [← HW4.out]
      clear d0 d1 d2 dz HW4 R3 L3 L2
      generalize w3.heap.size = r3 at *
      have d0 : w4.cell? ⟨W.heap.size + 1 + 1, 0, none⟩ = some (.slice none 0 0) := L4.out.s.cell 0
      have d1 : w4.cell? ⟨W.heap.size + 1 + 1, 1, none⟩ = some (.slice (some ⟨W.heap.size + 1, 0, none⟩) 1 1) := L4.out.s.cell 1
      have d2 : w4.cell? ⟨W.heap.size + 1 + 1, 2, none⟩ = some (.slice a (k + 1) c) := L4.out.s.cell 2
      have dz : W.heap.size + 1 + 1 < w4.heap.size := L4.out.s.lt
      have hnx := below2 w4 (.cells #[.slice none 0 0, .slice (some ⟨W.heap.size + 1, 0, none⟩) 1 1, .slice (some ⟨w4.heap.size + 1, 0, none⟩) 1 1] 26) (.cells #[.string ⟨#[122]⟩, .string ⟨#[122]⟩] 42)
      have L5 := Lib.hid (L4.out.low hnx)
      have R5 := Lib.hid (R4.out.low hnx)
      have S5 := Lib.hid (S4.out.low hnx)
      obtain ⟨w5, hw5⟩ : ∃ w5, w5 = (w4.alloc (.cells #[.slice none 0 0, .slice (some ⟨W.heap.size + 1, 0, none⟩) 1 1, .slice (some ⟨w4.heap.size + 1, 0, none⟩) 1 1] 26)).alloc (.cells #[.string ⟨#[122]⟩, .string ⟨#[122]⟩] 42) := ⟨_, rfl⟩
      rw [← hw5] at L5 R5 S5
      have T5' : RgB W w5 w4.heap.size twice0 := by rw [hw5]; exact RgB.new W w4 twice0 _ rfl
      have T5 := Lib.hid T5'
      have HW5 := Lib.hid hw5
      clear hw5 T5' hnx
      go_upto_region 18 with fail
      rw [← HW5.out]
      clear d0 d1 d2 dz HW5 R4 S4 L4
      generalize w4.heap.size = r4 at *
      have HR := Lib.hid (check_any ⟨[], [lkZ], ring0⟩ _ _ _ w5 (R5.out.src L5.out (by decide) (by unfold maxLen; decide) (by intro x hx; simp [ring0] at hx; unfold maxLen; rcases hx with rfl | rfl <;> decide)) ⟨HV.out.1.1.below L5.out.b, HV.out.1.2.below L5.out.b⟩)
      rw [show srcE ⟨[], [lkZ], ring0⟩ = 9 from lkRing] at HR
      have c0 : w5.cell? ⟨r2, 0, none⟩ = some (.slice none 0 0) := R5.out.s.cell 0
      have c1 : w5.cell? ⟨r2, 1, none⟩ = some (.slice (some ⟨W.heap.size + 1, 0, none⟩) 1 1) := R5.out.s.cell 1
      have c2 : w5.cell? ⟨r2, 2, none⟩ = some (.slice (some ⟨r2 + 1, 0, none⟩) 2 2) := R5.out.s.cell 2
      have hcs : ((8 : Int) < 1 + (k : Int) ∧ E = 9) ∨ (¬ (8 : Int) < 1 + (k : Int) ∧ E = 0) := by
        rw [HE.out]
        by_cases h8 : 8 < k + 1
        · exact .inl ⟨by omega, if_pos h8⟩
        · exact .inr ⟨by omega, if_neg h8⟩
      clear HE
      rcases hcs with ⟨hw, rfl⟩ | ⟨hw, rfl⟩
      all_goals
        go_wp2_with fail
        refine HR.out.mono ?_; rintro e w6 ⟨rfl, hb6⟩
        have L6 := Lib.hid (L5.out.low hb6)
        have S6 := Lib.hid (S5.out.low hb6)
        have T6 := Lib.hid (T5.out.low hb6)
        have HR2 := Lib.hid (check_any ⟨[], [lkZ], lost0⟩ _ _ _ w6 (S6.out.src L6.out (by decide) (by unfold maxLen; decide) (by intro x hx; simp [lost0] at hx; unfold maxLen; rcases hx with rfl; decide)) ⟨HV.out.1.1.below L6.out.b, HV.out.1.2.below L6.out.b⟩)
        rw [show srcE ⟨[], [lkZ], lost0⟩ = 6 from lkLost] at HR2
        clear hb6 c0 c1 c2
        have c0 : w6.cell? ⟨r3, 0, none⟩ = some (.slice none 0 0) := S6.out.s.cell 0
        have c1 : w6.cell? ⟨r3, 1, none⟩ = some (.slice (some ⟨W.heap.size + 1, 0, none⟩) 1 1) := S6.out.s.cell 1
        have c2 : w6.cell? ⟨r3, 2, none⟩ = some (.slice (some ⟨r3 + 1, 0, none⟩) 1 1) := S6.out.s.cell 2
        go_wp2_with fail
        refine HR2.out.mono ?_; rintro e w7 ⟨rfl, hb7⟩
        have L7 := Lib.hid (L6.out.low hb7)
        have T7 := Lib.hid (T6.out.low hb7)
        have HR3 := Lib.hid (check_any ⟨[], [lkZ], twice0⟩ _ _ _ w7 (T7.out.src L7.out (by decide) (by unfold maxLen; decide) (by intro x hx; simp [twice0] at hx; unfold maxLen; rcases hx with rfl; decide)) ⟨HV.out.1.1.below L7.out.b, HV.out.1.2.below L7.out.b⟩)
        rw [show srcE ⟨[], [lkZ], twice0⟩ = 7 from lkTwice] at HR3
        clear hb7 c0 c1 c2
        have c0 : w7.cell? ⟨r4, 0, none⟩ = some (.slice none 0 0) := T7.out.s.cell 0
        have c1 : w7.cell? ⟨r4, 1, none⟩ = some (.slice (some ⟨W.heap.size + 1, 0, none⟩) 1 1) := T7.out.s.cell 1
        have c2 : w7.cell? ⟨r4, 2, none⟩ = some (.slice (some ⟨r4 + 1, 0, none⟩) 1 1) := T7.out.s.cell 2
        go_wp2_with fail
        refine HR3.out.mono ?_; rintro e w8 ⟨rfl, hb8⟩
        have L8 := Lib.hid (L7.out.low hb8)
        clear hb8 c0 c1 c2
        go_wp2
        go_ret
        exact ⟨rfl, L8.out.b⟩
end Go.Proofs.YtdpbedkppomffaaDoor
