/-
  BlanksNothing: the walk.
-/
import Derived.BigQuiet
import Derived.Test.YtbikdlcjbigafaaGreatDoorJBlA
import Derived.Test.YtbikdlcjbigafaaGreatDoorJKsB
import Derived.Test.YtbikdlcjbigafaaGreatDoorJSpF
namespace Go.Proofs.YtbikdlcjbigafaaGreatDoor
set_option linter.unusedVariables false
set_option linter.unusedSimpArgs false
open Go.ChangeShapes Go.WideShapes Go.ChangeAt Go.RowKit Civ

theorem rpa_s (c : UInt8) (s x : Wd) (w : World) (hM : MxL w) (hs : s.length ≤ 8000) (hx : x.length ≤ 6) (hne : ([c] == x) = false) :
    Calls Tryz.prog 16 #[.string (bx s), .string (bx [c]), .string (bx x)] w fun e w' => e = .returned (.string (bx (subW c x s))) ∧ Below w.heap.size w w' := by
  obtain ⟨m, hm⟩ := hM.1
  have h1 := Lib.countB_le (bx [c]) (by rw [bx_size]; simp) (bx s).size (bx s) (Nat.le_refl _)
  rw [bx_size] at h1
  refine (Sh.strings_ReplaceAll (bx s) (bx [c]) (bx x) m w (by rw [bx_size]; omega) hm (by rw [bx_size]; simp) (by
    have : Lib.countB (bx s) (bx [c]) * (bx x).size ≤ 8000 * 6 := Nat.mul_le_mul (by omega) (by rw [bx_size]; exact hx)
    rw [bx_size]
    omega)).mono ?_
  rintro e w' ⟨rfl, hb⟩
  refine ⟨?_, hb⟩
  show Ending.returned (.string (bx (Lib.replaceAll s [c] x))) = _
  rw [replaceAll_one c x s hne]
theorem slAt_tk {α : Type} {w : World} {sz n c : Nat} {R : List Value → α → Prop} {a : Option Addr} {xs : List α} (h : SlAt w sz R (.slice a n c) xs) (m : Nat) (hm : m ≤ xs.length) : SlAt w sz R (.slice a m c) (xs.take m) := by
  have hl : (xs.take m).length = m := by rw [List.length_take]; omega
  rcases h with ⟨a', c', e, rfl⟩ | ⟨d, o, cap, hv, p0, p1, p2, p3, p4⟩
  · have : m = 0 := by simpa using hm
    subst this
    simp only [Value.slice.injEq] at e
    obtain ⟨rfl, -, rfl⟩ := e
    exact .inl ⟨_, _, rfl, rfl⟩
  · simp only [Value.slice.injEq] at hv
    obtain ⟨rfl, rfl, rfl⟩ := hv
    by_cases h0 : m = 0
    · subst h0
      exact .inl ⟨_, _, rfl, rfl⟩
    · refine .inr ⟨d, o, c, by rw [hl], by omega, by omega, p2, p3, fun i hi => ?_⟩
      obtain ⟨cs, q0, q1, q2⟩ := p4 i (by omega)
      exact ⟨cs, q0, by rw [List.getElem_take]; exact q1, q2⟩
/-- two zones that are the same. -/
theorem same_zon (z : Zon) (va vb : Value) (w : World) (ha : SlAt w 12 XEro va z.eras) (hb : SlAt w 12 XEro vb z.eras) :
    Calls Tryz.prog 20 #[.agg #[.string z.nm, va], .agg #[.string z.nm, vb]] w fun e w' => e = .returned (.bool true) ∧ Below w.heap.size w w' := by
  have X1 := TsB.new2 w (.string z.nm) va (.string z.nm) vb
  obtain ⟨W1, hW1⟩ : ∃ W1, W1 = (w.alloc (.cells #[.string z.nm, va] 65)).alloc (.cells #[.string z.nm, vb] 65) := ⟨_, rfl⟩
  rw [← hW1] at X1
  have HQ := Lib.hid (eqEro_same va vb z.eras W1 (ha.mono X1.w fun _ _ h => h) (hb.mono X1.w fun _ _ h => h))
  obtain ⟨av, cv, rfl, lv⟩ := ha.shape
  obtain ⟨au, cu, rfl, lu⟩ := hb.shape
  have HX := Lib.hid X1
  have H1 := Lib.hid hW1
  generalize z.eras.length = nn at *
  clear hW1 ha hb lv lu X1
  go_enter Tryz.func20, Tryz.ntmps20
  go_upto_region 1 with fail
  rw [← H1.out]
  clear H1
  have z0 := HX.out.a.cell 0
  have z1 := HX.out.a.cell 1
  have y0 := HX.out.b.cell 0
  have y1 := HX.out.b.cell 1
  have zl := HX.out.a.lt
  have yl := HX.out.b.lt
  go_wp2_with fail
  refine HQ.out.mono ?_; rintro e w' ⟨rfl, q, rfl⟩
  go_wp2
  go_ret
  exact ⟨ret_bool (by simp), below_draws HX.out.w _⟩
set_option maxRecDepth 100000 in
theorem eqZon_same (v u : Value) (xs : List Zon) (w : World) (hv : SlAt w 2 (XZon w) v xs) (hu : SlAt w 2 (XZon w) u xs) :
    Calls Tryz.prog 19 #[v, u, .func (.func 20) #[] #[]] w fun e w' => e = .returned (.bool true) ∧ Below w.heap.size w w' := by
  have eg : ∀ args w, (callFunc 20 args).run Tryz.prog w = .ok (.enter 20 args) w := enters_of Tryz.func20 (by kernel_rfl) rfl
  obtain ⟨av, cv, rfl, lv⟩ := hv.shape
  obtain ⟨au, cu, rfl, lu⟩ := hu.shape
  have HV := Lib.hid hv
  have HU := Lib.hid hu
  have hm := maxLen_eq _ lv
  clear hv hu lv lu
  go_enter Tryz.func19, Tryz.ntmps19
  go_wp2
  go_loopw [17] (fun i wr => ∃ k : Nat, k ≤ xs.length ∧ i = .int .i64 k ∧ Hid (Below w.heap.size w wr)) (fun i _ => (xs.length - intOf i).toNat)
  case atStart => exact ⟨0, Nat.zero_le _, rfl, Below.refl _ _⟩
  case round =>
    obtain ⟨k, hk, rfl, HB⟩ := hrel
    by_cases hlt : k < xs.length
    · obtain ⟨b, off, va, rfl, hb, c0, c1, ha⟩ := celZ (HV.out.mono HB.out (XZon.mono HB.out)) k hlt
      obtain ⟨b2, off2, ua, rfl, hb2, d0, d1, hua⟩ := celZ (HU.out.mono HB.out (XZon.mono HB.out)) k hlt
      generalize xs[k] = z at *
      have X1 := TsB.new2 wr (.string z.nm) va (.string z.nm) ua
      have hlti : (k : Int) < (xs.length : Int) := by omega
      obtain ⟨W1, hW1⟩ : ∃ W1, W1 = (wr.alloc (.cells #[.string z.nm, va] 65)).alloc (.cells #[.string z.nm, ua] 65) := ⟨_, rfl⟩
      rw [← hW1] at X1
      have HQ := Lib.hid (same_zon z va ua W1 (ha.mono X1.w fun _ _ h => h) (hua.mono X1.w fun _ _ h => h))
      obtain ⟨av', cv', rfl, -⟩ := ha.shape
      obtain ⟨au', cu', rfl, -⟩ := hua.shape
      have HX := Lib.hid X1
      have H1 := Lib.hid hW1
      generalize z.eras.length = nn at *
      clear hW1 ha hua X1
      go_upto_region 7 with fail
      rw [← H1.out]
      clear H1 c0 c1 d0 d1
      have z0 := HX.out.a.cell 0
      have z1 := HX.out.a.cell 1
      have y0 := HX.out.b.cell 0
      have y1 := HX.out.b.cell 1
      have zl := HX.out.a.lt
      have yl := HX.out.b.lt
      go_wp2_with fail
      refine HQ.out.mono ?_; rintro e w' ⟨rfl, b3⟩
      have B3 : Hid (Below w.heap.size w w') := HB.out.trans ((HX.out.w.trans (b3.mono HX.out.w.size)).mono HB.out.size)
      clear b3
      go_wp2
      go_roundw
      case rel => exact ⟨k + 1, by omega, by go_num, B3⟩
      case measure => simp [intOf]; omega
    · obtain rfl : k = xs.length := by omega
      have hnl : ¬ (xs.length : Int) < (xs.length : Int) := by omega
      go_wp2
      go_ret
      exact ⟨rfl, HB.out⟩
def bkL : List Wd := [[32, 32], [9], [32, 9, 32]]
def enL : List Wd := [[32, 35, 32, 115, 111, 10], [10, 10], [9, 10, 35, 10]]
theorem bk_ok {k : Nat} (h : k < 3) : BlkX (bkL.getD k []) ∧ ([32] == bkL.getD k []) = false := by
  have : k = 0 ∨ k = 1 ∨ k = 2 := by omega
  rcases this with rfl | rfl | rfl
  · exact ⟨⟨by decide, by decide, by decide⟩, by decide⟩
  · exact ⟨⟨by decide, by decide, by decide⟩, by decide⟩
  · exact ⟨⟨by decide, by decide, by decide⟩, by decide⟩
theorem en_ok {k : Nat} (h : k < 3) : (∃ t M, EndY (enL.getD k []) t M) ∧ ([10] == enL.getD k []) = false := by
  have : k = 0 ∨ k = 1 ∨ k = 2 := by omega
  rcases this with rfl | rfl | rfl
  · exact ⟨⟨[32, 35, 32, 115, 111], [], ⟨rfl, by decide, by decide, .inr ⟨32, _, rfl, .inl rfl, rfl⟩, by decide, by decide, by decide⟩⟩, by decide⟩
  · exact ⟨⟨[], [[]], ⟨rfl, by decide, by decide, .inl rfl, by decide, by decide, by decide⟩⟩, by decide⟩
  · exact ⟨⟨[9], [[35]], ⟨rfl, by decide, by decide, .inr ⟨9, _, rfl, .inr rfl, rfl⟩, by decide, by decide, by decide⟩⟩, by decide⟩
/-- a source that is read, in a box of its own: no bounds. -/
structure LxS (W wx : World) (B : Nat) (vr vz vl : Value) (s : Src) : Prop where
  b : Below W.heap.size W wx
  x : BxO wx B #[vr, vz, vl] 28
  s : SrX wx vr vz vl s
theorem LxS.next {W wx w' : World} {B : Nat} {vr vz vl : Value} {s : Src} (h : LxS W wx B vr vz vl s) (hb : Below wx.heap.size wx w') : LxS W w' B vr vz vl s :=
  ⟨h.b.trans (hb.mono h.b.size), (hb.block _ h.x.lt).trans h.x, h.s.mono hb⟩
theorem LxS.new {W w1 : World} {vr vz vl : Value} {s : Src} (hb : Below W.heap.size W w1) (hx : SrX w1 vr vz vl s) : LxS W (w1.alloc (.cells #[vr, vz, vl] 28)) w1.heap.size vr vz vl s :=
  ⟨hb.alloc hb.size _, BxO.new _ _ _, hx.mono ((Below.refl _ _).alloc (Nat.le_refl _) _)⟩
theorem LxS.cells {W wx : World} {B : Nat} {vr vz vl : Value} {s : Src} (h : LxS W wx B vr vz vl s) : wx.cell? ⟨B, 0, none⟩ = some vr ∧ wx.cell? ⟨B, 1, none⟩ = some vz ∧ wx.cell? ⟨B, 2, none⟩ = some vl ∧ B < wx.heap.size := ⟨h.x.cell 0, h.x.cell 1, h.x.cell 2, h.x.lt⟩
set_option maxRecDepth 100000 in
set_option maxHeartbeats 4000000 in
theorem walkBlanksNothing (v : Value) (xs : List Rz) (n : Int) (W : World) (hs : SlAt W 4 RRz v xs) (hn : (Lit.int .i64 n).wf = true) (hV : (SrV W ∧ PwT W) ∧ Tab W) :
    Calls Tryz.prog 5 #[v, .int .i64 n] W fun e w' => e = .returned (.bool true) ∧ Below W.heap.size W w' := by
  have HZT := Lib.hid (zones_tells W hV.1.1 hV.2)
  obtain ⟨va, vc, rfl, vlen⟩ := hs.shape
  have vlen := maxLen_eq _ vlen
  have hcap : xs.length ≤ vc := by
    rcases hs with ⟨a, cap, e, rfl⟩ | ⟨d, o, cap, hv, p0, p1, p2, p3, p4⟩
    · exact Nat.zero_le _
    · simp only [Value.slice.injEq] at hv
      obtain ⟨-, -, rfl⟩ := hv
      exact p1
  obtain ⟨m, hm⟩ : ∃ m, min xs.length 11 = m := ⟨_, rfl⟩
  have hmi : min (xs.length : Int) 11 = (m : Int) := by omega
  have hmc : m ≤ vc := by omega
  have hmci : (m : Int) ≤ (vc : Int) := by omega
  have HSO := Lib.hid (fun wx (hb : Below W.heap.size W wx) => Source_s (xs.take m) (.slice va m vc) wx (slAt_tk (hs.mono hb fun _ _ h => h) m (by omega)) (hV.1.2.below hb))
  obtain ⟨ys, hys⟩ : ∃ ys, xs.take m = ys := ⟨_, rfl⟩
  rw [hys] at HSO
  have iN : I6 n := by obtain ⟨h1, h2⟩ := bounds_i64 hn; exact ⟨h1, by omega⟩
  have iN3 : I6 (n.tdiv 3) := iN.tdiv (by decide)
  have HRV := Lib.hid (fun wx (hb : Below W.heap.size W wx) => hV.1.1.below hb)
  have HMX := Lib.hid (fun wx (hb : Below W.heap.size W wx) => hV.1.1.mx.below hb)
  obtain ⟨k, hk, hk3⟩ := nat_of (pkz_bd n 3 (by decide))
  obtain ⟨j, hj, hj3⟩ := nat_of (pkz_bd (n.tdiv 3) 3 (by decide))
  have hk3 : k < 3 := hk3
  have hj3 : j < 3 := hj3
  have HP1 := Lib.hid (fun wx => pick_s n 3 wx iN (by decide) (by decide))
  have HP2 := Lib.hid (fun wx => pick_s (n.tdiv 3) 3 wx iN3 (by decide) (by decide))
  rw [hk] at HP1
  rw [hj] at HP2
  have t3 : IntKind.i64.wrap (n.tdiv 3) = n.tdiv 3 := IntWalk.i64_in _ (by have h1 := iN3.1; have h2 := iN3.2; omega)
  have hki : (k : Int) < 3 := by omega
  have hji : (j : Int) < 3 := by omega
  have hcx := fun w => lit_cell w bkL k hk3 9
  have hcy := fun w => lit_cell w enL j hj3 9
  obtain ⟨hX, hX2⟩ := bk_ok hk3
  obtain ⟨⟨t, M, hY⟩, hY2⟩ := en_ok hj3
  obtain ⟨x, hx⟩ : ∃ x, bkL.getD k [] = x := ⟨_, rfl⟩
  obtain ⟨y, hy⟩ : ∃ y, enL.getD j [] = y := ⟨_, rfl⟩
  rw [hx] at hX hX2 hcx
  rw [hy] at hY hY2 hcy
  have HB0 := src_reads ys
  have HB1 := src_blank hX hY ys
  have HSU := src_sub hX hY ys
  have hl0 := srcT_len ys
  have HR0 := Lib.hid (fun wx (h : SrV wx) => Read_any (bx (srcT ys)) wx h (by rw [bx_size]; unfold maxLen; omega))
  rw [HB0.1, HB0.2.1, HB0.2.2] at HR0
  have HA1 := Lib.hid (fun wx (h : MxL wx) => rpa_s 32 (srcT ys) x wx h (by omega) (by have := hX.le; omega) hX2)
  have hl1 : (subW 32 x (srcT ys)).length ≤ 8000 := by
    have hall : ((srcWs ys).all fun ws => ws.all wok) = true := List.all_eq_true.2 fun ws h => ((src_all ys).1 ws h).1
    have e : subW 32 x (srcT ys) = lnsX x [10] (srcWs ys) := sub_blanks x _ hall
    have h1 := lnsX_len hX (show EndY [10] [] [] from ⟨rfl, by decide, by decide, .inl rfl, by decide, by decide, by decide⟩) (srcWs ys) (src_all ys).1
    have h2 := (src_all ys).2
    rw [e]; omega
  have HA2 := Lib.hid (fun wx (h : MxL wx) => rpa_s 10 (subW 32 x (srcT ys)) y wx h hl1 hY.le hY2)
  rw [HSU] at HA2
  have HR1 := Lib.hid (fun wx (h : SrV wx) => Read_any (bx (lnsX x y (srcWs ys))) wx h (by rw [bx_size]; have := HB1.1; unfold maxLen; omega))
  rw [HB1.2.1, HB1.2.2.1, HB1.2.2.2] at HR1
  obtain ⟨O, hO⟩ : ∃ o, srcO ys = o := ⟨_, rfl⟩
  rw [hO] at HR0 HR1
  obtain ⟨T0, hT0⟩ : ∃ o, srcT ys = o := ⟨_, rfl⟩
  rw [hT0] at HR0 HA1 HSO HA2
  obtain ⟨T1, hT1⟩ : ∃ o, subW 32 x T0 = o := ⟨_, rfl⟩
  rw [hT1] at HA1 HA2
  obtain ⟨T2, hT2⟩ : ∃ o, lnsX x y (srcWs ys) = o := ⟨_, rfl⟩
  rw [hT2] at HR1 HA2
  rw [show bx [32] = ⟨#[32]⟩ from rfl] at HA1
  rw [show bx [10] = ⟨#[10]⟩ from rfl] at HA2
  have HCX := Lib.hid (fun w => (hcx w))
  have HCY := Lib.hid (fun w => (hcy w))
  clear hs hn hV hm hys iN iN3 hk hj hk3 hj3 hcx hcy hX hX2 hY hY2 hx hy HB0 HB1 HSU hl0 hl1 hO hT0 hT1 hT2
  go_enter Tryz.func5, Tryz.ntmps5
  go_wp2_with fail
  refine HZT.out.mono ?_; rintro e w0 ⟨rfl, b0⟩
  have B0 := Lib.hid b0
  clear b0 HZT
  go_wp2_with fail
  refine (HSO.out _ B0.out).mono ?_; rintro e w1 ⟨rfl, b1⟩
  have B1 : Hid (Below W.heap.size W w1) := B0.out.trans (b1.mono B0.out.size)
  clear b1 B0 HSO
  go_wp2_with fail
  refine (HR0.out _ (HRV.out _ B1.out)).mono ?_; rintro e w2 ⟨vr, vz, vl, rfl, hx, b2⟩
  have K2 := Lib.hid (LxS.new (B1.out.trans (b2.mono B1.out.size)) hx)
  obtain ⟨a0, c0, rfl, -⟩ := hx.1.shape
  obtain ⟨a1, c1, rfl, -⟩ := hx.2.1.shape
  obtain ⟨a2, c2, rfl, -⟩ := hx.2.2.shape
  obtain ⟨W2, hW2⟩ : ∃ W2, W2 = w2.alloc (.cells #[.slice a0 O.rules.length c0, .slice a1 O.zones.length c1, .slice a2 O.links.length c2] 28) := ⟨_, rfl⟩
  rw [← hW2] at K2
  have H2 := Lib.hid hW2
  clear hW2 hx b2 HR0 B1
  go_upto_region 5 with fail
  rw [← H2.out]
  clear H2
  generalize w2.heap.size = A at *
  obtain ⟨W3, hW3⟩ : ∃ W3, W3 = W2.alloc (.cells (bkL.map fun x => Value.string (bx x)).toArray 9) := ⟨_, rfl⟩
  have b3 : Below W2.heap.size W2 W3 := by rw [hW3]; exact (Below.refl _ _).alloc (Nat.le_refl _) _
  have K3 := Lib.hid (K2.out.next b3)
  have ec := HCX.out W2
  rw [← hW3] at ec
  have H3 : Hid (W3 = W2.alloc (.cells #[.string ⟨#[32, 32]⟩, .string ⟨#[9]⟩, .string ⟨#[32, 9, 32]⟩] 9)) := hW3
  have zl : W2.heap.size < W3.heap.size := by rw [hW3, size_alloc]; omega
  clear hW3 b3 K2 HCX
  go_wp2_with fail
  rw [← H3.out]
  refine (HP1.out _).mono ?_; rintro e w' ⟨rfl, rfl⟩
  go_wp2_with fail
  refine (HA1.out _ (HMX.out _ K3.out.b)).mono ?_; rintro e w4 ⟨rfl, b4⟩
  have K4 := Lib.hid (K3.out.next b4)
  clear b4 K3 H3 ec zl HA1 HP1
  obtain ⟨W5, hW5⟩ : ∃ W5, W5 = w4.alloc (.cells (enL.map fun x => Value.string (bx x)).toArray 9) := ⟨_, rfl⟩
  have b5 : Below w4.heap.size w4 W5 := by rw [hW5]; exact (Below.refl _ _).alloc (Nat.le_refl _) _
  have K5 := Lib.hid (K4.out.next b5)
  have ec := HCY.out w4
  rw [← hW5] at ec
  have H5 : Hid (W5 = w4.alloc (.cells #[.string ⟨#[32, 35, 32, 115, 111, 10]⟩, .string ⟨#[10, 10]⟩, .string ⟨#[9, 10, 35, 10]⟩] 9)) := hW5
  have zl : w4.heap.size < W5.heap.size := by rw [hW5, size_alloc]; omega
  clear hW5 b5 K4 HCY
  go_wp2_with fail
  rw [← H5.out]
  refine (HP2.out _).mono ?_; rintro e w' ⟨rfl, rfl⟩
  go_wp2_with fail
  refine (HA2.out _ (HMX.out _ K5.out.b)).mono ?_; rintro e w6 ⟨rfl, b6⟩
  have K6 := Lib.hid (K5.out.next b6)
  clear b6 K5 H5 ec zl HA2 HP2
  go_wp2_with fail
  refine (HR1.out _ (HRV.out _ K6.out.b)).mono ?_; rintro e w7 ⟨ur, uz, ul, rfl, hx, b7⟩
  have L7 := Lib.hid (LxS.new (K6.out.b.trans (b7.mono K6.out.b.size)) hx)
  have K7 := Lib.hid ((K6.out.next b7).next ((Below.refl _ _).alloc (Nat.le_refl _) (.cells #[ur, uz, ul] 28)))
  obtain ⟨g0, h0, rfl, -⟩ := hx.1.shape
  obtain ⟨g1, h1, rfl, -⟩ := hx.2.1.shape
  obtain ⟨g2, h2, rfl, -⟩ := hx.2.2.shape
  obtain ⟨W7, hW7⟩ : ∃ W7, W7 = w7.alloc (.cells #[.slice g0 O.rules.length h0, .slice g1 O.zones.length h1, .slice g2 O.links.length h2] 28) := ⟨_, rfl⟩
  rw [← hW7] at L7 K7
  have H7 := Lib.hid hW7
  have HQ1 := Lib.hid (fun q => eqRul_same _ _ O.rules (W7.drewN q) ((K7.out.s.mono (below_draws (Below.refl _ _) q)).1) ((L7.out.s.mono (below_draws (Below.refl _ _) q)).1))
  have HQ2 := Lib.hid (fun q => eqLnk_same _ _ O.links (W7.drewN q) ((K7.out.s.mono (below_draws (Below.refl _ _) q)).2.2) ((L7.out.s.mono (below_draws (Below.refl _ _) q)).2.2))
  have HQ3 := Lib.hid (fun q => eqZon_same _ _ O.zones (W7.drewN q) ((K7.out.s.mono (below_draws (Below.refl _ _) q)).2.1) ((L7.out.s.mono (below_draws (Below.refl _ _) q)).2.1))
  clear hW7 hx b7 HR1 K6
  go_upto_region 6 with fail
  rw [← H7.out]
  clear H7
  generalize w7.heap.size = B at *
  obtain ⟨x0, x1, x2, xl⟩ := K7.out.cells
  obtain ⟨y0, y1, y2, yl⟩ := L7.out.cells
  go_wp2_with fail
  refine (HQ1.out 0).mono ?_; rintro e w8 ⟨rfl, q8, rfl⟩
  go_wp2_with fail
  refine (HQ2.out _).mono ?_; rintro e w9 ⟨rfl, q9, rfl⟩
  trace_state
  go_wp2_with fail
  refine (HQ3.out _).mono ?_; rintro e w10 ⟨rfl, b10⟩
  go_wp2
  go_ret
  exact ⟨ret_bool (by simp), (below_draws K7.out.b _).trans (b10.mono (below_draws K7.out.b _).size)⟩
end Go.Proofs.YtbikdlcjbigafaaGreatDoor
