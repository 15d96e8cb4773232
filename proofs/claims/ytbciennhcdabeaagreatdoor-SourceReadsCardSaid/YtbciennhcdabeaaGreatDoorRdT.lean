/-
  Two sources that are the same.
-/
import Derived.BigQuiet
import Derived.Test.YtbciennhcdabeaaGreatDoorRdV
namespace Go.Proofs.YtbciennhcdabeaaGreatDoor
set_option linter.unusedVariables false
set_option linter.unusedSimpArgs false
open Go.ChangeShapes Go.WideShapes Go.ChangeAt Go.RowKit Civ

theorem celX {α : Type} {w : World} {aa : Option Addr} {n ca sz : Nat} {enc : α → List Value} {xs : List α} (h : SlAt w sz (fun cs x => cs = enc x) (.slice aa n ca) xs) (k : Nat) (hk : k < xs.length) :
    ∃ b off, aa = some ⟨b, off, none⟩ ∧ b < w.heap.size ∧ ∀ j, j < sz → ∀ u, (enc xs[k])[j]? = some u → w.cell? ⟨b, off + k * sz + j, none⟩ = some u := by
  rcases h with ⟨a, cap, _, rfl⟩ | ⟨b, off, cap, e, h0, h1, h2, h3, h4⟩
  · simp at hk
  · obtain ⟨cs, hl, rfl, hc⟩ := h4 k hk
    simp only [Value.slice.injEq] at e
    obtain ⟨rfl, -, -⟩ := e
    exact ⟨b, off, rfl, h3, fun j hj u hu => (hc j hj).trans hu⟩
theorem celZ {w : World} {aa : Option Addr} {n ca : Nat} {xs : List Zon} (h : SlAt w 2 (XZon w) (.slice aa n ca) xs) (k : Nat) (hk : k < xs.length) :
    ∃ b off v, aa = some ⟨b, off, none⟩ ∧ b < w.heap.size ∧ w.cell? ⟨b, off + k * 2, none⟩ = some (.string xs[k].nm) ∧ w.cell? ⟨b, off + k * 2 + 1, none⟩ = some v ∧ SlAt w 12 XEro v xs[k].eras := by
  rcases h with ⟨a, cap, _, rfl⟩ | ⟨b, off, cap, e, h0, h1, h2, h3, h4⟩
  · simp at hk
  · obtain ⟨cs, hl, ⟨v, rfl, hv⟩, hc⟩ := h4 k hk
    simp only [Value.slice.injEq] at e
    obtain ⟨rfl, -, -⟩ := e
    exact ⟨b, off, v, rfl, h3, hc 0 (by omega), hc 1 (by omega), hv⟩
/-- two boxes of sources. -/
structure TsB (w wx : World) (vr vz vl ur uz ul : Value) : Prop where
  a : BxO wx w.heap.size #[vr, vz, vl] 26
  b : BxO wx (w.heap.size + 1) #[ur, uz, ul] 26
  w : Below w.heap.size w wx
theorem TsB.new (w : World) (vr vz vl ur uz ul : Value) : TsB w ((w.alloc (.cells #[vr, vz, vl] 26)).alloc (.cells #[ur, uz, ul] 26)) vr vz vl ur uz ul := by
  have h1 := size_alloc w (.cells #[vr, vz, vl] 26)
  refine ⟨(BxO.new w _ _).alloc _, ?_, ((Below.refl _ _).alloc (Nat.le_refl _) _).alloc (by omega) _⟩
  have h := BxO.new (w.alloc (.cells #[vr, vz, vl] 26)) #[ur, uz, ul] 26
  rw [h1] at h
  exact h
/-- two boxes of zones. -/
structure TzB (w wx : World) (v0 v1 u0 u1 : Value) : Prop where
  a : BxO wx w.heap.size #[v0, v1] 64
  b : BxO wx (w.heap.size + 1) #[u0, u1] 64
  w : Below w.heap.size w wx
theorem TsB.new2 (w : World) (v0 v1 u0 u1 : Value) : TzB w ((w.alloc (.cells #[v0, v1] 64)).alloc (.cells #[u0, u1] 64)) v0 v1 u0 u1 := by
  have h1 := size_alloc w (.cells #[v0, v1] 64)
  refine ⟨(BxO.new w _ _).alloc _, ?_, ((Below.refl _ _).alloc (Nat.le_refl _) _).alloc (by omega) _⟩
  have h := BxO.new (w.alloc (.cells #[v0, v1] 64)) #[u0, u1] 64
  rw [h1] at h
  exact h
set_option maxRecDepth 100000 in
set_option maxHeartbeats 8000000 in
theorem sameSource_any (s : Src) (vr vz vl ur uz ul : Value) (w : World) (ha : SrX w vr vz vl s) (hb : SrX w ur uz ul s) :
    Calls Tryz.prog 7 #[.agg #[vr, vz, vl], .agg #[ur, uz, ul]] w fun e w' => e = .returned (.bool true) ∧ Below w.heap.size w w' := by
  have D0 := TsB.new w vr vz vl ur uz ul
  obtain ⟨W0, hW0⟩ : ∃ W0, W0 = (w.alloc (.cells #[vr, vz, vl] 26)).alloc (.cells #[ur, uz, ul] 26) := ⟨_, rfl⟩
  rw [← hW0] at D0
  have HD := Lib.hid D0
  have HA : Hid (∀ wx, Below W0.heap.size W0 wx → SrX wx vr vz vl s) := fun wx hx => (ha.mono D0.w).mono hx
  have HC : Hid (∀ wx, Below W0.heap.size W0 wx → SrX wx ur uz ul s) := fun wx hx => (hb.mono D0.w).mono hx
  have HS : Hid (∀ wx, Below W0.heap.size W0 wx → wx.cell? ⟨w.heap.size, 0, none⟩ = some vr ∧ wx.cell? ⟨w.heap.size, 1, none⟩ = some vz ∧ wx.cell? ⟨w.heap.size, 2, none⟩ = some vl ∧ wx.cell? ⟨w.heap.size + 1, 0, none⟩ = some ur ∧ wx.cell? ⟨w.heap.size + 1, 1, none⟩ = some uz ∧ wx.cell? ⟨w.heap.size + 1, 2, none⟩ = some ul) := fun wx hx =>
    ⟨(hx.cell (p := ⟨_, _, none⟩) D0.a.lt).trans (D0.a.cell 0), (hx.cell (p := ⟨_, _, none⟩) D0.a.lt).trans (D0.a.cell 1), (hx.cell (p := ⟨_, _, none⟩) D0.a.lt).trans (D0.a.cell 2),
      (hx.cell (p := ⟨_, _, none⟩) D0.b.lt).trans (D0.b.cell 0), (hx.cell (p := ⟨_, _, none⟩) D0.b.lt).trans (D0.b.cell 1), (hx.cell (p := ⟨_, _, none⟩) D0.b.lt).trans (D0.b.cell 2)⟩
  have HW := Lib.hid hW0
  have HB5 : Hid (Below W0.heap.size W0 W0) := Below.refl _ _
  obtain ⟨ar, cr, rfl, lr⟩ := ha.1.shape
  obtain ⟨az, cz, rfl, lz⟩ := ha.2.1.shape
  obtain ⟨al, cl, rfl, ll⟩ := ha.2.2.shape
  obtain ⟨ar', cr', rfl, -⟩ := hb.1.shape
  obtain ⟨az', cz', rfl, -⟩ := hb.2.1.shape
  obtain ⟨al', cl', rfl, -⟩ := hb.2.2.shape
  have lr' := maxLen_eq _ lr
  have lz' := maxLen_eq _ lz
  have ll' := maxLen_eq _ ll
  clear ha hb hW0 D0 lr lz ll
  obtain ⟨s0, s1, s2, t0, t1, t2⟩ := HS.out W0 HB5.out
  go_enter Tryz.func7, Tryz.ntmps7
  go_upto_region 1 with fail
  rw [← HW.out]
  clear HW
  go_wp2
  go_loopw [5] (fun i wr => ∃ k : Nat, k ≤ s.rules.length ∧ i = .int .i64 k ∧ Hid (Below W0.heap.size W0 wr)) (fun i _ => (s.rules.length - intOf i).toNat)
  case atStart => exact ⟨0, Nat.zero_le _, rfl, HB5.out⟩
  case round =>
    obtain ⟨k, hk, rfl, HB⟩ := hrel
    obtain ⟨s0, s1, s2, t0, t1, t2⟩ := HS.out wr HB.out
    by_cases hlt : k < s.rules.length
    · obtain ⟨b, off, rfl, hb, hc⟩ := celX (HA.out wr HB.out).1 k hlt
      obtain ⟨b2, off2, rfl, hb2, hd⟩ := celX (HC.out wr HB.out).1 k hlt
      generalize s.rules[k] = x at *
      have c0 := hc 0 (by decide) _ rfl
      have c1 := hc 1 (by decide) _ rfl
      have c2 := hc 2 (by decide) _ rfl
      have c3 := hc 3 (by decide) _ rfl
      have c4 := hc 4 (by decide) _ rfl
      have c5 := hc 5 (by decide) _ rfl
      have c6 := hc 6 (by decide) _ rfl
      have c7 := hc 7 (by decide) _ rfl
      have c8 := hc 8 (by decide) _ rfl
      have c9 := hc 9 (by decide) _ rfl
      have c10 := hc 10 (by decide) _ rfl
      rw [Nat.add_zero] at c0
      have d0 := hd 0 (by decide) _ rfl
      have d1 := hd 1 (by decide) _ rfl
      have d2 := hd 2 (by decide) _ rfl
      have d3 := hd 3 (by decide) _ rfl
      have d4 := hd 4 (by decide) _ rfl
      have d5 := hd 5 (by decide) _ rfl
      have d6 := hd 6 (by decide) _ rfl
      have d7 := hd 7 (by decide) _ rfl
      have d8 := hd 8 (by decide) _ rfl
      have d9 := hd 9 (by decide) _ rfl
      have d10 := hd 10 (by decide) _ rfl
      rw [Nat.add_zero] at d0
      clear hc hd
      have hlti : (k : Int) < (s.rules.length : Int) := by omega
      go_wp2
      go_quiet (fail)
      go_wp2
      go_roundw
      case rel => exact ⟨k + 1, by omega, by go_num, below_draws HB.out nq⟩
      case measure => simp [intOf]; omega
    · obtain rfl : k = s.rules.length := by omega
      have hnl : ¬ (s.rules.length : Int) < (s.rules.length : Int) := by omega
      have HB6 := HB
      clear hlt
      go_wp2
      go_loopw [6] (fun i wr => ∃ k : Nat, k ≤ s.links.length ∧ i = .int .i64 k ∧ Hid (Below W0.heap.size W0 wr)) (fun i _ => (s.links.length - intOf i).toNat)
      case atStart => exact ⟨0, Nat.zero_le _, rfl, HB6.out⟩
      case round =>
        obtain ⟨k, hk, rfl, HB⟩ := hrel
        obtain ⟨s0, s1, s2, t0, t1, t2⟩ := HS.out wr HB.out
        by_cases hlt : k < s.links.length
        · obtain ⟨b, off, rfl, hb, hc⟩ := celX (HA.out wr HB.out).2.2 k hlt
          obtain ⟨b2, off2, rfl, hb2, hd⟩ := celX (HC.out wr HB.out).2.2 k hlt
          generalize s.links[k] = x at *
          have c0 := hc 0 (by decide) _ rfl
          have c1 := hc 1 (by decide) _ rfl
          rw [Nat.add_zero] at c0
          have d0 := hd 0 (by decide) _ rfl
          have d1 := hd 1 (by decide) _ rfl
          rw [Nat.add_zero] at d0
          clear hc hd
          have hlti : (k : Int) < (s.links.length : Int) := by omega
          go_wp2
          go_quiet (fail)
          go_wp2
          go_roundw
          case rel => exact ⟨k + 1, by omega, by go_num, below_draws HB.out nq⟩
          case measure => simp [intOf]; omega
        · obtain rfl : k = s.links.length := by omega
          have hnl : ¬ (s.links.length : Int) < (s.links.length : Int) := by omega
          have HB7 := HB
          clear hlt
          go_wp2
          go_loopw [7] (fun i wr => ∃ k : Nat, k ≤ s.zones.length ∧ i = .int .i64 k ∧ Hid (Below W0.heap.size W0 wr)) (fun i _ => (s.zones.length - intOf i).toNat)
          case atStart => exact ⟨0, Nat.zero_le _, rfl, HB7.out⟩
          case round =>
            obtain ⟨k, hk, rfl, HB⟩ := hrel
            obtain ⟨s0, s1, s2, t0, t1, t2⟩ := HS.out wr HB.out
            by_cases hlt : k < s.zones.length
            · obtain ⟨b, off, v, rfl, hb, c0, c1, hv⟩ := celZ (HA.out wr HB.out).2.1 k hlt
              obtain ⟨b2, off2, u, rfl, hb2, d0, d1, hu⟩ := celZ (HC.out wr HB.out).2.1 k hlt
              have hlti : (k : Int) < (s.zones.length : Int) := by omega
              generalize s.zones[k] = z at *
              obtain ⟨av, cv, rfl, lv⟩ := hv.shape
              obtain ⟨au, cu, rfl, -⟩ := hu.shape
              have lv' := maxLen_eq _ lv
              have X1 := TsB.new2 wr (.string z.nm) (.slice av z.eras.length cv) (.string z.nm) (.slice au z.eras.length cu)
              obtain ⟨W1, hW1⟩ : ∃ W1, W1 = (wr.alloc (.cells #[.string z.nm, .slice av z.eras.length cv] 64)).alloc (.cells #[.string z.nm, .slice au z.eras.length cu] 64) := ⟨_, rfl⟩
              rw [← hW1] at X1
              have HX := Lib.hid X1
              have HV : Hid (∀ wx, Below W1.heap.size W1 wx → SlAt wx 12 XEro (.slice av z.eras.length cv) z.eras) := fun wx hx => (hv.mono X1.w fun _ _ h => h).mono hx fun _ _ h => h
              have HU : Hid (∀ wx, Below W1.heap.size W1 wx → SlAt wx 12 XEro (.slice au z.eras.length cu) z.eras) := fun wx hx => (hu.mono X1.w fun _ _ h => h).mono hx fun _ _ h => h
              have HT : Hid (∀ wx, Below W1.heap.size W1 wx → wx.cell? ⟨wr.heap.size, 0, none⟩ = some (.string z.nm) ∧ wx.cell? ⟨wr.heap.size, 1, none⟩ = some (.slice av z.eras.length cv) ∧ wx.cell? ⟨wr.heap.size + 1, 0, none⟩ = some (.string z.nm) ∧ wx.cell? ⟨wr.heap.size + 1, 1, none⟩ = some (.slice au z.eras.length cu)) := fun wx hx =>
                ⟨(hx.cell (p := ⟨_, _, none⟩) X1.a.lt).trans (X1.a.cell 0), (hx.cell (p := ⟨_, _, none⟩) X1.a.lt).trans (X1.a.cell 1), (hx.cell (p := ⟨_, _, none⟩) X1.b.lt).trans (X1.b.cell 0), (hx.cell (p := ⟨_, _, none⟩) X1.b.lt).trans (X1.b.cell 1)⟩
              have HW1 := Lib.hid hW1
              have HB1 : Hid (Below W0.heap.size W0 W1) := HB.out.trans (X1.w.mono HB.out.size)
              have hz0 : w.heap.size < wr.heap.size := Nat.lt_of_lt_of_le HD.out.a.lt HB.out.size
              have hz1 : w.heap.size + 1 < wr.heap.size := Nat.lt_of_lt_of_le HD.out.b.lt HB.out.size
              clear X1 hW1 hv hu lv
              go_upto_region 18 with fail
              rw [← HW1.out]
              clear s0 s1 s2 t0 t1 t2 c0 c1 d0 d1 HW1 hz0 hz1
              obtain ⟨z0, z1, y0, y1⟩ := HT.out W1 (Below.refl _ _)
              obtain ⟨wo, rfl⟩ : ∃ wo : World, wo = wr := ⟨_, rfl⟩
              go_wp2
              go_loopw [10] (fun i wr => ∃ j : Nat, j ≤ z.eras.length ∧ i = .int .i64 j ∧ Hid (Below W1.heap.size W1 wr)) (fun i _ => (z.eras.length - intOf i).toNat)
              case atStart => exact ⟨0, Nat.zero_le _, rfl, Below.refl _ _⟩
              case round =>
                obtain ⟨j, hj, rfl, HJ⟩ := hrel
                obtain ⟨z0, z1, y0, y1⟩ := HT.out wr HJ.out
                by_cases hlj : j < z.eras.length
                · obtain ⟨b3, off3, rfl, hb3, hc⟩ := celX (HV.out wr HJ.out) j hlj
                  obtain ⟨b4, off4, rfl, hb4, hd⟩ := celX (HU.out wr HJ.out) j hlj
                  generalize z.eras[j] = x at *
                  have c0 := hc 0 (by decide) _ rfl
                  have c1 := hc 1 (by decide) _ rfl
                  have c2 := hc 2 (by decide) _ rfl
                  have c3 := hc 3 (by decide) _ rfl
                  have c4 := hc 4 (by decide) _ rfl
                  have c5 := hc 5 (by decide) _ rfl
                  have c6 := hc 6 (by decide) _ rfl
                  have c7 := hc 7 (by decide) _ rfl
                  have c8 := hc 8 (by decide) _ rfl
                  have c9 := hc 9 (by decide) _ rfl
                  have c10 := hc 10 (by decide) _ rfl
                  have c11 := hc 11 (by decide) _ rfl
                  rw [Nat.add_zero] at c0
                  have d0 := hd 0 (by decide) _ rfl
                  have d1 := hd 1 (by decide) _ rfl
                  have d2 := hd 2 (by decide) _ rfl
                  have d3 := hd 3 (by decide) _ rfl
                  have d4 := hd 4 (by decide) _ rfl
                  have d5 := hd 5 (by decide) _ rfl
                  have d6 := hd 6 (by decide) _ rfl
                  have d7 := hd 7 (by decide) _ rfl
                  have d8 := hd 8 (by decide) _ rfl
                  have d9 := hd 9 (by decide) _ rfl
                  have d10 := hd 10 (by decide) _ rfl
                  have d11 := hd 11 (by decide) _ rfl
                  rw [Nat.add_zero] at d0
                  clear hc hd
                  have hljt : (j : Int) < (z.eras.length : Int) := by omega
                  go_wp2
                  go_quiet (fail)
                  go_wp2
                  go_roundw
                  case rel => exact ⟨j + 1, by omega, by go_num, below_draws HJ.out nq⟩
                  case measure => simp [intOf]; omega
                · obtain rfl : j = z.eras.length := by omega
                  have hnl : ¬ (z.eras.length : Int) < (z.eras.length : Int) := by omega
                  go_wp2
                  go_roundw
                  case rel => exact ⟨k + 1, by omega, by go_num, HB1.out.trans (HJ.out.mono HB1.out.size)⟩
                  case measure => simp [intOf]; omega
            · obtain rfl : k = s.zones.length := by omega
              have hnl : ¬ (s.zones.length : Int) < (s.zones.length : Int) := by omega
              go_wp2
              go_ret
              exact ⟨rfl, HD.out.w.trans (HB.out.mono HD.out.w.size)⟩
end Go.Proofs.YtbciennhcdabeaaGreatDoor
