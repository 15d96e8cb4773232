/-
  sundialref.clockAt, AtOf: the walks (printed by atgen2.py).
-/
import Derived.BigQuiet
import Derived.Test.YtdpbedkppomffaaGreatDoorAtE
namespace Go.Proofs.YtdpbedkppomffaaGreatDoor
set_option linter.unusedVariables false
set_option linter.unusedSimpArgs false
open Go.ChangeShapes Go.WideShapes Go.ChangeAt Go.RowKit Civ

theorem untL_get (rules : List Rul) (l : List Ero) (k : Nat) (h : k + 1 < l.length) : (untL rules l)[k]'(by rw [untL_len]; omega) = endE rules (l[k]'(by omega)) := by simp [untL]
theorem eraI_stop {ends : List Int} {t : Int} {i : Nat} (hi : i ≤ ends.length) (h1 : ∀ (j : Nat) (hj : j < ends.length), j < i → ends[j] ≤ t) (h2 : ∀ (h : i < ends.length), t < ends[i]) : eraI ends t = i := by
  rcases Nat.lt_trichotomy (eraI ends t) i with h | h | h
  · have a := eraI_ge ends t (by omega)
    have b := h1 (eraI ends t) (by omega) h
    omega
  · exact h
  · have hle := eraI_le ends t
    have a := eraI_lt ends t i (by omega) h
    have b := h2 (by omega)
    omega
structure CaB (w wx : World) (vr vz vl : Value) (nm : ByteArray) (ve : Value) : Prop where
  z : ZnB w wx vr vz vl nm ve
  r : BxO wx (w.heap.size + 2) #[.int .i64 0, .bool false, .string ⟨#[]⟩] 28
theorem CaB.next {w wx w' : World} {vr vz vl : Value} {nm : ByteArray} {ve : Value} (h : CaB w wx vr vz vl nm ve) (hb : Below wx.heap.size wx w') : CaB w w' vr vz vl nm ve := ⟨h.z.next hb, (hb.block _ h.r.lt).trans h.r⟩
theorem CaB.new (w : World) (vr vz vl : Value) (nm : ByteArray) (ve : Value) : CaB w (((w.alloc (.cells #[vr, vz, vl] 26)).alloc (.cells #[.string nm, ve] 52)).alloc (.cells #[.int .i64 0, .bool false, .string ⟨#[]⟩] 28)) vr vz vl nm ve := by
  have h := BxO.new ((w.alloc (.cells #[vr, vz, vl] 26)).alloc (.cells #[.string nm, ve] 52)) #[.int .i64 0, .bool false, .string ⟨#[]⟩] 28
  rw [size_alloc, size_alloc] at h
  exact ⟨(ZnB.new w vr vz vl nm ve).next ((Below.refl _ _).alloc (Nat.le_refl _) _), h⟩
theorem CaB.done {w wx : World} {vr vz vl : Value} {nm : ByteArray} {ve : Value} (h : CaB w wx vr vz vl nm ve) (u0 u1 u2 : Value) : Below w.heap.size w (((wx.setCell ⟨w.heap.size + 2, 0, none⟩ u0).setCell ⟨w.heap.size + 2, 1, none⟩ u1).setCell ⟨w.heap.size + 2, 2, none⟩ u2) :=
  ((h.z.2.2.1.setCell (p := ⟨w.heap.size + 2, 0, none⟩) (by show w.heap.size ≤ w.heap.size + 2; omega) _).setCell (p := ⟨w.heap.size + 2, 1, none⟩) (by show w.heap.size ≤ w.heap.size + 2; omega) _).setCell (p := ⟨w.heap.size + 2, 2, none⟩) (by show w.heap.size ≤ w.heap.size + 2; omega) _
set_option maxHeartbeats 8000000 in
set_option maxRecDepth 100000 in
theorem clockAt_any (s : Src) (z : Zon) (t : Int) (vr vz vl ve : Value) (w : World) (hs : SrcAt w vr vz vl s) (hx : SlAt w 12 REro ve z.eras) (hg : GdZ s z) :
    Calls Tryz.prog 30 #[.agg #[vr, vz, vl], .agg #[.string z.nm, ve], .int .i64 t] w fun e w' => e = .returned (.agg #[.int .i64 (clkT s.rules z.eras (untL s.rules z.eras) t).off, .bool (clkT s.rules z.eras (untL s.rules z.eras) t).sav, .string (clkT s.rules z.eras (untL s.rules z.eras) t).nm]) ∧ Below w.heap.size w w' := by
  obtain ⟨ae, ce, rfl, hl⟩ := hx.shape
  have C0 := Lib.hid (CaB.new w vr vz vl z.nm (.slice ae z.eras.length ce))
  obtain ⟨W0, hW0⟩ : ∃ W0, W0 = ((w.alloc (.cells #[vr, vz, vl] 26)).alloc (.cells #[.string z.nm, .slice ae z.eras.length ce] 52)).alloc (.cells #[.int .i64 0, .bool false, .string ⟨#[]⟩] 28) := ⟨_, rfl⟩
  rw [← hW0] at C0
  have HW := Lib.hid hW0
  have HS := Lib.hid hs
  have HX := Lib.hid hx
  have HGZ := Lib.hid hg
  have n1 := hg.n1
  have n20 := hg.n20
  clear hs hx hg hW0 hl
  obtain ⟨g0, g1⟩ := C0.out.z.2.1
  go_enter Tryz.func30, Tryz.ntmps30
  go_upto_region 1 with fail
  rw [← HW.out]
  clear HW
  go_wp2_with fail
  clear g0 g1
  go_loopw [7] (fun i wr => ∃ k : Nat, k < z.eras.length ∧ i = .int .i64 k ∧ Hid (∀ (j : Nat) (hj : j + 1 < z.eras.length), j < k → endE s.rules (z.eras[j]'(by omega)) ≤ t) ∧ Hid (CaB w wr vr vz vl z.nm (.slice ae z.eras.length ce))) (fun i _ => (z.eras.length - intOf i).toNat)
  case atStart => exact ⟨0, by omega, rfl, fun j hj h => by omega, C0⟩
  case round =>
    obtain ⟨k, hk, rfl, HNN, ZK⟩ := hrel
    have hki : (k : Int) < (z.eras.length : Int) := by omega
    obtain ⟨b, off, rfl, hb, hxe, -⟩ := elemEro (HX.out.mono ZK.out.z.2.2.1 fun _ _ h => h) k hk
    have HLB : Hid (b < wr.heap.size) := hb
    have HSTOP : Hid ((∀ h : k + 1 < z.eras.length, t < endE s.rules z.eras[k]) → clkT s.rules z.eras (untL s.rules z.eras) t = clkE z.eras[k] (stL s.rules z.eras[k] (trE s.rules z.eras[k]) t)) := by
      show _ → _
      intro h
      have e : eraI (untL s.rules z.eras) t = k := eraI_stop (by rw [untL_len]; omega) (fun j hj hjk => by rw [untL_get _ _ _ (by rw [untL_len] at hj; omega)]; exact HNN.out j (by rw [untL_len] at hj; omega) hjk) (fun hh => by rw [untL_get _ _ _ (by rw [untL_len] at hh; omega)]; exact h (by rw [untL_len] at hh; omega))
      unfold clkT
      rw [e, List.getElem?_eq_getElem hk]
      rfl
    have HNX : Hid (endE s.rules z.eras[k] ≤ t → ∀ (j : Nat) (hj : j + 1 < z.eras.length), j < k + 1 → endE s.rules (z.eras[j]'(by omega)) ≤ t) := by
      show _ → ∀ (j : Nat) (hj : j + 1 < z.eras.length), _
      intro h j hj hjk
      by_cases e : j = k
      · subst e; exact h
      · exact HNN.out j hj (by omega)
    have HEK : Hid (∀ h : k + 1 < z.eras.length, EOk s z.eras[k]) := fun h => HGZ.out.k k h
    have HMM : Hid (z.eras[k] ∈ z.eras) := List.getElem_mem hk
    have HXE := Lib.hid hxe
    clear HNN hxe
    obtain ⟨x, hxx⟩ : ∃ x, z.eras[k] = x := ⟨_, rfl⟩
    rw [hxx] at HSTOP HNX HEK HMM HXE
    have HSO := Lib.hid (fun wx (h : Below w.heap.size w wx) => stateOf_any s x t vr vz vl wx (HS.out.mono h) (HGZ.out.rok HMM.out))
    have HCO := Lib.hid (fun wx => clockOf_any x (stL s.rules x (trE s.rules x) t).1 (stL s.rules x (trE s.rules x) t).2 wx (HGZ.out.cok HMM.out t))
    clear hxx
    generalize stL s.rules x (trE s.rules x) t = P at *
    obtain ⟨P1, P2⟩ := P
    dsimp only at HSO HCO
    have tw1 : IntKind.i64.wrap ((k : Int) + 1) = (k : Int) + 1 := IntWalk.i64_in _ (by omega)
    obtain ⟨q0, q1, q2⟩ := ZK.out.z.1
    obtain ⟨g0, g1⟩ := ZK.out.z.2.1
    obtain ⟨d0, d1, d2, d3, d4, d5, d6, d7, d8, d9, d10, d11⟩ := HXE.out
    have hzz : w.heap.size + 1 < wr.heap.size := ZK.out.z.2.2.2
    have hz0 : w.heap.size < wr.heap.size := by omega
    by_cases hlt : k + 1 < z.eras.length
    · have hli : (k : Int) + 1 < (z.eras.length : Int) := by omega
      have hld : decide ((k : Int) + 1 < (z.eras.length : Int)) = true := decide_eq_true hli
      have HEO := Lib.hid (fun wx (h : Below w.heap.size w wx) => endOf_any s x vr vz vl wx (HS.out.mono h) (HEK.out hlt))
      generalize endE s.rules x = E at *
      by_cases hc : E ≤ t
      · have hcd : decide (E ≤ t) = true := decide_eq_true hc
        have HN2 := Lib.hid (HNX.out hc)
        go_wp2
        go_region_held3 (fun w' => w'.cell? ⟨w.heap.size, 0, none⟩ = some vr ∧ w'.cell? ⟨w.heap.size, 1, none⟩ = some vz ∧ w'.cell? ⟨w.heap.size, 2, none⟩ = some vl ∧ w'.cell? ⟨w.heap.size + 1, 1, none⟩ = some (.slice (some ⟨b, off, none⟩) z.eras.length ce) ∧ w'.cell? ⟨b, off + k * 12, none⟩ = some (.int .i64 x.off) ∧ w'.cell? ⟨b, off + k * 12 + 1, none⟩ = some (.string x.rl) ∧ w'.cell? ⟨b, off + k * 12 + 2, none⟩ = some (.int .i64 x.sv) ∧ w'.cell? ⟨b, off + k * 12 + 3, none⟩ = some (.string x.fm) ∧ w'.cell? ⟨b, off + k * 12 + 4, none⟩ = some (.bool x.en) ∧ w'.cell? ⟨b, off + k * 12 + 5, none⟩ = some (.int .i64 x.yr) ∧ w'.cell? ⟨b, off + k * 12 + 6, none⟩ = some (.int .i64 x.un.mo) ∧ w'.cell? ⟨b, off + k * 12 + 7, none⟩ = some (.int .i64 x.un.k) ∧ w'.cell? ⟨b, off + k * 12 + 8, none⟩ = some (.int .i64 x.un.a) ∧ w'.cell? ⟨b, off + k * 12 + 9, none⟩ = some (.int .i64 x.un.n) ∧ w'.cell? ⟨b, off + k * 12 + 10, none⟩ = some (.int .i64 x.un.t) ∧ w'.cell? ⟨b, off + k * 12 + 11, none⟩ = some (.int .i64 x.un.c)) (first | (with_reducible exact ⟨q0, q1, q2, g1, d0, d1, d2, d3, d4, d5, d6, d7, d8, d9, d10, d11⟩) | (with_reducible exact ⟨r0, r1, r2, h1, s0, s1, s2, s3, s4, s5, s6, s7, s8, s9, s10, s11⟩) | go_keep) ((go_at_call 39; refine (HEO.out _ (by first | exact ZK.out.z.2.2.1 | exact ZK.out.z.2.2.1.drew)).mono ?_; rintro e w9 ⟨rfl, hb9⟩; have HB9 : Hid (Below wr.heap.size wr w9) := (by first | exact hb9 | exact ((Below.refl _ _).drew).trans hb9); have Z9 := Lib.hid (ZK.out.next HB9.out); have X9 := Lib.hid (HXE.out.below HB9.out HLB.out); obtain ⟨s0, s1, s2, s3, s4, s5, s6, s7, s8, s9, s10, s11⟩ := X9.out; obtain ⟨r0, r1, r2⟩ := Z9.out.z.1; obtain ⟨h0, h1⟩ := Z9.out.z.2.1; clear hb9))
        clear q0 q1 q2 g0 g1 d0 d1 d2 d3 d4 d5 d6 d7 d8 d9 d10 d11 r0 r1 r2 h0 h1 s0 s1 s2 s3 s4 s5 s6 s7 s8 s9 s10 s11 HEO hcd hld
        go_wp2
        go_roundw
        case rel => exact ⟨k + 1, by omega, by go_num, HN2, Z9⟩
        case measure => simp [intOf]; omega
      · have hcd : decide (E ≤ t) = false := decide_eq_false hc
        have HK := Lib.hid (HSTOP.out fun _ => by omega)
        go_wp2
        go_region_held3 (fun w' => w'.cell? ⟨w.heap.size, 0, none⟩ = some vr ∧ w'.cell? ⟨w.heap.size, 1, none⟩ = some vz ∧ w'.cell? ⟨w.heap.size, 2, none⟩ = some vl ∧ w'.cell? ⟨w.heap.size + 1, 1, none⟩ = some (.slice (some ⟨b, off, none⟩) z.eras.length ce) ∧ w'.cell? ⟨b, off + k * 12, none⟩ = some (.int .i64 x.off) ∧ w'.cell? ⟨b, off + k * 12 + 1, none⟩ = some (.string x.rl) ∧ w'.cell? ⟨b, off + k * 12 + 2, none⟩ = some (.int .i64 x.sv) ∧ w'.cell? ⟨b, off + k * 12 + 3, none⟩ = some (.string x.fm) ∧ w'.cell? ⟨b, off + k * 12 + 4, none⟩ = some (.bool x.en) ∧ w'.cell? ⟨b, off + k * 12 + 5, none⟩ = some (.int .i64 x.yr) ∧ w'.cell? ⟨b, off + k * 12 + 6, none⟩ = some (.int .i64 x.un.mo) ∧ w'.cell? ⟨b, off + k * 12 + 7, none⟩ = some (.int .i64 x.un.k) ∧ w'.cell? ⟨b, off + k * 12 + 8, none⟩ = some (.int .i64 x.un.a) ∧ w'.cell? ⟨b, off + k * 12 + 9, none⟩ = some (.int .i64 x.un.n) ∧ w'.cell? ⟨b, off + k * 12 + 10, none⟩ = some (.int .i64 x.un.t) ∧ w'.cell? ⟨b, off + k * 12 + 11, none⟩ = some (.int .i64 x.un.c)) (first | (with_reducible exact ⟨q0, q1, q2, g1, d0, d1, d2, d3, d4, d5, d6, d7, d8, d9, d10, d11⟩) | (with_reducible exact ⟨r0, r1, r2, h1, s0, s1, s2, s3, s4, s5, s6, s7, s8, s9, s10, s11⟩) | go_keep) ((go_at_call 39; refine (HEO.out _ (by first | exact ZK.out.z.2.2.1 | exact ZK.out.z.2.2.1.drew)).mono ?_; rintro e w9 ⟨rfl, hb9⟩; have HB9 : Hid (Below wr.heap.size wr w9) := (by first | exact hb9 | exact ((Below.refl _ _).drew).trans hb9); have Z9 := Lib.hid (ZK.out.next HB9.out); have X9 := Lib.hid (HXE.out.below HB9.out HLB.out); obtain ⟨s0, s1, s2, s3, s4, s5, s6, s7, s8, s9, s10, s11⟩ := X9.out; obtain ⟨r0, r1, r2⟩ := Z9.out.z.1; obtain ⟨h0, h1⟩ := Z9.out.z.2.1; clear hb9))
        clear q0 q1 q2 g0 g1 d0 d1 d2 d3 d4 d5 d6 d7 d8 d9 d10 d11 r0 r1 r2 h0 h1 s0 s1 s2 s3 s4 s5 s6 s7 s8 s9 s10 s11 HEO hcd hld hzz hz0
        have HXW := X9
        have HLW : Hid (b < w9.heap.size) := Nat.lt_of_lt_of_le HLB.out HB9.out.size
        obtain ⟨Q0, Q1, Q2⟩ := Z9.out.z.1
        obtain ⟨G0, G1⟩ := Z9.out.z.2.1
        obtain ⟨e0, e1, e2, e3, e4, e5, e6, e7, e8, e9, e10, e11⟩ := HXW.out
        have hzz : w.heap.size + 1 < w9.heap.size := Z9.out.z.2.2.2
        have hz0 : w.heap.size < w9.heap.size := by omega
        go_wp2_with fail
        go_region_held3 (fun w' => w'.cell? ⟨w.heap.size, 0, none⟩ = some vr ∧ w'.cell? ⟨w.heap.size, 1, none⟩ = some vz ∧ w'.cell? ⟨w.heap.size, 2, none⟩ = some vl ∧ w'.cell? ⟨w.heap.size + 1, 1, none⟩ = some (.slice (some ⟨b, off, none⟩) z.eras.length ce) ∧ w'.cell? ⟨b, off + k * 12, none⟩ = some (.int .i64 x.off) ∧ w'.cell? ⟨b, off + k * 12 + 1, none⟩ = some (.string x.rl) ∧ w'.cell? ⟨b, off + k * 12 + 2, none⟩ = some (.int .i64 x.sv) ∧ w'.cell? ⟨b, off + k * 12 + 3, none⟩ = some (.string x.fm) ∧ w'.cell? ⟨b, off + k * 12 + 4, none⟩ = some (.bool x.en) ∧ w'.cell? ⟨b, off + k * 12 + 5, none⟩ = some (.int .i64 x.yr) ∧ w'.cell? ⟨b, off + k * 12 + 6, none⟩ = some (.int .i64 x.un.mo) ∧ w'.cell? ⟨b, off + k * 12 + 7, none⟩ = some (.int .i64 x.un.k) ∧ w'.cell? ⟨b, off + k * 12 + 8, none⟩ = some (.int .i64 x.un.a) ∧ w'.cell? ⟨b, off + k * 12 + 9, none⟩ = some (.int .i64 x.un.n) ∧ w'.cell? ⟨b, off + k * 12 + 10, none⟩ = some (.int .i64 x.un.t) ∧ w'.cell? ⟨b, off + k * 12 + 11, none⟩ = some (.int .i64 x.un.c)) (first | (with_reducible exact ⟨Q0, Q1, Q2, G1, e0, e1, e2, e3, e4, e5, e6, e7, e8, e9, e10, e11⟩) | (with_reducible exact ⟨a0, a1, a2, i1, u0, u1, u2, u3, u4, u5, u6, u7, u8, u9, u10, u11⟩) | go_keep) ((go_at_call 42; refine (HSO.out _ (by first | exact Z9.out.z.2.2.1 | exact Z9.out.z.2.2.1.drew)).mono ?_; rintro e wT ⟨rfl, hbT⟩; have HBT : Hid (Below w9.heap.size w9 wT) := (by first | exact hbT | exact ((Below.refl _ _).drew).trans hbT); have ZT := Lib.hid (Z9.out.next HBT.out); have XT := Lib.hid (HXW.out.below HBT.out HLW.out); obtain ⟨u0, u1, u2, u3, u4, u5, u6, u7, u8, u9, u10, u11⟩ := XT.out; obtain ⟨a0, a1, a2⟩ := ZT.out.z.1; obtain ⟨i0, i1⟩ := ZT.out.z.2.1; clear hbT))
        clear Q0 Q1 Q2 G0 G1 e0 e1 e2 e3 e4 e5 e6 e7 e8 e9 e10 e11 HSO a0 a1 a2 i0 hzz hz0
        go_wp2_with fail
        refine (HCO.out _).mono ?_; rintro e w11 ⟨rfl, hb11⟩
        have R11 := Lib.hid (ZT.out.next hb11)
        clear hb11 u0 u1 u2 u3 u4 u5 u6 u7 u8 u9 u10 u11 i1 HCO
        have r0 : w11.cell? ⟨w.heap.size + 2, 0, none⟩ = some (.int .i64 0) := R11.out.r.cell 0
        have r1 : w11.cell? ⟨w.heap.size + 2, 1, none⟩ = some (.bool false) := R11.out.r.cell 1
        have r2 : w11.cell? ⟨w.heap.size + 2, 2, none⟩ = some (.string ⟨#[]⟩) := R11.out.r.cell 2
        have f0 : w11.frozen? ⟨w.heap.size + 2, 0, none⟩ = false := R11.out.r.frozen 0
        have f1 : w11.frozen? ⟨w.heap.size + 2, 1, none⟩ = false := R11.out.r.frozen 1
        have f2 : w11.frozen? ⟨w.heap.size + 2, 2, none⟩ = false := R11.out.r.frozen 2
        have zl : w.heap.size + 2 < w11.heap.size := R11.out.r.lt
        generalize clkE x (P1, P2) = ck at *
        obtain ⟨ko, ks, kn⟩ := ck
        dsimp only
        go_wp2
        refine bodyPost_ret (v := .agg #[.int .i64 ko, .bool ks, .string kn]) (by simp [results, Tryz.results30, go_sem, r0, r1, r2, zl]) rfl ⟨by rw [HK.out], R11.out.done _ _ _⟩
    · have hli : ¬ (k : Int) + 1 < (z.eras.length : Int) := by omega
      have hld : decide ((k : Int) + 1 < (z.eras.length : Int)) = false := decide_eq_false hli
      have HK := Lib.hid (HSTOP.out fun h => absurd h hlt)
      go_wp2
      go_quiet (fail)
      clear q0 q1 q2 g0 g1 d0 d1 d2 d3 d4 d5 d6 d7 d8 d9 d10 d11 hld hzz hz0
      go_upto_region 4 with fail
      obtain ⟨wq, hwq⟩ : ∃ wq, wr.drewN nq = wq := ⟨_, rfl⟩
      rw [hwq]
      have HBQ : Hid (Below wr.heap.size wr wq) := by show Below _ _ _; rw [← hwq]; exact below_draws (Below.refl _ _) nq
      clear hwq
      have ZQ := Lib.hid (ZK.out.next HBQ.out)
      have HXW := Lib.hid (HXE.out.below HBQ.out HLB.out)
      have HLW : Hid (b < wq.heap.size) := Nat.lt_of_lt_of_le HLB.out HBQ.out.size
      obtain ⟨Q0, Q1, Q2⟩ := ZQ.out.z.1
      obtain ⟨G0, G1⟩ := ZQ.out.z.2.1
      obtain ⟨e0, e1, e2, e3, e4, e5, e6, e7, e8, e9, e10, e11⟩ := HXW.out
      have hzz : w.heap.size + 1 < wq.heap.size := ZQ.out.z.2.2.2
      have hz0 : w.heap.size < wq.heap.size := by omega
      go_wp2_with fail
      go_region_held3 (fun w' => w'.cell? ⟨w.heap.size, 0, none⟩ = some vr ∧ w'.cell? ⟨w.heap.size, 1, none⟩ = some vz ∧ w'.cell? ⟨w.heap.size, 2, none⟩ = some vl ∧ w'.cell? ⟨w.heap.size + 1, 1, none⟩ = some (.slice (some ⟨b, off, none⟩) z.eras.length ce) ∧ w'.cell? ⟨b, off + k * 12, none⟩ = some (.int .i64 x.off) ∧ w'.cell? ⟨b, off + k * 12 + 1, none⟩ = some (.string x.rl) ∧ w'.cell? ⟨b, off + k * 12 + 2, none⟩ = some (.int .i64 x.sv) ∧ w'.cell? ⟨b, off + k * 12 + 3, none⟩ = some (.string x.fm) ∧ w'.cell? ⟨b, off + k * 12 + 4, none⟩ = some (.bool x.en) ∧ w'.cell? ⟨b, off + k * 12 + 5, none⟩ = some (.int .i64 x.yr) ∧ w'.cell? ⟨b, off + k * 12 + 6, none⟩ = some (.int .i64 x.un.mo) ∧ w'.cell? ⟨b, off + k * 12 + 7, none⟩ = some (.int .i64 x.un.k) ∧ w'.cell? ⟨b, off + k * 12 + 8, none⟩ = some (.int .i64 x.un.a) ∧ w'.cell? ⟨b, off + k * 12 + 9, none⟩ = some (.int .i64 x.un.n) ∧ w'.cell? ⟨b, off + k * 12 + 10, none⟩ = some (.int .i64 x.un.t) ∧ w'.cell? ⟨b, off + k * 12 + 11, none⟩ = some (.int .i64 x.un.c)) (first | (with_reducible exact ⟨Q0, Q1, Q2, G1, e0, e1, e2, e3, e4, e5, e6, e7, e8, e9, e10, e11⟩) | (with_reducible exact ⟨a0, a1, a2, i1, u0, u1, u2, u3, u4, u5, u6, u7, u8, u9, u10, u11⟩) | go_keep) ((go_at_call 42; refine (HSO.out _ (by first | exact ZQ.out.z.2.2.1 | exact ZQ.out.z.2.2.1.drew)).mono ?_; rintro e wT ⟨rfl, hbT⟩; have HBT : Hid (Below wq.heap.size wq wT) := (by first | exact hbT | exact ((Below.refl _ _).drew).trans hbT); have ZT := Lib.hid (ZQ.out.next HBT.out); have XT := Lib.hid (HXW.out.below HBT.out HLW.out); obtain ⟨u0, u1, u2, u3, u4, u5, u6, u7, u8, u9, u10, u11⟩ := XT.out; obtain ⟨a0, a1, a2⟩ := ZT.out.z.1; obtain ⟨i0, i1⟩ := ZT.out.z.2.1; clear hbT))
      clear Q0 Q1 Q2 G0 G1 e0 e1 e2 e3 e4 e5 e6 e7 e8 e9 e10 e11 HSO a0 a1 a2 i0 hzz hz0
      go_wp2_with fail
      refine (HCO.out _).mono ?_; rintro e w11 ⟨rfl, hb11⟩
      have R11 := Lib.hid (ZT.out.next hb11)
      clear hb11 u0 u1 u2 u3 u4 u5 u6 u7 u8 u9 u10 u11 i1 HCO
      have r0 : w11.cell? ⟨w.heap.size + 2, 0, none⟩ = some (.int .i64 0) := R11.out.r.cell 0
      have r1 : w11.cell? ⟨w.heap.size + 2, 1, none⟩ = some (.bool false) := R11.out.r.cell 1
      have r2 : w11.cell? ⟨w.heap.size + 2, 2, none⟩ = some (.string ⟨#[]⟩) := R11.out.r.cell 2
      have f0 : w11.frozen? ⟨w.heap.size + 2, 0, none⟩ = false := R11.out.r.frozen 0
      have f1 : w11.frozen? ⟨w.heap.size + 2, 1, none⟩ = false := R11.out.r.frozen 1
      have f2 : w11.frozen? ⟨w.heap.size + 2, 2, none⟩ = false := R11.out.r.frozen 2
      have zl : w.heap.size + 2 < w11.heap.size := R11.out.r.lt
      generalize clkE x (P1, P2) = ck at *
      obtain ⟨ko, ks, kn⟩ := ck
      dsimp only
      go_wp2
      refine bodyPost_ret (v := .agg #[.int .i64 ko, .bool ks, .string kn]) (by simp [results, Tryz.results30, go_sem, r0, r1, r2, zl]) rfl ⟨by rw [HK.out], R11.out.done _ _ _⟩
end Go.Proofs.YtdpbedkppomffaaGreatDoor
