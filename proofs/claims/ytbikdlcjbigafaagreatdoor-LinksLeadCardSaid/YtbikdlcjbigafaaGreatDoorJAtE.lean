/-
  zones.At: the walk (printed by atgen.py).
-/
import Derived.Test.YtbikdlcjbigafaaGreatDoorJAtD
namespace Go.Proofs.YtbikdlcjbigafaaGreatDoor
set_option linter.unusedVariables false
set_option linter.unusedSimpArgs false
open Go.ChangeShapes Go.WideShapes Go.ChangeAt Go.RowKit Civ

/-- what is wrong with a question; the clock that answers. -/
def atE (s : Src) (n : ByteArray) (t : Int) : Int := if fndS s n ≠ 0 then fndS s n else if t < -2208988800 ∨ 4102444800 ≤ t then 2 else 0
def clk0 : Clk := ⟨0, false, ⟨#[]⟩⟩
def atC (s : Src) (n : ByteArray) (t : Int) : Clk := if atE s n t ≠ 0 then clk0 else match s.zones[(folL s 8 n).toNat]? with
  | some z => clkT s.rules z.eras (untL s.rules z.eras) t
  | none => clk0
theorem atE_f {s : Src} {n : ByteArray} {t : Int} (h : fndS s n ≠ 0) : atE s n t = fndS s n := by unfold atE; rw [if_pos h]
theorem atE_w {s : Src} {n : ByteArray} {t : Int} (h : fndS s n = 0) (hw : t < -2208988800 ∨ 4102444800 ≤ t) : atE s n t = 2 := by unfold atE; rw [if_neg (by rw [h]; simp), if_pos hw]
theorem atE_z {s : Src} {n : ByteArray} {t : Int} (h : fndS s n = 0) (hw : ¬ (t < -2208988800 ∨ 4102444800 ≤ t)) : atE s n t = 0 := by unfold atE; rw [if_neg (by rw [h]; simp), if_neg hw]
theorem atC_e {s : Src} {n : ByteArray} {t : Int} (h : atE s n t ≠ 0) : atC s n t = clk0 := by unfold atC; rw [if_pos h]
theorem atC_z {s : Src} {n : ByteArray} {t : Int} (h : atE s n t = 0) {i : Nat} (hi : i < s.zones.length) (hf : folL s 8 n = (i : Int)) : atC s n t = clkT s.rules s.zones[i].eras (untL s.rules s.zones[i].eras) t := by
  unfold atC
  rw [if_neg (by rw [h]; simp), hf, Int.toNat_natCast, List.getElem?_eq_getElem hi]
theorem BxO.twelve {W : World} {b : Nat} {t : TypeId} {a0 a1 a2 a3 a4 a5 a6 a7 a8 a9 a10 a11 : Value} (h : BxO W b #[a0, a1, a2, a3, a4, a5, a6, a7, a8, a9, a10, a11] t) :
    W.cell? ⟨b, 0, none⟩ = some a0 ∧ W.cell? ⟨b, 1, none⟩ = some a1 ∧ W.cell? ⟨b, 2, none⟩ = some a2 ∧ W.cell? ⟨b, 3, none⟩ = some a3 ∧ W.cell? ⟨b, 4, none⟩ = some a4 ∧ W.cell? ⟨b, 5, none⟩ = some a5 ∧ W.cell? ⟨b, 6, none⟩ = some a6 ∧ W.cell? ⟨b, 7, none⟩ = some a7 ∧ W.cell? ⟨b, 8, none⟩ = some a8 ∧ W.cell? ⟨b, 9, none⟩ = some a9 ∧ W.cell? ⟨b, 10, none⟩ = some a10 ∧ W.cell? ⟨b, 11, none⟩ = some a11 ∧ W.frozen? ⟨b, 0, none⟩ = false ∧ W.frozen? ⟨b, 1, none⟩ = false ∧ W.frozen? ⟨b, 2, none⟩ = false ∧ W.frozen? ⟨b, 3, none⟩ = false ∧ W.frozen? ⟨b, 4, none⟩ = false ∧ W.frozen? ⟨b, 5, none⟩ = false ∧ W.frozen? ⟨b, 6, none⟩ = false ∧ W.frozen? ⟨b, 7, none⟩ = false ∧ W.frozen? ⟨b, 8, none⟩ = false ∧ W.frozen? ⟨b, 9, none⟩ = false ∧ W.frozen? ⟨b, 10, none⟩ = false ∧ W.frozen? ⟨b, 11, none⟩ = false ∧ b < W.heap.size := ⟨h.cell 0, h.cell 1, h.cell 2, h.cell 3, h.cell 4, h.cell 5, h.cell 6, h.cell 7, h.cell 8, h.cell 9, h.cell 10, h.cell 11, h.frozen 0, h.frozen 1, h.frozen 2, h.frozen 3, h.frozen 4, h.frozen 5, h.frozen 6, h.frozen 7, h.frozen 8, h.frozen 9, h.frozen 10, h.frozen 11, h.lt⟩
theorem BxO.set12 {W : World} {b : Nat} {t : TypeId} {a0 a1 a2 a3 a4 a5 a6 a7 a8 a9 a10 a11 : Value} (h : BxO W b #[a0, a1, a2, a3, a4, a5, a6, a7, a8, a9, a10, a11] t) (b0 b1 b2 b3 b4 b5 b6 b7 b8 b9 b10 b11 : Value) :
    BxO ((((((((((((W.setCell ⟨b, 0, none⟩ b0).setCell ⟨b, 1, none⟩ b1).setCell ⟨b, 2, none⟩ b2).setCell ⟨b, 3, none⟩ b3).setCell ⟨b, 4, none⟩ b4).setCell ⟨b, 5, none⟩ b5).setCell ⟨b, 6, none⟩ b6).setCell ⟨b, 7, none⟩ b7).setCell ⟨b, 8, none⟩ b8).setCell ⟨b, 9, none⟩ b9).setCell ⟨b, 10, none⟩ b10).setCell ⟨b, 11, none⟩ b11) b #[b0, b1, b2, b3, b4, b5, b6, b7, b8, b9, b10, b11] t := by
  simp [BxO, World.setCell, Array.getElem?_modify, show W.heap[b]? = _ from h]
theorem set12_below {W0 W : World} {B : Nat} (h : Below B W0 W) {b : Nat} (hb : B ≤ b) (b0 b1 b2 b3 b4 b5 b6 b7 b8 b9 b10 b11 : Value) : Below B W0 ((((((((((((W.setCell ⟨b, 0, none⟩ b0).setCell ⟨b, 1, none⟩ b1).setCell ⟨b, 2, none⟩ b2).setCell ⟨b, 3, none⟩ b3).setCell ⟨b, 4, none⟩ b4).setCell ⟨b, 5, none⟩ b5).setCell ⟨b, 6, none⟩ b6).setCell ⟨b, 7, none⟩ b7).setCell ⟨b, 8, none⟩ b8).setCell ⟨b, 9, none⟩ b9).setCell ⟨b, 10, none⟩ b10).setCell ⟨b, 11, none⟩ b11) :=
  ((((((((((((h.setCell (p := ⟨b, 0, none⟩) hb _).setCell (p := ⟨b, 1, none⟩) hb _).setCell (p := ⟨b, 2, none⟩) hb _).setCell (p := ⟨b, 3, none⟩) hb _).setCell (p := ⟨b, 4, none⟩) hb _).setCell (p := ⟨b, 5, none⟩) hb _).setCell (p := ⟨b, 6, none⟩) hb _).setCell (p := ⟨b, 7, none⟩) hb _).setCell (p := ⟨b, 8, none⟩) hb _).setCell (p := ⟨b, 9, none⟩) hb _).setCell (p := ⟨b, 10, none⟩) hb _).setCell (p := ⟨b, 11, none⟩) hb _)
/-- the source's box, the result's. -/
structure ClB (w wx : World) (vr vz vl : Value) : Prop where
  s : SrB w wx vr vz vl
  r : BxO wx (w.heap.size + 1) #[.int .i64 0, .bool false, .string ⟨#[]⟩] 37
theorem ClB.next {w wx w' : World} {vr vz vl : Value} (h : ClB w wx vr vz vl) (hb : Below wx.heap.size wx w') : ClB w w' vr vz vl := ⟨h.s.next hb, (hb.block _ h.r.lt).trans h.r⟩
theorem ClB.new (w : World) (vr vz vl : Value) : ClB w ((w.alloc (.cells #[vr, vz, vl] 28)).alloc (.cells #[.int .i64 0, .bool false, .string ⟨#[]⟩] 37)) vr vz vl := by
  have h := BxO.new (w.alloc (.cells #[vr, vz, vl] 28)) #[.int .i64 0, .bool false, .string ⟨#[]⟩] 37
  rw [size_alloc] at h
  exact ⟨(SrB.new w vr vz vl).next ((Below.refl _ _).alloc (Nat.le_refl _) _), h⟩
theorem ClB.done {w wx : World} {vr vz vl : Value} (h : ClB w wx vr vz vl) (u0 u1 u2 : Value) : Below w.heap.size w (((wx.setCell ⟨w.heap.size + 1, 0, none⟩ u0).setCell ⟨w.heap.size + 1, 1, none⟩ u1).setCell ⟨w.heap.size + 1, 2, none⟩ u2) :=
  ((h.s.2.1.setCell (p := ⟨w.heap.size + 1, 0, none⟩) (Nat.le_succ _) _).setCell (p := ⟨w.heap.size + 1, 1, none⟩) (Nat.le_succ _) _).setCell (p := ⟨w.heap.size + 1, 2, none⟩) (Nat.le_succ _) _
/-- and an era's. -/
structure AzB (w wx : World) (vr vz vl : Value) (D : Nat) (x : Ero) : Prop where
  c : ClB w wx vr vz vl
  e : EroAt wx D 0 x
  z : D < wx.heap.size
theorem AzB.s {w wx : World} {vr vz vl : Value} {D : Nat} {x : Ero} (h : AzB w wx vr vz vl D x) : SrB w wx vr vz vl := h.c.s
theorem AzB.next {w wx w' : World} {vr vz vl : Value} {D : Nat} {x : Ero} (h : AzB w wx vr vz vl D x) (hb : Below wx.heap.size wx w') : AzB w w' vr vz vl D x :=
  ⟨h.c.next hb, h.e.below hb h.z, Nat.lt_of_lt_of_le h.z hb.size⟩
theorem AzB.made {w wx : World} {vr vz vl : Value} (h : ClB w wx vr vz vl) (x : Ero) : AzB w (wx.alloc (.cells #[.int .i64 x.off, .string x.rl, .int .i64 x.sv, .string x.fm, .bool x.en, .int .i64 x.yr, .int .i64 x.un.mo, .int .i64 x.un.k, .int .i64 x.un.a, .int .i64 x.un.n, .int .i64 x.un.t, .int .i64 x.un.c] 68)) vr vz vl wx.heap.size x :=
  ⟨h.next ((Below.refl _ _).alloc (Nat.le_refl _) _), EroAt.new _ _ _, by rw [size_alloc]; exact Nat.lt_succ_self _⟩
theorem BxO.ero {W : World} {b : Nat} {x : Ero} {t : TypeId} (h : BxO W b #[.int .i64 x.off, .string x.rl, .int .i64 x.sv, .string x.fm, .bool x.en, .int .i64 x.yr, .int .i64 x.un.mo, .int .i64 x.un.k, .int .i64 x.un.a, .int .i64 x.un.n, .int .i64 x.un.t, .int .i64 x.un.c] t) : EroAt W b 0 x := ⟨h.cell 0, h.cell 1, h.cell 2, h.cell 3, h.cell 4, h.cell 5, h.cell 6, h.cell 7, h.cell 8, h.cell 9, h.cell 10, h.cell 11⟩
theorem AzB.put {w w2 wx : World} {vr vz vl : Value} {D : Nat} (h : ClB w w2 vr vz vl) (hb : Below w2.heap.size w2 wx) (hD : w2.heap.size ≤ D) (x : Ero) (hx : BxO wx D #[.int .i64 0, .string ⟨#[]⟩, .int .i64 0, .string ⟨#[]⟩, .bool false, .int .i64 0, .int .i64 0, .int .i64 0, .int .i64 0, .int .i64 0, .int .i64 0, .int .i64 0] 68) : AzB w ((((((((((((wx.setCell ⟨D, 0, none⟩ (.int .i64 x.off)).setCell ⟨D, 1, none⟩ (.string x.rl)).setCell ⟨D, 2, none⟩ (.int .i64 x.sv)).setCell ⟨D, 3, none⟩ (.string x.fm)).setCell ⟨D, 4, none⟩ (.bool x.en)).setCell ⟨D, 5, none⟩ (.int .i64 x.yr)).setCell ⟨D, 6, none⟩ (.int .i64 x.un.mo)).setCell ⟨D, 7, none⟩ (.int .i64 x.un.k)).setCell ⟨D, 8, none⟩ (.int .i64 x.un.a)).setCell ⟨D, 9, none⟩ (.int .i64 x.un.n)).setCell ⟨D, 10, none⟩ (.int .i64 x.un.t)).setCell ⟨D, 11, none⟩ (.int .i64 x.un.c)) vr vz vl D x :=
  ⟨h.next (set12_below hb hD _ _ _ _ _ _ _ _ _ _ _ _), (hx.set12 _ _ _ _ _ _ _ _ _ _ _ _).ero, (hx.set12 _ _ _ _ _ _ _ _ _ _ _ _).lt⟩
set_option maxHeartbeats 8000000 in
set_option maxRecDepth 100000 in
theorem At_any (s : Src) (n : ByteArray) (t : Int) (vr vz vl : Value) (w : World) (hs : SrcAt w vr vz vl s) (hV : Tab w ∧ MxL w) :
    Calls Tryz.prog 13 #[.agg #[vr, vz, vl], .string n, .int .i64 t] w fun e w' => e = .returned (.tuple #[.agg #[.int .i64 (atC s n t).off, .bool (atC s n t).sav, .string (atC s n t).nm], .int .i64 (atE s n t)]) ∧ Below w.heap.size w w' := by
  have C0 := Lib.hid (ClB.new w vr vz vl)
  obtain ⟨W0, hW0⟩ : ∃ W0, W0 = (w.alloc (.cells #[vr, vz, vl] 28)).alloc (.cells #[.int .i64 0, .bool false, .string ⟨#[]⟩] 37) := ⟨_, rfl⟩
  rw [← hW0] at C0
  have HW := Lib.hid hW0
  have HS := Lib.hid hs
  have HV := Lib.hid hV
  have HFI := Lib.hid (fun wx (hb : Below w.heap.size w wx) => find_any s n vr vz vl wx (hs.mono hb) ⟨hV.1.below hb, hV.2.below hb⟩)
  clear hs hV hW0
  obtain ⟨E, hE⟩ : ∃ E, E = fndS s n := ⟨_, rfl⟩
  have HE := Lib.hid hE
  rw [← hE] at HFI
  clear hE
  obtain ⟨q0, q1, q2⟩ := C0.out.s.1
  go_enter Tryz.func13, Tryz.ntmps13
  go_upto_region 1 with fail
  rw [← HW.out]
  clear HW
  go_wp2_with fail
  refine (HFI.out _ C0.out.s.2.1).mono ?_; rintro e w1 ⟨nm, a, m, c, rfl, hz, hb1⟩
  have C1 := Lib.hid (C0.out.next hb1)
  have HZ := Lib.hid hz
  clear hb1 q0 q1 q2 C0 HFI hz
  by_cases h0 : E = 0
  · subst h0
    obtain ⟨W2, hW2⟩ : ∃ W2, W2 = w1.alloc (.cells #[.string nm, .slice a m c] 65) := ⟨_, rfl⟩
    have C2 : Hid (ClB w W2 vr vz vl) := by show ClB _ _ _ _ _; rw [hW2]; exact C1.out.next ((Below.refl _ _).alloc (Nat.le_refl _) _)
    have HW2 := Lib.hid hW2
    have G : Hid (BxO W2 w1.heap.size #[.string nm, .slice a m c] 65) := by show BxO _ _ _ _; rw [hW2]; exact BxO.new _ _ _
    have HB2 : Hid (Below w1.heap.size w1 W2) := by show Below _ _ _; rw [hW2]; exact (Below.refl _ _).alloc (Nat.le_refl _) _
    clear hW2
    obtain ⟨q0, q1, q2⟩ := C2.out.s.1
    have r0 : W2.cell? ⟨w.heap.size + 1, 0, none⟩ = some (.int .i64 0) := C2.out.r.cell 0
    have r1 : W2.cell? ⟨w.heap.size + 1, 1, none⟩ = some (.bool false) := C2.out.r.cell 1
    have r2 : W2.cell? ⟨w.heap.size + 1, 2, none⟩ = some (.string ⟨#[]⟩) := C2.out.r.cell 2
    have f0 : W2.frozen? ⟨w.heap.size + 1, 0, none⟩ = false := C2.out.r.frozen 0
    have f1 : W2.frozen? ⟨w.heap.size + 1, 1, none⟩ = false := C2.out.r.frozen 1
    have f2 : W2.frozen? ⟨w.heap.size + 1, 2, none⟩ = false := C2.out.r.frozen 2
    have zl : w.heap.size + 1 < W2.heap.size := C2.out.r.lt
    by_cases hw : t < -2208988800 ∨ 4102444800 ≤ t
    · have HD : Hid (atE s n t = 2) := atE_w HE.out.symm hw
      have HK : Hid (atC s n t = clk0) := atC_e (by rw [HD.out]; decide)
      have hww : t < -2208988800 ∨ (¬ t < -2208988800 ∧ 4102444800 ≤ t) := by omega
      clear hw
      rcases hww with hw | ⟨hw, hw'⟩
      · go_upto_region 2 with fail
        rw [← HW2.out]
        go_wp2_with (go_at_call 11; refine (winIn _).mono ?_; rintro e w' ⟨rfl, rfl⟩)
        go_wp2
        refine bodyPost_ret (v := .tuple #[.agg #[.int .i64 0, .bool false, .string ⟨#[]⟩], .int .i64 2]) (by simp [results, Tryz.results13, go_sem, r0, r1, r2, zl]) rfl ⟨by rw [HD.out, HK.out]; rfl, C2.out.done _ _ _⟩
      · go_upto_region 2 with fail
        rw [← HW2.out]
        go_wp2_with (go_at_call 11; refine (winIn _).mono ?_; rintro e w' ⟨rfl, rfl⟩)
        go_wp2
        refine bodyPost_ret (v := .tuple #[.agg #[.int .i64 0, .bool false, .string ⟨#[]⟩], .int .i64 2]) (by simp [results, Tryz.results13, go_sem, r0, r1, r2, zl]) rfl ⟨by rw [HD.out, HK.out]; rfl, C2.out.done _ _ _⟩
    · have HD : Hid (atE s n t = 0) := atE_z HE.out.symm hw
      obtain ⟨hw1, hw2⟩ : ¬ t < -2208988800 ∧ ¬ 4102444800 ≤ t := by omega
      clear hw
      obtain ⟨i, hi, hfol, rfl, hx⟩ := HZ.out rfl
      have HK0 := Lib.hid (atC_z HD.out hi hfol)
      have HGZ := Lib.hid (gdZ_of (by have := HE.out; unfold fndS at this; split at this; · exact absurd this.symm (by assumption)
                                      · rename_i h; simpa using h) i hi)
      clear hfol HZ
      generalize s.zones[i] = z at *
      clear hi
      obtain ⟨a', c', he, -⟩ := hx.shape
      simp only [Value.slice.injEq] at he
      obtain ⟨rfl, rfl, rfl⟩ := he
      obtain ⟨j, hj⟩ : ∃ j, eraI (untL s.rules z.eras) t = j := ⟨_, rfl⟩
      have hjl : j < z.eras.length := by have := eraI_le (untL s.rules z.eras) t; have := HGZ.out.len; omega
      have hji : (j : Int) < (z.eras.length : Int) := by omega
      have HJ := Lib.hid hj
      obtain ⟨b, off, rfl, hb, hxe, -⟩ := elemEro hx j hjl
      obtain ⟨x, hxx⟩ : ∃ x, z.eras[j] = x := ⟨_, rfl⟩
      have hmem : x ∈ z.eras := by rw [← hxx]; exact List.getElem_mem hjl
      have HK : Hid (atC s n t = clkE x (stL s.rules x (trE s.rules x) t)) := by
        show _ = _
        rw [HK0.out]
        unfold clkT
        rw [hj, List.getElem?_eq_getElem hjl, hxx]
        rfl
      rw [hxx] at hxe
      have HMM := Lib.hid hmem
      have HLB : Hid (b < W2.heap.size) := Nat.lt_of_lt_of_le hb HB2.out.size
      have HXE : Hid (EroAt W2 b (off + j * 12) x) := hxe.below HB2.out hb
      have HLZ : Hid (w1.heap.size < W2.heap.size) := G.out.lt
      have HN2 : Hid (w.heap.size < W2.heap.size) := Nat.lt_of_succ_lt C2.out.r.lt
      have HRI := Lib.hid HGZ.out.r
      have HL20 : Hid ((untL s.rules z.eras).length ≤ 20) := by show _ ≤ _; have := HGZ.out.len; have := HGZ.out.n20; omega
      have HBD : Hid (Below W2.heap.size W2 W2.drew) := (Below.refl _ _).drew
      have HBA : Hid (∀ o, Below W2.heap.size W2 (W2.drew.alloc o)) := fun o => (Below.refl _ _).drew.alloc (Nat.le_refl _) o
      have HUN := Lib.hid (fun wx (h : Below W2.heap.size W2 wx) => untils_any s z.nm z.eras vr vz vl (.slice (some ⟨b, off, none⟩) z.eras.length c) wx (HS.out.mono (C2.out.s.2.1.trans (h.mono C2.out.s.2.1.size))) (HV.out.1.below (C2.out.s.2.1.trans (h.mono C2.out.s.2.1.size))) (hx.mono (HB2.out.trans (h.mono HB2.out.size)) fun _ _ h => h) HGZ.out.n1 HGZ.out.n20 HGZ.out.k)
      have g0 : W2.cell? ⟨w1.heap.size, 0, none⟩ = some (.string z.nm) := G.out.cell 0
      have g1 : W2.cell? ⟨w1.heap.size, 1, none⟩ = some (.slice (some ⟨b, off, none⟩) z.eras.length c) := G.out.cell 1
      obtain ⟨d0, d1, d2, d3, d4, d5, d6, d7, d8, d9, d10, d11⟩ := HXE.out
      have hn0 : W2.heap.size ≠ w.heap.size := by have := HN2.out; omega
      have hm0 : W2.heap.size ≠ w1.heap.size := by have := HLZ.out; omega
      have hl0 : W2.heap.size ≠ b := by have := HLB.out; omega
      clear hx hb hxe hmem hxx r0 r1 r2 f0 f1 f2 hj hjl HK0
      go_upto_region 2 with fail
      rw [← HW2.out]
      clear HW2 C1
      go_upto_region 7 with (go_at_call 11; refine (winIn _).mono ?_; rintro e w' ⟨rfl, rfl⟩)
      go_cut [12] (fun u12 wx => ∃ D, u12 = .pointer (some ⟨D, 0, none⟩) ∧ Hid (AzB w wx vr vz vl D x))
      case first =>
        go_region_held3 (fun w' => w'.cell? ⟨w.heap.size, 0, none⟩ = some vr ∧ w'.cell? ⟨w.heap.size, 1, none⟩ = some vz ∧ w'.cell? ⟨w.heap.size, 2, none⟩ = some vl ∧ w'.cell? ⟨w1.heap.size, 0, none⟩ = some (.string z.nm) ∧ w'.cell? ⟨w1.heap.size, 1, none⟩ = some (.slice (some ⟨b, off, none⟩) z.eras.length c) ∧ w'.cell? ⟨b, off + j * 12, none⟩ = some (.int .i64 x.off) ∧ w'.cell? ⟨b, off + j * 12 + 1, none⟩ = some (.string x.rl) ∧ w'.cell? ⟨b, off + j * 12 + 2, none⟩ = some (.int .i64 x.sv) ∧ w'.cell? ⟨b, off + j * 12 + 3, none⟩ = some (.string x.fm) ∧ w'.cell? ⟨b, off + j * 12 + 4, none⟩ = some (.bool x.en) ∧ w'.cell? ⟨b, off + j * 12 + 5, none⟩ = some (.int .i64 x.yr) ∧ w'.cell? ⟨b, off + j * 12 + 6, none⟩ = some (.int .i64 x.un.mo) ∧ w'.cell? ⟨b, off + j * 12 + 7, none⟩ = some (.int .i64 x.un.k) ∧ w'.cell? ⟨b, off + j * 12 + 8, none⟩ = some (.int .i64 x.un.a) ∧ w'.cell? ⟨b, off + j * 12 + 9, none⟩ = some (.int .i64 x.un.n) ∧ w'.cell? ⟨b, off + j * 12 + 10, none⟩ = some (.int .i64 x.un.t) ∧ w'.cell? ⟨b, off + j * 12 + 11, none⟩ = some (.int .i64 x.un.c)) (first | (with_reducible exact ⟨q0, q1, q2, g0, g1, d0, d1, d2, d3, d4, d5, d6, d7, d8, d9, d10, d11⟩) | (with_reducible exact ⟨r0, r1, r2, p0, p1, s0, s1, s2, s3, s4, s5, s6, s7, s8, s9, s10, s11⟩) | (with_reducible exact ⟨t0, t1, t2, P0, P1, u0, u1, u2, u3, u4, u5, u6, u7, u8, u9, u10, u11⟩) | go_keep) (first | (go_at_call 32; refine (HUN.out _ (by first | exact HBD.out | exact HBA.out _)).mono ?_; rintro e w9 ⟨v9, rfl, ho9, hb9⟩; have HBE : Hid (Below W2.heap.size W2 w9) := (by first | exact HBD.out.trans hb9 | exact (HBA.out _).trans (hb9.mono (HBA.out _).size)); have HER : Hid (∀ wx, Below w9.heap.size w9 wx → Calls Tryz.prog 35 #[v9, .int .i64 t] wx fun e w' => e = .returned (.int .i64 (j : Nat)) ∧ Below wx.heap.size wx w') := (fun wx hb => by have := era_any_z v9 _ t _ wx (ownsRow_below ho9 hb (Nat.le_refl _)) HRI.out HL20.out; rw [HJ.out] at this; exact this); obtain ⟨r0, r1, r2⟩ := (C2.out.s.next HBE.out).1; have p0 := (HBE.out.cell (p := ⟨w1.heap.size, 0, none⟩) HLZ.out).trans g0; have p1 := (HBE.out.cell (p := ⟨w1.heap.size, 1, none⟩) HLZ.out).trans g1; obtain ⟨s0, s1, s2, s3, s4, s5, s6, s7, s8, s9, s10, s11⟩ := (HXE.out.below HBE.out HLB.out); have hn9 : w9.heap.size ≠ w.heap.size := (by have := HBE.out.size; have := HN2.out; omega); have hm9 : w9.heap.size ≠ w1.heap.size := (by have := HBE.out.size; have := HLZ.out; omega); have hl9 : w9.heap.size ≠ b := (by have := HBE.out.size; have := HLB.out; omega); (try (have OG : Hid (BxO w9 W2.heap.size #[.int .i64 0, .string ⟨#[]⟩, .int .i64 0, .string ⟨#[]⟩, .bool false, .int .i64 0, .int .i64 0, .int .i64 0, .int .i64 0, .int .i64 0, .int .i64 0, .int .i64 0] 68) := (hb9.block _ (BxO.new W2.drew _ _).lt).trans (BxO.new W2.drew _ _); obtain ⟨y0, y1, y2, y3, y4, y5, y6, y7, y8, y9, y10, y11, z0, z1, z2, z3, z4, z5, z6, z7, z8, z9, z10, z11, yl⟩ := OG.out.twelve)); clear hb9 ho9) | (go_at_call 35; refine (HER.out _ (by first | exact Below.refl _ _ | exact (Below.refl _ _).drew | exact (Below.refl _ _).alloc (Nat.le_refl _) _ | exact ((Below.refl _ _).drew).alloc (Nat.le_refl _) _ | exact ((Below.refl _ _).alloc (Nat.le_refl _) _).drew)).mono ?_; rintro e w10 ⟨rfl, hb10⟩; have HBF : Hid (Below w9.heap.size w9 w10) := (by first | exact hb10 | exact Below.trans (by first | exact (Below.refl _ _).drew | exact (Below.refl _ _).alloc (Nat.le_refl _) _ | exact ((Below.refl _ _).drew).alloc (Nat.le_refl _) _ | exact ((Below.refl _ _).alloc (Nat.le_refl _) _).drew) (hb10.mono (by first | exact Nat.le_refl _ | (simp only [World.drew, size_alloc]; omega)))); have HBG : Hid (Below W2.heap.size W2 w10) := HBE.out.trans (HBF.out.mono HBE.out.size); obtain ⟨t0, t1, t2⟩ := (C2.out.s.next HBG.out).1; have P0 := (HBG.out.cell (p := ⟨w1.heap.size, 0, none⟩) HLZ.out).trans g0; have P1 := (HBG.out.cell (p := ⟨w1.heap.size, 1, none⟩) HLZ.out).trans g1; obtain ⟨u0, u1, u2, u3, u4, u5, u6, u7, u8, u9, u10, u11⟩ := (HXE.out.below HBG.out HLB.out); have hn10 : w10.heap.size ≠ w.heap.size := (by have := HBG.out.size; have := HN2.out; omega); have hm10 : w10.heap.size ≠ w1.heap.size := (by have := HBG.out.size; have := HLZ.out; omega); have hl10 : w10.heap.size ≠ b := (by have := HBG.out.size; have := HLB.out; omega); (first | (have OG2 : Hid (BxO w10 W2.heap.size #[.int .i64 0, .string ⟨#[]⟩, .int .i64 0, .string ⟨#[]⟩, .bool false, .int .i64 0, .int .i64 0, .int .i64 0, .int .i64 0, .int .i64 0, .int .i64 0, .int .i64 0] 68) := (hb10.block _ OG.out.lt).trans OG.out; obtain ⟨Y0, Y1, Y2, Y3, Y4, Y5, Y6, Y7, Y8, Y9, Y10, Y11, Z0, Z1, Z2, Z3, Z4, Z5, Z6, Z7, Z8, Z9, Z10, Z11, Yl⟩ := OG2.out.twelve) | (have OG3 : Hid (BxO w10 w9.heap.size #[.int .i64 0, .string ⟨#[]⟩, .int .i64 0, .string ⟨#[]⟩, .bool false, .int .i64 0, .int .i64 0, .int .i64 0, .int .i64 0, .int .i64 0, .int .i64 0, .int .i64 0] 68) := (hb10.block _ (BxO.new w9 _ _).lt).trans (BxO.new w9 _ _); obtain ⟨Y0, Y1, Y2, Y3, Y4, Y5, Y6, Y7, Y8, Y9, Y10, Y11, Z0, Z1, Z2, Z3, Z4, Z5, Z6, Z7, Z8, Z9, Z10, Z11, Yl⟩ := OG3.out.twelve) | skip); clear hb10))
        all_goals
          go_wp2_with fail
          go_meet
          first
          | with_reducible exact ⟨_, rfl, Lib.hid (AzB.made (C2.out.next HBG.out) x)⟩
          | with_reducible exact ⟨_, rfl, Lib.hid (AzB.put C2.out HBG.out (Nat.le_refl _) x OG2.out)⟩
          | with_reducible exact ⟨_, rfl, Lib.hid (AzB.put C2.out HBG.out HBE.out.size x OG3.out)⟩
      case rest =>
        clear q0 q1 q2 g0 g1 d0 d1 d2 d3 d4 d5 d6 d7 d8 d9 d10 d11 hn0 hm0 hl0 HXE HLB HLZ HN2 HBD HBA HUN G HB2 C2 zl hw1 hw2 hji
        obtain ⟨D, rfl, HA⟩ := hcut
        have HC3 := Lib.hid HA.out.s.2.1
        have HCH := Lib.hid (fun wx (hb : Below w.heap.size w wx) => changes_any s x vr vz vl wx (HS.out.mono hb) (HV.out.1.below hb) (HGZ.out.rok HMM.out))
        have HST := Lib.hid (fun wx v (hb : Below w.heap.size w wx) (hv : SlAt wx 4 RChg v (trE s.rules x)) => state_any s x t vr vz vl v (trE s.rules x) wx (HS.out.mono hb) hv)
        have HCL := Lib.hid (fun wx (hb : Below w.heap.size w wx) => clock_any x (stL s.rules x (trE s.rules x) t).1 (stL s.rules x (trE s.rules x) t).2 wx (HGZ.out.cok HMM.out t) (HV.out.2.below hb))
        generalize stL s.rules x (trE s.rules x) t = P at *
        obtain ⟨P1, P2⟩ := P
        dsimp only at HST HCL
        obtain ⟨q0, q1, q2⟩ := HA.out.s.1
        obtain ⟨d0, d1, d2, d3, d4, d5, d6, d7, d8, d9, d10, d11⟩ := HA.out.e.z
        have hz3 : w.heap.size < wc.heap.size := by have := HA.out.c.r.lt; omega
        have hz4 : D < wc.heap.size := HA.out.z
        go_wp2_with fail
        go_region_held3 (fun w' => w'.cell? ⟨w.heap.size, 0, none⟩ = some vr ∧ w'.cell? ⟨w.heap.size, 1, none⟩ = some vz ∧ w'.cell? ⟨w.heap.size, 2, none⟩ = some vl ∧ w'.cell? ⟨D, 0, none⟩ = some (.int .i64 x.off) ∧ w'.cell? ⟨D, 1, none⟩ = some (.string x.rl) ∧ w'.cell? ⟨D, 2, none⟩ = some (.int .i64 x.sv) ∧ w'.cell? ⟨D, 3, none⟩ = some (.string x.fm) ∧ w'.cell? ⟨D, 4, none⟩ = some (.bool x.en) ∧ w'.cell? ⟨D, 5, none⟩ = some (.int .i64 x.yr) ∧ w'.cell? ⟨D, 6, none⟩ = some (.int .i64 x.un.mo) ∧ w'.cell? ⟨D, 7, none⟩ = some (.int .i64 x.un.k) ∧ w'.cell? ⟨D, 8, none⟩ = some (.int .i64 x.un.a) ∧ w'.cell? ⟨D, 9, none⟩ = some (.int .i64 x.un.n) ∧ w'.cell? ⟨D, 10, none⟩ = some (.int .i64 x.un.t) ∧ w'.cell? ⟨D, 11, none⟩ = some (.int .i64 x.un.c)) (first | (with_reducible exact ⟨q0, q1, q2, d0, d1, d2, d3, d4, d5, d6, d7, d8, d9, d10, d11⟩) | (with_reducible exact ⟨r0, r1, r2, s0, s1, s2, s3, s4, s5, s6, s7, s8, s9, s10, s11⟩) | (with_reducible exact ⟨t0, t1, t2, u0, u1, u2, u3, u4, u5, u6, u7, u8, u9, u10, u11⟩) | go_keep) (first | (go_at_call 37; refine (HCH.out _ (by first | exact HC3.out | exact HC3.out.drew)).mono ?_; rintro e w9 ⟨v9, rfl, h9, hb9⟩; have R9 := Lib.hid (HA.out.next (by first | exact hb9 | exact ((Below.refl _ _).drew).trans hb9)); obtain ⟨s0, s1, s2, s3, s4, s5, s6, s7, s8, s9, s10, s11⟩ := R9.out.e.z; obtain ⟨r0, r1, r2⟩ := R9.out.s.1; clear hb9) | (go_at_call 36; refine (HST.out _ _ R9.out.s.2.1 h9).mono ?_; rintro e w10 ⟨rfl, hb10⟩; have R10 := Lib.hid (R9.out.next hb10); obtain ⟨u0, u1, u2, u3, u4, u5, u6, u7, u8, u9, u10, u11⟩ := R10.out.e.z; obtain ⟨t0, t1, t2⟩ := R10.out.s.1; clear hb10))
        clear q0 q1 q2 d0 d1 d2 d3 d4 d5 d6 d7 d8 d9 d10 d11 r0 r1 r2 s0 s1 s2 s3 s4 s5 s6 s7 s8 s9 s10 s11 t0 t1 t2 R9 h9 HCH HST hz3 hz4
        go_wp2_with fail
        refine (HCL.out _ R10.out.s.2.1).mono ?_; rintro e w11 ⟨rfl, hb11⟩
        have R11 := Lib.hid (R10.out.next hb11)
        clear hb11 u0 u1 u2 u3 u4 u5 u6 u7 u8 u9 u10 u11 R10 HCL
        have r0 : w11.cell? ⟨w.heap.size + 1, 0, none⟩ = some (.int .i64 0) := R11.out.c.r.cell 0
        have r1 : w11.cell? ⟨w.heap.size + 1, 1, none⟩ = some (.bool false) := R11.out.c.r.cell 1
        have r2 : w11.cell? ⟨w.heap.size + 1, 2, none⟩ = some (.string ⟨#[]⟩) := R11.out.c.r.cell 2
        have f0 : w11.frozen? ⟨w.heap.size + 1, 0, none⟩ = false := R11.out.c.r.frozen 0
        have f1 : w11.frozen? ⟨w.heap.size + 1, 1, none⟩ = false := R11.out.c.r.frozen 1
        have f2 : w11.frozen? ⟨w.heap.size + 1, 2, none⟩ = false := R11.out.c.r.frozen 2
        have zl : w.heap.size + 1 < w11.heap.size := R11.out.c.r.lt
        generalize clkE x (P1, P2) = ck at *
        obtain ⟨ko, ks, kn⟩ := ck
        dsimp only
        go_wp2
        refine bodyPost_ret (v := .tuple #[.agg #[.int .i64 ko, .bool ks, .string kn], .int .i64 0]) (by simp [results, Tryz.results13, go_sem, r0, r1, r2, zl]) rfl ⟨by rw [HD.out, HK.out], R11.out.c.done _ _ _⟩
  · have hE0 : (E != 0) = true := by rw [bne_iff_ne]; exact h0
    have HD : Hid (atE s n t = E) := by show _ = _; rw [atE_f (by rw [← HE.out]; exact h0), HE.out]
    have HK : Hid (atC s n t = clk0) := atC_e (by rw [HD.out]; exact h0)
    have C2 := Lib.hid (C1.out.next ((Below.refl _ _).alloc (Nat.le_refl _) (.cells #[.string nm, .slice a m c] 65)))
    obtain ⟨W2, hW2⟩ : ∃ W2, W2 = w1.alloc (.cells #[.string nm, .slice a m c] 65) := ⟨_, rfl⟩
    have HW2 := Lib.hid hW2
    rw [← hW2] at C2
    clear hW2 h0
    have r0 : W2.cell? ⟨w.heap.size + 1, 0, none⟩ = some (.int .i64 0) := C2.out.r.cell 0
    have r1 : W2.cell? ⟨w.heap.size + 1, 1, none⟩ = some (.bool false) := C2.out.r.cell 1
    have r2 : W2.cell? ⟨w.heap.size + 1, 2, none⟩ = some (.string ⟨#[]⟩) := C2.out.r.cell 2
    have f0 : W2.frozen? ⟨w.heap.size + 1, 0, none⟩ = false := C2.out.r.frozen 0
    have f1 : W2.frozen? ⟨w.heap.size + 1, 1, none⟩ = false := C2.out.r.frozen 1
    have f2 : W2.frozen? ⟨w.heap.size + 1, 2, none⟩ = false := C2.out.r.frozen 2
    have zl : w.heap.size + 1 < W2.heap.size := C2.out.r.lt
    go_upto_region 2 with fail
    rw [← HW2.out]
    go_wp2
    refine bodyPost_ret (v := .tuple #[.agg #[.int .i64 0, .bool false, .string ⟨#[]⟩], .int .i64 E]) (by simp [results, Tryz.results13, go_sem, r0, r1, r2, zl]) rfl ⟨by rw [HD.out, HK.out]; rfl, C2.out.done _ _ _⟩
end Go.Proofs.YtbikdlcjbigafaaGreatDoor
