/-
  zones.clock: the walk.
-/
import Derived.Deep.RegionHeld3
import Derived.Test.YtbikdlcjbigafaaGreatDoorJOptP
namespace Go.Proofs.YtbikdlcjbigafaaGreatDoor
set_option linter.unusedVariables false
set_option linter.unusedSimpArgs false
open Go.ChangeShapes Go.WideShapes Go.ChangeAt Go.RowKit Civ

theorem replace_any (s lt : ByteArray) (w : World) (hM : MxL w) (hs : s.size ≤ 12) (hl : lt.size ≤ 6) :
    Calls Tryz.prog 47 #[.string s, .string ⟨#[37, 115]⟩, .string lt, .int .i64 1] w fun e w' => e = .returned (.string ⟨(Lib.replace s.data.toList [37, 115] lt.data.toList 1).toArray⟩) ∧ Below w.heap.size w w' := by
  obtain ⟨m, hm⟩ := hM.1
  have h1 := Lib.countB_le ⟨#[37, 115]⟩ (by decide) s.size s (Nat.le_refl _)
  exact Sh.strings_Replace s ⟨#[37, 115]⟩ lt 1 m w (by omega) hm (by decide) (by
    have : Lib.countB s ⟨#[37, 115]⟩ * lt.size ≤ 12 * 6 := Nat.mul_le_mul (by omega) hl
    omega)
/-- an era's box, the result's, a clock's. -/
structure CkB (w wx : World) (x : Ero) (B : Nat) (O : Int) (S : Bool) (N : ByteArray) : Prop where
  f : wx.cell? ⟨w.heap.size, 3, none⟩ = some (.string x.fm)
  r : BxO wx (w.heap.size + 1) #[.int .i64 0, .bool false, .string ⟨#[]⟩] 37
  c : BxO wx B #[.int .i64 O, .bool S, .string N] 37
  b : Below w.heap.size w wx
  n : w.heap.size + 1 < B
theorem CkB.low {w wx w' : World} {x : Ero} {B : Nat} {O : Int} {S : Bool} {N : ByteArray} (h : CkB w wx x B O S N) (hb : Below wx.heap.size wx w') : CkB w w' x B O S N :=
  ⟨(hb.cell (p := ⟨w.heap.size, 3, none⟩) (Nat.lt_of_succ_lt h.r.lt)).trans h.f, (hb.block _ h.r.lt).trans h.r, (hb.block _ h.c.lt).trans h.c, h.b.trans (hb.mono (Nat.le_of_lt (Nat.lt_of_succ_lt h.r.lt))), h.n⟩
theorem CkB.nm {w wx : World} {x : Ero} {B : Nat} {O : Int} {S : Bool} {N : ByteArray} (h : CkB w wx x B O S N) (N' : ByteArray) : CkB w (wx.setCell ⟨B, 2, none⟩ (.string N')) x B O S N' := by
  have hn := h.n
  refine ⟨?_, BxO.other h.r (by omega) _ _, h.c.setAt2 _, h.b.setCell (p := ⟨B, 2, none⟩) (by show w.heap.size ≤ B; omega) _, h.n⟩
  rw [World.cell?_setCell_other (h := by simp)]
  exact h.f
theorem CkB.made {w wx : World} {x : Ero} {O : Int} {S : Bool} {N : ByteArray} (hf : wx.cell? ⟨w.heap.size, 3, none⟩ = some (.string x.fm)) (hr : BxO wx (w.heap.size + 1) #[.int .i64 0, .bool false, .string ⟨#[]⟩] 37) (hb : Below w.heap.size w wx) :
    CkB w (wx.alloc (.cells #[.int .i64 O, .bool S, .string N] 37)) x wx.heap.size O S N := by
  have hl := hr.lt
  have h1 : Below wx.heap.size wx (wx.alloc (.cells #[.int .i64 O, .bool S, .string N] 37)) := (Below.refl _ _).alloc (Nat.le_refl _) _
  exact ⟨(h1.cell (p := ⟨w.heap.size, 3, none⟩) (by show w.heap.size < wx.heap.size; omega)).trans hf, (h1.block _ hl).trans hr, BxO.new _ _ _, hb.trans (h1.mono (by omega)), hl⟩
theorem CkB.put {w wx : World} {x : Ero} {B : Nat} {O O' : Int} {S S' : Bool} {N N' : ByteArray} (h : CkB w wx x B O' S' N') : CkB w (((wx.setCell ⟨B, 0, none⟩ (.int .i64 O)).setCell ⟨B, 1, none⟩ (.bool S)).setCell ⟨B, 2, none⟩ (.string N)) x B O S N := by
  have hn := h.n
  refine ⟨?_, BxO.other (BxO.other (BxO.other h.r (by omega) _ _) (by omega) _ _) (by omega) _ _, h.c.set3 _ _ _, ((h.b.setCell (p := ⟨B, 0, none⟩) (by show w.heap.size ≤ B; omega) _).setCell (p := ⟨B, 1, none⟩) (by show w.heap.size ≤ B; omega) _).setCell (p := ⟨B, 2, none⟩) (by show w.heap.size ≤ B; omega) _, h.n⟩
  rw [World.cell?_setCell_other (h := by simp), World.cell?_setCell_other (h := by simp), World.cell?_setCell_other (h := by simp)]
  exact h.f
theorem bytes_eq {b : ByteArray} {l : List UInt8} (h : b.data.toList = l) : b = ⟨l.toArray⟩ := by rw [← h]
theorem CkB.facts {w wx : World} {x : Ero} {B : Nat} {O : Int} {S : Bool} {N : ByteArray} (h : CkB w wx x B O S N) :
    wx.cell? ⟨B, 0, none⟩ = some (.int .i64 O) ∧ wx.cell? ⟨B, 1, none⟩ = some (.bool S) ∧ wx.cell? ⟨B, 2, none⟩ = some (.string N) ∧
    wx.cell? ⟨w.heap.size + 1, 0, none⟩ = some (.int .i64 0) ∧ wx.cell? ⟨w.heap.size + 1, 1, none⟩ = some (.bool false) ∧ wx.cell? ⟨w.heap.size + 1, 2, none⟩ = some (.string ⟨#[]⟩) ∧
    wx.frozen? ⟨w.heap.size + 1, 0, none⟩ = false ∧ wx.frozen? ⟨w.heap.size + 1, 1, none⟩ = false ∧ wx.frozen? ⟨w.heap.size + 1, 2, none⟩ = false ∧ wx.frozen? ⟨B, 2, none⟩ = false ∧ w.heap.size + 1 < wx.heap.size ∧ ¬ B = w.heap.size + 1 ∧ ¬ w.heap.size + 1 = B := by
  have := h.n
  have hrl := h.r.lt
  exact ⟨h.c.cell 0, h.c.cell 1, h.c.cell 2, h.r.cell 0, h.r.cell 1, h.r.cell 2, h.r.frozen 0, h.r.frozen 1, h.r.frozen 2, h.c.frozen 2, hrl, by omega, by omega⟩
theorem CkB.done {w wx : World} {x : Ero} {B : Nat} {O : Int} {S : Bool} {N : ByteArray} (h : CkB w wx x B O S N) (u0 u1 u2 : Value) :
    Below w.heap.size w (((wx.setCell ⟨w.heap.size + 1, 0, none⟩ u0).setCell ⟨w.heap.size + 1, 1, none⟩ u1).setCell ⟨w.heap.size + 1, 2, none⟩ u2) :=
  ((h.b.setCell (p := ⟨w.heap.size + 1, 0, none⟩) (Nat.le_succ _) _).setCell (p := ⟨w.heap.size + 1, 1, none⟩) (Nat.le_succ _) _).setCell (p := ⟨w.heap.size + 1, 2, none⟩) (Nat.le_succ _) _
set_option maxHeartbeats 4000000 in
set_option maxRecDepth 100000 in
theorem clock_any (x : Ero) (sv : Int) (lt : ByteArray) (w : World) (hc : COk x sv lt) (hM : MxL w) :
    Calls Tryz.prog 38 #[.agg #[.int .i64 x.off, .string x.rl, .int .i64 x.sv, .string x.fm, .bool x.en, .int .i64 x.yr, .int .i64 x.un.mo, .int .i64 x.un.k, .int .i64 x.un.a, .int .i64 x.un.n, .int .i64 x.un.t, .int .i64 x.un.c], .int .i64 sv, .string lt] w fun e w' => e = .returned (.agg #[.int .i64 (clkE x (sv, lt)).off, .bool (clkE x (sv, lt)).sav, .string (clkE x (sv, lt)).nm]) ∧ Below w.heap.size w w' := by
  obtain ⟨hf, ho, hs, hl⟩ := hc
  have h12 : x.fm.size ≤ 12 := by have := (fmt_len hf).2; simp at this; omega
  obtain ⟨W0, hW0⟩ : ∃ W0, W0 = (w.alloc (.cells #[.int .i64 x.off, .string x.rl, .int .i64 x.sv, .string x.fm, .bool x.en, .int .i64 x.yr, .int .i64 x.un.mo, .int .i64 x.un.k, .int .i64 x.un.a, .int .i64 x.un.n, .int .i64 x.un.t, .int .i64 x.un.c] 68)).alloc (.cells #[.int .i64 0, .bool false, .string ⟨#[]⟩] 37) := ⟨_, rfl⟩
  have hB0 : Below w.heap.size w W0 := by rw [hW0]; exact below_alloc2 (Nat.le_refl _) _ _
  have hR0 : BxO W0 (w.heap.size + 1) #[.int .i64 0, .bool false, .string ⟨#[]⟩] 37 := by
    rw [hW0, ← size_alloc w (.cells #[.int .i64 x.off, .string x.rl, .int .i64 x.sv, .string x.fm, .bool x.en, .int .i64 x.yr, .int .i64 x.un.mo, .int .i64 x.un.k, .int .i64 x.un.a, .int .i64 x.un.n, .int .i64 x.un.t, .int .i64 x.un.c] 68)]
    exact BxO.new _ _ _
  have hE0 : BxO W0 w.heap.size #[.int .i64 x.off, .string x.rl, .int .i64 x.sv, .string x.fm, .bool x.en, .int .i64 x.yr, .int .i64 x.un.mo, .int .i64 x.un.k, .int .i64 x.un.a, .int .i64 x.un.n, .int .i64 x.un.t, .int .i64 x.un.c] 68 := by rw [hW0]; exact (BxO.new _ _ _).alloc _
  have HW := Lib.hid hW0
  have HB0 := Lib.hid hB0
  have HR0 := Lib.hid hR0
  have HE0 := Lib.hid hE0
  have HM := Lib.hid hM
  have HF := Lib.hid hf
  have H12 := Lib.hid h12
  have HRP := Lib.hid (fun wx (hb : Below W0.heap.size W0 wx) => replace_any x.fm lt wx (hM.below (hB0.trans (hb.mono hB0.size))) h12 hl)
  have HBD : Hid (Below W0.heap.size W0 W0.drew) := Lib.hid ((Below.refl _ _).drew)
  have HBA : Hid (∀ o, Below W0.heap.size W0 (W0.drew.alloc o)) := fun o => (Below.refl _ _).drew.alloc (Nat.le_refl _) o
  have q0 : W0.cell? ⟨w.heap.size, 0, none⟩ = some (.int .i64 x.off) := hE0.cell 0
  have q3 : W0.cell? ⟨w.heap.size, 3, none⟩ = some (.string x.fm) := hE0.cell 3
  have tw : IntKind.i64.wrap (x.off + sv) = x.off + sv := IntWalk.i64_in _ (by omega)
  have hz0 : w.heap.size + 1 < W0.heap.size := hR0.lt
  have hn0 : W0.heap.size ≠ w.heap.size := by omega
  obtain ⟨S, hS⟩ : ∃ S, (sv != 0) = S := ⟨_, rfl⟩
  have HS : Hid ((!decide (sv = 0)) = S) := by show _ = _; rw [← hS]; by_cases e : sv = 0 <;> simp [e]
  obtain ⟨N0, hN0⟩ : ∃ N0 : ByteArray, N0 = ⟨(Lib.replace x.fm.data.toList [37, 115] lt.data.toList 1).toArray⟩ := ⟨_, rfl⟩
  have HN0 := Lib.hid hN0
  rw [← hN0] at HRP
  clear hW0 hB0 hR0 hE0 hM hf h12 hl hN0
  go_enter Tryz.func38, Tryz.ntmps38
  go_upto_region 1 with fail
  rw [← HW.out]
  go_cut [7] (fun u7 wx => ∃ B, u7 = .pointer (some ⟨B, 0, none⟩) ∧ Hid (CkB w wx x B (x.off + sv) S N0))
  case first =>
    go_region_held3 (fun w' => w'.cell? ⟨w.heap.size, 0, none⟩ = some (.int .i64 x.off) ∧ w'.cell? ⟨w.heap.size, 3, none⟩ = some (.string x.fm)) (first | (with_reducible exact ⟨q0, q3⟩) | (with_reducible exact ⟨r0, r3⟩) | go_keep) ((go_at_call 47; refine (HRP.out _ (by first | exact HBD.out | exact HBA.out _)).mono ?_; rintro e w9 ⟨rfl, hb9⟩; have HBE : Hid (Below W0.heap.size W0 w9) := (by first | exact HBD.out.trans hb9 | exact (HBA.out _).trans (hb9.mono (HBA.out _).size)); have r0 : w9.cell? ⟨w.heap.size, 0, none⟩ = some (.int .i64 x.off) := (HBE.out.cell (p := ⟨w.heap.size, 0, none⟩) (by show w.heap.size < W0.heap.size; omega)).trans q0; have r3 : w9.cell? ⟨w.heap.size, 3, none⟩ = some (.string x.fm) := (HBE.out.cell (p := ⟨w.heap.size, 3, none⟩) (by show w.heap.size < W0.heap.size; omega)).trans q3; have hn9 : w9.heap.size ≠ w.heap.size := (by have := HBE.out.size; omega); (try (have OG : Hid (BxO w9 W0.heap.size #[.int .i64 0, .bool false, .string ⟨#[]⟩] 37) := (hb9.block _ (BxO.new W0.drew _ _).lt).trans (BxO.new W0.drew _ _); have y0 : w9.cell? ⟨W0.heap.size, 0, none⟩ = some (.int .i64 0) := OG.out.cell 0; have y1 : w9.cell? ⟨W0.heap.size, 1, none⟩ = some (.bool false) := OG.out.cell 1; have y2 : w9.cell? ⟨W0.heap.size, 2, none⟩ = some (.string ⟨#[]⟩) := OG.out.cell 2; have z0 : w9.frozen? ⟨W0.heap.size, 0, none⟩ = false := OG.out.frozen 0; have z1 : w9.frozen? ⟨W0.heap.size, 1, none⟩ = false := OG.out.frozen 1; have z2 : w9.frozen? ⟨W0.heap.size, 2, none⟩ = false := OG.out.frozen 2; have z3 : W0.heap.size < w9.heap.size := OG.out.lt)); clear hb9))
    · go_wp2_with fail
      go_meet
      exact ⟨_, rfl, CkB.made ((HBE.out.cell (p := ⟨w.heap.size, 3, none⟩) (by show w.heap.size < W0.heap.size; omega)).trans (HE0.out.cell 3)) ((HBE.out.block _ HR0.out.lt).trans HR0.out) (HB0.out.trans (HBE.out.mono HB0.out.size))⟩
    · go_wp2_with fail
      go_meet
      exact ⟨_, rfl, CkB.put (O' := 0) (S' := false) (N' := ⟨#[]⟩) ⟨r3, (HBE.out.block _ HR0.out.lt).trans HR0.out, OG.out, HB0.out.trans (HBE.out.mono HB0.out.size), HR0.out.lt⟩⟩
  case rest =>
    obtain ⟨B, rfl, HC⟩ := hcut
    clear HRP HBD HBA q0 q3 tw hz0 hn0 HE0 HR0 HW
    have HMX : Hid (MxL wc) := HM.out.below HC.out.b
    have k3 : wc.cell? ⟨w.heap.size, 3, none⟩ = some (.string x.fm) := HC.out.f
    rcases ix_cases x.fm.data.toList [47] with e | ⟨k, e, hk⟩
    · have HD : Hid (clkE x (sv, lt) = ⟨x.off + sv, S, N0⟩) := by
        show _ = _
        unfold clkE
        rw [fmtN_no e, HS.out, HN0.out]
      have HE := Lib.hid e
      clear e
      go_wp2_with fail
      refine (cut_miss x.fm ⟨#[47]⟩ wc HMX.out H12.out HE.out).mono ?_; rintro e w2 ⟨n, rfl, hw2⟩
      have HC2 : Hid (CkB w w2 x B (x.off + sv) S N0) := HC.out.low (by rw [hw2]; exact below_draws (Below.refl _ _) n)
      clear hw2 HC k3 HMX
      obtain ⟨c0, c1, c2, d0, d1, d2, f0, f1, f2, z1, zl, z2, z3⟩ := HC2.out.facts
      go_wp2
      refine bodyPost_ret (v := .agg #[.int .i64 (x.off + sv), .bool S, .string N0]) (by simp [results, Tryz.results38, go_sem, c0, c1, c2, d0, d1, d2, zl, z2, z3]) rfl ⟨by rw [HD.out], HC2.out.done _ _ _⟩
    · obtain ⟨N1, hN1⟩ : ∃ N1 : ByteArray, N1 = ⟨(x.fm.data.toList.take k).toArray⟩ := ⟨_, rfl⟩
      obtain ⟨N2, hN2⟩ : ∃ N2 : ByteArray, N2 = ⟨(x.fm.data.toList.drop (k + 1)).toArray⟩ := ⟨_, rfl⟩
      have HD : Hid (clkE x (sv, lt) = ⟨x.off + sv, S, if S then N2 else N1⟩) := by
        show _ = _
        unfold clkE
        rw [fmtN_slash e, HS.out, hN1, hN2]
        cases S <;> rfl
      have HE := Lib.hid e
      clear e
      go_wp2_with fail
      refine (cut_hit x.fm ⟨#[47]⟩ k wc HMX.out H12.out HE.out).mono ?_; rintro e w2 ⟨a, b, n, rfl, ha, hb, hw2⟩
      obtain rfl : a = N1 := by rw [hN1, ← ha]
      obtain rfl : b = N2 := by rw [hN2]; exact bytes_eq hb
      have HC2 : Hid (CkB w w2 x B (x.off + sv) S N0) := HC.out.low (by rw [hw2]; exact below_draws (Below.refl _ _) n)
      clear hw2 HC k3 HMX ha hb hN1 hN2
      obtain ⟨c0, c1, c2, d0, d1, d2, f0, f1, f2, z1, zl, z2, z3⟩ := HC2.out.facts
      cases S with
      | false =>
        go_wp2
        refine bodyPost_ret (v := .agg #[.int .i64 (x.off + sv), .bool false, .string a]) (by simp [results, Tryz.results38, go_sem, c0, c1, c2, d0, d1, d2, zl, z2, z3]) rfl ⟨by rw [HD.out]; rfl, (HC2.out.nm _).done _ _ _⟩
      | true =>
        go_wp2
        refine bodyPost_ret (v := .agg #[.int .i64 (x.off + sv), .bool true, .string b]) (by simp [results, Tryz.results38, go_sem, c0, c1, c2, d0, d1, d2, zl, z2, z3]) rfl ⟨by rw [HD.out]; rfl, ((HC2.out.nm _).nm _).done _ _ _⟩
end Go.Proofs.YtbikdlcjbigafaaGreatDoor
