/-
  zones.untils: where the eras of a zone end.
-/
import Derived.Deep.RegionHeld3
import Derived.Test.YtdpbedkppomffaaDoorZonO
namespace Go.Proofs.YtdpbedkppomffaaDoor
set_option linter.unusedVariables false
set_option linter.unusedSimpArgs false
open Go.ChangeShapes Go.WideShapes Go.ChangeAt Go.RowKit Civ

def encJ (x : Int) : List Value := [.int .i64 x]
theorem info_intz : (Tryd.prog.info? 3).map (fun i => (i.zero, i.size, i.bytes)) = some (some (.int .i64 0), 1, 8) := by kernel_rfl
/-- the boxes of a source and of a zone. -/
def ZnB (w wx : World) (vr vz vl : Value) (nm : ByteArray) (ve : Value) : Prop := (wx.cell? ⟨w.heap.size, 0, none⟩ = some vr ∧ wx.cell? ⟨w.heap.size, 1, none⟩ = some vz ∧ wx.cell? ⟨w.heap.size, 2, none⟩ = some vl) ∧ (wx.cell? ⟨w.heap.size + 1, 0, none⟩ = some (.string nm) ∧ wx.cell? ⟨w.heap.size + 1, 1, none⟩ = some ve) ∧ Below w.heap.size w wx ∧ w.heap.size + 2 ≤ wx.heap.size
theorem ZnB.new (w : World) (vr vz vl : Value) (nm : ByteArray) (ve : Value) : ZnB w ((w.alloc (.cells #[vr, vz, vl] 26)).alloc (.cells #[.string nm, ve] 39)) vr vz vl nm ve := by
  have h1 := size_alloc w (.cells #[vr, vz, vl] 26)
  refine ⟨⟨?_, ?_, ?_⟩, ⟨?_, ?_⟩, ((Below.refl _ _).alloc (Nat.le_refl _) _).alloc (by simp) _, by rw [size_alloc, h1]; exact Nat.le_refl _⟩
  · exact (World.cell?_alloc_past _ _ _ (by rw [h1]; exact Nat.lt_succ_self _)).trans ((World.cell?_alloc_at (w := w) _ _ w.heap.size 0 rfl).trans rfl)
  · exact (World.cell?_alloc_past _ _ _ (by rw [h1]; exact Nat.lt_succ_self _)).trans ((World.cell?_alloc_at (w := w) _ _ w.heap.size 1 rfl).trans rfl)
  · exact (World.cell?_alloc_past _ _ _ (by rw [h1]; exact Nat.lt_succ_self _)).trans ((World.cell?_alloc_at (w := w) _ _ w.heap.size 2 rfl).trans rfl)
  · exact (World.cell?_alloc_at (w := w.alloc (.cells #[vr, vz, vl] 26)) _ _ (w.heap.size + 1) 0 (by rw [h1])).trans rfl
  · exact (World.cell?_alloc_at (w := w.alloc (.cells #[vr, vz, vl] 26)) _ _ (w.heap.size + 1) 1 (by rw [h1])).trans rfl
theorem ZnB.low {w wx w' : World} {vr vz vl : Value} {nm : ByteArray} {ve : Value} (h : ZnB w wx vr vz vl nm ve) (hb : Below (w.heap.size + 2) wx w') : ZnB w w' vr vz vl nm ve := by
  obtain ⟨⟨h1, h2, h3⟩, ⟨h4, h5⟩, h6, h7⟩ := h
  have k : ∀ b j, b < w.heap.size + 2 → w'.cell? ⟨b, j, none⟩ = wx.cell? ⟨b, j, none⟩ := fun b j hb' => hb.cell (p := ⟨b, j, none⟩) hb'
  exact ⟨⟨(k _ _ (by omega)).trans h1, (k _ _ (by omega)).trans h2, (k _ _ (by omega)).trans h3⟩, ⟨(k _ _ (by omega)).trans h4, (k _ _ (by omega)).trans h5⟩, h6.trans (hb.mono (by omega)), Nat.le_trans h7 hb.size⟩
theorem ZnB.next {w wx w' : World} {vr vz vl : Value} {nm : ByteArray} {ve : Value} (h : ZnB w wx vr vz vl nm ve) (hb : Below wx.heap.size wx w') : ZnB w w' vr vz vl nm ve := h.low (hb.mono h.2.2.2)
theorem ZnB.row {w wx w' : World} {vr vz vl : Value} {nm : ByteArray} {ve : Value} {n sz : Nat} {e : TypeId} {v : Value} {xs : List Value} {o : Obj} (h : ZnB w wx vr vz vl nm ve) (ho : wx.ownsRow (w.heap.size + 2) e sz v n xs) (hg : (wx.alloc o).grownBy w' v.ownBlock) : ZnB w w' vr vz vl nm ve :=
  h.low (append_keep ho ((Below.refl _ _).alloc h.2.2.2 _) h.2.2.2 hg)
/-- ends that grow, beside the boxes. -/
structure UnS (w wx : World) (vr vz vl : Value) (nm : ByteArray) (ve vo : Value) (l : List Int) : Prop where
  zb : ZnB w wx vr vz vl nm ve
  rw : wx.ownsRow (w.heap.size + 2) 3 1 vo l.length (l.flatMap encJ)
theorem UnS.below {w wx w' : World} {vr vz vl : Value} {nm : ByteArray} {ve vo : Value} {l : List Int} (h : UnS w wx vr vz vl nm ve vo l) (hb : Below wx.heap.size wx w') : UnS w w' vr vz vl nm ve vo l :=
  ⟨h.zb.next hb, ownsRow_below h.rw hb (Nat.le_refl _)⟩
theorem UnS.out {w wx w' : World} {vr vz vl : Value} {nm : ByteArray} {ve vo v' : Value} {l : List Int} {y : Int} {o : Obj} {m : Nat} (h : UnS w wx vr vz vl nm ve vo l) (ho : w'.ownsRow (w.heap.size + 2) 3 1 v' m (l.flatMap encJ ++ encJ y)) (hm : m = l.length + 1) (hg : (wx.alloc o).grownBy w' vo.ownBlock) : UnS w w' vr vz vl nm ve v' (l ++ [y]) := by
  subst hm
  exact ⟨h.zb.row h.rw hg, own_snocG ho⟩
/-- an era's box, in the round. -/
structure UnR (w wx : World) (vr vz vl : Value) (nm : ByteArray) (ve vo : Value) (l : List Int) (B : Nat) (x : Ero) : Prop where
  u : UnS w wx vr vz vl nm ve vo l
  e : EroAt wx B 0 x
  z : B < wx.heap.size
theorem UnR.below {w wx w' : World} {vr vz vl : Value} {nm : ByteArray} {ve vo : Value} {l : List Int} {B : Nat} {x : Ero} (h : UnR w wx vr vz vl nm ve vo l B x) (hb : Below wx.heap.size wx w') : UnR w w' vr vz vl nm ve vo l B x :=
  ⟨h.u.below hb, h.e.below hb h.z, Nat.lt_of_lt_of_le h.z hb.size⟩
theorem UnR.new {w wx : World} {vr vz vl : Value} {nm : ByteArray} {ve vo : Value} {l : List Int} (h : UnS w wx vr vz vl nm ve vo l) (x : Ero) : UnR w (wx.alloc (.cells #[.int .i64 x.off, .string x.rl, .int .i64 x.sv, .string x.fm, .bool x.en, .int .i64 x.yr, .int .i64 x.un.mo, .int .i64 x.un.k, .int .i64 x.un.a, .int .i64 x.un.n, .int .i64 x.un.t, .int .i64 x.un.c] 36)) vr vz vl nm ve vo l wx.heap.size x :=
  ⟨h.below ((Below.refl _ _).alloc (Nat.le_refl _) _), EroAt.new _ _ _, by rw [size_alloc]; exact Nat.lt_succ_self _⟩
theorem EroAt.z {w : World} {B : Nat} {x : Ero} (h : EroAt w B 0 x) : w.cell? ⟨B, 0, none⟩ = some (.int .i64 x.off) ∧ w.cell? ⟨B, 1, none⟩ = some (.string x.rl) ∧ w.cell? ⟨B, 2, none⟩ = some (.int .i64 x.sv) ∧ w.cell? ⟨B, 3, none⟩ = some (.string x.fm) ∧ w.cell? ⟨B, 4, none⟩ = some (.bool x.en) ∧ w.cell? ⟨B, 5, none⟩ = some (.int .i64 x.yr) ∧ w.cell? ⟨B, 6, none⟩ = some (.int .i64 x.un.mo) ∧ w.cell? ⟨B, 7, none⟩ = some (.int .i64 x.un.k) ∧ w.cell? ⟨B, 8, none⟩ = some (.int .i64 x.un.a) ∧ w.cell? ⟨B, 9, none⟩ = some (.int .i64 x.un.n) ∧ w.cell? ⟨B, 10, none⟩ = some (.int .i64 x.un.t) ∧ w.cell? ⟨B, 11, none⟩ = some (.int .i64 x.un.c) := by
  unfold EroAt at h
  simpa only [Nat.zero_add] using h
theorem untL_succ (rules : List Rul) (l : List Ero) (k : Nat) (h : k + 1 < l.length) : (untL rules l).take (k + 1) = (untL rules l).take k ++ [endE rules (l[k]'(by omega))] := by
  have hl : (untL rules l).length = l.length - 1 := by unfold untL; rw [List.length_map, List.length_dropLast]
  rw [List.take_succ_eq_append_getElem (by omega)]
  congr 2
  unfold untL
  rw [List.getElem_map, List.getElem_dropLast]
theorem untL_len (rules : List Rul) (l : List Ero) : (untL rules l).length = l.length - 1 := by unfold untL; rw [List.length_map, List.length_dropLast]
set_option maxHeartbeats 8000000 in
set_option maxRecDepth 100000 in
theorem untils_any (s : Src) (nm : ByteArray) (xs : List Ero) (vr vz vl ve : Value) (w : World) (hs : SrcAt w vr vz vl s) (hT : Tab w) (hx : SlAt w 12 REro ve xs) (h1 : 1 ≤ xs.length) (h20 : xs.length ≤ 20) (hok : ∀ (k : Nat) (h : k + 1 < xs.length), EOk s (xs[k]'(by omega))) :
    Calls Tryd.prog 34 #[.agg #[vr, vz, vl], .agg #[.string nm, ve]] w fun e w' => ∃ v, e = .returned v ∧ w'.ownsRow (w.heap.size + 2) 3 1 v (untL s.rules xs).length ((untL s.rules xs).flatMap encJ) ∧ Below w.heap.size w w' := by
  obtain ⟨it, hit, ht0, ht1, ht2⟩ := info_parts info_intz
  obtain ⟨ae, ce, rfl, hl⟩ := hx.shape
  have hml := maxLen_eq _ hl
  have Z0 := Lib.hid (ZnB.new w vr vz vl nm (.slice ae xs.length ce))
  obtain ⟨W0, hW0⟩ : ∃ W0, W0 = (w.alloc (.cells #[vr, vz, vl] 26)).alloc (.cells #[.string nm, .slice ae xs.length ce] 39) := ⟨_, rfl⟩
  rw [← hW0] at Z0
  have HW := Lib.hid hW0
  have HS := Lib.hid hs
  have HT := Lib.hid hT
  have HX := Lib.hid hx
  have HO : Hid (∀ (k : Nat) (h : k + 1 < xs.length), EOk s (xs[k]'(by omega))) := hok
  obtain ⟨n, hn⟩ : ∃ n, xs.length = n + 1 := ⟨xs.length - 1, by omega⟩
  have hce : xs.length ≤ ce := by rcases hx with ⟨a, c, e, rfl⟩ | ⟨b, off, c, e, a1, a2, a3, -, -⟩
                                  · simp at h1
                                  · cases e; exact a2
  have hsl : wrap64 ((xs.length : Int) - 1) = (n : Int) := by rw [IntWalk.wrap64_in _ (by omega)]; omega
  have HN := Lib.hid hn
  have hnl : n ≤ xs.length := by omega
  have hn2 : n < xs.length := by omega
  have hn20 : n ≤ 19 := by omega
  clear hs hT hx hok hl hW0 hn
  go_enter Tryd.func34, Tryd.ntmps34
  go_upto_region 1 with fail
  rw [← HW.out]
  obtain ⟨g0, g1⟩ := Z0.out.2.1
  go_wp2_with fail
  clear g0 g1 HW hsl
  go_loopw [5, 22] (fun vo i wr => ∃ k : Nat, k ≤ n ∧ i = .int .i64 k ∧ Hid (UnS w wr vr vz vl nm (.slice ae xs.length ce) vo ((untL s.rules xs).take k))) (fun _ i _ => (n - intOf i).toNat)
  case atStart => exact ⟨0, Nat.zero_le _, rfl, Z0.out, World.ownsRow_nil _ _ _ _⟩
  case round =>
    obtain ⟨k, hk, rfl, UK⟩ := hrel
    by_cases hlt : k < n
    · have hki : (k : Int) < (n : Int) := by omega
      have hkx : k < xs.length := by omega
      obtain ⟨b, off, rfl, hb, ⟨d0, d1, d2, d3, d4, d5, d6, d7, d8, d9, d10, d11⟩, -⟩ := elemEro (HX.out.mono UK.out.zb.2.2.1 fun _ _ h => h) k hkx
      have HOk := Lib.hid (HO.out k (by have := HN.out; omega))
      have HSU := Lib.hid (untL_succ s.rules xs k (by have := HN.out; omega))
      generalize xs[k] = x at *
      obtain ⟨L, hL⟩ : ∃ L, L = (untL s.rules xs).take k := ⟨_, rfl⟩
      rw [← hL] at UK HSU
      have hLl : L.length = k := by rw [hL, List.length_take, untL_len]; have := HN.out; omega
      have HLl := Lib.hid hLl
      obtain ⟨ao, co, rfl⟩ := own_shape UK.out.rw
      have R1 := Lib.hid (UnR.new UK.out x)
      have hoo := HOk.out.r.o
      have hzw : w.heap.size + 2 ≤ wr.heap.size := UK.out.zb.2.2.2
      have HCH := Lib.hid (fun wx (hb : Below w.heap.size w wx) => changes_any s x vr vz vl wx (HS.out.mono hb) (HT.out.below hb) HOk.out.r)
      clear hL hLl
      by_cases hc : x.un.c = 0
      · have hcb : (x.un.c == 0) = true := by rw [hc]; rfl
        have HI1 : Hid (∀ wx, Below w.heap.size w wx → Calls Tryd.prog 73 #[.int .i64 x.yr, .agg #[.int .i64 x.un.mo, .int .i64 x.un.k, .int .i64 x.un.a, .int .i64 x.un.n, .int .i64 x.un.t, .int .i64 1], .int .i64 x.off, .int .i64 0] wx fun e w' => e = .returned (.tuple #[.int .i64 (unI x 1 0), .int .i64 0]) ∧ Below wx.heap.size wx w') := fun wx hb => by
          have hk := HOk.out.k
          rw [hc] at hk
          exact instant_ok _ _ _ _ _ _ _ _ _ wx (HT.out.below hb) (insE_of (chkM_one hk) HOk.out.r.o ⟨by decide, by decide⟩ HOk.out.f)
        have hsb := stL_bd s x (unI x 1 0 - 1) HOk.out.r.ok HOk.out.v
        have HSV : Hid (svE s.rules x = (stL s.rules x (trE s.rules x) (unI x 1 0 - 1)).1) := by show _ = _; unfold svE; rw [if_pos hc]
        have HEE : Hid (endE s.rules x = unI x x.un.c (svE s.rules x)) := rfl
        have HI2 : Hid (∀ wx, Below w.heap.size w wx → Calls Tryd.prog 73 #[.int .i64 x.yr, .agg #[.int .i64 x.un.mo, .int .i64 x.un.k, .int .i64 x.un.a, .int .i64 x.un.n, .int .i64 x.un.t, .int .i64 x.un.c], .int .i64 x.off, .int .i64 (stL s.rules x (trE s.rules x) (unI x 1 0 - 1)).1] wx fun e w' => e = .returned (.tuple #[.int .i64 (endE s.rules x), .int .i64 0]) ∧ Below wx.heap.size wx w') := fun wx hb => by
          rw [HEE.out, HSV.out]
          exact instant_ok _ _ _ _ _ _ _ _ _ wx (HT.out.below hb) (insE_of HOk.out.k HOk.out.r.o hsb HOk.out.f)
        have HST := Lib.hid (fun wx v (hb : Below w.heap.size w wx) (hv : SlAt wx 4 RChg v (trE s.rules x)) => state_any s x (unI x 1 0 - 1) vr vz vl v (trE s.rules x) wx (HS.out.mono hb) hv)
        have hIb : -3000000000 ≤ unI x 1 0 ∧ unI x 1 0 ≤ 5000000000 := by
          have h1 := fnd_bd _ _ _ _ _ HOk.out.f
          obtain ⟨-, -, -, -, -, ht0, ht1⟩ := chkM_zero HOk.out.k
          unfold unI ins
          simp
          omega
        obtain ⟨hIb1, hIb2⟩ := hIb
        generalize stL s.rules x (trE s.rules x) (unI x 1 0 - 1) = P at *
        obtain ⟨P1, P2⟩ := P
        clear hc hsb hoo HSV HEE
        generalize unI x 1 0 = T at *
        generalize endE s.rules x = E at *
        have tw1 : IntKind.i64.wrap (T - 1) = T - 1 := IntWalk.i64_in _ (by omega)
        go_wp2_with fail
        refine (HI1.out _ (R1.out.u.zb.2.2.1.alloc (by rw [size_alloc]; omega) _)).mono ?_
        rintro e w3 ⟨rfl, hb3⟩
        have R3 := Lib.hid ((R1.out.below ((Below.refl _ _).alloc (Nat.le_refl _) _)).below hb3)
        clear hb3 d0 d1 d2 d3 d4 d5 d6 d7 d8 d9 d10 d11 R1 UK HI1
        obtain ⟨g0, g1, g2, g3, g4, g5, g6, g7, g8, g9, g10, g11⟩ := R3.out.e.z
        obtain ⟨q0, q1, q2⟩ := R3.out.u.zb.1
        have hz3 : w.heap.size + 1 < w3.heap.size := R3.out.u.zb.2.2.2
        have hz4 : wr.heap.size < w3.heap.size := R3.out.z
        go_wp2
        go_region_held3 (fun w' => w'.cell? ⟨w.heap.size, 0, none⟩ = some vr ∧ w'.cell? ⟨w.heap.size, 1, none⟩ = some vz ∧ w'.cell? ⟨w.heap.size, 2, none⟩ = some vl ∧ w'.cell? ⟨wr.heap.size, 0, none⟩ = some (.int .i64 x.off) ∧ w'.cell? ⟨wr.heap.size, 1, none⟩ = some (.string x.rl) ∧ w'.cell? ⟨wr.heap.size, 2, none⟩ = some (.int .i64 x.sv) ∧ w'.cell? ⟨wr.heap.size, 3, none⟩ = some (.string x.fm) ∧ w'.cell? ⟨wr.heap.size, 4, none⟩ = some (.bool x.en) ∧ w'.cell? ⟨wr.heap.size, 5, none⟩ = some (.int .i64 x.yr) ∧ w'.cell? ⟨wr.heap.size, 6, none⟩ = some (.int .i64 x.un.mo) ∧ w'.cell? ⟨wr.heap.size, 7, none⟩ = some (.int .i64 x.un.k) ∧ w'.cell? ⟨wr.heap.size, 8, none⟩ = some (.int .i64 x.un.a) ∧ w'.cell? ⟨wr.heap.size, 9, none⟩ = some (.int .i64 x.un.n) ∧ w'.cell? ⟨wr.heap.size, 10, none⟩ = some (.int .i64 x.un.t) ∧ w'.cell? ⟨wr.heap.size, 11, none⟩ = some (.int .i64 x.un.c)) (first | (with_reducible exact ⟨q0, q1, q2, g0, g1, g2, g3, g4, g5, g6, g7, g8, g9, g10, g11⟩) | (with_reducible exact ⟨r0, r1, r2, s0, s1, s2, s3, s4, s5, s6, s7, s8, s9, s10, s11⟩) | (with_reducible exact ⟨t0, t1, t2, u0, u1, u2, u3, u4, u5, u6, u7, u8, u9, u10, u11⟩) | go_keep) (first | (go_at_call 36; refine (HCH.out _ (R3.out.u.zb.2.2.1.drew)).mono ?_; rintro e w9 ⟨v9, rfl, h9, hb9⟩; have R9 := Lib.hid ((R3.out.below ((Below.refl _ _).drew)).below hb9); obtain ⟨s0, s1, s2, s3, s4, s5, s6, s7, s8, s9, s10, s11⟩ := R9.out.e.z; obtain ⟨r0, r1, r2⟩ := R9.out.u.zb.1; clear hb9) | (go_at_call 35; refine (HST.out _ _ R9.out.u.zb.2.2.1 h9).mono ?_; rintro e w10 ⟨rfl, hb10⟩; have R10 := Lib.hid (R9.out.below hb10); obtain ⟨u0, u1, u2, u3, u4, u5, u6, u7, u8, u9, u10, u11⟩ := R10.out.e.z; obtain ⟨t0, t1, t2⟩ := R10.out.u.zb.1; clear hb10))
        have hz5 : w.heap.size + 1 < w10.heap.size := R10.out.u.zb.2.2.2
        have hz6 : wr.heap.size < w10.heap.size := R10.out.z
        clear q0 q1 q2 g0 g1 g2 g3 g4 g5 g6 g7 g8 g9 g10 g11 r0 r1 r2 s0 s1 s2 s3 s4 s5 s6 s7 s8 s9 s10 s11 R3 R9 h9 HCH HST
        go_wp2_with fail
        refine (HI2.out _ R10.out.u.zb.2.2.1).mono ?_
        rintro e w11 ⟨rfl, hb11⟩
        have R11 := Lib.hid (R10.out.below hb11)
        clear hb11 t0 t1 t2 u0 u1 u2 u3 u4 u5 u6 u7 u8 u9 u10 u11 R10 HI2
        have HTK : Hid ((untL s.rules xs).take (k + 1) = L ++ [E]) := HSU
        have hL2 : L.length ≤ 19 := by rw [HLl.out]; omega
        go_wp2_with (at_builtin; refine wpList_append_own _ rfl (.tmp 63) (.tmp 65) 77 rfl (w.heap.size + 2) 3 it (.int .i64 0) 1 8 Tryd.underlying77 hit ht0 ht1 ht2 rfl (by decide) _ _ _ rfl (R11.out.u.rw.alloc _) ⟨w11.heap.size, 0, none⟩ 1 1 (encJ E) rfl rfl (cells_at _ _ _ _ _ rfl rfl) (by intro u hu; simp [encJ] at hu; subst hu; rfl) (by unfold maxLen; omega) (by omega) (by rw [size_alloc]; exact Nat.le_succ_of_le R11.out.u.zb.2.2.2) ?_; intro v4 w4 hown hgrow _; have U4 := Lib.hid (R11.out.u.out hown rfl hgrow); obtain ⟨a4, c4, rfl⟩ := own_shape hown; clear hown hgrow)
        go_roundw
        case rel => exact ⟨k + 1, by omega, by go_num, by rw [HTK.out]; exact U4⟩
        case measure => simp [intOf]; omega
      · have hcb : (x.un.c == 0) = false := by simpa using hc
        have HI2 : Hid (∀ wx, Below w.heap.size w wx → Calls Tryd.prog 73 #[.int .i64 x.yr, .agg #[.int .i64 x.un.mo, .int .i64 x.un.k, .int .i64 x.un.a, .int .i64 x.un.n, .int .i64 x.un.t, .int .i64 x.un.c], .int .i64 x.off, .int .i64 0] wx fun e w' => e = .returned (.tuple #[.int .i64 (endE s.rules x), .int .i64 0]) ∧ Below wx.heap.size wx w') := fun wx hb => by
          have e : endE s.rules x = unI x x.un.c 0 := by unfold endE svE; rw [if_neg hc]
          rw [e]
          exact instant_ok _ _ _ _ _ _ _ _ _ wx (HT.out.below hb) (insE_of HOk.out.k HOk.out.r.o ⟨by decide, by decide⟩ HOk.out.f)
        clear hc hoo
        generalize endE s.rules x = E at *
        go_wp2_with fail
        refine (HI2.out _ (R1.out.u.zb.2.2.1.alloc (by rw [size_alloc]; omega) _)).mono ?_
        rintro e w11 ⟨rfl, hb11⟩
        have R11 := Lib.hid ((R1.out.below ((Below.refl _ _).alloc (Nat.le_refl _) _)).below hb11)
        clear hb11 d0 d1 d2 d3 d4 d5 d6 d7 d8 d9 d10 d11 R1 UK HI2
        have HTK : Hid ((untL s.rules xs).take (k + 1) = L ++ [E]) := HSU
        have hL2 : L.length ≤ 19 := by rw [HLl.out]; omega
        go_wp2_with (at_builtin; refine wpList_append_own _ rfl (.tmp 63) (.tmp 65) 77 rfl (w.heap.size + 2) 3 it (.int .i64 0) 1 8 Tryd.underlying77 hit ht0 ht1 ht2 rfl (by decide) _ _ _ rfl (R11.out.u.rw.alloc _) ⟨w11.heap.size, 0, none⟩ 1 1 (encJ E) rfl rfl (cells_at _ _ _ _ _ rfl rfl) (by intro u hu; simp [encJ] at hu; subst hu; rfl) (by unfold maxLen; omega) (by omega) (by rw [size_alloc]; exact Nat.le_succ_of_le R11.out.u.zb.2.2.2) ?_; intro v4 w4 hown hgrow _; have U4 := Lib.hid (R11.out.u.out hown rfl hgrow); obtain ⟨a4, c4, rfl⟩ := own_shape hown; clear hown hgrow)
        go_roundw
        case rel => exact ⟨k + 1, by omega, by go_num, by rw [HTK.out]; exact U4⟩
        case measure => simp [intOf]; omega
    · obtain rfl : k = n := by omega
      have HTL : Hid ((untL s.rules xs).take k = untL s.rules xs) := by
        show _ = _
        rw [List.take_of_length_le]
        rw [untL_len]
        have := HN.out
        omega
      rw [HTL.out] at UK
      have hnl2 : ¬ (k : Int) < ((xs.length - 1 : Nat) : Int) := by have := HN.out; omega
      clear hlt hk
      go_wp2
      go_ret
      exact ⟨_, rfl, UK.out.rw, UK.out.zb.2.2.1⟩
end Go.Proofs.YtdpbedkppomffaaDoor
