/-
  source: rules.
-/
import Derived.Test.YtbikdlcjbigafaaGreatDoorJRdG
namespace Go.Proofs.YtbikdlcjbigafaaGreatDoor
set_option linter.unusedVariables false
set_option linter.unusedSimpArgs false
open Go.ChangeShapes Go.WideShapes Go.ChangeAt Go.RowKit Civ

theorem streqS (a b : ByteArray) : (a.toList == b.toList) = decide (a = b) := by
  rw [Bool.eq_iff_iff, beq_iff_eq, decide_eq_true_iff]
  constructor
  · intro h
    rw [ByteArray.toList_eq, ByteArray.toList_eq] at h
    exact Go.WideShapes.bytes_inj h
  · rintro rfl; rfl
def RSt (cs : List Value) (x : ByteArray) : Prop := cs = [.string x]
theorem entS {w : World} {aa : Option Addr} {n ca : Nat} {xs : List ByteArray} (h : SlAt w 1 RSt (.slice aa n ca) xs) (k : Nat) (hk : k < xs.length) :
    ∃ b off, aa = some ⟨b, off, none⟩ ∧ b < w.heap.size ∧ w.cell? ⟨b, off + k, none⟩ = some (.string xs[k]) := by
  rcases h with ⟨a, cap, _, rfl⟩ | ⟨b, off, cap, e, h0, h1, h2, h3, h4⟩
  · simp at hk
  · obtain ⟨cs, hl, rfl, hc⟩ := h4 k hk
    simp only [Value.slice.injEq] at e
    obtain ⟨rfl, -, -⟩ := e
    refine ⟨b, off, rfl, h3, ?_⟩
    have := hc 0 (by omega)
    rw [Nat.mul_one, Nat.add_zero] at this
    exact this
def ruA (nm : ByteArray) (fr tq mo k a n t c sv : Int) (lt : ByteArray) : Array Value := #[.string nm, .int .i64 fr, .int .i64 tq, .int .i64 mo, .int .i64 k, .int .i64 a, .int .i64 n, .int .i64 t, .int .i64 c, .int .i64 sv, .string lt]
/-- a rule's box, beside the one of the result. -/
structure RuB (w wx : World) (B : Nat) (cs : Array Value) : Prop where
  r : BxO wx w.heap.size (ruA ⟨#[]⟩ 0 0 0 0 0 0 0 0 0 ⟨#[]⟩) 58
  x : BxO wx B cs 58
  b : Below w.heap.size w wx
  n : w.heap.size < B
theorem RuB.next {w wx w' : World} {B : Nat} {cs : Array Value} (h : RuB w wx B cs) (hb : Below wx.heap.size wx w') : RuB w w' B cs :=
  ⟨(hb.block _ h.r.lt).trans h.r, (hb.block _ h.x.lt).trans h.x, h.b.trans (hb.mono h.b.size), h.n⟩
theorem RuB.put {w wx : World} {B : Nat} {cs cs' : Array Value} (h : RuB w wx B cs) (i : Nat) (u : Value) (hx : BxO (wx.setCell ⟨B, i, none⟩ u) B cs' 58) : RuB w (wx.setCell ⟨B, i, none⟩ u) B cs' :=
  ⟨h.r.other (Nat.ne_of_lt h.n) _ _, hx, h.b.setCell (p := ⟨B, i, none⟩) (Nat.le_of_lt h.n) _, h.n⟩
section
variable {w wx : World} {B : Nat} {nm lt : ByteArray} {fr tq mo k a n t c sv : Int}
theorem RuB.sTo (h : RuB w wx B (ruA nm fr tq mo k a n t c sv lt)) (u : Int) : RuB w (wx.setCell ⟨B, 2, none⟩ (.int .i64 u)) B (ruA nm fr u mo k a n t c sv lt) :=
  h.put _ _ (by simp [BxO, World.setCell, Array.getElem?_modify, show wx.heap[B]? = _ from h.x, ruA])
theorem RuB.sMo (h : RuB w wx B (ruA nm fr tq mo k a n t c sv lt)) (u : Int) : RuB w (wx.setCell ⟨B, 3, none⟩ (.int .i64 u)) B (ruA nm fr tq u k a n t c sv lt) :=
  h.put _ _ (by simp [BxO, World.setCell, Array.getElem?_modify, show wx.heap[B]? = _ from h.x, ruA])
theorem RuB.sK (h : RuB w wx B (ruA nm fr tq mo k a n t c sv lt)) (u : Int) : RuB w (wx.setCell ⟨B, 4, none⟩ (.int .i64 u)) B (ruA nm fr tq mo u a n t c sv lt) :=
  h.put _ _ (by simp [BxO, World.setCell, Array.getElem?_modify, show wx.heap[B]? = _ from h.x, ruA])
theorem RuB.sA (h : RuB w wx B (ruA nm fr tq mo k a n t c sv lt)) (u : Int) : RuB w (wx.setCell ⟨B, 5, none⟩ (.int .i64 u)) B (ruA nm fr tq mo k u n t c sv lt) :=
  h.put _ _ (by simp [BxO, World.setCell, Array.getElem?_modify, show wx.heap[B]? = _ from h.x, ruA])
theorem RuB.sN (h : RuB w wx B (ruA nm fr tq mo k a n t c sv lt)) (u : Int) : RuB w (wx.setCell ⟨B, 6, none⟩ (.int .i64 u)) B (ruA nm fr tq mo k a u t c sv lt) :=
  h.put _ _ (by simp [BxO, World.setCell, Array.getElem?_modify, show wx.heap[B]? = _ from h.x, ruA])
theorem RuB.sT (h : RuB w wx B (ruA nm fr tq mo k a n t c sv lt)) (u : Int) : RuB w (wx.setCell ⟨B, 7, none⟩ (.int .i64 u)) B (ruA nm fr tq mo k a n u c sv lt) :=
  h.put _ _ (by simp [BxO, World.setCell, Array.getElem?_modify, show wx.heap[B]? = _ from h.x, ruA])
theorem RuB.sC (h : RuB w wx B (ruA nm fr tq mo k a n t c sv lt)) (u : Int) : RuB w (wx.setCell ⟨B, 8, none⟩ (.int .i64 u)) B (ruA nm fr tq mo k a n t u sv lt) :=
  h.put _ _ (by simp [BxO, World.setCell, Array.getElem?_modify, show wx.heap[B]? = _ from h.x, ruA])
theorem RuB.sSv (h : RuB w wx B (ruA nm fr tq mo k a n t c sv lt)) (u : Int) : RuB w (wx.setCell ⟨B, 9, none⟩ (.int .i64 u)) B (ruA nm fr tq mo k a n t c u lt) :=
  h.put _ _ (by simp [BxO, World.setCell, Array.getElem?_modify, show wx.heap[B]? = _ from h.x, ruA])
theorem RuB.sLt (h : RuB w wx B (ruA nm fr tq mo k a n t c sv lt)) (u : ByteArray) : RuB w (wx.setCell ⟨B, 10, none⟩ (.string u)) B (ruA nm fr tq mo k a n t c sv u) :=
  h.put _ _ (by simp [BxO, World.setCell, Array.getElem?_modify, show wx.heap[B]? = _ from h.x, ruA])
theorem RuB.done (h : RuB w wx B (ruA nm fr tq mo k a n t c sv lt)) (u0 u1 u2 u3 u4 u5 u6 u7 u8 u9 u10 : Value) :
    Below w.heap.size w (((((((((((wx.setCell ⟨w.heap.size, 0, none⟩ u0).setCell ⟨w.heap.size, 1, none⟩ u1).setCell ⟨w.heap.size, 2, none⟩ u2).setCell ⟨w.heap.size, 3, none⟩ u3).setCell ⟨w.heap.size, 4, none⟩ u4).setCell ⟨w.heap.size, 5, none⟩ u5).setCell ⟨w.heap.size, 6, none⟩ u6).setCell ⟨w.heap.size, 7, none⟩ u7).setCell ⟨w.heap.size, 8, none⟩ u8).setCell ⟨w.heap.size, 9, none⟩ u9).setCell ⟨w.heap.size, 10, none⟩ u10) :=
  ((((((((((h.b.setCell (p := ⟨w.heap.size, 0, none⟩) (Nat.le_refl _) _).setCell (p := ⟨w.heap.size, 1, none⟩) (Nat.le_refl _) _).setCell (p := ⟨w.heap.size, 2, none⟩) (Nat.le_refl _) _).setCell (p := ⟨w.heap.size, 3, none⟩) (Nat.le_refl _) _).setCell (p := ⟨w.heap.size, 4, none⟩) (Nat.le_refl _) _).setCell (p := ⟨w.heap.size, 5, none⟩) (Nat.le_refl _) _).setCell (p := ⟨w.heap.size, 6, none⟩) (Nat.le_refl _) _).setCell (p := ⟨w.heap.size, 7, none⟩) (Nat.le_refl _) _).setCell (p := ⟨w.heap.size, 8, none⟩) (Nat.le_refl _) _).setCell (p := ⟨w.heap.size, 9, none⟩) (Nat.le_refl _) _).setCell (p := ⟨w.heap.size, 10, none⟩) (Nat.le_refl _) _
theorem RuB.eleven {w : World} {b : Nat} (h : BxO w b (ruA nm fr tq mo k a n t c sv lt) 58) : (w.cell? ⟨b, 0, none⟩ = some (.string nm) ∧ w.cell? ⟨b, 1, none⟩ = some (.int .i64 fr) ∧ w.cell? ⟨b, 2, none⟩ = some (.int .i64 tq) ∧ w.cell? ⟨b, 3, none⟩ = some (.int .i64 mo) ∧ w.cell? ⟨b, 4, none⟩ = some (.int .i64 k) ∧ w.cell? ⟨b, 5, none⟩ = some (.int .i64 a) ∧ w.cell? ⟨b, 6, none⟩ = some (.int .i64 n) ∧ w.cell? ⟨b, 7, none⟩ = some (.int .i64 t) ∧ w.cell? ⟨b, 8, none⟩ = some (.int .i64 c) ∧ w.cell? ⟨b, 9, none⟩ = some (.int .i64 sv) ∧ w.cell? ⟨b, 10, none⟩ = some (.string lt)) ∧ (w.frozen? ⟨b, 0, none⟩ = false ∧ w.frozen? ⟨b, 1, none⟩ = false ∧ w.frozen? ⟨b, 2, none⟩ = false ∧ w.frozen? ⟨b, 3, none⟩ = false ∧ w.frozen? ⟨b, 4, none⟩ = false ∧ w.frozen? ⟨b, 5, none⟩ = false ∧ w.frozen? ⟨b, 6, none⟩ = false ∧ w.frozen? ⟨b, 7, none⟩ = false ∧ w.frozen? ⟨b, 8, none⟩ = false ∧ w.frozen? ⟨b, 9, none⟩ = false ∧ w.frozen? ⟨b, 10, none⟩ = false) ∧ b < w.heap.size :=
  ⟨⟨h.cell 0, h.cell 1, h.cell 2, h.cell 3, h.cell 4, h.cell 5, h.cell 6, h.cell 7, h.cell 8, h.cell 9, h.cell 10⟩, ⟨h.frozen 0, h.frozen 1, h.frozen 2, h.frozen 3, h.frozen 4, h.frozen 5, h.frozen 6, h.frozen 7, h.frozen 8, h.frozen 9, h.frozen 10⟩, h.lt⟩
end
theorem BxO.set11 {W : World} {b : Nat} {u0 u1 u2 u3 u4 u5 u6 u7 u8 u9 u10 : Value} {t : TypeId} (h : BxO W b #[u0, u1, u2, u3, u4, u5, u6, u7, u8, u9, u10] t) (v0 v1 v2 v3 v4 v5 v6 v7 v8 v9 v10 : Value) : BxO (((((((((((W.setCell ⟨b, 0, none⟩ v0).setCell ⟨b, 1, none⟩ v1).setCell ⟨b, 2, none⟩ v2).setCell ⟨b, 3, none⟩ v3).setCell ⟨b, 4, none⟩ v4).setCell ⟨b, 5, none⟩ v5).setCell ⟨b, 6, none⟩ v6).setCell ⟨b, 7, none⟩ v7).setCell ⟨b, 8, none⟩ v8).setCell ⟨b, 9, none⟩ v9).setCell ⟨b, 10, none⟩ v10) b #[v0, v1, v2, v3, v4, v5, v6, v7, v8, v9, v10] t := by
  simp [BxO, World.setCell, Array.getElem?_modify, show W.heap[b]? = _ from h]
theorem set11_below {w0 wx : World} {C D : Nat} (h : Below C w0 wx) (hD : C ≤ D) (v0 v1 v2 v3 v4 v5 v6 v7 v8 v9 v10 : Value) : Below C w0 (((((((((((wx.setCell ⟨D, 0, none⟩ v0).setCell ⟨D, 1, none⟩ v1).setCell ⟨D, 2, none⟩ v2).setCell ⟨D, 3, none⟩ v3).setCell ⟨D, 4, none⟩ v4).setCell ⟨D, 5, none⟩ v5).setCell ⟨D, 6, none⟩ v6).setCell ⟨D, 7, none⟩ v7).setCell ⟨D, 8, none⟩ v8).setCell ⟨D, 9, none⟩ v9).setCell ⟨D, 10, none⟩ v10) :=
  (((((((((((h.setCell (p := ⟨D, 0, none⟩) hD _).setCell (p := ⟨D, 1, none⟩) hD _).setCell (p := ⟨D, 2, none⟩) hD _).setCell (p := ⟨D, 3, none⟩) hD _).setCell (p := ⟨D, 4, none⟩) hD _).setCell (p := ⟨D, 5, none⟩) hD _).setCell (p := ⟨D, 6, none⟩) hD _).setCell (p := ⟨D, 7, none⟩) hD _).setCell (p := ⟨D, 8, none⟩) hD _).setCell (p := ⟨D, 9, none⟩) hD _).setCell (p := ⟨D, 10, none⟩) hD _)
theorem RuB.made {w W0 w2 : World} (h : BxO W0 w.heap.size (ruA ⟨#[]⟩ 0 0 0 0 0 0 0 0 0 ⟨#[]⟩) 58) (hb : Below w.heap.size w W0) (hb2 : Below W0.heap.size W0 w2) (nm : ByteArray) (fr : Int) :
    RuB w (w2.alloc (.cells #[.string nm, .int .i64 fr, .int .i64 0, .int .i64 0, .int .i64 0, .int .i64 0, .int .i64 0, .int .i64 0, .int .i64 0, .int .i64 0, .string ⟨#[]⟩] 58)) w2.heap.size (ruA nm fr 0 0 0 0 0 0 0 0 ⟨#[]⟩) :=
  ⟨BxO.alloc (show BxO _ _ _ _ from (hb2.block _ h.lt).trans h) _, BxO.new _ _ _, (hb.trans (hb2.mono hb.size)).alloc (Nat.le_trans hb.size hb2.size) _, Nat.lt_of_lt_of_le h.lt hb2.size⟩
theorem RuB.puts {w W0 w2 : World} {D : Nat} (h : BxO W0 w.heap.size (ruA ⟨#[]⟩ 0 0 0 0 0 0 0 0 0 ⟨#[]⟩) 58) (hb : Below w.heap.size w W0) (hb2 : Below W0.heap.size W0 w2) (hD : W0.heap.size ≤ D) (hx : BxO w2 D #[.string ⟨#[]⟩, .int .i64 0, .int .i64 0, .int .i64 0, .int .i64 0, .int .i64 0, .int .i64 0, .int .i64 0, .int .i64 0, .int .i64 0, .string ⟨#[]⟩] 58) (nm : ByteArray) (fr : Int) :
    RuB w (((((((((((w2.setCell ⟨D, 0, none⟩ (.string nm)).setCell ⟨D, 1, none⟩ (.int .i64 fr)).setCell ⟨D, 2, none⟩ (.int .i64 0)).setCell ⟨D, 3, none⟩ (.int .i64 0)).setCell ⟨D, 4, none⟩ (.int .i64 0)).setCell ⟨D, 5, none⟩ (.int .i64 0)).setCell ⟨D, 6, none⟩ (.int .i64 0)).setCell ⟨D, 7, none⟩ (.int .i64 0)).setCell ⟨D, 8, none⟩ (.int .i64 0)).setCell ⟨D, 9, none⟩ (.int .i64 0)).setCell ⟨D, 10, none⟩ (.string ⟨#[]⟩)) D (ruA nm fr 0 0 0 0 0 0 0 0 ⟨#[]⟩) :=
  ⟨((set11_below hb2 hD _ _ _ _ _ _ _ _ _ _ _).block _ h.lt).trans h, hx.set11 _ _ _ _ _ _ _ _ _ _ _, hb.trans ((set11_below hb2 hD _ _ _ _ _ _ _ _ _ _ _).mono hb.size), Nat.lt_of_lt_of_le h.lt hD⟩
theorem ten_of {l : List ByteArray} (h : l.length = 10) : ∃ s0 s1 s2 s3 s4 s5 s6 s7 s8 s9, l = [s0, s1, s2, s3, s4, s5, s6, s7, s8, s9] := by
  match l, h with
  | [a, b, c, d, e, f, g, h, i, j], _ => exact ⟨a, b, c, d, e, f, g, h, i, j, rfl⟩
theorem rulS_len {ws : List ByteArray} (h : ¬ ws.length = 10) : rulS ws = 4 := by unfold rulS; rw [if_pos (.inl h)]
theorem RuB.start {w : World} : BxO (w.alloc (.cells #[.string ⟨#[]⟩, .int .i64 0, .int .i64 0, .int .i64 0, .int .i64 0, .int .i64 0, .int .i64 0, .int .i64 0, .int .i64 0, .int .i64 0, .string ⟨#[]⟩] 58)) w.heap.size (ruA ⟨#[]⟩ 0 0 0 0 0 0 0 0 0 ⟨#[]⟩) 58 := BxO.new _ _ _
set_option maxRecDepth 100000 in
set_option maxHeartbeats 4000000 in
theorem rule_any_s (ws : List ByteArray) (v : Value) (w : World) (hV : SrV w) (hv : SlAt w 1 RSt v ws) (hz : ∀ x ∈ ws, x.size ≤ 1000000) :
    Calls Tryz.prog 79 #[v] w fun e w' => e = PnE (rulS ws) (.agg (ruA (rulV ws).nm (rulV ws).fr (rulV ws).to (rulV ws).at'.mo (rulV ws).at'.k (rulV ws).at'.a (rulV ws).at'.n (rulV ws).at'.t (rulV ws).at'.c (rulV ws).sv (rulV ws).lt)) ∧ Below w.heap.size w w' := by
  obtain ⟨W0, hW0⟩ : ∃ W0, W0 = w.alloc (.cells #[.string ⟨#[]⟩, .int .i64 0, .int .i64 0, .int .i64 0, .int .i64 0, .int .i64 0, .int .i64 0, .int .i64 0, .int .i64 0, .int .i64 0, .string ⟨#[]⟩] 58) := ⟨_, rfl⟩
  have R0 : Hid (BxO W0 w.heap.size (ruA ⟨#[]⟩ 0 0 0 0 0 0 0 0 0 ⟨#[]⟩) 58) := by show BxO _ _ _ _; rw [hW0]; exact RuB.start
  have B0 : Hid (Below w.heap.size w W0) := by show Below _ _ _; rw [hW0]; exact (Below.refl _ _).alloc (Nat.le_refl _) _
  have HW := Lib.hid hW0
  have HV := Lib.hid hV
  obtain ⟨a, c, rfl, hc⟩ := hv.shape
  clear hW0 hV
  by_cases hlen : ws.length = 10
  · obtain ⟨s0, s1, s2, s3, s4, s5, s6, s7, s8, s9, rfl⟩ := ten_of hlen
    obtain ⟨b, off, rfl, hb, -⟩ := entS hv 0 (by simp)
    have HB := Lib.hid hb
    have HWC : Hid (∀ wx, Below w.heap.size w wx → wx.cell? ⟨b, off + 1, none⟩ = some (.string s1) ∧ wx.cell? ⟨b, off + 2, none⟩ = some (.string s2) ∧ wx.cell? ⟨b, off + 3, none⟩ = some (.string s3) ∧ wx.cell? ⟨b, off + 4, none⟩ = some (.string s4) ∧ wx.cell? ⟨b, off + 5, none⟩ = some (.string s5) ∧ wx.cell? ⟨b, off + 6, none⟩ = some (.string s6) ∧ wx.cell? ⟨b, off + 7, none⟩ = some (.string s7) ∧ wx.cell? ⟨b, off + 8, none⟩ = some (.string s8) ∧ wx.cell? ⟨b, off + 9, none⟩ = some (.string s9)) := by
      show ∀ wx, _ → _
      intro wx hx
      have k : ∀ i (h : i < 10), wx.cell? ⟨b, off + i, none⟩ = some (.string ([s0, s1, s2, s3, s4, s5, s6, s7, s8, s9][i]'h)) := fun i h => by
        obtain ⟨b', o', e, -, q⟩ := entS hv i h
        simp only [Option.some.injEq, Addr.mk.injEq, and_true] at e
        obtain ⟨rfl, rfl⟩ := e
        exact (hx.cell (p := ⟨b, off + i, none⟩) hb).trans q
      exact ⟨k 1 (by decide), k 2 (by decide), k 3 (by decide), k 4 (by decide), k 5 (by decide), k 6 (by decide), k 7 (by decide), k 8 (by decide), k 9 (by decide)⟩
    have HZ : Hid (∀ x ∈ [s0, s1, s2, s3, s4, s5, s6, s7, s8, s9], x.size ≤ 1000000 ∧ x.size ≤ maxLen) := fun x hx => ⟨hz x hx, by have := hz x hx; unfold maxLen; omega⟩
    have HNM := Lib.hid (fun wx => name_any_s s1 wx (HZ.out s1 (by simp)).2)
    have HY2 := Lib.hid (fun wx => ryear_any s2 wx (HZ.out s2 (by simp)).2)
    have HY3 := Lib.hid (fun wx => ryear_any s3 wx (HZ.out s3 (by simp)).2)
    have HMO := Lib.hid (fun wx (h : SrV wx) => month_any s5 wx h)
    have HDY := Lib.hid (fun wx (h : SrV wx) => day_any_s s6 wx h (HZ.out s6 (by simp)).1)
    have HTM := Lib.hid (fun wx (h : SrV wx) => time_any s7 wx h (HZ.out s7 (by simp)).1)
    have HOF := Lib.hid (fun wx (h : SrV wx) => offset_any s8 wx h (HZ.out s8 (by simp)).1)
    have HLT := Lib.hid (fun wx => letters_any s9 wx (HZ.out s9 (by simp)).2)
    have HRU : Hid (rulS [s0, s1, s2, s3, s4, s5, s6, s7, s8, s9] = if nmE s1 ≠ 0 then 4 else if (yrS s2).2 ≠ 0 then (yrS s2).2 else if (toS [s0, s1, s2, s3, s4, s5, s6, s7, s8, s9]).2 ≠ 0 then (toS [s0, s1, s2, s3, s4, s5, s6, s7, s8, s9]).2 else if (toS [s0, s1, s2, s3, s4, s5, s6, s7, s8, s9]).1 < (yrS s2).1 then 8 else if s4 ≠ dashS then 4 else if (monS s5).2 ≠ 0 then (monS s5).2 else if (dyS s6).2 ≠ 0 then (dyS s6).2 else if (tmS s7).2 ≠ 0 then (tmS s7).2 else if (offS s8).2 ≠ 0 then (offS s8).2 else if s9 ≠ dashS ∧ letsB s9 = false then 4 else 0) := by
      show _ = _
      unfold rulS
      rcases hn : nameS s1 with _ | _
      · rw [if_pos (.inr hn), if_pos (by rw [nmE_no hn]; decide)]
      · have e1 : ¬ nmE s1 ≠ 0 := by rw [nmE_yes hn]; decide
        have e2 : ¬ ([s0, s1, s2, s3, s4, s5, s6, s7, s8, s9].length ≠ 10 ∨ nameS (wAt [s0, s1, s2, s3, s4, s5, s6, s7, s8, s9] 1) = false) := by
          rintro (h | h)
          · exact h rfl
          · rw [show wAt [s0, s1, s2, s3, s4, s5, s6, s7, s8, s9] 1 = s1 from rfl, hn] at h; cases h
        simp only [if_neg e1, if_neg e2]
        rfl
    have HTO : Hid (toS [s0, s1, s2, s3, s4, s5, s6, s7, s8, s9] = if s3 = bx [111, 110, 108, 121] then ((yrS s2).1, 0) else if s3 = bx [109, 97, 120] then (2099, 0) else yrS s3) := rfl
    have HRV : Hid (rulV [s0, s1, s2, s3, s4, s5, s6, s7, s8, s9] = ⟨s1, (yrS s2).1, (toS [s0, s1, s2, s3, s4, s5, s6, s7, s8, s9]).1, ⟨(monS s5).1, (dyS s6).1.k, (dyS s6).1.a, (dyS s6).1.n, (tmS s7).1.1, (tmS s7).1.2⟩, (offS s8).1, if s9 = dashS then ByteArray.empty else s9⟩) := rfl
    generalize toS [s0, s1, s2, s3, s4, s5, s6, s7, s8, s9] = TO at *
    generalize yrS s2 = Y2 at *
    generalize yrS s3 = Y3 at *
    generalize monS s5 = MO at *
    generalize dyS s6 = DY at *
    generalize tmS s7 = TM at *
    generalize offS s8 = OF at *
    generalize rulS [s0, s1, s2, s3, s4, s5, s6, s7, s8, s9] = RS at *
    generalize rulV [s0, s1, s2, s3, s4, s5, s6, s7, s8, s9] = RV at *
    clear hv hz hlen hc HZ
    obtain ⟨y, Ey⟩ := Y2
    obtain ⟨k1, k2, k3, k4, k5, k6, k7, k8, k9⟩ := HWC.out _ B0.out
    have hz0 : w.heap.size < W0.heap.size := R0.out.lt
    have hbw : b < W0.heap.size := by have := HB.out; omega
    go_enter Tryz.func79, Tryz.ntmps79
    go_upto_region 1 with fail
    rw [← HW.out]
    clear HW
    go_wp2_with (go_at_call 80; refine (need_yes _ _).mono ?_; rintro e w' ⟨rfl, rfl⟩)
    by_cases hN : nmE s1 = 0
    · by_cases hE : Ey = 0
      · subst hE
        have HNM2 : Hid (∀ wx, Calls Tryz.prog 81 #[.string s1] wx fun e w' => e = .returned (.string s1) ∧ Below wx.heap.size wx w') := fun wx => by have := HNM.out wx; rw [PnE_ok hN] at this; exact this
        have HY22 : Hid (∀ wx, Calls Tryz.prog 124 #[.string s2] wx fun e w' => e = .returned (.int .i64 y) ∧ Below wx.heap.size wx w') := fun wx => by have := HY2.out wx; rw [PnE_ok rfl] at this; exact this
        have HRU1 := Lib.hid (HRU.out.trans ((if_neg (by simp [hN])).trans (if_neg (by simp))))
        clear HRU HNM HY2 hN
        have hn0 : W0.heap.size ≠ b := by omega
        go_cut [3] (fun u3 wx => ∃ B, u3 = .pointer (some ⟨B, 0, none⟩) ∧ Hid (RuB w wx B (ruA s1 y 0 0 0 0 0 0 0 0 ⟨#[]⟩)))
        case first =>
          go_region_held3 (fun w' => w'.cell? ⟨b, off + 1, none⟩ = some (.string s1) ∧ w'.cell? ⟨b, off + 2, none⟩ = some (.string s2)) (first | (with_reducible exact ⟨k1, k2⟩) | (with_reducible exact ⟨p1, p2⟩) | (with_reducible exact ⟨q1, q2⟩) | go_keep) (first | (go_at_call 81; refine (HNM2.out _).mono ?_; rintro e w9 ⟨rfl, hb9⟩; have HB9 : Hid (Below W0.heap.size W0 w9) := (by first | exact hb9 | exact ((Below.refl _ _).drew).trans hb9 | exact ((Below.refl _ _).alloc (Nat.le_refl _) _).trans (hb9.mono (by rw [size_alloc]; omega)) | exact ((Below.refl _ _).drew.alloc (Nat.le_refl _) _).trans (hb9.mono (by simp only [World.drew, size_alloc]; omega)) | exact ((Below.refl _ _).alloc (Nat.le_refl _) _).drew.trans (hb9.mono (by simp only [World.drew, size_alloc]; omega))); obtain ⟨p1, p2, -⟩ := HWC.out _ (B0.out.trans (HB9.out.mono B0.out.size)); have hn9 : w9.heap.size ≠ b := (by have := HB9.out.size; have := HB.out; have := B0.out.size; omega); (try (have OG : Hid (BxO w9 W0.heap.size #[.string ⟨#[]⟩, .int .i64 0, .int .i64 0, .int .i64 0, .int .i64 0, .int .i64 0, .int .i64 0, .int .i64 0, .int .i64 0, .int .i64 0, .string ⟨#[]⟩] 58) := (by first | exact (hb9.block _ (BxO.new W0.drew _ _).lt).trans (BxO.new W0.drew _ _) | exact (hb9.block _ (BxO.new W0 _ _).lt).trans (BxO.new W0 _ _)); obtain ⟨⟨y0, y1, y2, y3, y4, y5, y6, y7, y8, y9, y10⟩, ⟨z0, z1, z2, z3, z4, z5, z6, z7, z8, z9, z10⟩, yl⟩ := RuB.eleven OG.out)); clear hb9) | (go_at_call 124; refine (HY22.out _).mono ?_; rintro e w10 ⟨rfl, hb10⟩; have HBF : Hid (Below w9.heap.size w9 w10) := (by first | exact hb10 | exact ((Below.refl _ _).drew).trans hb10 | exact ((Below.refl _ _).alloc (Nat.le_refl _) _).trans (hb10.mono (by rw [size_alloc]; omega)) | exact ((Below.refl _ _).drew.alloc (Nat.le_refl _) _).trans (hb10.mono (by simp only [World.drew, size_alloc]; omega)) | exact ((Below.refl _ _).alloc (Nat.le_refl _) _).drew.trans (hb10.mono (by simp only [World.drew, size_alloc]; omega))); have HBG : Hid (Below W0.heap.size W0 w10) := HB9.out.trans (HBF.out.mono HB9.out.size); obtain ⟨q1, q2, -⟩ := HWC.out _ (B0.out.trans (HBG.out.mono B0.out.size)); have hn10 : w10.heap.size ≠ b := (by have := HBG.out.size; have := HB.out; have := B0.out.size; omega); (first | (have OG2 : Hid (BxO w10 W0.heap.size #[.string ⟨#[]⟩, .int .i64 0, .int .i64 0, .int .i64 0, .int .i64 0, .int .i64 0, .int .i64 0, .int .i64 0, .int .i64 0, .int .i64 0, .string ⟨#[]⟩] 58) := (hb10.block _ OG.out.lt).trans OG.out; obtain ⟨⟨Y0, Y1, Y2, Y3, Y4, Y5, Y6, Y7, Y8, Y9, Y10⟩, ⟨Z0, Z1, Z2, Z3, Z4, Z5, Z6, Z7, Z8, Z9, Z10⟩, Yl⟩ := RuB.eleven OG2.out) | (have OG3 : Hid (BxO w10 w9.heap.size #[.string ⟨#[]⟩, .int .i64 0, .int .i64 0, .int .i64 0, .int .i64 0, .int .i64 0, .int .i64 0, .int .i64 0, .int .i64 0, .int .i64 0, .string ⟨#[]⟩] 58) := (by first | exact (hb10.block _ (BxO.new w9.drew _ _).lt).trans (BxO.new w9.drew _ _) | exact (hb10.block _ (BxO.new w9 _ _).lt).trans (BxO.new w9 _ _)); obtain ⟨⟨Y0, Y1, Y2, Y3, Y4, Y5, Y6, Y7, Y8, Y9, Y10⟩, ⟨Z0, Z1, Z2, Z3, Z4, Z5, Z6, Z7, Z8, Z9, Z10⟩, Yl⟩ := RuB.eleven OG3.out) | skip); clear hb10))
          all_goals
            go_wp2_with fail
            go_meet
            first
            | with_reducible exact ⟨_, rfl, Lib.hid (RuB.made R0.out B0.out HBG.out s1 y)⟩
            | with_reducible exact ⟨_, rfl, Lib.hid (RuB.puts R0.out B0.out HBG.out (Nat.le_refl _) OG2.out s1 y)⟩
            | with_reducible exact ⟨_, rfl, Lib.hid (RuB.puts R0.out B0.out HBG.out HB9.out.size OG3.out s1 y)⟩
        case rest =>
          obtain ⟨B, rfl, RB⟩ := hcut
          clear k1 k2 k3 k4 k5 k6 k7 k8 k9 hn0 hz0 hbw R0
          have hBn : w.heap.size ≠ B := Nat.ne_of_lt RB.out.n
          have hBn2 : B ≠ w.heap.size := fun e => hBn e.symm
          have hBb : B ≠ b := by have := RB.out.n; have := HB.out; omega
          have hBb2 : b ≠ B := fun e => hBb e.symm
          have l1 : (bx [111, 110, 108, 121]).toList = [111, 110, 108, 121] := by rw [ByteArray.toList_eq]; rfl
          have l2 : (bx [109, 97, 120]).toList = [109, 97, 120] := by rw [ByteArray.toList_eq]; rfl
          have l3 : (bx [45]).toList = [45] := by rw [ByteArray.toList_eq]; rfl
          have g1 := streqS s3 (bx [111, 110, 108, 121])
          have g2 := streqS s3 (bx [109, 97, 120])
          have g4 := streqS s4 (bx [45])
          have g9 := streqS s9 (bx [45])
          rw [l1] at g1
          rw [l2] at g2
          rw [l3] at g4 g9
          obtain ⟨p1, hp1⟩ : ∃ c : Bool, (s3.toList == [111, 110, 108, 121]) = c := ⟨_, rfl⟩
          obtain ⟨p2, hp2⟩ : ∃ c : Bool, (s3.toList == [109, 97, 120]) = c := ⟨_, rfl⟩
          obtain ⟨p4, hp4⟩ : ∃ c : Bool, (s4.toList == [45]) = c := ⟨_, rfl⟩
          obtain ⟨p9, hp9⟩ : ∃ c : Bool, (s9.toList == [45]) = c := ⟨_, rfl⟩
          have HTO2 : Hid (TO = if p1 = true then (y, 0) else if p2 = true then (2099, 0) else Y3) := by
            show _ = _
            rw [HTO.out]
            rw [← hp1, ← hp2, g1, g2]
            simp only [decide_eq_true_eq]
          have H4 : Hid (p4 = true ↔ s4 = dashS) := by show _ ↔ _; rw [← hp4, g4, decide_eq_true_iff]; rfl
          have H9 : Hid (p9 = true ↔ s9 = dashS) := by show _ ↔ _; rw [← hp9, g9, decide_eq_true_iff]; rfl
          clear g1 g2 g4 g9 l1 l2 l3 HTO
          obtain ⟨y3, Ey3⟩ := Y3
          obtain ⟨k1, k2, k3, k4, k5, k6, k7, k8, k9⟩ := HWC.out _ RB.out.b
          obtain ⟨⟨x0, x1, x2, x3, x4, x5, x6, x7, x8, x9, x10⟩, ⟨xf0, xf1, xf2, xf3, xf4, xf5, xf6, xf7, xf8, xf9, xf10⟩, xl⟩ := RuB.eleven RB.out.x
          go_upto_block 0 with fail
          go_cut [] (fun wx => ∃ tq, Hid (TO = (tq, 0)) ∧ Hid (RuB w wx B (ruA s1 y tq 0 0 0 0 0 0 0 ⟨#[]⟩)))
          case first =>
            cases p1 with
            | true =>
              have HT : Hid (TO = (y, 0)) := HTO2.out.trans (if_pos rfl)
              go_wp2_with fail
              go_meet
              exact ⟨y, HT, RB.out.sTo y⟩
            | false =>
              cases p2 with
              | true =>
                have HT : Hid (TO = (2099, 0)) := (HTO2.out.trans (if_neg (by decide))).trans (if_pos rfl)
                go_wp2_with fail
                go_meet
                exact ⟨2099, HT, RB.out.sTo 2099⟩
              | false =>
                have HT : Hid (TO = (y3, Ey3)) := (HTO2.out.trans (if_neg (by decide))).trans (if_neg (by decide))
                by_cases hE3 : Ey3 = 0
                · subst hE3
                  go_wp2_with fail
                  refine (HY3.out _).mono ?_; rintro e w5 ⟨he, hb⟩
                  rw [PnE_ok rfl] at he
                  subst he
                  have R5 := Lib.hid (RB.out.next hb)
                  clear hb
                  clear k1 k2 k3 k4 k5 k6 k7 k8 k9
                  clear x0 x1 x2 x3 x4 x5 x6 x7 x8 x9 x10 xf0 xf1 xf2 xf3 xf4 xf5 xf6 xf7 xf8 xf9 xf10 xl
                  obtain ⟨⟨x0, x1, x2, x3, x4, x5, x6, x7, x8, x9, x10⟩, ⟨xf0, xf1, xf2, xf3, xf4, xf5, xf6, xf7, xf8, xf9, xf10⟩, xl⟩ := RuB.eleven R5.out.x
                  go_wp2_with fail
                  go_meet
                  exact ⟨y3, HT, R5.out.sTo y3⟩
                · have HRS : Hid (RS = Ey3) := HRU1.out.trans (by rw [HT.out]; exact if_pos hE3)
                  go_wp2_with fail
                  refine (HY3.out _).mono ?_; rintro e w5 ⟨he, hb⟩
                  rw [PnE_no hE3] at he
                  subst he
                  go_wp2
                  exact ⟨rfl, by rw [HRS.out, PnE_no hE3], RB.out.b.trans (hb.mono RB.out.b.size)⟩
          case rest =>
            obtain ⟨tq, HT, R9⟩ := hcut
            clear k1 k2 k3 k4 k5 k6 k7 k8 k9 RB HY3 HTO2
            clear x0 x1 x2 x3 x4 x5 x6 x7 x8 x9 x10 xf0 xf1 xf2 xf3 xf4 xf5 xf6 xf7 xf8 xf9 xf10 xl
            have HRU2 := Lib.hid (HRU1.out.trans (if_neg (by rw [HT.out]; simp)))
            rw [HT.out] at HRU2 HRV
            clear HRU1 HT
            dsimp only at HRU2 HRV
            obtain ⟨k1, k2, k3, k4, k5, k6, k7, k8, k9⟩ := HWC.out _ R9.out.b
            obtain ⟨⟨x0, x1, x2, x3, x4, x5, x6, x7, x8, x9, x10⟩, ⟨xf0, xf1, xf2, xf3, xf4, xf5, xf6, xf7, xf8, xf9, xf10⟩, xl⟩ := RuB.eleven R9.out.x
            by_cases hty : tq < y
            · have HRS : Hid (RS = 8) := HRU2.out.trans (if_pos hty)
              have d1 : decide (y ≤ tq) = false := decide_eq_false (by omega)
              clear hty
              go_wp2_with (go_at_call 80; refine (need_no _ _).mono ?_; rintro e w' ⟨rfl, rfl⟩)
              go_wp2
              exact ⟨rfl, by rw [HRS.out]; rfl, R9.out.b⟩
            · have HRU3 := Lib.hid (HRU2.out.trans (if_neg hty))
              have d1 : decide (y ≤ tq) = true := decide_eq_true (by omega)
              clear hty HRU2
              go_upto_region 10 with (go_at_call 80; refine (need_yes _ _).mono ?_; rintro e w' ⟨rfl, rfl⟩)
              cases p4 with
              | false =>
                have HRS : Hid (RS = 4) := HRU3.out.trans (if_pos (fun e => by have := H4.out.2 e; cases this))
                go_wp2_with (go_at_call 80; refine (need_no _ _).mono ?_; rintro e w' ⟨rfl, rfl⟩)
                go_wp2
                exact ⟨rfl, by rw [HRS.out]; rfl, R9.out.b⟩
              | true =>
                have HRU4 := Lib.hid (HRU3.out.trans (if_neg (fun e => e (H4.out.1 rfl))))
                clear HRU3
                go_wp2_with (go_at_call 80; refine (need_yes _ _).mono ?_; rintro e w' ⟨rfl, rfl⟩)
                obtain ⟨mo, Em⟩ := MO
                dsimp only at HRU4 HRV HMO
                refine (HMO.out _ (HV.out.below R9.out.b)).mono ?_; rintro e w10 ⟨he, rfl⟩
                by_cases hEm : Em = 0
                · subst hEm
                  rw [PnE_ok rfl] at he
                  subst he
                  have HRU5 := Lib.hid (HRU4.out.trans (if_neg (by simp)))
                  have RA := Lib.hid (R9.out.sMo mo)
                  clear HRU4
                  obtain ⟨dv, Ed⟩ := DY
                  dsimp only at HRU5 HRV HDY
                  go_wp2_with fail
                  refine (HDY.out _ (HV.out.below RA.out.b)).mono ?_; rintro e w11 ⟨he, hb⟩
                  have RA1 := Lib.hid (RA.out.next hb)
                  clear hb R9 RA
                  clear k1 k2 k3 k4 k5 k6 k7 k8 k9
                  clear x0 x1 x2 x3 x4 x5 x6 x7 x8 x9 x10 xf0 xf1 xf2 xf3 xf4 xf5 xf6 xf7 xf8 xf9 xf10 xl
                  by_cases hEd : Ed = 0
                  · subst hEd
                    rw [PnE_ok rfl] at he
                    subst he
                    have HRU6 := Lib.hid (HRU5.out.trans (if_neg (by simp)))
                    obtain ⟨k1, k2, k3, k4, k5, k6, k7, k8, k9⟩ := HWC.out _ RA1.out.b
                    obtain ⟨⟨x0, x1, x2, x3, x4, x5, x6, x7, x8, x9, x10⟩, ⟨xf0, xf1, xf2, xf3, xf4, xf5, xf6, xf7, xf8, xf9, xf10⟩, xl⟩ := RuB.eleven RA1.out.x
                    clear HRU5
                    have RB := Lib.hid (((RA1.out.sK dv.k).sA dv.a).sN dv.n)
                    obtain ⟨⟨tt, tc⟩, Et⟩ := TM
                    dsimp only at HRU6 HRV HTM
                    go_wp2_with fail
                    refine (HTM.out _ (HV.out.below RB.out.b)).mono ?_; rintro e w12 ⟨he, hb⟩
                    have RB1 := Lib.hid (RB.out.next hb)
                    clear hb RA1 RB
                    clear k1 k2 k3 k4 k5 k6 k7 k8 k9
                    clear x0 x1 x2 x3 x4 x5 x6 x7 x8 x9 x10 xf0 xf1 xf2 xf3 xf4 xf5 xf6 xf7 xf8 xf9 xf10 xl
                    by_cases hEt : Et = 0
                    · subst hEt
                      rw [PnE_ok rfl] at he
                      subst he
                      have HRU7 := Lib.hid (HRU6.out.trans (if_neg (by simp)))
                      obtain ⟨k1, k2, k3, k4, k5, k6, k7, k8, k9⟩ := HWC.out _ RB1.out.b
                      obtain ⟨⟨x0, x1, x2, x3, x4, x5, x6, x7, x8, x9, x10⟩, ⟨xf0, xf1, xf2, xf3, xf4, xf5, xf6, xf7, xf8, xf9, xf10⟩, xl⟩ := RuB.eleven RB1.out.x
                      clear HRU6
                      have RC := Lib.hid ((RB1.out.sT tt).sC tc)
                      obtain ⟨so, Eo⟩ := OF
                      dsimp only at HRU7 HRV HOF
                      go_wp2_with fail
                      refine (HOF.out _ (HV.out.below RC.out.b)).mono ?_; rintro e w13 ⟨he, hb⟩
                      have RC1 := Lib.hid (RC.out.next hb)
                      clear hb RB1 RC
                      clear k1 k2 k3 k4 k5 k6 k7 k8 k9
                      clear x0 x1 x2 x3 x4 x5 x6 x7 x8 x9 x10 xf0 xf1 xf2 xf3 xf4 xf5 xf6 xf7 xf8 xf9 xf10 xl
                      by_cases hEo : Eo = 0
                      · subst hEo
                        rw [PnE_ok rfl] at he
                        subst he
                        have HRU8 := Lib.hid (HRU7.out.trans (if_neg (by simp)))
                        obtain ⟨k1, k2, k3, k4, k5, k6, k7, k8, k9⟩ := HWC.out _ RC1.out.b
                        obtain ⟨⟨x0, x1, x2, x3, x4, x5, x6, x7, x8, x9, x10⟩, ⟨xf0, xf1, xf2, xf3, xf4, xf5, xf6, xf7, xf8, xf9, xf10⟩, xl⟩ := RuB.eleven RC1.out.x
                        clear HRU7
                        have RD := Lib.hid (RC1.out.sSv so)
                        obtain ⟨wf, hwf⟩ : ∃ wf, wf = w13.setCell ⟨B, 9, none⟩ (.int .i64 so) := ⟨_, rfl⟩
                        rw [← hwf] at RD
                        have HWF := Lib.hid hwf
                        clear hwf
                        go_upto_region 15 with fail
                        rw [← HWF.out]
                        clear HWF RC1
                        clear k1 k2 k3 k4 k5 k6 k7 k8 k9
                        clear x0 x1 x2 x3 x4 x5 x6 x7 x8 x9 x10 xf0 xf1 xf2 xf3 xf4 xf5 xf6 xf7 xf8 xf9 xf10 xl
                        obtain ⟨k1, k2, k3, k4, k5, k6, k7, k8, k9⟩ := HWC.out _ RD.out.b
                        obtain ⟨⟨x0, x1, x2, x3, x4, x5, x6, x7, x8, x9, x10⟩, ⟨xf0, xf1, xf2, xf3, xf4, xf5, xf6, xf7, xf8, xf9, xf10⟩, xl⟩ := RuB.eleven RD.out.x
                        obtain ⟨⟨r0, r1, r2, r3, r4, r5, r6, r7, r8, r9, r10⟩, ⟨rf0, rf1, rf2, rf3, rf4, rf5, rf6, rf7, rf8, rf9, rf10⟩, rl⟩ := RuB.eleven RD.out.r
                        cases p9 with
                        | true =>
                          have HRS : Hid (RS = 0) := HRU8.out.trans (if_neg fun h => h.1 (H9.out.1 rfl))
                          have HRV2 : Hid (RV = ⟨s1, y, tq, ⟨mo, dv.k, dv.a, dv.n, tt, tc⟩, so, ⟨#[]⟩⟩) := by
                            show _ = _
                            rw [HRV.out, if_pos (H9.out.1 rfl)]
                            rfl
                          clear HRU8
                          go_wp2
                          refine bodyPost_ret (v := .agg #[.string s1, .int .i64 y, .int .i64 tq, .int .i64 mo, .int .i64 dv.k, .int .i64 dv.a, .int .i64 dv.n, .int .i64 tt, .int .i64 tc, .int .i64 so, .string ⟨#[]⟩]) (by simp [results, Tryz.results79, go_sem, r0, r1, r2, r3, r4, r5, r6, r7, r8, r9, r10, rl]) rfl ⟨by rw [HRS.out, HRV2.out]; rfl, RD.out.done _ _ _ _ _ _ _ _ _ _ _⟩
                        | false =>
                          have h9 : s9 ≠ dashS := fun e => by have := H9.out.2 e; cases this
                          have HRV2 : Hid (RV = ⟨s1, y, tq, ⟨mo, dv.k, dv.a, dv.n, tt, tc⟩, so, s9⟩) := by
                            show _ = _
                            rw [HRV.out, if_neg h9]
                          have HLF : Hid (letsB s9 = false → RS = 4) := fun h => HRU8.out.trans (if_pos ⟨h9, h⟩)
                          have HLT1 : Hid (letsB s9 = true → RS = 0) := fun h => HRU8.out.trans (if_neg fun e => by rw [h] at e; cases e.2)
                          clear h9 HRU8
                          generalize letsB s9 = lb at *
                          go_wp2_with fail
                          refine (HLT.out _).mono ?_; rintro e w14 ⟨rfl, hb⟩
                          have RE := Lib.hid (RD.out.next hb)
                          clear hb RD
                          clear k1 k2 k3 k4 k5 k6 k7 k8 k9
                          clear x0 x1 x2 x3 x4 x5 x6 x7 x8 x9 x10 xf0 xf1 xf2 xf3 xf4 xf5 xf6 xf7 xf8 xf9 xf10 xl
                          clear r0 r1 r2 r3 r4 r5 r6 r7 r8 r9 r10 rf0 rf1 rf2 rf3 rf4 rf5 rf6 rf7 rf8 rf9 rf10 rl
                          obtain ⟨k1, k2, k3, k4, k5, k6, k7, k8, k9⟩ := HWC.out _ RE.out.b
                          obtain ⟨⟨x0, x1, x2, x3, x4, x5, x6, x7, x8, x9, x10⟩, ⟨xf0, xf1, xf2, xf3, xf4, xf5, xf6, xf7, xf8, xf9, xf10⟩, xl⟩ := RuB.eleven RE.out.x
                          cases lb with
                          | false =>
                            have HRS := Lib.hid (HLF.out rfl)
                            go_wp2_with (go_at_call 80; refine (need_no _ _).mono ?_; rintro e w' ⟨rfl, rfl⟩)
                            go_wp2
                            exact ⟨rfl, by rw [HRS.out]; rfl, RE.out.b⟩
                          | true =>
                            have HRS := Lib.hid (HLT1.out rfl)
                            have RF := Lib.hid (RE.out.sLt s9)
                            obtain ⟨wg, hwg⟩ : ∃ wg, wg = w14.setCell ⟨B, 10, none⟩ (.string s9) := ⟨_, rfl⟩
                            rw [← hwg] at RF
                            have HWG := Lib.hid hwg
                            clear hwg
                            go_upto_region 18 with (go_at_call 80; refine (need_yes _ _).mono ?_; rintro e w' ⟨rfl, rfl⟩)
                            rw [← HWG.out]
                            clear HWG RE
                            clear k1 k2 k3 k4 k5 k6 k7 k8 k9
                            clear x0 x1 x2 x3 x4 x5 x6 x7 x8 x9 x10 xf0 xf1 xf2 xf3 xf4 xf5 xf6 xf7 xf8 xf9 xf10 xl
                            obtain ⟨⟨x0, x1, x2, x3, x4, x5, x6, x7, x8, x9, x10⟩, ⟨xf0, xf1, xf2, xf3, xf4, xf5, xf6, xf7, xf8, xf9, xf10⟩, xl⟩ := RuB.eleven RF.out.x
                            obtain ⟨⟨r0, r1, r2, r3, r4, r5, r6, r7, r8, r9, r10⟩, ⟨rf0, rf1, rf2, rf3, rf4, rf5, rf6, rf7, rf8, rf9, rf10⟩, rl⟩ := RuB.eleven RF.out.r
                            go_wp2
                            refine bodyPost_ret (v := .agg #[.string s1, .int .i64 y, .int .i64 tq, .int .i64 mo, .int .i64 dv.k, .int .i64 dv.a, .int .i64 dv.n, .int .i64 tt, .int .i64 tc, .int .i64 so, .string s9]) (by simp [results, Tryz.results79, go_sem, r0, r1, r2, r3, r4, r5, r6, r7, r8, r9, r10, rl]) rfl ⟨by rw [HRS.out, HRV2.out]; rfl, RF.out.done _ _ _ _ _ _ _ _ _ _ _⟩
                      · rw [PnE_no hEo] at he
                        subst he
                        have HRS : Hid (RS = Eo) := HRU7.out.trans (if_pos hEo)
                        go_wp2
                        exact ⟨rfl, by rw [HRS.out, PnE_no hEo], RC1.out.b⟩
                    · rw [PnE_no hEt] at he
                      subst he
                      have HRS : Hid (RS = Et) := HRU6.out.trans (if_pos hEt)
                      go_wp2
                      exact ⟨rfl, by rw [HRS.out, PnE_no hEt], RB1.out.b⟩
                  · rw [PnE_no hEd] at he
                    subst he
                    have HRS : Hid (RS = Ed) := HRU5.out.trans (if_pos hEd)
                    go_wp2
                    exact ⟨rfl, by rw [HRS.out, PnE_no hEd], RA1.out.b⟩
                · rw [PnE_no hEm] at he
                  subst he
                  have HRS : Hid (RS = Em) := HRU4.out.trans (if_pos hEm)
                  go_wp2
                  exact ⟨rfl, by rw [HRS.out, PnE_no hEm], R9.out.b⟩
      · have HRS : Hid (RS = Ey) := HRU.out.trans ((if_neg (by simp [hN])).trans (if_pos hE))
        have HNM2 : Hid (∀ wx, Calls Tryz.prog 81 #[.string s1] wx fun e w' => e = .returned (.string s1) ∧ Below wx.heap.size wx w') := fun wx => by have := HNM.out wx; rw [PnE_ok hN] at this; exact this
        have HYP : Hid (∀ wx, Calls Tryz.prog 124 #[.string s2] wx fun e w' => e = .panicked (fltC Ey) ∧ Below wx.heap.size wx w') := fun wx => by have := HY2.out wx; rw [PnE_no hE] at this; exact this
        have HEE := Lib.hid hE
        clear HNM HY2 hN HRU hE
        have hn0 : W0.heap.size ≠ b := by omega
        go_region_law (first | (go_simp; refine (HNM2.out _).mono ?_; rintro e w9 ⟨rfl, hb9⟩; have HB9 : Hid (Below W0.heap.size W0 w9) := (by first | exact hb9 | exact ((Below.refl _ _).drew).trans hb9 | exact ((Below.refl _ _).alloc (Nat.le_refl _) _).trans (hb9.mono (by rw [size_alloc]; omega)) | exact ((Below.refl _ _).drew.alloc (Nat.le_refl _) _).trans (hb9.mono (by simp only [World.drew, size_alloc]; omega)) | exact ((Below.refl _ _).alloc (Nat.le_refl _) _).drew.trans (hb9.mono (by simp only [World.drew, size_alloc]; omega))); obtain ⟨p1, p2, -⟩ := HWC.out _ (B0.out.trans (HB9.out.mono B0.out.size)); have hn9 : w9.heap.size ≠ b := (by have := HB9.out.size; have := HB.out; have := B0.out.size; omega); (try (have OG : Hid (BxO w9 W0.heap.size #[.string ⟨#[]⟩, .int .i64 0, .int .i64 0, .int .i64 0, .int .i64 0, .int .i64 0, .int .i64 0, .int .i64 0, .int .i64 0, .int .i64 0, .string ⟨#[]⟩] 58) := (by first | exact (hb9.block _ (BxO.new W0.drew _ _).lt).trans (BxO.new W0.drew _ _) | exact (hb9.block _ (BxO.new W0 _ _).lt).trans (BxO.new W0 _ _)); obtain ⟨⟨y0, y1, y2, y3, y4, y5, y6, y7, y8, y9, y10⟩, ⟨z0, z1, z2, z3, z4, z5, z6, z7, z8, z9, z10⟩, yl⟩ := RuB.eleven OG.out)); clear hb9; have hbw9 : b < w9.heap.size := (Nat.lt_of_lt_of_le hbw HB9.out.size); have HBW : Hid (Below w.heap.size w w9) := B0.out.trans (HB9.out.mono B0.out.size)) | (go_simp; refine calls_fake (.int .i64 0) (HYP.out _) (fun w10 hb10 => ?_) (fun hF => ?_); exact ⟨rfl, by rw [HRS.out, PnE_no HEE.out], (by first | exact HBW.out.trans (hb10.mono HBW.out.size) | exact HBW.out.drew.trans (hb10.mono HBW.out.size) | exact (HBW.out.alloc HBW.out.size _).trans (hb10.mono (HBW.out.alloc HBW.out.size _).size) | exact (HBW.out.alloc HBW.out.size _).drew.trans (hb10.mono (HBW.out.alloc HBW.out.size _).size) | exact (HBW.out.drew.alloc HBW.out.size _).trans (hb10.mono (HBW.out.drew.alloc HBW.out.size _).size))⟩))
        all_goals exact (‹Hid False› : Hid False).out.elim
    · have hn4 : nmE s1 = 4 := by unfold nmE at hN ⊢; split at hN; · exact absurd rfl hN
                                  · rename_i h; rw [if_neg h]
      have HRS : Hid (RS = 4) := HRU.out.trans (if_pos hN)
      have HNP : Hid (∀ wx, Calls Tryz.prog 81 #[.string s1] wx fun e w' => e = .panicked (fltC 4) ∧ Below wx.heap.size wx w') := fun wx => by have := HNM.out wx; rw [PnE_no hN, hn4] at this; exact this
      clear HNM HY2 hN HRU hn4
      have hn0 : W0.heap.size ≠ b := by omega
      go_region_with (first | (go_at_call 81; refine calls_fake (.string ⟨#[]⟩) (HNP.out _) (fun w10 hb10 => ?_) (fun hF => ?_); exact ⟨rfl, by rw [HRS.out]; rfl, (by first | exact B0.out.trans (hb10.mono B0.out.size) | exact B0.out.drew.trans (hb10.mono B0.out.size) | exact (B0.out.alloc B0.out.size _).trans (hb10.mono (B0.out.alloc B0.out.size _).size) | exact (B0.out.alloc B0.out.size _).drew.trans (hb10.mono (B0.out.alloc B0.out.size _).size) | exact (B0.out.drew.alloc B0.out.size _).trans (hb10.mono (B0.out.drew.alloc B0.out.size _).size))⟩) | (go_at_call 124; refine calls_fake (c := []) (G := fun _ => True) (.int .i64 0) (‹Hid False› : Hid False).out.elim (fun _ _ => (‹Hid False› : Hid False).out.elim) (fun _ => ?_)))
      all_goals exact (‹Hid False› : Hid False).out.elim
  · have hn : decide ((ws.length : Int) = 10) = false := decide_eq_false (by omega)
    have hn2 : ((ws.length : Int) == 10) = false := beq_eq_false_iff_ne.2 (by omega)
    have HR := Lib.hid (rulS_len hlen)
    clear hlen hv hz
    go_enter Tryz.func79, Tryz.ntmps79
    go_upto_region 1 with fail
    rw [← HW.out]
    go_wp2_with (go_at_call 80; refine (need_no _ _).mono ?_; rintro e w' ⟨rfl, rfl⟩)
    go_wp2
    exact ⟨rfl, by rw [HR.out]; rfl, B0.out⟩
end Go.Proofs.YtbikdlcjbigafaaGreatDoor
