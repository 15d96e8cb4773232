/-
  sundialref.zoneNamed, linkNamed. sundialref.ledTo: where a name leads. zones.follow: where a name leads. What is wrong with a source: plain.
-/
import Derived.Test.YtbikdlcjbigafaaGreatDoorJZonS0
namespace Go.Proofs.YtbikdlcjbigafaaGreatDoor
set_option linter.unusedVariables false
set_option linter.unusedSimpArgs false
open Go.ChangeShapes Go.WideShapes Go.ChangeAt Go.RowKit Civ

/-- a source's box. -/
def SrB (w wx : World) (vr vz vl : Value) : Prop := (wx.cell? ⟨w.heap.size, 0, none⟩ = some vr ∧ wx.cell? ⟨w.heap.size, 1, none⟩ = some vz ∧ wx.cell? ⟨w.heap.size, 2, none⟩ = some vl) ∧ Below w.heap.size w wx ∧ w.heap.size + 1 ≤ wx.heap.size
theorem SrB.new (w : World) (vr vz vl : Value) : SrB w (w.alloc (.cells #[vr, vz, vl] 28)) vr vz vl :=
  ⟨⟨(World.cell?_alloc_at (w := w) _ _ w.heap.size 0 rfl).trans rfl, (World.cell?_alloc_at (w := w) _ _ w.heap.size 1 rfl).trans rfl, (World.cell?_alloc_at (w := w) _ _ w.heap.size 2 rfl).trans rfl⟩, (Below.refl _ _).alloc (Nat.le_refl _) _, by rw [size_alloc]; exact Nat.le_refl _⟩
theorem SrB.next {w wx w' : World} {vr vz vl : Value} (h : SrB w wx vr vz vl) (hb : Below wx.heap.size wx w') : SrB w w' vr vz vl := by
  obtain ⟨⟨h1, h2, h3⟩, h6, h7⟩ := h
  have k : ∀ b j, b < wx.heap.size → w'.cell? ⟨b, j, none⟩ = wx.cell? ⟨b, j, none⟩ := fun b j hb' => hb.cell (p := ⟨b, j, none⟩) hb'
  exact ⟨⟨(k _ _ (by omega)).trans h1, (k _ _ (by omega)).trans h2, (k _ _ (by omega)).trans h3⟩, h6.trans (hb.mono (by omega)), Nat.le_trans h7 hb.size⟩
end Go.Proofs.YtbikdlcjbigafaaGreatDoor
namespace Go.Proofs.YtbikdlcjbigafaaGreatDoor
set_option linter.unusedVariables false
set_option linter.unusedSimpArgs false
open Go.ChangeShapes Go.WideShapes Go.ChangeAt Go.RowKit Civ

end Go.Proofs.YtbikdlcjbigafaaGreatDoor
namespace Go.Proofs.YtbikdlcjbigafaaGreatDoor
set_option linter.unusedVariables false
set_option linter.unusedSimpArgs false
open Go.ChangeShapes Go.WideShapes Go.ChangeAt Go.RowKit Civ

theorem follow1_any (m n : ByteArray) (u : Value) (b : Nat) (w : World) (hc : w.cell? ⟨b, 0, none⟩ = some (.string n)) :
    Calls Tryz.prog 107 #[.agg #[.string m, u], .pointer (some ⟨b, 0, none⟩)] w fun e w' => e = .returned (.bool (decide (m = n))) ∧ Below w.heap.size w w' := by
  have hb := blk_z hc
  have HP : Hid (decide (m = n) = (m.toList == n.toList)) := by show _ = _; rw [streq]
  go_enter Tryz.func107, Tryz.ntmps107
  go_wp2
  go_ret
  exact ⟨ret_bool HP.out.symm, (Below.refl _ _).alloc (Nat.le_refl _) _⟩
theorem follow2_any (o m n : ByteArray) (b : Nat) (w : World) (hc : w.cell? ⟨b, 0, none⟩ = some (.string n)) :
    Calls Tryz.prog 109 #[.agg #[.string o, .string m], .pointer (some ⟨b, 0, none⟩)] w fun e w' => e = .returned (.bool (decide (m = n))) ∧ Below w.heap.size w w' := by
  have hb := blk_z hc
  have HP : Hid (decide (m = n) = (m.toList == n.toList)) := by show _ = _; rw [streq]
  go_enter Tryz.func109, Tryz.ntmps109
  go_wp2
  go_ret
  exact ⟨ret_bool HP.out.symm, (Below.refl _ _).alloc (Nat.le_refl _) _⟩
theorem follow1_enters (args : Array Value) (w : World) : (callFunc 107 args).run Tryz.prog w = .ok (.enter 107 args) w := enters_of Tryz.func107 (by kernel_rfl) rfl args w
theorem follow2_enters (args : Array Value) (w : World) : (callFunc 109 args).run Tryz.prog w = .ok (.enter 109 args) w := enters_of Tryz.func109 (by kernel_rfl) rfl args w
/-- a source's box, and that of a name. -/
structure FoB (w wx : World) (vr vz vl : Value) (m : ByteArray) : Prop where
  s : SrB w wx vr vz vl
  n : BxO wx (w.heap.size + 1) #[.string m] 9
theorem FoB.next {w wx w' : World} {vr vz vl : Value} {m : ByteArray} (h : FoB w wx vr vz vl m) (hb : Below wx.heap.size wx w') : FoB w w' vr vz vl m := ⟨h.s.next hb, (hb.block _ h.n.lt).trans h.n⟩
theorem FoB.new (w : World) (vr vz vl : Value) (n : ByteArray) : FoB w ((w.alloc (.cells #[vr, vz, vl] 28)).alloc (.cells #[.string n] 9)) vr vz vl n := by
  have h1 := size_alloc w (.cells #[vr, vz, vl] 28)
  refine ⟨(SrB.new w vr vz vl).next ((Below.refl _ _).alloc (Nat.le_refl _) _), ?_⟩
  rw [← h1]
  exact BxO.new _ _ _
theorem FoB.set {w wx : World} {vr vz vl : Value} {m : ByteArray} (h : FoB w wx vr vz vl m) (m' : ByteArray) : FoB w (wx.setCell ⟨w.heap.size + 1, 0, none⟩ (.string m')) vr vz vl m' := by
  obtain ⟨⟨⟨h1, h2, h3⟩, h4, h5⟩, h6⟩ := h
  refine ⟨⟨⟨?_, ?_, ?_⟩, h4.setCell (p := ⟨w.heap.size + 1, 0, none⟩) (by show w.heap.size ≤ w.heap.size + 1; omega) _, by rw [World.size_setCell]; exact h5⟩, h6.set0 _⟩
  · rw [World.cell?_setCell_other (h := by simp)]; exact h1
  · rw [World.cell?_setCell_other (h := by simp)]; exact h2
  · rw [World.cell?_setCell_other (h := by simp)]; exact h3
def folR (s : Src) (n : ByteArray) (k : Nat) (m : ByteArray) : Prop := (k ≤ 8 ∧ folL s 8 n = folL s (8 - k) m) ∨ (k = 9 ∧ folL s 8 n < 0)
theorem folR_yes {s : Src} {n m : ByteArray} {k : Nat} (h : folR s n k m) (hk : k < 9) (hz : 0 ≤ zIdx s m) : folL s 8 n = zIdx s m := by
  rcases h with ⟨h1, h2⟩ | ⟨h1, -⟩
  · rw [h2]
    rcases e : 8 - k with _ | j
    · rfl
    · show (if 0 ≤ zIdx s m then zIdx s m else _) = _
      rw [if_pos hz]
  · omega
theorem folR_no {s : Src} {n m : ByteArray} {k : Nat} (h : folR s n k m) (hk : k < 9) (hz : ¬ 0 ≤ zIdx s m) (hl : lIdx s m < 0) : folL s 8 n < 0 := by
  rcases h with ⟨h1, h2⟩ | ⟨h1, -⟩
  · rw [h2]
    rcases e : 8 - k with _ | j
    · show zIdx s m < 0; omega
    · show (if 0 ≤ zIdx s m then zIdx s m else if lIdx s m < 0 then -1 else _) < 0
      rw [if_neg hz, if_pos hl]; decide
  · omega
theorem folR_next {s : Src} {n m : ByteArray} {k j : Nat} (h : folR s n k m) (hk : k < 9) (hz : ¬ 0 ≤ zIdx s m) (hl : lIdx s m = (j : Int)) (hj : j < s.links.length) : folR s n (k + 1) s.links[j].of := by
  rcases h with ⟨h1, h2⟩ | ⟨h1, -⟩
  · rcases e : 8 - k with _ | i
    · refine .inr ⟨by omega, ?_⟩
      rw [h2, e]
      show zIdx s m < 0
      omega
    · refine .inl ⟨by omega, ?_⟩
      rw [h2, e]
      show (if 0 ≤ zIdx s m then zIdx s m else if lIdx s m < 0 then -1 else folL s i ((s.links[(lIdx s m).toNat]?).elim ByteArray.empty Lnk.of)) = _
      rw [if_neg hz, if_neg (by omega), hl, Int.toNat_natCast, List.getElem?_eq_getElem hj, show 8 - (k + 1) = i by omega]
      rfl
  · omega
theorem fidx_cases {α : Type} (p : α → Bool) (xs : List α) : fidx p xs < 0 ∨ ∃ k : Nat, k < xs.length ∧ fidx p xs = (k : Int) := by
  by_cases h : ∃ k : Nat, ∃ hk : k < xs.length, p xs[k] = true ∧ ∀ i (hi : i < k), p (xs[i]'(by omega)) = false
  · obtain ⟨k, hk, h1, h2⟩ := h
    exact .inr ⟨k, hk, fidx_at p xs k hk h2 h1⟩
  · left
    have : ∀ n, ∀ i (hi : i < xs.length), i < n → p xs[i] = false := by
      intro n
      induction n with
      | zero => intro i hi h; omega
      | succ n ih =>
        intro i hi hin
        by_cases e : i < n
        · exact ih i hi e
        · obtain rfl : i = n := by omega
          by_cases hp : p xs[i] = true
          · exact absurd ⟨i, hi, hp, fun j hj => ih j (by omega) hj⟩ h
          · simpa using hp
    rw [fidx_none p xs fun i hi => this xs.length i hi hi]
    decide
set_option maxHeartbeats 4000000 in
set_option maxRecDepth 100000 in
theorem follow_any (s : Src) (n : ByteArray) (vr vz vl : Value) (w : World) (hs : SrcAt w vr vz vl s) :
    Calls Tryz.prog 63 #[.agg #[vr, vz, vl], .string n] w fun e w' => e = .returned (.tuple #[.int .i64 (if folL s 8 n < 0 then 0 else folL s 8 n), .bool (!decide (folL s 8 n < 0))]) ∧ Below w.heap.size w w' := by
  have B0 := Lib.hid (FoB.new w vr vz vl n)
  have HS := Lib.hid hs
  obtain ⟨W0, hW0⟩ : ∃ W0, W0 = (w.alloc (.cells #[vr, vz, vl] 28)).alloc (.cells #[.string n] 9) := ⟨_, rfl⟩
  rw [← hW0] at B0
  have HW := Lib.hid hW0
  obtain ⟨al, cl, rfl, hl⟩ := hs.2.2.shape
  have hml := maxLen_eq _ hl
  have hmf : ∀ (fn : Fn) (first cap : Array Value) (w : World), (Instr.makeFunc fn first cap).run Tryz.prog w = .ok (.func fn first cap) w := fun _ _ _ _ => rfl
  clear hs hl hW0
  have HP : Hid (∀ r, folL s 8 n = r → (if folL s 8 n < 0 then 0 else folL s 8 n) = (if r < 0 then 0 else r) ∧ (!decide (folL s 8 n < 0)) = !decide (r < 0)) := by
    show ∀ r, _ → _
    intro r h
    rw [h]
    exact ⟨rfl, rfl⟩
  have HPN : Hid (folL s 8 n < 0 → (if folL s 8 n < 0 then 0 else folL s 8 n) = 0 ∧ (!decide (folL s 8 n < 0)) = false) := by
    show _ → _
    intro h
    exact ⟨if_pos h, by rw [decide_eq_true h]; rfl⟩
  generalize (if folL s 8 n < 0 then 0 else folL s 8 n) = R1 at *
  generalize (!decide (folL s 8 n < 0)) = R2 at *
  go_enter Tryz.func63, Tryz.ntmps63
  go_upto_region 1 with fail
  rw [← HW.out]
  go_wp2
  go_loopw [8] (fun i wr => ∃ (k : Nat) (m : ByteArray), k ≤ 9 ∧ i = .int .i64 k ∧ Hid (folR s n k m) ∧ Hid (FoB w wr vr vz (.slice al s.links.length cl) m)) (fun i _ => (9 - intOf i).toNat)
  case atStart => exact ⟨0, n, by omega, rfl, .inl ⟨by omega, rfl⟩, B0⟩
  case round =>
    obtain ⟨k, m, hk, rfl, HF, BK⟩ := hrel
    obtain ⟨q0, q1, q2⟩ := BK.out.s.1
    have hz0 : w.heap.size < wr.heap.size := BK.out.s.2.2
    have hz1 : w.heap.size + 1 < wr.heap.size := BK.out.n.lt
    by_cases hlt : k < 9
    · have hki : (k : Int) < 9 := by omega
      have HI := Lib.hid (idxZon_any (fun z => decide (z.nm = m)) 107 (.pointer (some ⟨w.heap.size + 1, 0, none⟩)) vz s.zones wr (HS.out.mono BK.out.s.2.1).2.1 follow1_enters
        (fun z _ u w1 hb => follow1_any z.nm m u (w.heap.size + 1) w1 ((hb.cell (p := ⟨_, 0, none⟩) hz1).trans (BK.out.n.cell 0))))
      have HJ := Lib.hid (fun wx (hb : Below wr.heap.size wr wx) => idxLnk_any (fun z => decide (z.nm = m)) 109 (.pointer (some ⟨w.heap.size + 1, 0, none⟩)) (.slice al s.links.length cl) s.links wx (HS.out.mono (BK.out.s.2.1.trans (hb.mono (by omega)))).2.2 follow2_enters
        (fun z _ w1 hb1 => follow2_any z.of z.nm m (w.heap.size + 1) w1 (((hb1.mono hb.size).cell (p := ⟨_, 0, none⟩) hz1).trans ((hb.cell (p := ⟨_, 0, none⟩) hz1).trans (BK.out.n.cell 0)))))
      have hzd : zIdx s m = fidx (fun z => decide (z.nm = m)) s.zones := rfl
      have hld : lIdx s m = fidx (fun z => decide (z.nm = m)) s.links := rfl
      rw [← hzd] at HI
      rw [← hld] at HJ
      have HY := Lib.hid (fun h => folR_yes HF.out hlt h)
      have HNO := Lib.hid (fun h h2 => folR_no HF.out hlt h h2)
      have HNX := Lib.hid (fun j h h2 h3 => folR_next (j := j) HF.out hlt h h2 h3)
      have HLC := Lib.hid (fidx_cases (fun z : Lnk => decide (z.nm = m)) s.links)
      rw [← hld] at HLC
      clear hzd hld HF
      generalize zIdx s m = z at *
      generalize lIdx s m = L at *
      go_wp2_with fail
      refine HI.out.mono ?_; rintro e w1 ⟨rfl, hb1⟩
      have B1 := Lib.hid (BK.out.next hb1)
      have HB1 := Lib.hid hb1
      clear hb1 HI
      by_cases hz : 0 ≤ z
      · have HA := Lib.hid (HP.out z (HY.out hz))
        have hzn : ¬ z < 0 := by omega
        have HA1 : Hid (R1 = z) := by show _ = _; rw [HA.out.1, if_neg hzn]
        have HA2 : Hid (R2 = true) := by show _ = _; rw [HA.out.2, decide_eq_false hzn]; rfl
        clear HA HNO HNX HLC HJ
        go_wp2
        go_ret2
        exact ⟨by rw [HA1.out, HA2.out]; rfl, B1.out.s.2.1⟩
      · obtain ⟨r0, r1, r2⟩ := B1.out.s.1
        have hz3 : w.heap.size < w1.heap.size := B1.out.s.2.2
        go_wp2_with fail
        refine (HJ.out _ HB1.out).mono ?_; rintro e w2 ⟨rfl, hb2⟩
        have B2 := Lib.hid (B1.out.next hb2)
        clear hb2 HJ q0 q1 q2 r0 r1 r2 HB1
        rcases HLC.out with hL | ⟨j, hj, rfl⟩
        · have HA := Lib.hid (HPN.out (HNO.out hz hL))
          clear HNO HNX HLC HY
          go_wp2
          go_ret2
          exact ⟨by rw [HA.out.1, HA.out.2]; rfl, B2.out.s.2.1⟩
        · have HNX2 := Lib.hid (HNX.out j hz rfl hj)
          clear HNO HNX HLC HY
          obtain ⟨b, off, rfl, hb, ⟨d0, d1⟩, -⟩ := elemLnk (HS.out.mono B2.out.s.2.1).2.2 j hj
          generalize s.links[j] = lk at *
          obtain ⟨q0, q1, q2⟩ := B2.out.s.1
          have n0 : w2.cell? ⟨w.heap.size + 1, 0, none⟩ = some (.string m) := B2.out.n.cell 0
          have nf : w2.frozen? ⟨w.heap.size + 1, 0, none⟩ = false := B2.out.n.frozen 0
          have nz : w.heap.size + 1 < w2.heap.size := B2.out.n.lt
          have hji : (j : Int) < (s.links.length : Int) := by omega
          have hj0 : ¬ (j : Int) < 0 := by omega
          go_wp2
          go_roundw
          case rel => exact ⟨k + 1, lk.of, by omega, by go_num, HNX2, B2.out.set _⟩
          case measure => simp [intOf]; omega
    · obtain rfl : k = 9 := by omega
      have HA : Hid (R1 = 0 ∧ R2 = false) := HPN.out (HF.out.elim (fun h => absurd h.1 (by omega)) fun h => h.2)
      clear hlt hk HF
      go_wp2
      go_ret2
      exact ⟨by rw [HA.out.1, HA.out.2]; rfl, BK.out.s.2.1⟩
end Go.Proofs.YtbikdlcjbigafaaGreatDoor
namespace Go.Proofs.YtbikdlcjbigafaaGreatDoor
set_option linter.unusedVariables false
set_option linter.unusedSimpArgs false

def SzOk (s : Src) : Prop := s.rules.length ≤ 200 ∧ s.zones.length ≤ 200 ∧ s.links.length ≤ 200
theorem srcE_sz {s : Src} (h : ¬ SzOk s) : srcE s = 1 := by
  unfold srcE SzOk at *
  rw [if_pos (by omega)]
theorem srcE_r {s : Src} (h : SzOk s) (h1 : rulsE s ≠ 0) : srcE s = rulsE s := by
  unfold srcE SzOk at *
  rw [if_neg (by omega), if_pos h1]
theorem srcE_z {s : Src} (h : SzOk s) (h1 : rulsE s = 0) (h2 : zonsE s ≠ 0) : srcE s = zonsE s := by
  unfold srcE SzOk at *
  rw [if_neg (by omega), if_neg (by simpa using h1), if_pos h2]
theorem srcE_1 {s : Src} (h : SzOk s) (h1 : rulsE s = 0) (h2 : zonsE s = 0) (h3 : lnk1 s ≠ 0) : srcE s = lnk1 s := by
  unfold srcE SzOk at *
  rw [if_neg (by omega), if_neg (by simpa using h1), if_neg (by simpa using h2), if_pos h3]
theorem srcE_2 {s : Src} (h : SzOk s) (h1 : rulsE s = 0) (h2 : zonsE s = 0) (h3 : lnk1 s = 0) (h4 : lnk2 s ≠ 0) : srcE s = lnk2 s := by
  unfold srcE SzOk at *
  rw [if_neg (by omega), if_neg (by simpa using h1), if_neg (by simpa using h2), if_neg (by simpa using h3), if_pos h4]
theorem srcE_3 {s : Src} (h : SzOk s) (h1 : rulsE s = 0) (h2 : zonsE s = 0) (h3 : lnk1 s = 0) (h4 : lnk2 s = 0) : srcE s = lnk3 s := by
  unfold srcE SzOk at *
  rw [if_neg (by omega), if_neg (by simpa using h1), if_neg (by simpa using h2), if_neg (by simpa using h3), if_neg (by simpa using h4)]
/-- a loop over what may be wrong: what has been said so far. -/
def NoE {α : Type} (f : Nat → α → Int) (xs : List α) (k : Nat) : Prop := ∀ (j : Nat) (h : j < xs.length), j < k → f j xs[j] = 0
theorem NoE.zero {α : Type} (f : Nat → α → Int) (xs : List α) : NoE f xs 0 := fun j h hk => by omega
theorem NoE.succ {α : Type} {f : Nat → α → Int} {xs : List α} {k : Nat} (h : NoE f xs k) (hk : k < xs.length) (h0 : f k xs[k] = 0) : NoE f xs (k + 1) := fun j hj hjk => by
  by_cases e : j = k
  · subst e; exact h0
  · exact h j hj (by omega)
theorem NoE.all {α : Type} {f : Nat → α → Int} {xs : List α} (h : NoE f xs xs.length) : ferr f 0 xs = 0 := ferr_none f xs 0 fun i hi => by rw [Nat.zero_add]; exact h i hi hi
theorem NoE.at {α : Type} {f : Nat → α → Int} {xs : List α} {k : Nat} (h : NoE f xs k) (hk : k < xs.length) (h0 : f k xs[k] ≠ 0) : ferr f 0 xs = f k xs[k] := by
  have := ferr_at f xs 0 k hk (fun i hi => by rw [Nat.zero_add]; exact h i (by omega) hi) (by rw [Nat.zero_add]; exact h0)
  rwa [Nat.zero_add] at this
theorem rsOk_of {s : Src} (h : SzOk s) (h1 : rulsE s = 0) : RsOk s := by
  refine ⟨fun r hr => ?_, h.1⟩
  obtain ⟨i, hi, rfl⟩ := List.mem_iff_getElem.1 hr
  exact ferrZ_all (fun _ r => rulE r) s.rules 0 h1 i hi
end Go.Proofs.YtbikdlcjbigafaaGreatDoor
