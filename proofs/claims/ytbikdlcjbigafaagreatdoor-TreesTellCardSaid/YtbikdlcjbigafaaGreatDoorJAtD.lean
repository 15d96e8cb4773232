/-
  A zone that may be; zones.era, zones.find: the walks. · zones.At: the walk (printed by atgen.py).
-/
import Derived.BigRegion
import Derived.Shelf.Slices.SearchI
import Derived.Shelf.Slices.Empties
import Derived.Shelf.Lays2
import Derived.Test.YtbikdlcjbigafaaGreatDoorJAtB
import Derived.Test.YtbikdlcjbigafaaGreatDoorJOptP
import Derived.Test.YtbikdlcjbigafaaGreatDoorProg
import Derived.Test.YtbikdlcjbigafaaGreatDoorJZonY0
namespace Go.Proofs.YtbikdlcjbigafaaGreatDoor
set_option linter.unusedVariables false
set_option linter.unusedSimpArgs false
open Go.ChangeShapes Go.WideShapes Go.ChangeAt Go.RowKit Civ

theorem letsB_six {s : ByteArray} (h : letsB s = true) : s.size ≤ 6 := by
  unfold letsB at h
  have := of_decide_eq_true (Bool.and_eq_true_iff.1 h).1
  omega
theorem stL_six (s : Src) (x : Ero) (t : Int) (h : ∀ r ∈ s.rules, rulE r = 0) : (stL s.rules x (trE s.rules x) t).2.size ≤ 6 := by
  unfold stL
  by_cases e : x.rl = ByteArray.empty
  · rw [if_pos e]; exact Nat.zero_le 6
  · rw [if_neg e]
    cases hl : lastT (trE s.rules x) t with
    | none =>
      show (firstL s.rules x.rl).size ≤ 6
      unfold firstL
      split
      · rename_i r hr
        exact letsB_six (rulE_zero (h r (List.mem_of_find?_eq_some hr))).2.1
      · decide
    | some c =>
      unfold lastT at hl
      have h1 := List.mem_reverse.1 (List.mem_of_find?_eq_some hl)
      unfold trE trns at h1
      obtain ⟨y, hy, e1⟩ := atZ_mem _ _ _ _ h1
      have h2 := (trn0_all s.rules x.rl h).1.rl y (so_mem hy)
      have h3 := (rulE_zero (h _ h2.1)).2.1
      rw [e1] at h3
      exact letsB_six h3
/-- a zone that may be. -/
structure GdZ (s : Src) (z : Zon) : Prop where
  rs : RsOk s
  n1 : 1 ≤ z.eras.length
  n20 : z.eras.length ≤ 20
  e : ∀ x ∈ z.eras, fmtL x.fm.data.toList = true ∧ (-86400 ≤ x.off ∧ x.off ≤ 86400) ∧ (-86400 ≤ x.sv ∧ x.sv ≤ 86400)
  k : ∀ (k : Nat) (h : k + 1 < z.eras.length), EOk s (z.eras[k]'(by omega))
  r : Rise (untL s.rules z.eras)
theorem GdZ.rok {s : Src} {z : Zon} (h : GdZ s z) {x : Ero} (hx : x ∈ z.eras) : ROk s x := ⟨h.rs.1, h.rs.2, (h.e x hx).2.1⟩
theorem GdZ.cok {s : Src} {z : Zon} (h : GdZ s z) {x : Ero} (hx : x ∈ z.eras) (t : Int) : COk x (stL s.rules x (trE s.rules x) t).1 (stL s.rules x (trE s.rules x) t).2 :=
  ⟨(h.e x hx).1, (h.e x hx).2.1, stL_bd s x t h.rs.1 (h.e x hx).2.2, stL_six s x t h.rs.1⟩
theorem GdZ.len {s : Src} {z : Zon} (h : GdZ s z) : (untL s.rules z.eras).length + 1 = z.eras.length := by rw [untL_len]; have := h.n1; omega
theorem eroE_zero {rules : List Rul} {x : Ero} {last : Bool} (h : eroE rules x last = 0) : fmtL x.fm.data.toList = true ∧ (-86400 ≤ x.off ∧ x.off ≤ 86400) ∧ (-86400 ≤ x.sv ∧ x.sv ≤ 86400) := by
  unfold eroE at h
  split at h
  · cases h
  · rename_i h1
    split at h
    · cases h
    · rename_i h2
      refine ⟨?_, by omega, by omega⟩
      unfold eroF at h1
      simp only [Bool.or_eq_true, not_or] at h1
      simpa using h1.1.1.1
theorem srcE_all {s : Src} (h : srcE s = 0) : SzOk s ∧ rulsE s = 0 ∧ zonsE s = 0 := by
  have h1 : SzOk s := by
    by_cases e : SzOk s
    · exact e
    · rw [srcE_sz e] at h; cases h
  have h2 : rulsE s = 0 := by
    by_cases e : rulsE s = 0
    · exact e
    · rw [srcE_r h1 e] at h; exact absurd h e
  have h3 : zonsE s = 0 := by
    by_cases e : zonsE s = 0
    · exact e
    · rw [srcE_z h1 h2 e] at h; exact absurd h e
  exact ⟨h1, h2, h3⟩
theorem gdZ_of {s : Src} (h : srcE s = 0) (i : Nat) (hi : i < s.zones.length) : GdZ s s.zones[i] := by
  obtain ⟨h1, h2, h3⟩ := srcE_all h
  have hr := rsOk_of h1 h2
  have h4 := ferrZ_all _ s.zones 0 h3 i hi
  rw [Nat.zero_add] at h4
  have h5 : zonE s.rules s.zones[i] = 0 := by
    unfold zonF at h4
    split at h4
    · exact h4
    · rename_i e; simpa using e
  generalize s.zones[i] = z at *
  have n0 : nameS z.nm = true := by
    rcases e : nameS z.nm with _ | _
    · rw [zonE_a e] at h5; cases h5
    · rfl
  have n1 : ¬ (z.eras.length = 0 ∨ 20 < z.eras.length) := fun e => by rw [zonE_b n0 e] at h5; cases h5
  have n2 : erosE s.rules z.eras = 0 := by
    by_cases e : erosE s.rules z.eras = 0
    · exact e
    · rw [zonE_c n0 n1 e] at h5; exact absurd h5 e
  rw [zonE_d n0 n1 n2] at h5
  have n3 : riseB (untL s.rules z.eras) = true := by
    split at h5
    · assumption
    · cases h5
  refine ⟨hr, by omega, by omega, fun x hx => ?_, fun k hk => eok_of hr n2 k hk, (riseB_iff _).1 n3⟩
  obtain ⟨k, hk, rfl⟩ := List.mem_iff_getElem.1 hx
  exact eroE_zero (ferrZ_all _ z.eras 0 n2 k hk)
theorem folL_rng (s : Src) : ∀ (k : Nat) (n : ByteArray), folL s k n < 0 ∨ ∃ i : Nat, i < s.zones.length ∧ folL s k n = (i : Int)
  | 0, n => fidx_cases _ _
  | k + 1, n => by
    unfold folL
    split
    · rename_i h
      rcases fidx_cases (fun z => decide (z.nm = n)) s.zones with h' | h'
      · exact absurd h (by show ¬ 0 ≤ fidx _ _; omega)
      · exact .inr h'
    · split
      · exact .inl (by decide)
      · exact folL_rng s k _
/-- what is wrong with a source, or with a name that is looked up. -/
def fndS (s : Src) (n : ByteArray) : Int := if srcE s ≠ 0 then srcE s else if folL s 8 n < 0 then 6 else 0
structure FiB (w wx : World) (vr vz vl : Value) : Prop where
  s : SrB w wx vr vz vl
  r : BxO wx (w.heap.size + 1) #[.string ⟨#[]⟩, .slice none 0 0] 65
theorem FiB.next {w wx w' : World} {vr vz vl : Value} (h : FiB w wx vr vz vl) (hb : Below wx.heap.size wx w') : FiB w w' vr vz vl := ⟨h.s.next hb, (hb.block _ h.r.lt).trans h.r⟩
theorem FiB.new (w : World) (vr vz vl : Value) : FiB w ((w.alloc (.cells #[vr, vz, vl] 28)).alloc (.cells #[.string ⟨#[]⟩, .slice none 0 0] 65)) vr vz vl := by
  have h := BxO.new (w.alloc (.cells #[vr, vz, vl] 28)) #[.string ⟨#[]⟩, .slice none 0 0] 65
  rw [size_alloc] at h
  exact ⟨(SrB.new w vr vz vl).next ((Below.refl _ _).alloc (Nat.le_refl _) _), h⟩
theorem FiB.done {w wx : World} {vr vz vl : Value} (h : FiB w wx vr vz vl) (u0 u1 : Value) : Below w.heap.size w ((wx.setCell ⟨w.heap.size + 1, 0, none⟩ u0).setCell ⟨w.heap.size + 1, 1, none⟩ u1) :=
  (h.s.2.1.setCell (p := ⟨w.heap.size + 1, 0, none⟩) (Nat.le_succ _) _).setCell (p := ⟨w.heap.size + 1, 1, none⟩) (Nat.le_succ _) _
set_option maxHeartbeats 2000000 in
set_option maxRecDepth 100000 in
theorem find_any (s : Src) (n : ByteArray) (vr vz vl : Value) (w : World) (hs : SrcAt w vr vz vl s) (hV : Tab w ∧ MxL w) :
    Calls Tryz.prog 31 #[.agg #[vr, vz, vl], .string n] w fun e w' => ∃ (nm : ByteArray) (a : Option Addr) (m c : Nat), e = .returned (.tuple #[.agg #[.string nm, .slice a m c], .int .i64 (fndS s n)]) ∧ (fndS s n = 0 → ∃ (i : Nat) (h : i < s.zones.length), folL s 8 n = (i : Int) ∧ nm = s.zones[i].nm ∧ SlAt w' 12 REro (.slice a m c) s.zones[i].eras) ∧ Below w.heap.size w w' := by
  have F0 := Lib.hid (FiB.new w vr vz vl)
  obtain ⟨W0, hW0⟩ : ∃ W0, W0 = (w.alloc (.cells #[vr, vz, vl] 28)).alloc (.cells #[.string ⟨#[]⟩, .slice none 0 0] 65) := ⟨_, rfl⟩
  rw [← hW0] at F0
  have HW := Lib.hid hW0
  have HS := Lib.hid hs
  have HCK := Lib.hid (fun wx (hb : Below w.heap.size w wx) => zcheck_any s vr vz vl wx (hs.mono hb) ⟨hV.1.below hb, hV.2.below hb⟩)
  have HFO := Lib.hid (fun wx (hb : Below w.heap.size w wx) => follow_any s n vr vz vl wx (hs.mono hb))
  obtain ⟨az, cz, rfl, hlz⟩ := hs.2.1.shape
  clear hs hV hW0 hlz
  obtain ⟨E, hE⟩ : ∃ E, E = srcE s := ⟨_, rfl⟩
  have HE := Lib.hid hE
  rw [← hE] at HCK
  clear hE
  obtain ⟨q0, q1, q2⟩ := F0.out.s.1
  go_enter Tryz.func31, Tryz.ntmps31
  go_upto_region 1 with fail
  rw [← HW.out]
  clear HW
  go_wp2_with fail
  refine (HCK.out _ F0.out.s.2.1).mono ?_; rintro e w1 ⟨rfl, hb1⟩
  have F1 := Lib.hid (F0.out.next hb1)
  clear hb1 q0 q1 q2 F0 HCK
  obtain ⟨q0, q1, q2⟩ := F1.out.s.1
  have r0 : w1.cell? ⟨w.heap.size + 1, 0, none⟩ = some (.string ⟨#[]⟩) := F1.out.r.cell 0
  have r1 : w1.cell? ⟨w.heap.size + 1, 1, none⟩ = some (.slice none 0 0) := F1.out.r.cell 1
  have f0 : w1.frozen? ⟨w.heap.size + 1, 0, none⟩ = false := F1.out.r.frozen 0
  have f1 : w1.frozen? ⟨w.heap.size + 1, 1, none⟩ = false := F1.out.r.frozen 1
  have zl : w.heap.size + 1 < w1.heap.size := F1.out.r.lt
  by_cases h0 : E = 0
  · subst h0
    go_wp2_with fail
    refine (HFO.out _ F1.out.s.2.1).mono ?_; rintro e w2 ⟨rfl, hb2⟩
    have F2 := Lib.hid (F1.out.next hb2)
    clear hb2 q0 q1 q2 r0 r1 f0 f1 zl F1 HFO
    obtain ⟨q0, q1, q2⟩ := F2.out.s.1
    have r0 : w2.cell? ⟨w.heap.size + 1, 0, none⟩ = some (.string ⟨#[]⟩) := F2.out.r.cell 0
    have r1 : w2.cell? ⟨w.heap.size + 1, 1, none⟩ = some (.slice none 0 0) := F2.out.r.cell 1
    have f0 : w2.frozen? ⟨w.heap.size + 1, 0, none⟩ = false := F2.out.r.frozen 0
    have f1 : w2.frozen? ⟨w.heap.size + 1, 1, none⟩ = false := F2.out.r.frozen 1
    have zl : w.heap.size + 1 < w2.heap.size := F2.out.r.lt
    rcases folL_rng s 8 n with h | ⟨i, hi, h⟩
    · have HD : Hid (fndS s n = 6) := by show _ = _; unfold fndS; rw [← HE.out, if_neg (by simp), if_pos h]
      rw [if_pos h, decide_eq_true h]
      clear h
      go_wp2
      refine bodyPost_ret (v := .tuple #[.agg #[.string ⟨#[]⟩, .slice none 0 0], .int .i64 6]) (by simp [results, Tryz.results31, go_sem, r0, r1, zl]) rfl ⟨⟨#[]⟩, none, 0, 0, by rw [HD.out], fun h => (by rw [HD.out] at h; cases h), F2.out.done _ _⟩
    · have HD : Hid (fndS s n = 0) := by show _ = _; unfold fndS; rw [← HE.out, if_neg (by simp), if_neg (by omega)]
      have HI := Lib.hid h
      obtain ⟨b, off, v, rfl, hb, ⟨D0, D1⟩, hx, hn⟩ := elemZon HS.out.2.1 i hi
      have d0 := (F2.out.s.2.1.cell (p := ⟨b, off + i * 2, none⟩) hb).trans D0
      have d1 := (F2.out.s.2.1.cell (p := ⟨b, off + i * 2 + 1, none⟩) hb).trans D1
      clear D0 D1
      have hki : (i : Int) < (s.zones.length : Int) := by omega
      obtain ⟨ae, ce, rfl, hle⟩ := hx.shape
      have HX := Lib.hid hx
      rw [if_neg (by omega), decide_eq_false (by omega), h]
      clear h hx hn
      go_wp2
      refine bodyPost_ret (v := .tuple #[.agg #[.string s.zones[i].nm, .slice ae s.zones[i].eras.length ce], .int .i64 0]) (by simp [results, Tryz.results31, go_sem, r0, r1, zl]) rfl ⟨s.zones[i].nm, ae, s.zones[i].eras.length, ce, by rw [HD.out], fun _ => ⟨i, hi, HI.out, rfl, HX.out.mono (F2.out.done _ _) fun _ _ h => h⟩, F2.out.done _ _⟩
  · have hE0 : (E != 0) = true := by rw [bne_iff_ne]; exact h0
    have HD : Hid (fndS s n = E) := by show _ = _; unfold fndS; rw [← HE.out, if_pos h0]
    have H0 := Lib.hid h0
    clear h0
    go_wp2
    refine bodyPost_ret (v := .tuple #[.agg #[.string ⟨#[]⟩, .slice none 0 0], .int .i64 E]) (by simp [results, Tryz.results31, go_sem, r0, r1, zl]) rfl ⟨⟨#[]⟩, none, 0, 0, by rw [HD.out], fun h => absurd (HD.out.symm.trans h) H0.out, F1.out.done _ _⟩
end Go.Proofs.YtbikdlcjbigafaaGreatDoor

namespace Go.Proofs.YtbikdlcjbigafaaGreatDoor
set_option linter.unusedVariables false
set_option linter.unusedSimpArgs false
open Go.ChangeShapes Go.WideShapes Go.ChangeAt Go.RowKit Civ

theorem BxO.twelve {W : World} {b : Nat} {t : TypeId} {a0 a1 a2 a3 a4 a5 a6 a7 a8 a9 a10 a11 : Value} (h : BxO W b #[a0, a1, a2, a3, a4, a5, a6, a7, a8, a9, a10, a11] t) :
    W.cell? ⟨b, 0, none⟩ = some a0 ∧ W.cell? ⟨b, 1, none⟩ = some a1 ∧ W.cell? ⟨b, 2, none⟩ = some a2 ∧ W.cell? ⟨b, 3, none⟩ = some a3 ∧ W.cell? ⟨b, 4, none⟩ = some a4 ∧ W.cell? ⟨b, 5, none⟩ = some a5 ∧ W.cell? ⟨b, 6, none⟩ = some a6 ∧ W.cell? ⟨b, 7, none⟩ = some a7 ∧ W.cell? ⟨b, 8, none⟩ = some a8 ∧ W.cell? ⟨b, 9, none⟩ = some a9 ∧ W.cell? ⟨b, 10, none⟩ = some a10 ∧ W.cell? ⟨b, 11, none⟩ = some a11 ∧ W.frozen? ⟨b, 0, none⟩ = false ∧ W.frozen? ⟨b, 1, none⟩ = false ∧ W.frozen? ⟨b, 2, none⟩ = false ∧ W.frozen? ⟨b, 3, none⟩ = false ∧ W.frozen? ⟨b, 4, none⟩ = false ∧ W.frozen? ⟨b, 5, none⟩ = false ∧ W.frozen? ⟨b, 6, none⟩ = false ∧ W.frozen? ⟨b, 7, none⟩ = false ∧ W.frozen? ⟨b, 8, none⟩ = false ∧ W.frozen? ⟨b, 9, none⟩ = false ∧ W.frozen? ⟨b, 10, none⟩ = false ∧ W.frozen? ⟨b, 11, none⟩ = false ∧ b < W.heap.size := ⟨h.cell 0, h.cell 1, h.cell 2, h.cell 3, h.cell 4, h.cell 5, h.cell 6, h.cell 7, h.cell 8, h.cell 9, h.cell 10, h.cell 11, h.frozen 0, h.frozen 1, h.frozen 2, h.frozen 3, h.frozen 4, h.frozen 5, h.frozen 6, h.frozen 7, h.frozen 8, h.frozen 9, h.frozen 10, h.frozen 11, h.lt⟩
end Go.Proofs.YtbikdlcjbigafaaGreatDoor
