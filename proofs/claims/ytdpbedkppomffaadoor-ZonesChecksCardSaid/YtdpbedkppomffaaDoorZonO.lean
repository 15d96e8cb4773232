/-
  sundialref.endOf: where an era ends.
-/
import Derived.Test.YtdpbedkppomffaaDoorZonG
import Derived.Test.YtdpbedkppomffaaDoorZonN
namespace Go.Proofs.YtdpbedkppomffaaDoor
set_option linter.unusedVariables false
set_option linter.unusedSimpArgs false
open Go.ChangeShapes Go.WideShapes Go.ChangeAt Go.RowKit Civ

structure EOk (s : Src) (x : Ero) : Prop where
  r : ROk s x
  v : -86400 ≤ x.sv ∧ x.sv ≤ 86400
  k : chkM x.un.mo x.un.k x.un.a x.un.n x.un.t x.un.c = 0
  f : fndE x.yr x.un.mo x.un.k x.un.a x.un.n = 0
theorem atZ_mem (o : Int) : ∀ (l : List Trn) (s : Int) (x : Trn), x ∈ atZ o s l → ∃ y ∈ l, y.r = x.r
  | [], _, x, h => by cases h
  | y :: l, s, x, h => by
    have h' : x ∈ (⟨y.r, y.no, y.tg, insT' o s y⟩ : Trn) :: atZ o y.r.sv l := h
    rcases List.mem_cons.1 h' with rfl | h2
    · exact ⟨y, List.mem_cons_self, rfl⟩
    · obtain ⟨z, hz, e⟩ := atZ_mem o l _ x h2
      exact ⟨z, List.mem_cons_of_mem _ hz, e⟩
theorem stL_bd (s : Src) (x : Ero) (t : Int) (h : ∀ r ∈ s.rules, rulE r = 0) (hv : -86400 ≤ x.sv ∧ x.sv ≤ 86400) : -86400 ≤ (stL s.rules x (trE s.rules x) t).1 ∧ (stL s.rules x (trE s.rules x) t).1 ≤ 86400 := by
  unfold stL
  by_cases e : x.rl = ByteArray.empty
  · rw [if_pos e]; exact hv
  · rw [if_neg e]
    cases hl : lastT (trE s.rules x) t with
    | none => exact ⟨by show (-86400 : Int) ≤ 0; decide, by show (0 : Int) ≤ 86400; decide⟩
    | some c =>
      unfold lastT at hl
      have h1 := List.mem_reverse.1 (List.mem_of_find?_eq_some hl)
      unfold trE trns at h1
      obtain ⟨y, hy, e1⟩ := atZ_mem _ _ _ _ h1
      have h2 := (trn0_all s.rules x.rl h).1.rl y (so_mem hy)
      obtain ⟨-, -, -, -, -, a, b, -⟩ := rulE_zero (h _ h2.1)
      rw [e1] at a b
      exact ⟨a, b⟩
theorem chkM_one {mo k a n t : Int} (h : chkM mo k a n t 0 = 0) : chkM mo k a n t 1 = 0 := by
  obtain ⟨h1, -, -, h2, h3, h4, h5⟩ := chkM_zero h
  unfold chkM
  rw [if_neg (by omega), if_neg (by omega), if_neg (by omega)]
theorem insE_of {y mo k a n t c o s : Int} (h1 : chkM mo k a n t c = 0) (h2 : -86400 ≤ o ∧ o ≤ 86400) (h3 : -86400 ≤ s ∧ s ≤ 86400) (h4 : fndE y mo k a n = 0) : insE y mo k a n t c o s = 0 := by
  unfold insE
  rw [if_neg (by omega), if_neg (by omega), h4]
set_option maxHeartbeats 8000000 in
set_option maxRecDepth 100000 in
theorem endOf_any (s : Src) (x : Ero) (vr vz vl : Value) (w : World) (hs : SrcAt w vr vz vl s) (hok : EOk s x) :
    Calls Tryd.prog 64 #[.agg #[vr, vz, vl], .agg #[.int .i64 x.off, .string x.rl, .int .i64 x.sv, .string x.fm, .bool x.en, .int .i64 x.yr, .int .i64 x.un.mo, .int .i64 x.un.k, .int .i64 x.un.a, .int .i64 x.un.n, .int .i64 x.un.t, .int .i64 x.un.c]] w fun e w' => e = .returned (.int .i64 (endE s.rules x)) ∧ Below w.heap.size w w' := by
  have Z0 := Lib.hid (ZBx.new w vr vz vl x)
  obtain ⟨W0, hW0⟩ : ∃ W0, W0 = (w.alloc (.cells #[vr, vz, vl] 26)).alloc (.cells #[.int .i64 x.off, .string x.rl, .int .i64 x.sv, .string x.fm, .bool x.en, .int .i64 x.yr, .int .i64 x.un.mo, .int .i64 x.un.k, .int .i64 x.un.a, .int .i64 x.un.n, .int .i64 x.un.t, .int .i64 x.un.c] 36) := ⟨_, rfl⟩
  have hz0 : W0.heap.size = w.heap.size + 1 + 1 := by rw [hW0, size_alloc, size_alloc]
  rw [← hW0] at Z0
  have HW := Lib.hid hW0
  have HS := Lib.hid hs
  have HO := Lib.hid hok
  have hfb := fnd_bd _ _ _ _ _ hok.f
  obtain ⟨-, hc0, hc1, hm0, hm1, ht0, ht1⟩ := chkM_zero hok.k
  have hoo := hok.r.o
  have HE : Hid (endE s.rules x = unI x x.un.c (svE s.rules x)) := rfl
  clear hs hok hW0
  by_cases hc : x.un.c = 0
  · have HIN : Hid (∀ wx, Calls Tryd.prog 101 #[.int .i64 x.yr, .agg #[.int .i64 x.un.mo, .int .i64 x.un.k, .int .i64 x.un.a, .int .i64 x.un.n, .int .i64 x.un.t, .int .i64 1], .int .i64 x.off, .int .i64 0] wx fun e w' => e = .returned (.tuple #[.int .i64 (unI x 1 0), .int .i64 0]) ∧ Below wx.heap.size wx w') := fun wx => by
      have hk := HO.out.k
      rw [hc] at hk
      exact instantof_ok _ _ _ _ _ _ _ _ _ wx (insE_of (chkM_one hk) HO.out.r.o ⟨by decide, by decide⟩ HO.out.f)
    have HST : Hid (∀ wx, Below w.heap.size w wx → Calls Tryd.prog 102 #[.agg #[vr, vz, vl], .agg #[.int .i64 x.off, .string x.rl, .int .i64 x.sv, .string x.fm, .bool x.en, .int .i64 x.yr, .int .i64 x.un.mo, .int .i64 x.un.k, .int .i64 x.un.a, .int .i64 x.un.n, .int .i64 x.un.t, .int .i64 x.un.c], .int .i64 (unI x 1 0 - 1)] wx fun e w' => e = .returned (.tuple #[.int .i64 (svE s.rules x), .string (stL s.rules x (trE s.rules x) (unI x 1 0 - 1)).2]) ∧ Below wx.heap.size wx w') := fun wx hb => by
      have h := stateOf_any s x (unI x 1 0 - 1) vr vz vl wx (HS.out.mono hb) HO.out.r
      have e : svE s.rules x = (stL s.rules x (trE s.rules x) (unI x 1 0 - 1)).1 := by unfold svE; rw [if_pos hc]
      rw [e]
      exact h
    have hI : unI x 1 0 = fnd x.yr x.un.mo x.un.k x.un.a x.un.n * 86400 + x.un.t - x.off := by unfold unI ins; simp
    have hsb : -86400 ≤ svE s.rules x ∧ svE s.rules x ≤ 86400 := by
      have e : svE s.rules x = (stL s.rules x (trE s.rules x) (unI x 1 0 - 1)).1 := by unfold svE; rw [if_pos hc]
      rw [e]
      exact stL_bd s x _ HO.out.r.ok HO.out.v
    have HR : Hid (endE s.rules x = unI x 1 0 - svE s.rules x) := by
      show _ = _
      rw [HE.out, hI, hc]
      unfold unI ins
      rw [if_pos rfl]
      omega
    generalize svE s.rules x = sv at *
    have hIb : -3000000000 ≤ unI x 1 0 ∧ unI x 1 0 ≤ 5000000000 := by omega
    obtain ⟨hIb1, hIb2⟩ := hIb
    obtain ⟨hsb1, hsb2⟩ := hsb
    generalize unI x 1 0 = T at *
    have hcb : (x.un.c != 0) = false := by rw [hc]; rfl
    clear hfb hc0 hc1 hm0 hm1 ht0 ht1 hoo HE hI hc
    go_enter Tryd.func64, Tryd.ntmps64
    go_upto_region 1 with fail
    rw [← HW.out]
    obtain ⟨g0, g1, g2, g3, g4, g5, g6, g7, g8, g9, g10, g11⟩ := Z0.out.era
    obtain ⟨q0, q1, q2⟩ := Z0.out.1
    have hz1 : w.heap.size + 1 < W0.heap.size := by omega
    go_wp2_with fail
    refine (HIN.out _).mono ?_
    rintro e w3 ⟨rfl, hb3⟩
    have Z3 := Lib.hid ((Z0.out.next ((Below.refl _ W0).alloc (Nat.le_refl _) _)).next hb3)
    clear hb3 g0 g1 g2 g3 g4 g5 g6 g7 g8 g9 g10 g11 q0 q1 q2 Z0 HW HIN
    obtain ⟨g0, g1, g2, g3, g4, g5, g6, g7, g8, g9, g10, g11⟩ := Z3.out.era
    obtain ⟨q0, q1, q2⟩ := Z3.out.1
    have hz3 : w.heap.size + 1 < w3.heap.size := Z3.out.2.2.2
    go_wp2_with fail
    refine (HST.out _ Z3.out.2.2.1).mono ?_
    rintro e w4 ⟨rfl, hb4⟩
    have B4 := Lib.hid (Z3.out.2.2.1.trans (hb4.mono Z3.out.2.2.1.size))
    clear hb4 g0 g1 g2 g3 g4 g5 g6 g7 g8 g9 g10 g11 q0 q1 q2 HST
    go_wp2
    go_ret
    exact ⟨by rw [HR.out]; rfl, B4.out⟩
  · have HIN : Hid (∀ wx, Calls Tryd.prog 101 #[.int .i64 x.yr, .agg #[.int .i64 x.un.mo, .int .i64 x.un.k, .int .i64 x.un.a, .int .i64 x.un.n, .int .i64 x.un.t, .int .i64 x.un.c], .int .i64 x.off, .int .i64 0] wx fun e w' => e = .returned (.tuple #[.int .i64 (unI x x.un.c 0), .int .i64 0]) ∧ Below wx.heap.size wx w') := fun wx =>
      instantof_ok _ _ _ _ _ _ _ _ _ wx (insE_of HO.out.k HO.out.r.o ⟨by decide, by decide⟩ HO.out.f)
    have HR : Hid (endE s.rules x = unI x x.un.c 0) := by
      show _ = _
      rw [HE.out]
      unfold svE
      rw [if_neg hc]
    have hcb : (x.un.c != 0) = true := by rw [bne_iff_ne]; exact hc
    clear hfb hc0 hc1 hm0 hm1 ht0 ht1 hoo HE hc
    go_enter Tryd.func64, Tryd.ntmps64
    go_upto_region 1 with fail
    rw [← HW.out]
    obtain ⟨g0, g1, g2, g3, g4, g5, g6, g7, g8, g9, g10, g11⟩ := Z0.out.era
    obtain ⟨q0, q1, q2⟩ := Z0.out.1
    have hz1 : w.heap.size + 1 < W0.heap.size := by omega
    go_wp2_with fail
    refine (HIN.out _).mono ?_
    rintro e w3 ⟨rfl, hb3⟩
    have Z3 := Lib.hid ((Z0.out.next ((Below.refl _ W0).alloc (Nat.le_refl _) _)).next hb3)
    clear hb3 g0 g1 g2 g3 g4 g5 g6 g7 g8 g9 g10 g11 q0 q1 q2 Z0 HW HIN
    go_wp2
    go_ret
    exact ⟨by rw [HR.out]; rfl, Z3.out.2.2.1⟩
end Go.Proofs.YtdpbedkppomffaaDoor
