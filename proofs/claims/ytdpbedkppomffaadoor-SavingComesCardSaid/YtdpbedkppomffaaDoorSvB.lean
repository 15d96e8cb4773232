/-
  SavingComes: the walk (printed by svgen.py).
-/
import Derived.Test.YtdpbedkppomffaaDoorSvA
import Derived.Test.YtdpbedkppomffaaDoorLkB
import Derived.Test.YtdpbedkppomffaaDoorCivilC
namespace Go.Proofs.YtdpbedkppomffaaDoor
set_option linter.unusedVariables false
set_option linter.unusedSimpArgs false
open Go.ChangeShapes Go.WideShapes Go.ChangeAt Go.RowKit Civ

theorem i64_sv {x : Int} (h : -4000000000000 ≤ x ∧ x ≤ 4000000000000) : I64 x := i64_of (by omega) (by omega)
/-- the source that is made: its rules, its era, its zone, itself. -/
structure SvB (W wx : World) (k : Int) : Prop where
  r : BxO wx W.heap.size #[.string ⟨#[114]⟩, .int .i64 1980, .int .i64 2099, .int .i64 4, .int .i64 1, .int .i64 0, .int .i64 1, .int .i64 0, .int .i64 2, .int .i64 k, .string ⟨#[83]⟩, .string ⟨#[114]⟩, .int .i64 1980, .int .i64 2099, .int .i64 10, .int .i64 1, .int .i64 0, .int .i64 1, .int .i64 0, .int .i64 2, .int .i64 0, .string ⟨#[87]⟩] 52
  e : BxO wx (W.heap.size + 1) #[.int .i64 0, .string ⟨#[114]⟩, .int .i64 0, .string ⟨#[69, 37, 115, 84]⟩, .bool false, .int .i64 0, .int .i64 0, .int .i64 0, .int .i64 0, .int .i64 0, .int .i64 0, .int .i64 0] 36
  z : BxO wx (W.heap.size + 1 + 1) #[.string ⟨#[122]⟩, .slice (some ⟨W.heap.size + 1, 0, none⟩) 1 1] 39
  s : BxO wx (W.heap.size + 1 + 1 + 1) #[.slice (some ⟨W.heap.size, 0, none⟩) 2 2, .slice (some ⟨W.heap.size + 1 + 1, 0, none⟩) 1 1, .slice none 0 0] 26
  b : Below W.heap.size W wx
theorem SvB.new (W : World) (k : Int) : SvB W ((((W.alloc (.cells #[.string ⟨#[114]⟩, .int .i64 1980, .int .i64 2099, .int .i64 4, .int .i64 1, .int .i64 0, .int .i64 1, .int .i64 0, .int .i64 2, .int .i64 k, .string ⟨#[83]⟩, .string ⟨#[114]⟩, .int .i64 1980, .int .i64 2099, .int .i64 10, .int .i64 1, .int .i64 0, .int .i64 1, .int .i64 0, .int .i64 2, .int .i64 0, .string ⟨#[87]⟩] 52)).alloc (.cells #[.int .i64 0, .string ⟨#[114]⟩, .int .i64 0, .string ⟨#[69, 37, 115, 84]⟩, .bool false, .int .i64 0, .int .i64 0, .int .i64 0, .int .i64 0, .int .i64 0, .int .i64 0, .int .i64 0] 36)).alloc (.cells #[.string ⟨#[122]⟩, .slice (some ⟨W.heap.size + 1, 0, none⟩) 1 1] 39)).alloc (.cells #[.slice (some ⟨W.heap.size, 0, none⟩) 2 2, .slice (some ⟨W.heap.size + 1 + 1, 0, none⟩) 1 1, .slice none 0 0] 26)) k := by
  have h1 := size_alloc W (.cells #[.string ⟨#[114]⟩, .int .i64 1980, .int .i64 2099, .int .i64 4, .int .i64 1, .int .i64 0, .int .i64 1, .int .i64 0, .int .i64 2, .int .i64 k, .string ⟨#[83]⟩, .string ⟨#[114]⟩, .int .i64 1980, .int .i64 2099, .int .i64 10, .int .i64 1, .int .i64 0, .int .i64 1, .int .i64 0, .int .i64 2, .int .i64 0, .string ⟨#[87]⟩] 52)
  have h2 := size_alloc (W.alloc (.cells #[.string ⟨#[114]⟩, .int .i64 1980, .int .i64 2099, .int .i64 4, .int .i64 1, .int .i64 0, .int .i64 1, .int .i64 0, .int .i64 2, .int .i64 k, .string ⟨#[83]⟩, .string ⟨#[114]⟩, .int .i64 1980, .int .i64 2099, .int .i64 10, .int .i64 1, .int .i64 0, .int .i64 1, .int .i64 0, .int .i64 2, .int .i64 0, .string ⟨#[87]⟩] 52)) (.cells #[.int .i64 0, .string ⟨#[114]⟩, .int .i64 0, .string ⟨#[69, 37, 115, 84]⟩, .bool false, .int .i64 0, .int .i64 0, .int .i64 0, .int .i64 0, .int .i64 0, .int .i64 0, .int .i64 0] 36)
  have h3 := size_alloc ((W.alloc (.cells #[.string ⟨#[114]⟩, .int .i64 1980, .int .i64 2099, .int .i64 4, .int .i64 1, .int .i64 0, .int .i64 1, .int .i64 0, .int .i64 2, .int .i64 k, .string ⟨#[83]⟩, .string ⟨#[114]⟩, .int .i64 1980, .int .i64 2099, .int .i64 10, .int .i64 1, .int .i64 0, .int .i64 1, .int .i64 0, .int .i64 2, .int .i64 0, .string ⟨#[87]⟩] 52)).alloc (.cells #[.int .i64 0, .string ⟨#[114]⟩, .int .i64 0, .string ⟨#[69, 37, 115, 84]⟩, .bool false, .int .i64 0, .int .i64 0, .int .i64 0, .int .i64 0, .int .i64 0, .int .i64 0, .int .i64 0] 36)) (.cells #[.string ⟨#[122]⟩, .slice (some ⟨W.heap.size + 1, 0, none⟩) 1 1] 39)
  refine ⟨(((BxO.new W _ _).alloc _).alloc _).alloc _, ?_, ?_, ?_, (((Below.refl _ _).alloc (Nat.le_refl _) _).alloc (by omega) _ |>.alloc (by omega) _) |>.alloc (by omega) _⟩
  · refine BxO.alloc (BxO.alloc ?_ _) _
    have h := BxO.new (W.alloc (.cells #[.string ⟨#[114]⟩, .int .i64 1980, .int .i64 2099, .int .i64 4, .int .i64 1, .int .i64 0, .int .i64 1, .int .i64 0, .int .i64 2, .int .i64 k, .string ⟨#[83]⟩, .string ⟨#[114]⟩, .int .i64 1980, .int .i64 2099, .int .i64 10, .int .i64 1, .int .i64 0, .int .i64 1, .int .i64 0, .int .i64 2, .int .i64 0, .string ⟨#[87]⟩] 52)) #[.int .i64 0, .string ⟨#[114]⟩, .int .i64 0, .string ⟨#[69, 37, 115, 84]⟩, .bool false, .int .i64 0, .int .i64 0, .int .i64 0, .int .i64 0, .int .i64 0, .int .i64 0, .int .i64 0] 36
    rw [h1] at h
    exact h
  · refine BxO.alloc ?_ _
    have h := BxO.new ((W.alloc (.cells #[.string ⟨#[114]⟩, .int .i64 1980, .int .i64 2099, .int .i64 4, .int .i64 1, .int .i64 0, .int .i64 1, .int .i64 0, .int .i64 2, .int .i64 k, .string ⟨#[83]⟩, .string ⟨#[114]⟩, .int .i64 1980, .int .i64 2099, .int .i64 10, .int .i64 1, .int .i64 0, .int .i64 1, .int .i64 0, .int .i64 2, .int .i64 0, .string ⟨#[87]⟩] 52)).alloc (.cells #[.int .i64 0, .string ⟨#[114]⟩, .int .i64 0, .string ⟨#[69, 37, 115, 84]⟩, .bool false, .int .i64 0, .int .i64 0, .int .i64 0, .int .i64 0, .int .i64 0, .int .i64 0, .int .i64 0] 36)) #[.string ⟨#[122]⟩, .slice (some ⟨W.heap.size + 1, 0, none⟩) 1 1] 39
    rw [h2, h1] at h
    exact h
  · have h := BxO.new (((W.alloc (.cells #[.string ⟨#[114]⟩, .int .i64 1980, .int .i64 2099, .int .i64 4, .int .i64 1, .int .i64 0, .int .i64 1, .int .i64 0, .int .i64 2, .int .i64 k, .string ⟨#[83]⟩, .string ⟨#[114]⟩, .int .i64 1980, .int .i64 2099, .int .i64 10, .int .i64 1, .int .i64 0, .int .i64 1, .int .i64 0, .int .i64 2, .int .i64 0, .string ⟨#[87]⟩] 52)).alloc (.cells #[.int .i64 0, .string ⟨#[114]⟩, .int .i64 0, .string ⟨#[69, 37, 115, 84]⟩, .bool false, .int .i64 0, .int .i64 0, .int .i64 0, .int .i64 0, .int .i64 0, .int .i64 0, .int .i64 0] 36)).alloc (.cells #[.string ⟨#[122]⟩, .slice (some ⟨W.heap.size + 1, 0, none⟩) 1 1] 39)) #[.slice (some ⟨W.heap.size, 0, none⟩) 2 2, .slice (some ⟨W.heap.size + 1 + 1, 0, none⟩) 1 1, .slice none 0 0] 26
    rw [h3, h2, h1] at h
    exact h
theorem SvB.low {W wx w' : World} {k : Int} (h : SvB W wx k) (hb : Below wx.heap.size wx w') : SvB W w' k :=
  ⟨(hb.block _ h.r.lt).trans h.r, (hb.block _ h.e.lt).trans h.e, (hb.block _ h.z.lt).trans h.z, (hb.block _ h.s.lt).trans h.s, h.b.trans (hb.mono h.b.size)⟩
theorem SvB.src {W wx : World} {k : Int} (h : SvB W wx k) (hk : 1 ≤ k ∧ k ≤ 7200) : SrcAt wx (.slice (some ⟨W.heap.size, 0, none⟩) 2 2) (.slice (some ⟨W.heap.size + 1 + 1, 0, none⟩) 1 1) (.slice none 0 0) (svS k) := by
  refine ⟨?_, ?_, .inl ⟨none, 0, rfl, rfl⟩⟩
  · refine slAt_bx (xs := (svS k).rules) (enc := RulV) h.r rfl (fun _ => rfl) (fun x hx => ?_) (by simp [svS]) (by unfold maxLen; simp [svS])
    rcases List.mem_cons.1 hx with rfl | hx
    · exact ⟨rfl, (by decide : (1 : Nat) ≤ maxLen), i64_sv (x := 1980) (by omega), i64_sv (x := 2099) (by omega), ⟨i64_sv (x := 4) (by omega), i64_sv (x := 1) (by omega), i64_sv (x := 0) (by omega), i64_sv (x := 1) (by omega), i64_sv (x := 0) (by omega), i64_sv (x := 2) (by omega)⟩, i64_sv (x := k) (by omega), (by decide : (1 : Nat) ≤ maxLen)⟩
    · obtain rfl := List.mem_singleton.1 hx
      exact ⟨rfl, (by decide : (1 : Nat) ≤ maxLen), i64_sv (x := 1980) (by omega), i64_sv (x := 2099) (by omega), ⟨i64_sv (x := 10) (by omega), i64_sv (x := 1) (by omega), i64_sv (x := 0) (by omega), i64_sv (x := 1) (by omega), i64_sv (x := 0) (by omega), i64_sv (x := 2) (by omega)⟩, i64_sv (x := 0) (by omega), (by decide : (1 : Nat) ≤ maxLen)⟩
  · refine slAt_bx (xs := (svS k).zones) (enc := fun z : Zon => [.string z.nm, .slice (some ⟨W.heap.size + 1, 0, none⟩) 1 1]) h.z rfl (fun _ => rfl) (fun x hx => ?_) (by simp [svS]) (by unfold maxLen; simp [svS])
    obtain rfl := List.mem_singleton.1 hx
    refine ⟨_, rfl, ?_, (by decide : (1 : Nat) ≤ maxLen)⟩
    refine slAt_bx (xs := [svX]) (enc := EroV) h.e rfl (fun _ => rfl) (fun x hx => ?_) (by simp) (by unfold maxLen; simp)
    obtain rfl := List.mem_singleton.1 hx
    exact ⟨rfl, i64_sv (x := 0) (by omega), (by decide : (1 : Nat) ≤ maxLen), i64_sv (x := 0) (by omega), (by decide : (4 : Nat) ≤ maxLen), i64_sv (x := 0) (by omega), i64_sv (x := 0) (by omega), i64_sv (x := 0) (by omega), i64_sv (x := 0) (by omega), i64_sv (x := 0) (by omega), i64_sv (x := 0) (by omega), i64_sv (x := 0) (by omega)⟩
theorem sv_ok {a m : Int} (ha : 1990 ≤ a ∧ a ≤ 2089) (hm : m = 4 ∨ m = 10) : numOk a m 1 := by
  refine ⟨by omega, by omega, by omega, by omega, by omega, ?_⟩
  rw [dim_eq a m (by omega) (by omega)]
  rcases hm with rfl | rfl <;> simp
theorem sv_bd {a : Int} (ha : 1990 ≤ a ∧ a ≤ 2089) : 0 ≤ sApr a ∧ sApr a ≤ 45000 ∧ 0 ≤ sOct a ∧ sOct a ≤ 45000 := by
  have h1 := fst_mono 1970 a (by omega)
  have h2 := fst_mono a 2090 (by omega)
  have h3 := fst_1970
  have h4 : fst 2090 = 43830 := by decide
  have h5 := sv_num a
  have h6 := lp_01 a
  omega
set_option maxHeartbeats 4000000 in
set_option maxRecDepth 100000 in
theorem walkSavingComes (y save : Int) (W : World) (hy : (Lit.int .i64 y).wf = true) (hsv : (Lit.int .i64 save).wf = true) (hV : Tab W ∧ MxL W) :
    Calls Tryd.prog 6 #[.int .i64 y, .int .i64 save] W fun e w' => e = .returned (.bool true) ∧ Below W.heap.size W w' := by
  have HP1 := Lib.hid (picked_v y 100 W hy (by omega) (by omega))
  have HP2 := Lib.hid (picked_v save 7200 W hsv (by omega) (by omega))
  have B1 := Lib.hid (pkv_bd y 100 (by omega))
  have B2 := Lib.hid (pkv_bd save 7200 (by omega))
  have HV := Lib.hid hV
  clear hy hsv hV
  generalize pkv y 100 = p at *
  generalize pkv save 7200 = q at *
  obtain ⟨a, ha⟩ : ∃ a, a = 1990 + p := ⟨_, rfl⟩
  obtain ⟨k, hk⟩ : ∃ k, k = 1 + q := ⟨_, rfl⟩
  have tw1 : IntKind.i64.wrap (1990 + p) = a := by rw [ha]; exact IntWalk.i64_in _ (by have := B1.out; omega)
  have tw2 : IntKind.i64.wrap (1 + q) = k := by rw [hk]; exact IntWalk.i64_in _ (by have := B2.out; omega)
  have HA : Hid (1990 ≤ a ∧ a ≤ 2089) := by show _ ∧ _; have := B1.out; omega
  have HK : Hid (1 ≤ k ∧ k ≤ 7200) := by show _ ∧ _; have := B2.out; omega
  have HN1 := Lib.hid (fun wx (hb : Below W.heap.size W wx) => number_ok a 4 1 wx (HV.out.1.below hb) (sv_ok HA.out (.inl rfl)))
  have HN2 := Lib.hid (fun wx (hb : Below W.heap.size W wx) => number_ok a 10 1 wx (HV.out.1.below hb) (sv_ok HA.out (.inr rfl)))
  have HBD := Lib.hid (sv_bd HA.out)
  have HAT := Lib.hid (fun wx (h : SvB W wx k) u => At_any (svS k) ⟨#[122]⟩ u (.slice (some ⟨W.heap.size, 0, none⟩) 2 2) (.slice (some ⟨W.heap.size + 1 + 1, 0, none⟩) 1 1) (.slice none 0 0) wx (h.src HK.out) ⟨HV.out.1.below h.b, HV.out.2.below h.b⟩)
  have H1 : Hid (atE (svS k) ⟨#[122]⟩ (sApr a * 86400) = 0 ∧ atC (svS k) ⟨#[122]⟩ (sApr a * 86400) = ⟨k, true, ⟨#[69, 83, 84]⟩⟩) := by
    have h := sv_at (k := k) (t := sApr a * 86400) HK.out (by have := HBD.out; omega)
    rw [sv_in (by have := HA.out; omega), sv_clk1 HK.out.1] at h
    exact h
  have H2 : Hid (atE (svS k) ⟨#[122]⟩ (sApr a * 86400 - 1) = 0 ∧ atC (svS k) ⟨#[122]⟩ (sApr a * 86400 - 1) = ⟨0, false, ⟨#[69, 87, 84]⟩⟩) := by
    have h := sv_at (k := k) (t := sApr a * 86400 - 1) HK.out (by have := HBD.out; omega)
    rw [sv_ahead (by have := HA.out; omega), sv_clk2] at h
    exact h
  have H3 : Hid (atE (svS k) ⟨#[122]⟩ (sOct a * 86400) = 0 ∧ atC (svS k) ⟨#[122]⟩ (sOct a * 86400) = ⟨0, false, ⟨#[69, 87, 84]⟩⟩) := by
    have h := sv_at (k := k) (t := sOct a * 86400) HK.out (by have := HBD.out; omega)
    rw [sv_out (by have := HA.out; omega), sv_clk2] at h
    exact h
  have H4 : Hid (atE (svS k) ⟨#[122]⟩ 0 = 0 ∧ atC (svS k) ⟨#[122]⟩ 0 = ⟨0, false, ⟨#[69, 87, 84]⟩⟩) := by
    have h := sv_at (k := k) (t := 0) HK.out (by omega)
    rw [sv_first HK.out.1, sv_clk2] at h
    exact h
  have e1 : num a 4 1 = sApr a := rfl
  have e2 : num a 10 1 = sOct a := rfl
  rw [e1] at HN1
  rw [e2] at HN2
  generalize sApr a = n at *
  generalize sOct a = m at *
  have tw3 : IntKind.i64.wrap (n * 86400) = n * 86400 := IntWalk.i64_in _ (by have := HBD.out; omega)
  have tw4 : IntKind.i64.wrap (m * 86400) = m * 86400 := IntWalk.i64_in _ (by have := HBD.out; omega)
  have tw5 : IntKind.i64.wrap (n * 86400 - 1) = n * 86400 - 1 := IntWalk.i64_in _ (by have := HBD.out; omega)
  clear ha hk e1 e2
  have E0 := Lib.hid (SvB.new W k)
  obtain ⟨W0, hW0⟩ : ∃ W0, W0 = ((((W.alloc (.cells #[.string ⟨#[114]⟩, .int .i64 1980, .int .i64 2099, .int .i64 4, .int .i64 1, .int .i64 0, .int .i64 1, .int .i64 0, .int .i64 2, .int .i64 k, .string ⟨#[83]⟩, .string ⟨#[114]⟩, .int .i64 1980, .int .i64 2099, .int .i64 10, .int .i64 1, .int .i64 0, .int .i64 1, .int .i64 0, .int .i64 2, .int .i64 0, .string ⟨#[87]⟩] 52)).alloc (.cells #[.int .i64 0, .string ⟨#[114]⟩, .int .i64 0, .string ⟨#[69, 37, 115, 84]⟩, .bool false, .int .i64 0, .int .i64 0, .int .i64 0, .int .i64 0, .int .i64 0, .int .i64 0, .int .i64 0] 36)).alloc (.cells #[.string ⟨#[122]⟩, .slice (some ⟨W.heap.size + 1, 0, none⟩) 1 1] 39)).alloc (.cells #[.slice (some ⟨W.heap.size, 0, none⟩) 2 2, .slice (some ⟨W.heap.size + 1 + 1, 0, none⟩) 1 1, .slice none 0 0] 26)) := ⟨_, rfl⟩
  rw [← hW0] at E0
  have HW := Lib.hid hW0
  clear hW0
  go_enter Tryd.func6, Tryd.ntmps6
  go_wp2_with fail
  refine HP1.out.mono ?_; rintro e w1 ⟨rfl, rfl⟩
  go_wp2_with fail
  refine HP2.out.mono ?_; rintro e w1 ⟨rfl, rfl⟩
  go_upto_region 4 with fail
  rw [← HW.out]
  clear HW HP1 HP2 tw1 tw2
  go_wp2_with fail
  refine (HN1.out _ E0.out.b).mono ?_; rintro e w1 ⟨rfl, m1, hw1⟩
  have E1 : Hid (SvB W w1 k) := E0.out.low (by rw [hw1]; exact below_draws (Below.refl _ _) m1)
  clear hw1 E0 HN1
  go_wp2_with fail
  refine (HN2.out _ E1.out.b).mono ?_; rintro e V0 ⟨rfl, m2, hw2⟩
  have D0 : Hid (SvB W V0 k) := E1.out.low (by rw [hw2]; exact below_draws (Below.refl _ _) m2)
  clear hw2 E1 HN2
  have s0 : V0.cell? ⟨W.heap.size + 1 + 1 + 1, 0, none⟩ = some (.slice (some ⟨W.heap.size, 0, none⟩) 2 2) := D0.out.s.cell 0
  have s1 : V0.cell? ⟨W.heap.size + 1 + 1 + 1, 1, none⟩ = some (.slice (some ⟨W.heap.size + 1 + 1, 0, none⟩) 1 1) := D0.out.s.cell 1
  have s2 : V0.cell? ⟨W.heap.size + 1 + 1 + 1, 2, none⟩ = some (.slice none 0 0) := D0.out.s.cell 2
  go_wp2_with fail
  refine (HAT.out _ D0.out _).mono ?_; rintro e u1 ⟨rfl, hb⟩
  rw [H1.out.1, H1.out.2]
  have F1 := Lib.hid (D0.out.low hb)
  clear hb s0 s1 s2
  obtain ⟨V1, hV1⟩ : ∃ V1, V1 = u1.alloc (.cells #[.int .i64 k, .bool true, .string ⟨#[69, 83, 84]⟩] 47) := ⟨_, rfl⟩
  have D1 : Hid (SvB W V1 k) := by show SvB _ _ _; rw [hV1]; exact F1.out.low ((Below.refl _ _).alloc (Nat.le_refl _) _)
  have X1_1 : Hid (BxO V1 u1.heap.size #[.int .i64 k, .bool true, .string ⟨#[69, 83, 84]⟩] 47) := by show BxO _ _ _ _; rw [hV1]; exact BxO.new _ _ _
  have HV1 := Lib.hid hV1
  clear hV1
  go_upto_region 7 with fail
  rw [← HV1.out]
  have s0 : V1.cell? ⟨W.heap.size + 1 + 1 + 1, 0, none⟩ = some (.slice (some ⟨W.heap.size, 0, none⟩) 2 2) := D1.out.s.cell 0
  have s1 : V1.cell? ⟨W.heap.size + 1 + 1 + 1, 1, none⟩ = some (.slice (some ⟨W.heap.size + 1 + 1, 0, none⟩) 1 1) := D1.out.s.cell 1
  have s2 : V1.cell? ⟨W.heap.size + 1 + 1 + 1, 2, none⟩ = some (.slice none 0 0) := D1.out.s.cell 2
  go_wp2_with fail
  refine (HAT.out _ D1.out _).mono ?_; rintro e u2 ⟨rfl, hb⟩
  rw [H2.out.1, H2.out.2]
  have F2 := Lib.hid (D1.out.low hb)
  have Y2_1 : Hid (BxO u2 u1.heap.size #[.int .i64 k, .bool true, .string ⟨#[69, 83, 84]⟩] 47) := (hb.block _ X1_1.out.lt).trans X1_1.out
  clear hb s0 s1 s2
  obtain ⟨V2, hV2⟩ : ∃ V2, V2 = u2.alloc (.cells #[.int .i64 0, .bool false, .string ⟨#[69, 87, 84]⟩] 47) := ⟨_, rfl⟩
  have D2 : Hid (SvB W V2 k) := by show SvB _ _ _; rw [hV2]; exact F2.out.low ((Below.refl _ _).alloc (Nat.le_refl _) _)
  have X2_2 : Hid (BxO V2 u2.heap.size #[.int .i64 0, .bool false, .string ⟨#[69, 87, 84]⟩] 47) := by show BxO _ _ _ _; rw [hV2]; exact BxO.new _ _ _
  have X2_1 : Hid (BxO V2 u1.heap.size #[.int .i64 k, .bool true, .string ⟨#[69, 83, 84]⟩] 47) := by show BxO _ _ _ _; rw [hV2]; exact Y2_1.out.alloc _
  have HV2 := Lib.hid hV2
  clear hV2
  go_upto_region 8 with fail
  rw [← HV2.out]
  have s0 : V2.cell? ⟨W.heap.size + 1 + 1 + 1, 0, none⟩ = some (.slice (some ⟨W.heap.size, 0, none⟩) 2 2) := D2.out.s.cell 0
  have s1 : V2.cell? ⟨W.heap.size + 1 + 1 + 1, 1, none⟩ = some (.slice (some ⟨W.heap.size + 1 + 1, 0, none⟩) 1 1) := D2.out.s.cell 1
  have s2 : V2.cell? ⟨W.heap.size + 1 + 1 + 1, 2, none⟩ = some (.slice none 0 0) := D2.out.s.cell 2
  go_wp2_with fail
  refine (HAT.out _ D2.out _).mono ?_; rintro e u3 ⟨rfl, hb⟩
  rw [H3.out.1, H3.out.2]
  have F3 := Lib.hid (D2.out.low hb)
  have Y3_1 : Hid (BxO u3 u1.heap.size #[.int .i64 k, .bool true, .string ⟨#[69, 83, 84]⟩] 47) := (hb.block _ X2_1.out.lt).trans X2_1.out
  have Y3_2 : Hid (BxO u3 u2.heap.size #[.int .i64 0, .bool false, .string ⟨#[69, 87, 84]⟩] 47) := (hb.block _ X2_2.out.lt).trans X2_2.out
  clear hb s0 s1 s2
  obtain ⟨V3, hV3⟩ : ∃ V3, V3 = u3.alloc (.cells #[.int .i64 0, .bool false, .string ⟨#[69, 87, 84]⟩] 47) := ⟨_, rfl⟩
  have D3 : Hid (SvB W V3 k) := by show SvB _ _ _; rw [hV3]; exact F3.out.low ((Below.refl _ _).alloc (Nat.le_refl _) _)
  have X3_3 : Hid (BxO V3 u3.heap.size #[.int .i64 0, .bool false, .string ⟨#[69, 87, 84]⟩] 47) := by show BxO _ _ _ _; rw [hV3]; exact BxO.new _ _ _
  have X3_1 : Hid (BxO V3 u1.heap.size #[.int .i64 k, .bool true, .string ⟨#[69, 83, 84]⟩] 47) := by show BxO _ _ _ _; rw [hV3]; exact Y3_1.out.alloc _
  have X3_2 : Hid (BxO V3 u2.heap.size #[.int .i64 0, .bool false, .string ⟨#[69, 87, 84]⟩] 47) := by show BxO _ _ _ _; rw [hV3]; exact Y3_2.out.alloc _
  have HV3 := Lib.hid hV3
  clear hV3
  go_upto_region 9 with fail
  rw [← HV3.out]
  have s0 : V3.cell? ⟨W.heap.size + 1 + 1 + 1, 0, none⟩ = some (.slice (some ⟨W.heap.size, 0, none⟩) 2 2) := D3.out.s.cell 0
  have s1 : V3.cell? ⟨W.heap.size + 1 + 1 + 1, 1, none⟩ = some (.slice (some ⟨W.heap.size + 1 + 1, 0, none⟩) 1 1) := D3.out.s.cell 1
  have s2 : V3.cell? ⟨W.heap.size + 1 + 1 + 1, 2, none⟩ = some (.slice none 0 0) := D3.out.s.cell 2
  go_wp2_with fail
  refine (HAT.out _ D3.out _).mono ?_; rintro e u4 ⟨rfl, hb⟩
  rw [H4.out.1, H4.out.2]
  have F4 := Lib.hid (D3.out.low hb)
  have Y4_1 : Hid (BxO u4 u1.heap.size #[.int .i64 k, .bool true, .string ⟨#[69, 83, 84]⟩] 47) := (hb.block _ X3_1.out.lt).trans X3_1.out
  have Y4_2 : Hid (BxO u4 u2.heap.size #[.int .i64 0, .bool false, .string ⟨#[69, 87, 84]⟩] 47) := (hb.block _ X3_2.out.lt).trans X3_2.out
  have Y4_3 : Hid (BxO u4 u3.heap.size #[.int .i64 0, .bool false, .string ⟨#[69, 87, 84]⟩] 47) := (hb.block _ X3_3.out.lt).trans X3_3.out
  clear hb s0 s1 s2
  have c10 : u4.cell? ⟨u1.heap.size, 0, none⟩ = some (.int .i64 k) := Y4_1.out.cell 0
  have c11 : u4.cell? ⟨u1.heap.size, 1, none⟩ = some (.bool true) := Y4_1.out.cell 1
  have c12 : u4.cell? ⟨u1.heap.size, 2, none⟩ = some (.string ⟨#[69, 83, 84]⟩) := Y4_1.out.cell 2
  have l1 : u1.heap.size < u4.heap.size := Y4_1.out.lt
  have c20 : u4.cell? ⟨u2.heap.size, 0, none⟩ = some (.int .i64 0) := Y4_2.out.cell 0
  have c21 : u4.cell? ⟨u2.heap.size, 1, none⟩ = some (.bool false) := Y4_2.out.cell 1
  have c22 : u4.cell? ⟨u2.heap.size, 2, none⟩ = some (.string ⟨#[69, 87, 84]⟩) := Y4_2.out.cell 2
  have l2 : u2.heap.size < u4.heap.size := Y4_2.out.lt
  have c30 : u4.cell? ⟨u3.heap.size, 0, none⟩ = some (.int .i64 0) := Y4_3.out.cell 0
  have c31 : u4.cell? ⟨u3.heap.size, 1, none⟩ = some (.bool false) := Y4_3.out.cell 1
  have c32 : u4.cell? ⟨u3.heap.size, 2, none⟩ = some (.string ⟨#[69, 87, 84]⟩) := Y4_3.out.cell 2
  have l3 : u3.heap.size < u4.heap.size := Y4_3.out.lt
  go_wp2
  go_ret
  exact ⟨ret_bool (by simp), F4.out.b.alloc F4.out.b.size _⟩
end Go.Proofs.YtdpbedkppomffaaDoor
