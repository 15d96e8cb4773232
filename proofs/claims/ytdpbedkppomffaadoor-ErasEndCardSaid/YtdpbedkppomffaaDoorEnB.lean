/-
  ErasEnd: the walk.
-/
import Derived.Test.YtdpbedkppomffaaDoorEnA
import Derived.Test.YtdpbedkppomffaaDoorLkB
import Derived.Test.YtdpbedkppomffaaDoorCivilC
namespace Go.Proofs.YtdpbedkppomffaaDoor
set_option linter.unusedVariables false
set_option linter.unusedSimpArgs false
open Go.ChangeShapes Go.WideShapes Go.ChangeAt Go.RowKit Civ

theorem i64_mid {x : Int} (h : -4000000000000 ≤ x ∧ x ≤ 4000000000000) : I64 x := i64_of (by omega) (by omega)
theorem en_dim (a : Int) : dim a 6 = 30 := by unfold dim; simp; decide
/-- the source that is made: its eras, its zone, itself. -/
structure EnB (w wx : World) (o a t : Int) : Prop where
  e : BxO wx w.heap.size #[.int .i64 o, .string ⟨#[]⟩, .int .i64 0, .string ⟨#[65]⟩, .bool true, .int .i64 a, .int .i64 6, .int .i64 1, .int .i64 0, .int .i64 15, .int .i64 t, .int .i64 0, .int .i64 (o + 1800), .string ⟨#[]⟩, .int .i64 0, .string ⟨#[66]⟩, .bool false, .int .i64 0, .int .i64 0, .int .i64 0, .int .i64 0, .int .i64 0, .int .i64 0, .int .i64 0] 36
  z : BxO wx (w.heap.size + 1) #[.string ⟨#[122]⟩, .slice (some ⟨w.heap.size, 0, none⟩) 2 2] 39
  s : BxO wx (w.heap.size + 1 + 1) #[.slice none 0 0, .slice (some ⟨w.heap.size + 1, 0, none⟩) 1 1, .slice none 0 0] 26
  b : Below w.heap.size w wx
theorem EnB.new (w : World) (o a t : Int) : EnB w (((w.alloc (.cells #[.int .i64 o, .string ⟨#[]⟩, .int .i64 0, .string ⟨#[65]⟩, .bool true, .int .i64 a, .int .i64 6, .int .i64 1, .int .i64 0, .int .i64 15, .int .i64 t, .int .i64 0, .int .i64 (o + 1800), .string ⟨#[]⟩, .int .i64 0, .string ⟨#[66]⟩, .bool false, .int .i64 0, .int .i64 0, .int .i64 0, .int .i64 0, .int .i64 0, .int .i64 0, .int .i64 0] 36)).alloc (.cells #[.string ⟨#[122]⟩, .slice (some ⟨w.heap.size, 0, none⟩) 2 2] 39)).alloc (.cells #[.slice none 0 0, .slice (some ⟨w.heap.size + 1, 0, none⟩) 1 1, .slice none 0 0] 26)) o a t := by
  have h1 := size_alloc w (.cells #[.int .i64 o, .string ⟨#[]⟩, .int .i64 0, .string ⟨#[65]⟩, .bool true, .int .i64 a, .int .i64 6, .int .i64 1, .int .i64 0, .int .i64 15, .int .i64 t, .int .i64 0, .int .i64 (o + 1800), .string ⟨#[]⟩, .int .i64 0, .string ⟨#[66]⟩, .bool false, .int .i64 0, .int .i64 0, .int .i64 0, .int .i64 0, .int .i64 0, .int .i64 0, .int .i64 0] 36)
  have h2 := size_alloc (w.alloc (.cells #[.int .i64 o, .string ⟨#[]⟩, .int .i64 0, .string ⟨#[65]⟩, .bool true, .int .i64 a, .int .i64 6, .int .i64 1, .int .i64 0, .int .i64 15, .int .i64 t, .int .i64 0, .int .i64 (o + 1800), .string ⟨#[]⟩, .int .i64 0, .string ⟨#[66]⟩, .bool false, .int .i64 0, .int .i64 0, .int .i64 0, .int .i64 0, .int .i64 0, .int .i64 0, .int .i64 0] 36)) (.cells #[.string ⟨#[122]⟩, .slice (some ⟨w.heap.size, 0, none⟩) 2 2] 39)
  refine ⟨((BxO.new w _ _).alloc _).alloc _, ?_, ?_, ((Below.refl _ _).alloc (Nat.le_refl _) _).alloc (by omega) _ |>.alloc (by omega) _⟩
  · refine BxO.alloc ?_ _
    rw [← h1]
    exact BxO.new _ _ _
  · rw [← h1, ← h2]
    exact BxO.new _ _ _
theorem EnB.low {w wx w' : World} {o a t : Int} (h : EnB w wx o a t) (hb : Below wx.heap.size wx w') : EnB w w' o a t :=
  ⟨(hb.block _ h.e.lt).trans h.e, (hb.block _ h.z.lt).trans h.z, (hb.block _ h.s.lt).trans h.s, h.b.trans (hb.mono h.b.size)⟩
theorem EnB.src {w wx : World} {o a t : Int} (h : EnB w wx o a t) (ho : -43200 ≤ o ∧ o ≤ 43200) (ha : 1910 ≤ a ∧ a ≤ 2089) (ht : 0 ≤ t ∧ t < 86400) :
    SrcAt wx (.slice none 0 0) (.slice (some ⟨w.heap.size + 1, 0, none⟩) 1 1) (.slice none 0 0) (enS o a t) := by
  refine ⟨.inl ⟨none, 0, rfl, rfl⟩, ?_, .inl ⟨none, 0, rfl, rfl⟩⟩
  refine slAt_bx (xs := (enS o a t).zones) (enc := fun z : Zon => [.string z.nm, .slice (some ⟨w.heap.size, 0, none⟩) 2 2]) h.z rfl (fun _ => rfl) (fun x hx => ?_) (by simp [enS]) (by unfold maxLen; simp [enS])
  obtain rfl := List.mem_singleton.1 hx
  refine ⟨_, rfl, ?_, by unfold maxLen; show (1 : Nat) ≤ _; omega⟩
  refine slAt_bx (xs := [enX o a t, enY o]) (enc := EroV) h.e rfl (fun _ => rfl) (fun x hx => ?_) (by simp) (by unfold maxLen; simp)
  rcases List.mem_cons.1 hx with rfl | hx
  · exact ⟨rfl, i64_mid (x := o) (by omega), Nat.zero_le _, i64_mid (x := 0) (by omega), (by decide : (1 : Nat) ≤ maxLen), i64_mid (x := a) (by omega), i64_mid (x := 6) (by omega), i64_mid (x := 1) (by omega), i64_mid (x := 0) (by omega), i64_mid (x := 15) (by omega), i64_mid (x := t) (by omega), i64_mid (x := 0) (by omega)⟩
  · obtain rfl := List.mem_singleton.1 hx
    exact ⟨rfl, i64_mid (x := o + 1800) (by omega), Nat.zero_le _, i64_mid (x := 0) (by omega), (by decide : (1 : Nat) ≤ maxLen), i64_mid (x := 0) (by omega), i64_mid (x := 0) (by omega), i64_mid (x := 0) (by omega), i64_mid (x := 0) (by omega), i64_mid (x := 0) (by omega), i64_mid (x := 0) (by omega), i64_mid (x := 0) (by omega)⟩
set_option maxHeartbeats 4000000 in
set_option maxRecDepth 100000 in
theorem walkErasEnd (y off n : Int) (W : World) (hy : (Lit.int .i64 y).wf = true) (hoff : (Lit.int .i64 off).wf = true) (hn : (Lit.int .i64 n).wf = true) (hV : Tab W ∧ MxL W) :
    Calls Tryd.prog 5 #[.int .i64 y, .int .i64 off, .int .i64 n] W fun e w' => e = .returned (.bool true) ∧ Below W.heap.size W w' := by
  have HP1 := Lib.hid (picked_v off 25 W hoff (by omega) (by omega))
  have HP2 := Lib.hid (picked_v y 180 W hy (by omega) (by omega))
  have HP3 := Lib.hid (picked_v n 86400 W hn (by omega) (by omega))
  have B1 := Lib.hid (pkv_bd off 25 (by omega))
  have B2 := Lib.hid (pkv_bd y 180 (by omega))
  have B3 := Lib.hid (pkv_bd n 86400 (by omega))
  have HV := Lib.hid hV
  clear hy hoff hn hV
  generalize pkv off 25 = p at *
  generalize pkv y 180 = q at *
  generalize pkv n 86400 = t at *
  obtain ⟨o, ho⟩ : ∃ o, o = (p - 12) * 3600 := ⟨_, rfl⟩
  obtain ⟨a, ha⟩ : ∃ a, a = 1910 + q := ⟨_, rfl⟩
  have tw1 : IntKind.i64.wrap (p - 12) = p - 12 := IntWalk.i64_in _ (by have := B1.out; omega)
  have tw2 : IntKind.i64.wrap ((p - 12) * 3600) = o := by rw [ho]; exact IntWalk.i64_in _ (by have := B1.out; omega)
  have tw3 : IntKind.i64.wrap (1910 + q) = a := by rw [ha]; exact IntWalk.i64_in _ (by have := B2.out; omega)
  have HO : Hid (-43200 ≤ o ∧ o ≤ 43200) := by show _ ∧ _; have := B1.out; omega
  have HA : Hid (1910 ≤ a ∧ a ≤ 2089) := by show _ ∧ _; have := B2.out; omega
  have HT : Hid (0 ≤ t ∧ t < 86400) := by show _ ∧ _; have := B3.out; omega
  have tw4 : IntKind.i64.wrap (o + 1800) = o + 1800 := IntWalk.i64_in _ (by have := HO.out; omega)
  have HNM := Lib.hid (fun wx (hb : Below W.heap.size W wx) => number_ok a 6 15 wx (HV.out.1.below hb) ⟨by have := HA.out; omega, by have := HA.out; omega, by decide, by decide, by decide, by rw [en_dim]; decide⟩)
  have hk := en_num HA.out
  have HAT := Lib.hid (fun wx (h : EnB W wx o a t) u => At_any (enS o a t) ⟨#[122]⟩ u (.slice none 0 0) (.slice (some ⟨W.heap.size + 1, 0, none⟩) 1 1) (.slice none 0 0) wx (h.src HO.out HA.out HT.out) ⟨HV.out.1.below h.b, HV.out.2.below h.b⟩)
  have HA1 : Hid (atE (enS o a t) ⟨#[122]⟩ (enN o a t - 1) = 0 ∧ atC (enS o a t) ⟨#[122]⟩ (enN o a t - 1) = ⟨o, false, ⟨#[65]⟩⟩) := by
    have := en_at HO.out HA.out HT.out (enN o a t - 1) (.inl rfl)
    rw [if_pos (by omega)] at this
    exact this
  have HA2 : Hid (atE (enS o a t) ⟨#[122]⟩ (enN o a t) = 0 ∧ atC (enS o a t) ⟨#[122]⟩ (enN o a t) = ⟨o + 1800, false, ⟨#[66]⟩⟩) := by
    have := en_at HO.out HA.out HT.out (enN o a t) (.inr rfl)
    rw [if_neg (by omega)] at this
    exact this
  have HE : Hid (enN o a t = num a 6 15 * 86400 + t - o) := rfl
  have HBN : Hid (-2000000000 ≤ enN o a t ∧ enN o a t ≤ 4000000000) := by show _ ∧ _; have := HO.out; have := HT.out; unfold enN; omega
  generalize enN o a t = N at *
  generalize num a 6 15 = k at *
  have tw5 : IntKind.i64.wrap (k * 86400) = k * 86400 := IntWalk.i64_in _ (by omega)
  have tw6 : IntKind.i64.wrap (k * 86400 + t) = k * 86400 + t := IntWalk.i64_in _ (by have := HT.out; omega)
  have tw7 : IntKind.i64.wrap (k * 86400 + t - o) = N := by rw [HE.out]; exact IntWalk.i64_in _ (by have := HT.out; have := HO.out; omega)
  have tw8 : IntKind.i64.wrap (N - 1) = N - 1 := IntWalk.i64_in _ (by have := HBN.out; omega)
  clear ho ha hk
  have E0 := Lib.hid (EnB.new W o a t)
  obtain ⟨W0, hW0⟩ : ∃ W0, W0 = ((W.alloc (.cells #[.int .i64 o, .string ⟨#[]⟩, .int .i64 0, .string ⟨#[65]⟩, .bool true, .int .i64 a, .int .i64 6, .int .i64 1, .int .i64 0, .int .i64 15, .int .i64 t, .int .i64 0, .int .i64 (o + 1800), .string ⟨#[]⟩, .int .i64 0, .string ⟨#[66]⟩, .bool false, .int .i64 0, .int .i64 0, .int .i64 0, .int .i64 0, .int .i64 0, .int .i64 0, .int .i64 0] 36)).alloc (.cells #[.string ⟨#[122]⟩, .slice (some ⟨W.heap.size, 0, none⟩) 2 2] 39)).alloc (.cells #[.slice none 0 0, .slice (some ⟨W.heap.size + 1, 0, none⟩) 1 1, .slice none 0 0] 26) := ⟨_, rfl⟩
  rw [← hW0] at E0
  have HW := Lib.hid hW0
  clear hW0
  go_enter Tryd.func5, Tryd.ntmps5
  go_wp2_with fail
  refine HP1.out.mono ?_; rintro e w1 ⟨rfl, rfl⟩
  go_wp2_with fail
  refine HP2.out.mono ?_; rintro e w1 ⟨rfl, rfl⟩
  go_wp2_with fail
  refine HP3.out.mono ?_; rintro e w1 ⟨rfl, rfl⟩
  go_upto_region 5 with fail
  rw [← HW.out]
  clear HW HP1 HP2 HP3 tw1 tw2 tw3
  go_wp2_with fail
  refine (HNM.out _ E0.out.b).mono ?_; rintro e w1 ⟨rfl, m1, hw1⟩
  have E1 : Hid (EnB W w1 o a t) := E0.out.low (by rw [hw1]; exact below_draws (Below.refl _ _) m1)
  clear hw1 E0 HNM
  have s0 : w1.cell? ⟨W.heap.size + 1 + 1, 0, none⟩ = some (.slice none 0 0) := E1.out.s.cell 0
  have s1 : w1.cell? ⟨W.heap.size + 1 + 1, 1, none⟩ = some (.slice (some ⟨W.heap.size + 1, 0, none⟩) 1 1) := E1.out.s.cell 1
  have s2 : w1.cell? ⟨W.heap.size + 1 + 1, 2, none⟩ = some (.slice none 0 0) := E1.out.s.cell 2
  go_wp2_with fail
  refine (HAT.out _ E1.out _).mono ?_; rintro e w2 ⟨rfl, hb2⟩
  rw [HA1.out.1, HA1.out.2]
  have E2 := Lib.hid (E1.out.low hb2)
  obtain ⟨W2, hW2⟩ : ∃ W2, W2 = w2.alloc (.cells #[.int .i64 o, .bool false, .string ⟨#[65]⟩] 47) := ⟨_, rfl⟩
  have E3 : Hid (EnB W W2 o a t) := by show EnB _ _ _ _ _; rw [hW2]; exact E2.out.low ((Below.refl _ _).alloc (Nat.le_refl _) _)
  have X2 : Hid (BxO W2 w2.heap.size #[.int .i64 o, .bool false, .string ⟨#[65]⟩] 47) := by show BxO _ _ _ _; rw [hW2]; exact BxO.new _ _ _
  have HW2 := Lib.hid hW2
  clear hW2 hb2 s0 s1 s2
  go_upto_region 8 with fail
  rw [← HW2.out]
  have s0 : W2.cell? ⟨W.heap.size + 1 + 1, 0, none⟩ = some (.slice none 0 0) := E3.out.s.cell 0
  have s1 : W2.cell? ⟨W.heap.size + 1 + 1, 1, none⟩ = some (.slice (some ⟨W.heap.size + 1, 0, none⟩) 1 1) := E3.out.s.cell 1
  have s2 : W2.cell? ⟨W.heap.size + 1 + 1, 2, none⟩ = some (.slice none 0 0) := E3.out.s.cell 2
  go_wp2_with fail
  refine (HAT.out _ E3.out _).mono ?_; rintro e w3 ⟨rfl, hb3⟩
  rw [HA2.out.1, HA2.out.2]
  have E4 := Lib.hid (E3.out.low hb3)
  have X3 : Hid (BxO w3 w2.heap.size #[.int .i64 o, .bool false, .string ⟨#[65]⟩] 47) := (hb3.block _ X2.out.lt).trans X2.out
  clear hb3 s0 s1 s2
  have c0 : w3.cell? ⟨w2.heap.size, 0, none⟩ = some (.int .i64 o) := X3.out.cell 0
  have c1 : w3.cell? ⟨w2.heap.size, 1, none⟩ = some (.bool false) := X3.out.cell 1
  have c2 : w3.cell? ⟨w2.heap.size, 2, none⟩ = some (.string ⟨#[65]⟩) := X3.out.cell 2
  have hl : w2.heap.size < w3.heap.size := X3.out.lt
  go_wp2
  go_ret
  exact ⟨ret_bool (by simp), E4.out.b.alloc E4.out.b.size _⟩
end Go.Proofs.YtdpbedkppomffaaDoor
