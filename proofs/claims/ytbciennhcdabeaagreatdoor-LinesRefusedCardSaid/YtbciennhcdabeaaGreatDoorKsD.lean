/-
  LinesRefused: the walk.
-/
import Derived.BigQuiet
import Derived.Test.YtbciennhcdabeaaGreatDoorLnT
import Derived.Test.YtbciennhcdabeaaGreatDoorKsB
import Derived.Test.YtbciennhcdabeaaGreatDoorShCnt
import Derived.Test.YtbciennhcdabeaaGreatDoorShRep
namespace Go.Proofs.YtbciennhcdabeaaGreatDoor
set_option linter.unusedVariables false
set_option linter.unusedSimpArgs false
open Go.ChangeShapes Go.WideShapes Go.ChangeAt Go.RowKit Civ

theorem count_lines (xs : List Rz) (w : World) : Calls Tryz.prog 11 #[.string (bx (srcT xs)), .string ⟨#[10]⟩] w fun e w' => e = .returned (.int .i64 ((srcWs xs).length : Int)) ∧ w' = w := by
  have h := Sh.strings_Count_one (bx (srcT xs)) 10 w
  have e : (Lib.countByte (bx (srcT xs)).data.toList 10 : Int) = ((srcWs xs).length : Int) := by
    rw [← srcT_cnt xs]
    rfl
  rw [e] at h
  exact h
theorem repeat_a (w : World) : Calls Tryz.prog 8 #[.string ⟨#[97]⟩, .int .i64 21] w fun e w' => e = .returned (.string (bx [97, 97, 97, 97, 97, 97, 97, 97, 97, 97, 97, 97, 97, 97, 97, 97, 97, 97, 97, 97, 97])) ∧ Below w.heap.size w w' :=
  (Sh.strings_Repeat ⟨#[97]⟩ 21 w (by decide) (by decide)).mono fun e w' ⟨h1, h2⟩ => ⟨h1, h2⟩
theorem err_cell (w : World) (t : TypeId) (k : Nat) (hk : k < 16) : (w.alloc (.cells (errL.map fun x => Value.int .i64 x).toArray t)).cell? ⟨w.heap.size, k, none⟩ = some (.int .i64 (errL.getD k 0)) := by
  have h := (BxO.new w (errL.map fun x => Value.int .i64 x).toArray t).cell k
  have hl : errL.length = 16 := rfl
  have hk' : k < errL.length := by omega
  rw [h]
  simp [hk']
set_option maxRecDepth 100000 in
set_option maxHeartbeats 4000000 in
theorem walkLinesRefused (v : Value) (xs : List Rz) (n : Int) (W : World) (hs : SlAt W 4 RRz v xs) (hn : (Lit.int .i64 n).wf = true) (hV : SrV W ∧ PwT W) :
    Calls Tryz.prog 4 #[v, .int .i64 n] W fun e w' => e = .returned (.bool true) ∧ Below W.heap.size W w' := by
  obtain ⟨hV, hT⟩ := hV
  have HV := Lib.hid hV
  have HSO := Lib.hid (fun wx (h : Below W.heap.size W wx) => Source_s xs v wx (hs.mono h fun _ _ h => h) (hT.below h))
  have iN : I6 n := by obtain ⟨h1, h2⟩ := bounds_i64 hn; exact ⟨h1, by omega⟩
  obtain ⟨k, hk, hkl⟩ := nat_of (pkz_bd n 16 (by decide))
  have hkl : k < 16 := hkl
  have hki : (k : Int) < 16 := by omega
  have HPK := Lib.hid (fun wx => pick_s n 16 wx iN (by decide) (by decide))
  rw [hk] at HPK
  have HCL := Lib.hid (fun wx => count_lines xs wx)
  obtain ⟨q1, q2, q3⟩ := odd_read xs k hkl
  obtain ⟨O, hO⟩ : ∃ o, oddL.getD k [] = o := ⟨_, rfl⟩
  have lO : O.length ≤ 100 := by
    rw [← hO]
    have h := List.all_eq_true.1 odd_nl (oddL.getD k []) (by rw [List.getD_eq_getElem?_getD, List.getElem?_eq_getElem (by show k < 16; exact hkl)]; exact List.getElem_mem _)
    simp only [Bool.and_eq_true, decide_eq_true_eq] at h
    exact h.2
  rw [hO] at q1 q2 q3
  have lS := srcT_len xs
  obtain ⟨S, hS⟩ : ∃ s, srcT xs = s := ⟨_, rfl⟩
  rw [hS] at HSO HCL q1 q2 q3 lS
  obtain ⟨T, hTT⟩ : ∃ t : Wd, S ++ O = t := ⟨_, rfl⟩
  have lT : T.length ≤ 5000 := by rw [← hTT, List.length_append]; omega
  have c3 := fun w => add_s (P := Tryz.prog) S O (by omega) (by omega) w
  rw [hTT] at c3 q1 q2 q3
  have HRD := Lib.hid (fun wx (h : SrV wx) => Read_any (bx T) wx h (by rw [bx_size]; unfold maxLen; omega))
  rw [q1, q2, q3] at HRD
  obtain ⟨N, hN⟩ : ∃ m : Nat, (srcWs xs).length = m := ⟨_, rfl⟩
  rw [hN] at HRD HCL
  have lN : N ≤ 23 := by rw [← hN]; exact (src_all xs).2
  have wN : IntKind.i64.wrap ((N : Int) + 1) = (N : Int) + 1 := IntWalk.i64_in _ (by omega)
  obtain ⟨u1, hu1⟩ : ∃ u : Wd, ([76, 105, 110, 107, 32] : Wd) ++ [97, 97, 97, 97, 97, 97, 97, 97, 97, 97, 97, 97, 97, 97, 97, 97, 97, 97, 97, 97, 97] = u := ⟨_, rfl⟩
  obtain ⟨u2, hu2⟩ : ∃ u : Wd, u1 ++ ([32, 98] : Wd) = u := ⟨_, rfl⟩
  have c1 := fun w => add_s (P := Tryz.prog) [76, 105, 110, 107, 32] [97, 97, 97, 97, 97, 97, 97, 97, 97, 97, 97, 97, 97, 97, 97, 97, 97, 97, 97, 97, 97] (by decide) (by decide) w
  have c2 := fun w => add_s (P := Tryz.prog) u1 [32, 98] (by rw [← hu1]; decide) (by decide) w
  rw [hu1, show bx [76, 105, 110, 107, 32] = ⟨#[76, 105, 110, 107, 32]⟩ from rfl] at c1
  rw [hu2, show bx [32, 98] = ⟨#[32, 98]⟩ from rfl] at c2
  have HU2 : Hid (u2 = [76, 105, 110, 107, 32, 97, 97, 97, 97, 97, 97, 97, 97, 97, 97, 97, 97, 97, 97, 97, 97, 97, 97, 97, 97, 97, 32, 98]) := by show _ = _; rw [← hu2, ← hu1]; rfl
  have HRP := Lib.hid (fun wx => repeat_a wx)
  obtain ⟨RP, hRP⟩ : ∃ b, bx [97, 97, 97, 97, 97, 97, 97, 97, 97, 97, 97, 97, 97, 97, 97, 97, 97, 97, 97, 97, 97] = b := ⟨_, rfl⟩
  rw [hRP] at c1 HRP
  obtain ⟨E, hE⟩ : ∃ e, errL.getD k 0 = e := ⟨_, rfl⟩
  rw [hE] at HRD
  clear hk hS hTT q1 q2 q3 hN hu1 hu2 hRP hV hT hs lT lS lO lN
  go_enter Tryz.func4, Tryz.ntmps4
  go_wp2_with fail
  refine (HRP.out _).mono ?_; rintro e w1 ⟨rfl, b1⟩
  have co := lit_cell w1 oddL k hkl 9
  obtain ⟨W1, hW1⟩ : ∃ W, W = w1.alloc (.cells (oddL.map fun x => Value.string (bx x)).toArray 9) := ⟨_, rfl⟩
  rw [← hW1, hO] at co
  have H1 : Hid (W1 = w1.alloc (.cells #[.string ⟨#[114, 117, 108, 101]⟩, .string ⟨#[82, 117, 108, 101, 32, 69, 85]⟩, .string ⟨#[90, 111, 110, 101]⟩, .string ⟨#[90, 111, 110, 101, 32, 65, 32, 49, 58, 48, 48, 32, 45]⟩, .string ⟨#[76, 105, 110, 107, 32, 65]⟩, .string ⟨#[90, 111, 110, 101, 32, 49, 65, 32, 48, 32, 45, 32, 88]⟩, .string ⟨#[90, 111, 110, 101, 32, 65, 32, 50, 53, 58, 48, 48, 32, 45, 32, 88]⟩, .string ⟨#[90, 111, 110, 101, 32, 65, 32, 48, 32, 45, 32, 88, 37]⟩, .string ⟨#[90, 111, 110, 101, 32, 65, 32, 48, 32, 45, 32, 88, 32, 49, 56, 57, 57]⟩, .string ⟨#[82, 117, 108, 101, 32, 82, 32, 49, 57, 57, 48, 32, 49, 57, 56, 48, 32, 45, 32, 74, 97, 110, 32, 49, 32, 48, 32, 48, 32, 45]⟩, .string ⟨#[82, 117, 108, 101, 32, 82, 32, 49, 57, 57, 48, 32, 109, 97, 120, 32, 45, 32, 74, 110, 110, 32, 49, 32, 48, 32, 48, 32, 45]⟩, .string ⟨#[82, 117, 108, 101, 32, 82, 32, 49, 57, 57, 48, 32, 109, 97, 120, 32, 45, 32, 74, 97, 110, 32, 51, 50, 32, 48, 32, 48, 32, 45]⟩, .string ⟨#[82, 117, 108, 101, 32, 82, 32, 49, 57, 57, 48, 32, 109, 97, 120, 32, 45, 32, 74, 97, 110, 32, 49, 32, 48, 120, 32, 48, 32, 45]⟩, .string ⟨#[82, 117, 108, 101, 32, 82, 32, 49, 57, 57, 48, 32, 109, 97, 120, 32, 45, 32, 74, 97, 110, 32, 49, 32, 48, 58, 54, 48, 32, 48, 32, 45]⟩, .string (bx u2), .string ⟨#[90, 111, 110, 101, 32, 65, 32, 48, 32, 45, 32, 88, 32, 49, 57, 57, 48]⟩] 9)) := by show _ = _; rw [hW1, HU2.out]; rfl
  have B1 : Hid (Below W.heap.size W W1) := by show Below _ _ _; rw [hW1]; exact b1.alloc b1.size _
  have z1 : w1.heap.size < W1.heap.size := by rw [hW1, size_alloc]; omega
  have HZ1 : Hid (W1.heap.size = w1.heap.size + 1) := by show _ = _; rw [hW1, size_alloc]
  have ce := err_cell W1 27 k hkl
  obtain ⟨W2, hW2⟩ : ∃ W, W = W1.alloc (.cells (errL.map fun x => Value.int .i64 x).toArray 27) := ⟨_, rfl⟩
  rw [← hW2, hE] at ce
  have H2 : Hid (W2 = W1.alloc (.cells #[.int .i64 4, .int .i64 4, .int .i64 4, .int .i64 4, .int .i64 4, .int .i64 4, .int .i64 2, .int .i64 4, .int .i64 2, .int .i64 8, .int .i64 4, .int .i64 2, .int .i64 4, .int .i64 4, .int .i64 1, .int .i64 5] 27)) := hW2
  have D2 : Below W1.heap.size W1 W2 := by rw [hW2]; exact (Below.refl _ _).alloc (Nat.le_refl _) _
  have B2 : Hid (Below W.heap.size W W2) := B1.out.trans (D2.mono B1.out.size)
  have z2 : W1.heap.size < W2.heap.size := by rw [hW2, size_alloc]; omega
  have co2 := (D2.cell (p := ⟨w1.heap.size, k, none⟩) z1).trans co
  have z12 : w1.heap.size < W2.heap.size := by omega
  clear hW1 hW2 b1 D2 co hO hE HU2 B1
  go_wp2_with fail
  rw [← H1.out, ← H2.out]
  clear H1 H2
  refine (HSO.out _ B2.out).mono ?_; rintro e w3 ⟨rfl, b3⟩
  have B3 : Hid (Below W.heap.size W w3) := B2.out.trans (b3.mono B2.out.size)
  have co3 := (b3.cell (p := ⟨w1.heap.size, k, none⟩) z12).trans co2
  have ce3 := (b3.cell (p := ⟨W1.heap.size, k, none⟩) z2).trans ce
  have y1 : w1.heap.size < w3.heap.size := Nat.lt_of_lt_of_le z12 b3.size
  have y2 : W1.heap.size < w3.heap.size := Nat.lt_of_lt_of_le z2 b3.size
  clear b3 co2 ce z1 z2 z12 B2 HSO
  go_wp2_with fail
  refine (HPK.out _).mono ?_; rintro e w' ⟨rfl, rfl⟩
  go_wp2_with fail
  refine (HRD.out _ (HV.out.below B3.out)).mono ?_; rintro e w4 ⟨vr, vz, vl, rfl, hx, b4⟩
  obtain ⟨W5, hW5⟩ : ∃ W, W = w4.alloc (.cells #[vr, vz, vl] 26) := ⟨_, rfl⟩
  have D5 : Below w3.heap.size w3 W5 := by rw [hW5]; exact b4.alloc b4.size _
  have B5 : Hid (Below W.heap.size W W5) := B3.out.trans (D5.mono B3.out.size)
  have X5 : Hid (BxO W5 w4.heap.size #[vr, vz, vl] 26) := by show BxO _ _ _ _; rw [hW5]; exact BxO.new _ _ _
  have H5 := Lib.hid hW5
  have ce5 := (D5.cell (p := ⟨W1.heap.size, k, none⟩) y2).trans ce3
  obtain ⟨a0, c0, rfl, -⟩ := hx.1.shape
  obtain ⟨a1, c1', rfl, -⟩ := hx.2.1.shape
  obtain ⟨a2, c2', rfl, -⟩ := hx.2.2.shape
  have y5 : W1.heap.size < W5.heap.size := Nat.lt_of_lt_of_le y2 D5.size
  rw [HZ1.out] at ce5 y5
  clear hW5 hx b4 HRD D5 ce3 co3 y1 y2 B3
  go_upto_region 6 with fail
  rw [← H5.out]
  clear H5
  have x0 : W5.cell? ⟨w4.heap.size, 0, none⟩ = some (.slice a0 0 c0) := X5.out.cell 0
  have x1 : W5.cell? ⟨w4.heap.size, 1, none⟩ = some (.slice a1 0 c1') := X5.out.cell 1
  have xl := X5.out.lt
  go_wp2_with fail
  refine (HCL.out _).mono ?_; rintro e w6 ⟨rfl, rfl⟩
  go_wp2
  go_ret
  exact ⟨ret_bool (by simp), B5.out⟩
end Go.Proofs.YtbciennhcdabeaaGreatDoor
