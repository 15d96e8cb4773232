/-
  HoursRead: the walk.
-/
import Derived.BigQuiet
import Derived.Test.YtcmlcmokjgkciaaGreatDoorTel
import Derived.Test.YtcmlcmokjgkciaaGreatDoorJKsA
namespace Go.Proofs.YtcmlcmokjgkciaaGreatDoor
set_option linter.unusedVariables false
set_option linter.unusedSimpArgs false
open Go.ChangeShapes Go.WideShapes Go.ChangeAt Go.RowKit Civ

theorem off_first {w : World} {vz : Value} {K : Int} (h : SlAt w 2 (XZon w) vz (zoS K).zones) :
    ∃ bz oz cz be oe ce, vz = .slice (some ⟨bz, oz, none⟩) 1 cz ∧ bz < w.heap.size ∧ w.cell? ⟨bz, oz + 1, none⟩ = some (.slice (some ⟨be, oe, none⟩) 1 ce) ∧ be < w.heap.size ∧ w.cell? ⟨be, oe, none⟩ = some (.int .i64 K) := by
  rcases h with ⟨a', c', e, h⟩ | ⟨b, off, cap, e, h0, h1, h2, h3, h4⟩
  · cases h
  · obtain ⟨cs, c1, ⟨v, rfl, h5⟩, c3⟩ := h4 0 (by show 0 < 1; decide)
    have c5 := c3 1 (by omega)
    rcases h5 with ⟨a', c', e', h⟩ | ⟨b', off', cap', e', h0', h1', h2', h3', h4'⟩
    · cases h
    · obtain ⟨cs', c1', e6, c3'⟩ := h4' 0 (by show 0 < 1; decide)
      have c6 := c3' 0 (by omega)
      rw [show cs' = EroV _ from e6] at c6
      refine ⟨b, off, cap, b', off', cap', e, h3, ?_, h3', c6⟩
      rw [e'] at c5
      exact c5
theorem hms_text {h m s : Nat} {A P Q u1 u2 u3 u4 : Wd} (hA : Lib.itoa (h : Int) = A) (hP : twoT (m : Int) = P) (hQ : twoT (s : Int) = Q) (h1 : A ++ [58] = u1) (h2 : u1 ++ P = u2) (h3 : u2 ++ [58] = u3) (h4 : u3 ++ Q = u4) : hmsT h m s = u4 := by
  rw [← h4, ← h3, ← h2, ← h1, ← hA, ← hP, ← hQ]
  unfold hmsT
  simp
set_option maxRecDepth 100000 in
set_option maxHeartbeats 4000000 in
theorem hours_more (n : Int) (W : World) (hn : (Lit.int .i64 n).wf = true) (hV : SrV W) (hT : PwT W) (hM : Tab W) :
    Calls Tryz.prog 3 #[.int .i64 n, .bool false] W fun e w' => e = .returned (.bool true) ∧ Below W.heap.size W w' := by
  have HT := Lib.hid hT
  have HV := Lib.hid hV
  have HZT := Lib.hid (zones_tells W hV hM)
  have iN : I6 n := by obtain ⟨h1, h2⟩ := bounds_i64 hn; exact ⟨h1, by omega⟩
  have HPK := Lib.hid (fun wx => pick_s n 86401 wx iN (by decide) (by decide))
  have pb := pkz_bd n 86401 (by decide)
  obtain ⟨k, hk⟩ : ∃ k : Nat, pkz n 86401 = (k : Int) := ⟨(pkz n 86401).toNat, by omega⟩
  rw [hk] at HPK pb
  obtain ⟨h, hh⟩ : ∃ h : Nat, k / 3600 = h := ⟨_, rfl⟩
  obtain ⟨m, hm⟩ : ∃ m : Nat, k / 60 % 60 = m := ⟨_, rfl⟩
  obtain ⟨s, hs⟩ : ∃ s : Nat, k % 60 = s := ⟨_, rfl⟩
  have lh : h < 25 := by omega
  have lm : m < 60 := by omega
  have ls : s < 60 := by omega
  have hkk : 3600 * h + 60 * m + s = k := by omega
  have lk : k ≤ 86400 := by omega
  have d1 : ((k : Int)).tdiv 3600 = (h : Int) := by rw [Int.tdiv_eq_ediv_of_nonneg (by omega)]; omega
  have d2 : ((k : Int)).tdiv 60 = ((k / 60 : Nat) : Int) := by rw [Int.tdiv_eq_ediv_of_nonneg (by omega)]; omega
  have d3 : (((k / 60 : Nat) : Int)).tmod 60 = (m : Int) := by rw [Int.tmod_eq_emod_of_nonneg (by omega)]; omega
  have d4 : ((k : Int)).tmod 60 = (s : Int) := by rw [Int.tmod_eq_emod_of_nonneg (by omega)]; omega
  have lq : k / 60 ≤ 1440 := by omega
  have w1 : IntKind.i64.wrap (h : Int) = (h : Int) := IntWalk.i64_in _ (by omega)
  have w2 : IntKind.i64.wrap ((k / 60 : Nat) : Int) = ((k / 60 : Nat) : Int) := IntWalk.i64_in _ (by omega)
  have w3 : IntKind.i64.wrap (m : Int) = (m : Int) := IntWalk.i64_in _ (by omega)
  have w4 : IntKind.i64.wrap (s : Int) = (s : Int) := IntWalk.i64_in _ (by omega)
  obtain ⟨qq, hqq⟩ : ∃ x : Nat, k / 60 = x := ⟨_, rfl⟩
  rw [hqq] at d2 d3 w2
  have hO := hms_off lh lm ls (by omega) false
  have hW := hms_wok lh lm ls false
  rw [hkk] at hO
  have HIT := Lib.hid (fun wx (hx : PwT wx) => itoa_s (h : Int) wx (I6.small (by omega) (by omega)) hx)
  have HTM := Lib.hid (fun wx (hx : PwT wx) => two_s (m : Int) wx (I6.small (by omega) (by omega)) hx)
  have HTS := Lib.hid (fun wx (hx : PwT wx) => two_s (s : Int) wx (I6.small (by omega) (by omega)) hx)
  obtain ⟨A, hA⟩ : ∃ a, Lib.itoa (h : Int) = a := ⟨_, rfl⟩
  obtain ⟨P, hP⟩ : ∃ a, twoT (m : Int) = a := ⟨_, rfl⟩
  obtain ⟨Q, hQ⟩ : ∃ a, twoT (s : Int) = a := ⟨_, rfl⟩
  have lA : A.length ≤ 21 := by rw [← hA]; exact itoa_le (I6.small (by omega) (by omega))
  have lP : P.length ≤ 42 := by rw [← hP]; exact two_len _ (I6.small (by omega) (by omega))
  have lQ : Q.length ≤ 42 := by rw [← hQ]; exact two_len _ (I6.small (by omega) (by omega))
  obtain ⟨u1, h1⟩ : ∃ u, A ++ [58] = u := ⟨_, rfl⟩
  obtain ⟨u2, h2⟩ : ∃ u, u1 ++ P = u := ⟨_, rfl⟩
  obtain ⟨u3, h3⟩ : ∃ u, u2 ++ [58] = u := ⟨_, rfl⟩
  obtain ⟨u4, h4⟩ : ∃ u, u3 ++ Q = u := ⟨_, rfl⟩
  have l1 : u1.length ≤ 22 := by rw [← h1, List.length_append]; simp only [List.length_cons, List.length_nil]; omega
  have l2 : u2.length ≤ 64 := by rw [← h2, List.length_append]; omega
  have l3 : u3.length ≤ 65 := by rw [← h3, List.length_append]; simp only [List.length_cons, List.length_nil]; omega
  have l4 : u4.length ≤ 107 := by rw [← h4, List.length_append]; omega
  have e4 := hms_text hA hP hQ h1 h2 h3 h4
  rw [e4] at hO hW
  rw [hA] at HIT
  rw [hP] at HTM
  rw [hQ] at HTS
  have c1 := fun w => add_s (P := Tryz.prog) A [58] (by omega) (by decide) w
  have c2 := fun w => add_s (P := Tryz.prog) u1 P (by omega) (by omega) w
  have c3 := fun w => add_s (P := Tryz.prog) u2 [58] (by omega) (by decide) w
  have c4 := fun w => add_s (P := Tryz.prog) u3 Q (by omega) (by omega) w
  rw [h1, show bx [58] = ⟨#[58]⟩ from rfl] at c1
  rw [h2] at c2
  rw [h3, show bx [58] = ⟨#[58]⟩ from rfl] at c3
  rw [h4] at c4
  obtain ⟨T, hTT⟩ : ∃ u, u4 = u := ⟨_, rfl⟩
  have lT : T.length ≤ 108 := by rw [← hTT]; omega
  have hW : wok T = true := by rw [← hTT]; exact hW
  have hO : offS (bx T) = ((k : Int), 0) := by rw [← hTT]; exact hO
  rw [hTT] at c4
  obtain ⟨v1, hv1⟩ : ∃ u, ([90, 111, 110, 101, 32, 65, 32] : Wd) ++ T = u := ⟨_, rfl⟩
  have m1 : v1.length ≤ 115 := by rw [← hv1, List.length_append]; simp only [List.length_cons, List.length_nil]; omega
  obtain ⟨v2, hv2⟩ : ∃ u, v1 ++ [32, 45, 32, 88] = u := ⟨_, rfl⟩
  have m2 : v2.length ≤ 119 := by rw [← hv2, List.length_append]; simp only [List.length_cons, List.length_nil]; omega
  have c6 := fun w => add_s (P := Tryz.prog) [90, 111, 110, 101, 32, 65, 32] T (by decide) (by omega) w
  have c7 := fun w => add_s (P := Tryz.prog) v1 [32, 45, 32, 88] (by omega) (by decide) w
  rw [hv1, show bx [90, 111, 110, 101, 32, 65, 32] = ⟨#[90, 111, 110, 101, 32, 65, 32]⟩ from rfl] at c6
  rw [hv2, show bx [32, 45, 32, 88] = ⟨#[32, 45, 32, 88]⟩ from rfl] at c7
  have ez : zoT T = v2 := by unfold zoT; rw [← hv2, ← hv1, List.append_assoc]
  obtain ⟨r1, r2, r3⟩ := zo_read T (k : Int) hW hO
  rw [ez] at r1 r2 r3
  have HRD := Lib.hid (fun wx (hx : SrV wx) => Read_any (bx v2) wx hx (by rw [bx_size]; unfold maxLen; omega))
  rw [r1, r2, r3] at HRD
  obtain ⟨O, hOO⟩ : ∃ o, zoS (k : Int) = o := ⟨_, rfl⟩
  have HOF := Lib.hid (fun (wx : World) (vz : Value) (hx : SlAt wx 2 (XZon wx) vz (zoS (k : Int)).zones) => off_first hx)
  rw [hOO] at HRD HOF
  clear hqq hT hV hM hn iN hk hh hm hs lh lm ls hkk hO hW hA hP hQ lA lP lQ h1 h2 h3 h4 l1 l2 l3 l4 e4 lT hTT hv1 m1 hv2 m2 ez r1 r2 r3 hOO
  go_enter Tryz.func3, Tryz.ntmps3
  go_wp2_with fail
  refine HZT.out.mono ?_; rintro e w1 ⟨rfl, b1⟩
  have B1 := Lib.hid b1
  clear b1 HZT
  go_wp2_with fail
  refine (HPK.out _).mono ?_; rintro e w' ⟨rfl, rfl⟩
  clear HPK
  go_wp2_with fail
  refine (HIT.out _ (HT.out.below B1.out)).mono ?_; rintro e w2 ⟨rfl, b2⟩
  have B2 : Hid (Below W.heap.size W w2) := B1.out.trans (b2.mono B1.out.size)
  clear b2 B1 HIT
  go_wp2_with fail
  refine (HTM.out _ (HT.out.below B2.out)).mono ?_; rintro e w3 ⟨rfl, b3⟩
  have B3 : Hid (Below W.heap.size W w3) := B2.out.trans (b3.mono B2.out.size)
  clear b3 B2 HTM
  go_wp2_with fail
  refine (HTS.out _ (HT.out.below B3.out)).mono ?_; rintro e w4 ⟨rfl, b4⟩
  have B4 : Hid (Below W.heap.size W w4) := B3.out.trans (b4.mono B3.out.size)
  clear b4 B3 HTS
  go_wp2_with fail
  refine (HRD.out _ (HV.out.below B4.out)).mono ?_; rintro e w5 ⟨vr, vz, vl, rfl, hx, b5⟩
  obtain ⟨W5, hW5⟩ : ∃ W5, W5 = w5.alloc (.cells #[vr, vz, vl] 29) := ⟨_, rfl⟩
  have B5 : Hid (Below W.heap.size W W5) := by show Below _ _ _; rw [hW5]; exact (B4.out.trans (b5.mono B4.out.size)).alloc (Nat.le_trans B4.out.size b5.size) _
  have X5 : Hid (BxO W5 w5.heap.size #[vr, vz, vl] 29) := by show BxO _ _ _ _; rw [hW5]; exact BxO.new _ _ _
  have S5 : Hid (SrX W5 vr vz vl O) := by show SrX _ _ _ _ _; rw [hW5]; exact hx.mono ((Below.refl _ _).alloc (Nat.le_refl _) _)
  have H5 := Lib.hid hW5
  obtain ⟨a0, c0, rfl, -⟩ := hx.1.shape
  obtain ⟨a2, c2, rfl, -⟩ := hx.2.2.shape
  obtain ⟨bz, oz, cz, be, oe, ce, rfl, z1, z2, z3, z4⟩ := HOF.out _ _ S5.out.2.1
  have x1 : W5.cell? ⟨w5.heap.size, 1, none⟩ = some (.slice (some ⟨bz, oz, none⟩) 1 cz) := X5.out.cell 1
  have xl := X5.out.lt
  clear hW5 hx b5 HRD B4 HOF
  go_upto_region 9 with fail
  rw [← H5.out]
  clear H5
  go_wp2
  go_ret
  exact ⟨ret_bool (by simp), B5.out⟩
set_option maxRecDepth 100000 in
set_option maxHeartbeats 4000000 in
theorem hours_less (n : Int) (W : World) (hn : (Lit.int .i64 n).wf = true) (hV : SrV W) (hT : PwT W) (hM : Tab W) :
    Calls Tryz.prog 3 #[.int .i64 n, .bool true] W fun e w' => e = .returned (.bool true) ∧ Below W.heap.size W w' := by
  have HT := Lib.hid hT
  have HV := Lib.hid hV
  have HZT := Lib.hid (zones_tells W hV hM)
  have iN : I6 n := by obtain ⟨h1, h2⟩ := bounds_i64 hn; exact ⟨h1, by omega⟩
  have HPK := Lib.hid (fun wx => pick_s n 86401 wx iN (by decide) (by decide))
  have pb := pkz_bd n 86401 (by decide)
  obtain ⟨k, hk⟩ : ∃ k : Nat, pkz n 86401 = (k : Int) := ⟨(pkz n 86401).toNat, by omega⟩
  rw [hk] at HPK pb
  obtain ⟨h, hh⟩ : ∃ h : Nat, k / 3600 = h := ⟨_, rfl⟩
  obtain ⟨m, hm⟩ : ∃ m : Nat, k / 60 % 60 = m := ⟨_, rfl⟩
  obtain ⟨s, hs⟩ : ∃ s : Nat, k % 60 = s := ⟨_, rfl⟩
  have lh : h < 25 := by omega
  have lm : m < 60 := by omega
  have ls : s < 60 := by omega
  have hkk : 3600 * h + 60 * m + s = k := by omega
  have lk : k ≤ 86400 := by omega
  have d1 : ((k : Int)).tdiv 3600 = (h : Int) := by rw [Int.tdiv_eq_ediv_of_nonneg (by omega)]; omega
  have d2 : ((k : Int)).tdiv 60 = ((k / 60 : Nat) : Int) := by rw [Int.tdiv_eq_ediv_of_nonneg (by omega)]; omega
  have d3 : (((k / 60 : Nat) : Int)).tmod 60 = (m : Int) := by rw [Int.tmod_eq_emod_of_nonneg (by omega)]; omega
  have d4 : ((k : Int)).tmod 60 = (s : Int) := by rw [Int.tmod_eq_emod_of_nonneg (by omega)]; omega
  have lq : k / 60 ≤ 1440 := by omega
  have w1 : IntKind.i64.wrap (h : Int) = (h : Int) := IntWalk.i64_in _ (by omega)
  have w2 : IntKind.i64.wrap ((k / 60 : Nat) : Int) = ((k / 60 : Nat) : Int) := IntWalk.i64_in _ (by omega)
  have w3 : IntKind.i64.wrap (m : Int) = (m : Int) := IntWalk.i64_in _ (by omega)
  have w4 : IntKind.i64.wrap (s : Int) = (s : Int) := IntWalk.i64_in _ (by omega)
  obtain ⟨qq, hqq⟩ : ∃ x : Nat, k / 60 = x := ⟨_, rfl⟩
  rw [hqq] at d2 d3 w2
  have hO := hms_off lh lm ls (by omega) true
  have hW := hms_wok lh lm ls true
  rw [hkk] at hO
  have HIT := Lib.hid (fun wx (hx : PwT wx) => itoa_s (h : Int) wx (I6.small (by omega) (by omega)) hx)
  have HTM := Lib.hid (fun wx (hx : PwT wx) => two_s (m : Int) wx (I6.small (by omega) (by omega)) hx)
  have HTS := Lib.hid (fun wx (hx : PwT wx) => two_s (s : Int) wx (I6.small (by omega) (by omega)) hx)
  obtain ⟨A, hA⟩ : ∃ a, Lib.itoa (h : Int) = a := ⟨_, rfl⟩
  obtain ⟨P, hP⟩ : ∃ a, twoT (m : Int) = a := ⟨_, rfl⟩
  obtain ⟨Q, hQ⟩ : ∃ a, twoT (s : Int) = a := ⟨_, rfl⟩
  have lA : A.length ≤ 21 := by rw [← hA]; exact itoa_le (I6.small (by omega) (by omega))
  have lP : P.length ≤ 42 := by rw [← hP]; exact two_len _ (I6.small (by omega) (by omega))
  have lQ : Q.length ≤ 42 := by rw [← hQ]; exact two_len _ (I6.small (by omega) (by omega))
  obtain ⟨u1, h1⟩ : ∃ u, A ++ [58] = u := ⟨_, rfl⟩
  obtain ⟨u2, h2⟩ : ∃ u, u1 ++ P = u := ⟨_, rfl⟩
  obtain ⟨u3, h3⟩ : ∃ u, u2 ++ [58] = u := ⟨_, rfl⟩
  obtain ⟨u4, h4⟩ : ∃ u, u3 ++ Q = u := ⟨_, rfl⟩
  have l1 : u1.length ≤ 22 := by rw [← h1, List.length_append]; simp only [List.length_cons, List.length_nil]; omega
  have l2 : u2.length ≤ 64 := by rw [← h2, List.length_append]; omega
  have l3 : u3.length ≤ 65 := by rw [← h3, List.length_append]; simp only [List.length_cons, List.length_nil]; omega
  have l4 : u4.length ≤ 107 := by rw [← h4, List.length_append]; omega
  have e4 := hms_text hA hP hQ h1 h2 h3 h4
  rw [e4] at hO hW
  rw [hA] at HIT
  rw [hP] at HTM
  rw [hQ] at HTS
  have c1 := fun w => add_s (P := Tryz.prog) A [58] (by omega) (by decide) w
  have c2 := fun w => add_s (P := Tryz.prog) u1 P (by omega) (by omega) w
  have c3 := fun w => add_s (P := Tryz.prog) u2 [58] (by omega) (by decide) w
  have c4 := fun w => add_s (P := Tryz.prog) u3 Q (by omega) (by omega) w
  rw [h1, show bx [58] = ⟨#[58]⟩ from rfl] at c1
  rw [h2] at c2
  rw [h3, show bx [58] = ⟨#[58]⟩ from rfl] at c3
  rw [h4] at c4
  obtain ⟨T, hTT⟩ : ∃ u, ([45] : Wd) ++ u4 = u := ⟨_, rfl⟩
  have lT : T.length ≤ 108 := by rw [← hTT, List.length_append]; simp only [List.length_cons, List.length_nil]; omega
  have c5 := fun w => add_s (P := Tryz.prog) [45] u4 (by decide) (by omega) w
  rw [hTT, show bx [45] = ⟨#[45]⟩ from rfl] at c5
  have hW : wok T = true := by rw [← hTT]; exact hW
  have hO : offS (bx T) = (-(k : Int), 0) := by rw [← hTT]; exact hO
  obtain ⟨K, hK⟩ : ∃ x, -(k : Int) = x := ⟨_, rfl⟩
  have wK : IntKind.i64.wrap (-(k : Int)) = K := by rw [← hK]; exact IntWalk.i64_in _ (by omega)
  rw [hK] at hO
  obtain ⟨v1, hv1⟩ : ∃ u, ([90, 111, 110, 101, 32, 65, 32] : Wd) ++ T = u := ⟨_, rfl⟩
  have m1 : v1.length ≤ 115 := by rw [← hv1, List.length_append]; simp only [List.length_cons, List.length_nil]; omega
  obtain ⟨v2, hv2⟩ : ∃ u, v1 ++ [32, 45, 32, 88] = u := ⟨_, rfl⟩
  have m2 : v2.length ≤ 119 := by rw [← hv2, List.length_append]; simp only [List.length_cons, List.length_nil]; omega
  have c6 := fun w => add_s (P := Tryz.prog) [90, 111, 110, 101, 32, 65, 32] T (by decide) (by omega) w
  have c7 := fun w => add_s (P := Tryz.prog) v1 [32, 45, 32, 88] (by omega) (by decide) w
  rw [hv1, show bx [90, 111, 110, 101, 32, 65, 32] = ⟨#[90, 111, 110, 101, 32, 65, 32]⟩ from rfl] at c6
  rw [hv2, show bx [32, 45, 32, 88] = ⟨#[32, 45, 32, 88]⟩ from rfl] at c7
  have ez : zoT T = v2 := by unfold zoT; rw [← hv2, ← hv1, List.append_assoc]
  obtain ⟨r1, r2, r3⟩ := zo_read T K hW hO
  rw [ez] at r1 r2 r3
  have HRD := Lib.hid (fun wx (hx : SrV wx) => Read_any (bx v2) wx hx (by rw [bx_size]; unfold maxLen; omega))
  rw [r1, r2, r3] at HRD
  obtain ⟨O, hOO⟩ : ∃ o, zoS K = o := ⟨_, rfl⟩
  have HOF := Lib.hid (fun (wx : World) (vz : Value) (hx : SlAt wx 2 (XZon wx) vz (zoS K).zones) => off_first hx)
  rw [hOO] at HRD HOF
  clear hqq hT hV hM hn iN hk hh hm hs lh lm ls hkk hO hW hA hP hQ lA lP lQ h1 h2 h3 h4 l1 l2 l3 l4 e4 lT hTT hv1 m1 hv2 m2 ez r1 r2 r3 hOO
  go_enter Tryz.func3, Tryz.ntmps3
  go_wp2_with fail
  refine HZT.out.mono ?_; rintro e w1 ⟨rfl, b1⟩
  have B1 := Lib.hid b1
  clear b1 HZT
  go_wp2_with fail
  refine (HPK.out _).mono ?_; rintro e w' ⟨rfl, rfl⟩
  clear HPK
  go_wp2_with fail
  refine (HIT.out _ (HT.out.below B1.out)).mono ?_; rintro e w2 ⟨rfl, b2⟩
  have B2 : Hid (Below W.heap.size W w2) := B1.out.trans (b2.mono B1.out.size)
  clear b2 B1 HIT
  go_wp2_with fail
  refine (HTM.out _ (HT.out.below B2.out)).mono ?_; rintro e w3 ⟨rfl, b3⟩
  have B3 : Hid (Below W.heap.size W w3) := B2.out.trans (b3.mono B2.out.size)
  clear b3 B2 HTM
  go_wp2_with fail
  refine (HTS.out _ (HT.out.below B3.out)).mono ?_; rintro e w4 ⟨rfl, b4⟩
  have B4 : Hid (Below W.heap.size W w4) := B3.out.trans (b4.mono B3.out.size)
  clear b4 B3 HTS
  go_wp2_with fail
  refine (HRD.out _ (HV.out.below B4.out)).mono ?_; rintro e w5 ⟨vr, vz, vl, rfl, hx, b5⟩
  obtain ⟨W5, hW5⟩ : ∃ W5, W5 = w5.alloc (.cells #[vr, vz, vl] 29) := ⟨_, rfl⟩
  have B5 : Hid (Below W.heap.size W W5) := by show Below _ _ _; rw [hW5]; exact (B4.out.trans (b5.mono B4.out.size)).alloc (Nat.le_trans B4.out.size b5.size) _
  have X5 : Hid (BxO W5 w5.heap.size #[vr, vz, vl] 29) := by show BxO _ _ _ _; rw [hW5]; exact BxO.new _ _ _
  have S5 : Hid (SrX W5 vr vz vl O) := by show SrX _ _ _ _ _; rw [hW5]; exact hx.mono ((Below.refl _ _).alloc (Nat.le_refl _) _)
  have H5 := Lib.hid hW5
  obtain ⟨a0, c0, rfl, -⟩ := hx.1.shape
  obtain ⟨a2, c2, rfl, -⟩ := hx.2.2.shape
  obtain ⟨bz, oz, cz, be, oe, ce, rfl, z1, z2, z3, z4⟩ := HOF.out _ _ S5.out.2.1
  have x1 : W5.cell? ⟨w5.heap.size, 1, none⟩ = some (.slice (some ⟨bz, oz, none⟩) 1 cz) := X5.out.cell 1
  have xl := X5.out.lt
  clear hW5 hx b5 HRD B4 HOF
  go_upto_region 9 with fail
  rw [← H5.out]
  clear H5
  go_wp2
  go_ret
  exact ⟨ret_bool (by simp), B5.out⟩
theorem walkHoursRead (n : Int) (less : Bool) (W : World) (hn : (Lit.int .i64 n).wf = true) (hV : (SrV W ∧ PwT W) ∧ Tab W) :
    Calls Tryz.prog 3 #[.int .i64 n, .bool less] W fun e w' => e = .returned (.bool true) ∧ Below W.heap.size W w' := by
  cases less with
  | true => exact hours_less n W hn hV.1.1 hV.1.2 hV.2
  | false => exact hours_more n W hn hV.1.1 hV.1.2 hV.2
end Go.Proofs.YtcmlcmokjgkciaaGreatDoor
