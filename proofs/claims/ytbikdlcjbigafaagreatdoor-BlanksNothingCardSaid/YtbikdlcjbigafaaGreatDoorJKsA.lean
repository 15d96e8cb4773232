/-
  The laws' own sources of raw things: numbers picked, two digits, hours, days, months, years.
-/
import Derived.Lib.AppendIntMem
import Derived.Lib.ItoaLen
import Derived.Laws.Concat
import Derived.Test.YtbikdlcjbigafaaGreatDoorJTreeT
import Derived.Test.YtbikdlcjbigafaaGreatDoorJSoA
import Derived.Test.YtbikdlcjbigafaaGreatDoorJSoB
import Derived.Test.YtbikdlcjbigafaaGreatDoorJRdC
import Derived.Test.YtbikdlcjbigafaaGreatDoorJRdA
namespace Go.Proofs.YtbikdlcjbigafaaGreatDoor
set_option linter.unusedVariables false
set_option linter.unusedSimpArgs false
open Go.ChangeShapes Go.WideShapes Go.ChangeAt Go.RowKit Civ

theorem add_s {P : Program} (x y : Wd) (hx : x.length ≤ 8000000) (hy : y.length ≤ 8000000) (w : World) : (Op.stringOp .add (bx x) (bx y)).run P w = .ok (.string (bx (x ++ y))) w := run_string_add_lists w x y (by omega) (by omega)
def I6 (n : Int) : Prop := -9223372036854775808 ≤ n ∧ n ≤ 9223372036854775807
/-- the table of powers of ten. -/
def PwT (w : World) : Prop := Lib.TabIs Tryz.prog w "internal/strconv.uint64pow10" .u64 Lib.pow10Tab
theorem PwT.below {w w' : World} (h : PwT w) (hb : Below w.heap.size w w') : PwT w' := Lib.tabBelow_of_tabIs h w' hb
theorem itoa_s (n : Int) (w : World) (h : I6 n) (hT : PwT w) : Calls Tryz.prog 40 #[.int .i64 n] w fun e w' => e = .returned (.string (bx (Lib.itoa n))) ∧ Below w.heap.size w w' := by
  refine (Sh.strconv_Itoa n h.1 h.2 w hT).mono ?_
  rintro e w' ⟨rfl, k, os, rfl⟩
  exact ⟨rfl, Lib.below_grow _ _ (Nat.le_refl _) k os⟩
theorem pick_s (n many : Int) (w : World) (hn : I6 n) (h1 : 1 ≤ many) (h2 : many ≤ 9000000000) :
    Calls Tryz.prog 12 #[.int .i64 n, .int .i64 many] w fun e w' => e = .returned (.int .i64 (pkz n many)) ∧ w = w' := by
  refine picked_v n many w ?_ h1 h2
  have h3 := hn.1
  have h4 := hn.2
  have e1 : IntKind.i64.min = -9223372036854775808 := rfl
  have e2 : IntKind.i64.max = 9223372036854775807 := rfl
  simp [Lit.wf, e1, e2]
  omega
theorem lit_cell (w : World) (l : List Wd) (k : Nat) (hk : k < l.length) (t : TypeId) : (w.alloc (.cells (l.map fun x => Value.string (bx x)).toArray t)).cell? ⟨w.heap.size, k, none⟩ = some (.string (bx (l.getD k []))) := by
  have h := (BxO.new w (l.map fun x => Value.string (bx x)).toArray t).cell k
  rw [h]
  simp [hk]
theorem picL_nat (l : List Wd) (k : Nat) : picL l (k : Int) = l.getD k [] := rfl
theorem I6.tdiv {n k : Int} (h : I6 n) (hk : 0 < k) : I6 (n.tdiv k) := by
  obtain ⟨h1, h2⟩ := h
  rcases Int.le_total 0 n with h0 | h0
  · rw [Int.tdiv_eq_ediv_of_nonneg h0]
    have a := Int.ediv_nonneg h0 (Int.le_of_lt hk)
    have b := Int.ediv_le_self k h0
    exact ⟨by omega, by omega⟩
  · have e : n = -(-n) := by omega
    rw [e, Int.neg_tdiv, Int.tdiv_eq_ediv_of_nonneg (by omega)]
    have a := Int.ediv_nonneg (show 0 ≤ -n by omega) (Int.le_of_lt hk)
    have b := Int.ediv_le_self k (show 0 ≤ -n by omega)
    exact ⟨by omega, by omega⟩
theorem I6.small {n : Int} (h : 0 ≤ n) (h2 : n ≤ 9000000000) : I6 n := ⟨by omega, by omega⟩
theorem itoa_le {n : Int} (h : I6 n) : (Lib.itoa n).length ≤ 21 := Lib.itoa_length_le n h.1 h.2
theorem tmod_bd (n : Int) : -10 < n.tmod 10 ∧ n.tmod 10 < 10 := by
  rcases Int.le_total 0 n with h0 | h0
  · rw [Int.tmod_eq_emod_of_nonneg h0]; omega
  · have e : n = -(-n) := by omega
    rw [e, Int.neg_tmod, Int.tmod_eq_emod_of_nonneg (by omega)]; omega
theorem two_s (n : Int) (w : World) (hn : I6 n) (hT : PwT w) :
    Calls Tryz.prog 74 #[.int .i64 n] w fun e w' => e = .returned (.string (bx (twoT n))) ∧ Below w.heap.size w w' := by
  have HT := Lib.hid hT
  have q1 : I6 (n.tdiv 10) := hn.tdiv (by decide)
  have q2 : I6 (n.tmod 10) := ⟨by have := tmod_bd n; omega, by have := tmod_bd n; omega⟩
  obtain ⟨h1, h2⟩ := hn
  obtain ⟨a, ha⟩ : ∃ a, n.tdiv 10 = a := ⟨_, rfl⟩
  obtain ⟨b, hb⟩ : ∃ b, n.tmod 10 = b := ⟨_, rfl⟩
  have HR : Hid (twoT n = Lib.itoa a ++ Lib.itoa b) := by show _ = _; unfold twoT; rw [ha, hb]
  rw [ha] at q1
  rw [hb] at q2
  have wa : IntKind.i64.wrap a = a := IntWalk.i64_in _ ⟨by have := q1.1; omega, by have := q1.2; omega⟩
  have wb : IntKind.i64.wrap b = b := IntWalk.i64_in _ ⟨by have := q2.1; omega, by have := q2.2; omega⟩
  have HA := Lib.hid (fun wx (h : PwT wx) => itoa_s a wx q1 h)
  have HB := Lib.hid (fun wx (h : PwT wx) => itoa_s b wx q2 h)
  have hc := fun w => add_s (P := Tryz.prog) (Lib.itoa a) (Lib.itoa b) (by have := itoa_le q1; omega) (by have := itoa_le q2; omega) w
  clear q1 q2 hT
  go_enter Tryz.func74, Tryz.ntmps74
  go_wp2_with fail
  refine (HA.out _ HT.out).mono ?_; rintro e w1 ⟨rfl, b1⟩
  go_wp2_with fail
  refine (HB.out _ (HT.out.below b1)).mono ?_; rintro e w2 ⟨rfl, b2⟩
  go_wp2
  go_ret
  exact ⟨by rw [HR.out]; rfl, b1.trans (b2.mono b1.size)⟩
theorem two_len (n : Int) (h : I6 n) : (twoT n).length ≤ 42 := by
  unfold twoT
  rw [List.length_append]
  have h1 := itoa_le (h.tdiv (k := 10) (by decide))
  have h2 := itoa_le (n := n.tmod 10) ⟨by have := tmod_bd n; omega, by have := tmod_bd n; omega⟩
  omega
/-- a word picked out of a row that is laid there. -/
theorem month_s (n : Int) (w : World) (hn : I6 n) :
    Calls Tryz.prog 41 #[.int .i64 n] w fun e w' => e = .returned (.string (bx (monT n))) ∧ Below w.heap.size w w' := by
  obtain ⟨k, hk, hlt⟩ := nat_of (pkz_bd n 12 (by decide))
  have HM : Hid (monT n = monL.getD k []) := by show _ = _; unfold monT; rw [hk]; rfl
  have HP := Lib.hid (fun wx => pick_s n 12 wx hn (by decide) (by decide))
  rw [hk] at HP
  have hlt : k < 12 := hlt
  have hki : (k : Int) < 12 := by omega
  have hc := lit_cell w monL k hlt 9
  obtain ⟨W1, hW1⟩ : ∃ W1, W1 = w.alloc (.cells (monL.map fun x => Value.string (bx x)).toArray 9) := ⟨_, rfl⟩
  rw [← hW1] at hc
  have B1 : Hid (Below w.heap.size w W1) := by show Below _ _ _; rw [hW1]; exact (Below.refl _ _).alloc (Nat.le_refl _) _
  have HW : Hid (W1 = w.alloc (.cells #[.string ⟨#[74, 97, 110]⟩, .string ⟨#[70, 101, 98]⟩, .string ⟨#[77, 97, 114]⟩, .string ⟨#[65, 112, 114]⟩, .string ⟨#[77, 97, 121]⟩, .string ⟨#[74, 117, 110]⟩, .string ⟨#[74, 117, 108]⟩, .string ⟨#[65, 117, 103]⟩, .string ⟨#[83, 101, 112]⟩, .string ⟨#[79, 99, 116]⟩, .string ⟨#[78, 111, 118]⟩, .string ⟨#[68, 101, 99]⟩] 9)) := hW1
  have hl : w.heap.size < W1.heap.size := by rw [hW1, size_alloc]; omega
  clear hW1 hk
  go_enter Tryz.func41, Tryz.ntmps41
  go_wp2_with fail
  rw [← HW.out]
  refine (HP.out _).mono ?_; rintro e w' ⟨rfl, rfl⟩
  go_wp2
  go_ret
  exact ⟨by rw [HM.out]; simp, B1.out⟩
theorem picL_le {l : List Wd} {m : Nat} (h : (l.all fun x => decide (x.length ≤ m)) = true) (k : Int) : (picL l k).length ≤ m := by
  unfold picL
  rw [List.getD_eq_getElem?_getD]
  cases hx : l[k.toNat]? with
  | none => simp
  | some x => simpa using List.all_eq_true.1 h x (List.mem_of_getElem? hx)
theorem year_s (n : Int) (w : World) (hn : I6 n) :
    Calls Tryz.prog 39 #[.int .i64 n] w fun e w' => e = .returned (.int .i64 (yrT n)) ∧ w = w' := by
  have hb := pkz_bd n 190 (by decide)
  have HP := Lib.hid (fun wx => pick_s n 190 wx hn (by decide) (by decide))
  have HY : Hid (yrT n = 1905 + pkz n 190) := rfl
  obtain ⟨a, ha⟩ : ∃ a, pkz n 190 = a := ⟨_, rfl⟩
  rw [ha] at HP HY hb
  have tw : IntKind.i64.wrap (1905 + a) = 1905 + a := IntWalk.i64_in _ (by omega)
  clear ha hb
  go_enter Tryz.func39, Tryz.ntmps39
  go_wp2_with fail
  refine (HP.out _).mono ?_; rintro e w' ⟨rfl, rfl⟩
  go_wp2
  go_ret
  exact ⟨by rw [HY.out]; rfl, rfl⟩
theorem two_small {m : Int} (h : 0 ≤ m ∧ m < 60) : (twoT m).length ≤ 42 := two_len m (I6.small h.1 (by omega))
theorem hours_s (n : Int) (w : World) (hn : I6 n) (hT : PwT w) :
    Calls Tryz.prog 43 #[.int .i64 n] w fun e w' => e = .returned (.string (bx (hrsT n))) ∧ Below w.heap.size w w' := by
  have HT := Lib.hid hT
  obtain ⟨h1, h2⟩ := hn
  have p0 := pkz_bd n 4 (by decide)
  have p1 := pkz_bd (n.tdiv 4) 4 (by decide)
  have p2 := pkz_bd (n.tdiv 16) 60 (by decide)
  have i1 : I6 (n.tdiv 4) := I6.tdiv ⟨h1, h2⟩ (by decide)
  have i2 : I6 (n.tdiv 16) := I6.tdiv ⟨h1, h2⟩ (by decide)
  have HP0 := Lib.hid (fun wx => pick_s n 4 wx ⟨h1, h2⟩ (by decide) (by decide))
  have HP1 := Lib.hid (fun wx => pick_s (n.tdiv 4) 4 wx i1 (by decide) (by decide))
  have HP2 := Lib.hid (fun wx => pick_s (n.tdiv 16) 60 wx i2 (by decide) (by decide))
  have HR : Hid (hrsT n = hrsG (pkz n 4) (pkz (n.tdiv 4) 4) (pkz (n.tdiv 16) 60)) := rfl
  obtain ⟨d4, hd4⟩ : ∃ a, n.tdiv 4 = a := ⟨_, rfl⟩
  obtain ⟨d16, hd16⟩ : ∃ a, n.tdiv 16 = a := ⟨_, rfl⟩
  rw [hd4] at HP1 HR p1 i1
  rw [hd16] at HP2 HR p2 i2
  have wa : IntKind.i64.wrap d4 = d4 := IntWalk.i64_in _ ⟨by have := i1.1; omega, by have := i1.2; omega⟩
  have wb : IntKind.i64.wrap d16 = d16 := IntWalk.i64_in _ ⟨by have := i2.1; omega, by have := i2.2; omega⟩
  generalize pkz n 4 = h at *
  generalize pkz d4 4 = q at *
  generalize pkz d16 60 = m at *
  have HI := Lib.hid (fun wx (hx : PwT wx) => itoa_s h wx (I6.small p0.1 (by omega)) hx)
  have H2 := Lib.hid (fun wx (hx : PwT wx) => two_s m wx (I6.small p2.1 (by omega)) hx)
  have l1 := itoa_le (I6.small (n := h) p0.1 (by omega))
  have l2 := two_small p2
  have c1 := fun w => add_s (P := Tryz.prog) [58] (twoT m) (by decide) (by omega) w
  have c2 := fun w => add_s (P := Tryz.prog) (Lib.itoa h) ([58] ++ twoT m) (by omega) (by rw [List.length_append, List.length_singleton]; omega) w
  have c3 := fun w => add_s (P := Tryz.prog) [58, 51, 48, 58] (twoT m) (by decide) (by omega) w
  have c4 := fun w => add_s (P := Tryz.prog) (Lib.itoa h) ([58, 51, 48, 58] ++ twoT m) (by omega) (by rw [List.length_append]; simp only [List.length_cons, List.length_nil]; omega) w
  rw [show bx [58] = ⟨#[58]⟩ from rfl] at c1
  rw [show bx [58, 51, 48, 58] = ⟨#[58, 51, 48, 58]⟩ from rfl] at c3
  have HR2 : Hid (hrsT n = Lib.itoa h ++ (if q = 0 then 58 :: twoT m else if q = 1 then [58, 51, 48, 58] ++ twoT m else [])) := HR.out
  obtain ⟨U, hU⟩ : ∃ U, [58] ++ twoT m = U := ⟨_, rfl⟩
  obtain ⟨V, hVV⟩ : ∃ V, [58, 51, 48, 58] ++ twoT m = V := ⟨_, rfl⟩
  have HU := Lib.hid hU
  have HVV := Lib.hid hVV
  rw [hU] at c1 c2
  rw [hVV] at c3 c4
  clear HR i1 i2 hT l1 l2 p0 p1 p2 hU hVV
  obtain ⟨T, hTT⟩ : ∃ T, twoT m = T := ⟨_, rfl⟩
  rw [hTT] at c1 c3 HR2 H2 HU HVV
  obtain ⟨A, hA⟩ : ∃ A, Lib.itoa h = A := ⟨_, rfl⟩
  rw [hA] at c2 c4 HR2 HI
  clear hTT hA
  have HRa : Hid (q = 0 → hrsT n = A ++ U) := fun e => by rw [HR2.out, if_pos e, ← HU.out]; rfl
  have HRb : Hid (q ≠ 0 → q = 1 → hrsT n = A ++ V) := fun e e2 => by rw [HR2.out, if_neg e, if_pos e2, HVV.out]
  have HRc : Hid (q ≠ 0 → q ≠ 1 → hrsT n = A) := fun e e2 => by rw [HR2.out, if_neg e, if_neg e2, List.append_nil]
  go_enter Tryz.func43, Tryz.ntmps43
  go_wp2_with fail
  refine (HP0.out _).mono ?_; rintro e w0 ⟨rfl, rfl⟩
  go_wp2_with fail
  refine (HI.out _ HT.out).mono ?_; rintro e w1 ⟨rfl, b1⟩
  have T1 := Lib.hid (HT.out.below b1)
  have B1 := Lib.hid b1
  clear b1
  go_wp2_with fail
  refine (HP1.out _).mono ?_; rintro e w2 ⟨rfl, rfl⟩
  by_cases q0 : q = 0
  · have HE := Lib.hid (HRa.out q0)
    subst q0
    clear HRa HRb HRc HR2
    go_wp2_with fail
    refine (HP2.out _).mono ?_; rintro e w3 ⟨rfl, rfl⟩
    go_wp2_with fail
    refine (H2.out _ T1.out).mono ?_; rintro e w3 ⟨rfl, b3⟩
    go_wp2
    go_ret
    exact ⟨by rw [HE.out]; rfl, B1.out.trans (b3.mono B1.out.size)⟩
  · by_cases q1 : q = 1
    · have HE := Lib.hid (HRb.out q0 q1)
      subst q1
      clear HRa HRb HRc HR2
      go_wp2_with fail
      refine (HP2.out _).mono ?_; rintro e w3 ⟨rfl, rfl⟩
      go_wp2_with fail
      refine (H2.out _ T1.out).mono ?_; rintro e w3 ⟨rfl, b3⟩
      go_wp2
      go_ret
      exact ⟨by rw [HE.out]; rfl, B1.out.trans (b3.mono B1.out.size)⟩
    · have HE := Lib.hid (HRc.out q0 q1)
      have e0 : (q == 0) = false := beq_eq_false_iff_ne.2 q0
      have e1 : (q == 1) = false := beq_eq_false_iff_ne.2 q1
      go_wp2
      go_ret
      exact ⟨by rw [HE.out]; rfl, B1.out⟩
set_option maxRecDepth 100000 in
set_option maxHeartbeats 2000000 in
theorem day_s (n : Int) (w : World) (hn : I6 n) (hT : PwT w) :
    Calls Tryz.prog 42 #[.int .i64 n] w fun e w' => e = .returned (.string (bx (dayT n))) ∧ Below w.heap.size w w' := by
  have HT := Lib.hid hT
  have i1 : I6 (n.tdiv 4) := hn.tdiv (by decide)
  have i2 : I6 (n.tdiv 28) := hn.tdiv (by decide)
  obtain ⟨j, hj, hjl⟩ := nat_of (pkz_bd n 4 (by decide))
  obtain ⟨k, hk, hkl⟩ := nat_of (pkz_bd (n.tdiv 4) 7 (by decide))
  have p2 := pkz_bd (n.tdiv 28) 28 (by decide)
  have HP0 := Lib.hid (fun wx => pick_s n 4 wx hn (by decide) (by decide))
  have HP1 := Lib.hid (fun wx => pick_s (n.tdiv 4) 7 wx i1 (by decide) (by decide))
  have HP2 := Lib.hid (fun wx => pick_s (n.tdiv 28) 28 wx i2 (by decide) (by decide))
  have HR : Hid (dayT n = dayG (pkz n 4) (pkz (n.tdiv 4) 7) (1 + pkz (n.tdiv 28) 28)) := rfl
  obtain ⟨d4, hd4⟩ : ∃ a, n.tdiv 4 = a := ⟨_, rfl⟩
  obtain ⟨d28, hd28⟩ : ∃ a, n.tdiv 28 = a := ⟨_, rfl⟩
  rw [hd4] at HP1 HR i1 hk
  rw [hd28] at HP2 HR p2 i2
  have wa : IntKind.i64.wrap d4 = d4 := IntWalk.i64_in _ ⟨by have := i1.1; omega, by have := i1.2; omega⟩
  have wb : IntKind.i64.wrap d28 = d28 := IntWalk.i64_in _ ⟨by have := i2.1; omega, by have := i2.2; omega⟩
  rw [hj] at HP0 HR
  rw [hk] at HP1 HR
  generalize pkz d28 28 = m at *
  have wc : IntKind.i64.wrap (1 + m) = 1 + m := IntWalk.i64_in _ (by omega)
  have HI := Lib.hid (fun wx (hx : PwT wx) => itoa_s (1 + m) wx (I6.small (by omega) (by omega)) hx)
  have l1 := itoa_le (I6.small (n := 1 + m) (by omega) (by omega))
  have hkl : k < 7 := hkl
  have hjl : j < 4 := hjl
  have hki : (k : Int) < 7 := by omega
  have hji : (j : Int) < 4 := by omega
  have ca := lit_cell w wdL k hkl 9
  obtain ⟨W1, hW1⟩ : ∃ W, W = w.alloc (.cells (wdL.map fun x => Value.string (bx x)).toArray 9) := ⟨_, rfl⟩
  rw [← hW1] at ca
  have Ba : Hid (Below w.heap.size w W1) := by show Below _ _ _; rw [hW1]; exact (Below.refl _ _).alloc (Nat.le_refl _) _
  have Ha : Hid (W1 = w.alloc (.cells #[.string ⟨#[83, 117, 110]⟩, .string ⟨#[77, 111, 110]⟩, .string ⟨#[84, 117, 101]⟩, .string ⟨#[87, 101, 100]⟩, .string ⟨#[84, 104, 117]⟩, .string ⟨#[70, 114, 105]⟩, .string ⟨#[83, 97, 116]⟩] 9)) := hW1
  have za : w.heap.size < W1.heap.size := by rw [hW1, size_alloc]; omega
  clear hW1
  obtain ⟨D, hD⟩ : ∃ D, Lib.itoa (1 + m) = D := ⟨_, rfl⟩
  obtain ⟨X, hX⟩ : ∃ X, wdL.getD k [] = X := ⟨_, rfl⟩
  have l2 : X.length ≤ 3 := by rw [← hX]; exact picL_le (l := wdL) (m := 3) (by decide) (k : Int)
  rw [hD] at HI l1
  rw [hX] at ca
  obtain ⟨u1, hu1⟩ : ∃ u, [108, 97, 115, 116] ++ X = u := ⟨_, rfl⟩
  obtain ⟨u2, hu2⟩ : ∃ u, X ++ [62, 61] = u := ⟨_, rfl⟩
  obtain ⟨u3, hu3⟩ : ∃ u, u2 ++ D = u := ⟨_, rfl⟩
  obtain ⟨u4, hu4⟩ : ∃ u, X ++ [60, 61] = u := ⟨_, rfl⟩
  obtain ⟨u5, hu5⟩ : ∃ u, u4 ++ D = u := ⟨_, rfl⟩
  have c1 := fun w => add_s (P := Tryz.prog) [108, 97, 115, 116] X (by decide) (by omega) w
  have c2 := fun w => add_s (P := Tryz.prog) X [62, 61] (by omega) (by decide) w
  have c3 := fun w => add_s (P := Tryz.prog) u2 D (by rw [← hu2, List.length_append]; simp only [List.length_cons, List.length_nil]; omega) (by omega) w
  have c4 := fun w => add_s (P := Tryz.prog) X [60, 61] (by omega) (by decide) w
  have c5 := fun w => add_s (P := Tryz.prog) u4 D (by rw [← hu4, List.length_append]; simp only [List.length_cons, List.length_nil]; omega) (by omega) w
  rw [hu1, show bx [108, 97, 115, 116] = ⟨#[108, 97, 115, 116]⟩ from rfl] at c1
  rw [hu2, show bx [62, 61] = ⟨#[62, 61]⟩ from rfl] at c2
  rw [hu3] at c3
  rw [hu4, show bx [60, 61] = ⟨#[60, 61]⟩ from rfl] at c4
  rw [hu5] at c5
  have HF : Hid (dayT n = [D, u1, u3, u5].getD j []) := by
    show _ = _
    rw [HR.out, ← hu3, ← hu5, ← hu1, ← hu2, ← hu4, List.append_assoc, List.append_assoc]
    unfold dayG
    rw [hD, picL_nat, picL_nat, hX]
  clear HR hD hX hu1 hu2 hu3 hu4 hu5 l1 l2 p2 hT i1 i2 hj hk hn
  go_enter Tryz.func42, Tryz.ntmps42
  go_wp2_with fail
  rw [← Ha.out]
  refine (HP1.out _).mono ?_; rintro e w1 ⟨rfl, rfl⟩
  go_wp2_with fail
  refine (HP2.out _).mono ?_; rintro e w1 ⟨rfl, rfl⟩
  go_wp2_with fail
  refine (HI.out _ (HT.out.below Ba.out)).mono ?_; rintro e w2 ⟨rfl, b2⟩
  have B2 : Hid (Below w.heap.size w w2) := Ba.out.trans (b2.mono Ba.out.size)
  clear b2 ca za Ha
  have cb := lit_cell w2 [D, u1, u3, u5] j hjl 9
  obtain ⟨W3, hW3⟩ : ∃ W, W = w2.alloc (.cells ([D, u1, u3, u5].map fun x => Value.string (bx x)).toArray 9) := ⟨_, rfl⟩
  rw [← hW3] at cb
  have B3 : Hid (Below w.heap.size w W3) := by show Below _ _ _; rw [hW3]; exact B2.out.alloc B2.out.size _
  have Hb : Hid (W3 = w2.alloc (.cells #[.string (bx D), .string (bx u1), .string (bx u3), .string (bx u5)] 9)) := hW3
  have zb : w2.heap.size < W3.heap.size := by rw [hW3, size_alloc]; omega
  clear hW3
  rw [← HF.out] at cb
  go_wp2_with fail
  rw [← Hb.out]
  refine (HP0.out _).mono ?_; rintro e w4 ⟨rfl, rfl⟩
  go_wp2
  go_ret
  exact ⟨rfl, B3.out⟩
def rzA (x : Rz) : Array Value := #[.int .i64 x.kd, .int .i64 x.ra, .int .i64 x.rb, .int .i64 x.rc]
structure RzI (x : Rz) : Prop where
  kd : I6 x.kd
  ra : I6 x.ra
  rb : I6 x.rb
  rc : I6 x.rc
set_option maxRecDepth 100000 in
set_option maxHeartbeats 2000000 in
theorem kera_s (x : Rz) (w : World) (hx : RzI x) :
    Calls Tryz.prog 44 #[.agg (rzA x)] w fun e w' => e = .returned (.string (bx (joinT (eraWs x)))) ∧ Below w.heap.size w w' := by
  obtain ⟨kd, ra, rb, rc⟩ := x
  obtain ⟨ik, -, ib, -⟩ := hx
  dsimp only at ik ib
  have i6 : I6 (kd.tdiv 6) := ik.tdiv (by decide)
  obtain ⟨k0, hk0, hl0⟩ := nat_of (pkz_bd kd 6 (by decide))
  obtain ⟨k1, hk1, hl1⟩ := nat_of (pkz_bd (kd.tdiv 6) 4 (by decide))
  obtain ⟨k2, hk2, hl2⟩ := nat_of (pkz_bd rb 5 (by decide))
  have HP0 := Lib.hid (fun wx => pick_s kd 6 wx ik (by decide) (by decide))
  have HP1 := Lib.hid (fun wx => pick_s (kd.tdiv 6) 4 wx i6 (by decide) (by decide))
  have HP2 := Lib.hid (fun wx => pick_s rb 5 wx ib (by decide) (by decide))
  have HR : Hid (joinT (eraWs ⟨kd, ra, rb, rc⟩) = picL offL (pkz kd 6) ++ 32 :: (picL rlsL (pkz (kd.tdiv 6) 4) ++ 32 :: picL fmtT (pkz rb 5))) := rfl
  obtain ⟨d6, hd6⟩ : ∃ a, kd.tdiv 6 = a := ⟨_, rfl⟩
  rw [hd6] at HP1 HR i6 hk1
  have wa : IntKind.i64.wrap d6 = d6 := IntWalk.i64_in _ ⟨by have := i6.1; omega, by have := i6.2; omega⟩
  rw [hk0] at HP0 HR
  rw [hk1] at HP1 HR
  rw [hk2] at HP2 HR
  rw [picL_nat, picL_nat, picL_nat] at HR
  have hl0 : k0 < 6 := hl0
  have hl1 : k1 < 4 := hl1
  have hl2 : k2 < 5 := hl2
  have hi0 : (k0 : Int) < 6 := by omega
  have hi1 : (k1 : Int) < 4 := by omega
  have hi2 : (k2 : Int) < 5 := by omega
  obtain ⟨W0, hW0⟩ : ∃ W, W = w.alloc (.cells #[.int .i64 kd, .int .i64 ra, .int .i64 rb, .int .i64 rc] 98) := ⟨_, rfl⟩
  have X0 : Hid (BxO W0 w.heap.size #[.int .i64 kd, .int .i64 ra, .int .i64 rb, .int .i64 rc] 98) := by show BxO _ _ _ _; rw [hW0]; exact BxO.new _ _ _
  have B0 : Hid (Below w.heap.size w W0) := by show Below _ _ _; rw [hW0]; exact (Below.refl _ _).alloc (Nat.le_refl _) _
  have H0 := Lib.hid hW0
  clear hW0
  have ca := lit_cell W0 offL k0 hl0 9
  obtain ⟨W1, hW1⟩ : ∃ W, W = W0.alloc (.cells (offL.map fun x => Value.string (bx x)).toArray 9) := ⟨_, rfl⟩
  rw [← hW1] at ca
  have Ba : Hid (Below W0.heap.size W0 W1) := by show Below _ _ _; rw [hW1]; exact (Below.refl _ _).alloc (Nat.le_refl _) _
  have Ha : Hid (W1 = W0.alloc (.cells #[.string ⟨#[48]⟩, .string ⟨#[49, 58, 48, 48]⟩, .string ⟨#[45, 53, 58, 48, 48]⟩, .string ⟨#[48, 58, 49, 57, 58, 51, 50]⟩, .string ⟨#[57, 58, 51, 48]⟩, .string ⟨#[45, 48, 58, 50, 53]⟩] 9)) := hW1
  have za : W0.heap.size < W1.heap.size := by rw [hW1, size_alloc]; omega
  clear hW1
  have X1 : Hid (BxO W1 w.heap.size #[.int .i64 kd, .int .i64 ra, .int .i64 rb, .int .i64 rc] 98) := (Ba.out.block _ X0.out.lt).trans X0.out
  have cb := lit_cell W1 rlsL k1 hl1 9
  obtain ⟨W2, hW2⟩ : ∃ W, W = W1.alloc (.cells (rlsL.map fun x => Value.string (bx x)).toArray 9) := ⟨_, rfl⟩
  rw [← hW2] at cb
  have Bb : Hid (Below W1.heap.size W1 W2) := by show Below _ _ _; rw [hW2]; exact (Below.refl _ _).alloc (Nat.le_refl _) _
  have Hb : Hid (W2 = W1.alloc (.cells #[.string ⟨#[45]⟩, .string ⟨#[69, 85]⟩, .string ⟨#[85, 83]⟩, .string ⟨#[49, 58, 48, 48]⟩] 9)) := hW2
  have zb : W1.heap.size < W2.heap.size := by rw [hW2, size_alloc]; omega
  clear hW2
  have X2 : Hid (BxO W2 w.heap.size #[.int .i64 kd, .int .i64 ra, .int .i64 rb, .int .i64 rc] 98) := (Bb.out.block _ X1.out.lt).trans X1.out
  have cc := lit_cell W2 fmtT k2 hl2 9
  obtain ⟨W3, hW3⟩ : ∃ W, W = W2.alloc (.cells (fmtT.map fun x => Value.string (bx x)).toArray 9) := ⟨_, rfl⟩
  rw [← hW3] at cc
  have Bc : Hid (Below W2.heap.size W2 W3) := by show Below _ _ _; rw [hW3]; exact (Below.refl _ _).alloc (Nat.le_refl _) _
  have Hc : Hid (W3 = W2.alloc (.cells #[.string ⟨#[76, 77, 84]⟩, .string ⟨#[69, 37, 115, 84]⟩, .string ⟨#[67, 69, 84, 47, 67, 69, 83, 84]⟩, .string ⟨#[37, 115]⟩, .string ⟨#[43, 48, 49]⟩] 9)) := hW3
  have zc : W2.heap.size < W3.heap.size := by rw [hW3, size_alloc]; omega
  clear hW3
  have X3 : Hid (BxO W3 w.heap.size #[.int .i64 kd, .int .i64 ra, .int .i64 rb, .int .i64 rc] 98) := (Bc.out.block _ X2.out.lt).trans X2.out
  have BF : Hid (Below w.heap.size w W3) := (B0.out.trans (Ba.out.mono B0.out.size)).trans ((Bb.out.mono (B0.out.trans (Ba.out.mono B0.out.size)).size).trans (Bc.out.mono ((B0.out.trans (Ba.out.mono B0.out.size)).trans (Bb.out.mono (B0.out.trans (Ba.out.mono B0.out.size)).size)).size))
  have y0 : W0.cell? ⟨w.heap.size, 0, none⟩ = some (.int .i64 kd) := X0.out.cell 0
  have y1 : W1.cell? ⟨w.heap.size, 0, none⟩ = some (.int .i64 kd) := X1.out.cell 0
  have y2 : W2.cell? ⟨w.heap.size, 2, none⟩ = some (.int .i64 rb) := X2.out.cell 2
  have x0 := X0.out.lt
  have x1 := X1.out.lt
  have x2 := X2.out.lt
  obtain ⟨A, hA⟩ : ∃ A, offL.getD k0 [] = A := ⟨_, rfl⟩
  obtain ⟨R, hR⟩ : ∃ A, rlsL.getD k1 [] = A := ⟨_, rfl⟩
  obtain ⟨T, hT⟩ : ∃ A, fmtT.getD k2 [] = A := ⟨_, rfl⟩
  have l1 : A.length ≤ 8 := by rw [← hA]; exact picL_le (l := offL) (m := 8) (by decide) (k0 : Int)
  have l2 : R.length ≤ 8 := by rw [← hR]; exact picL_le (l := rlsL) (m := 8) (by decide) (k1 : Int)
  have l3 : T.length ≤ 8 := by rw [← hT]; exact picL_le (l := fmtT) (m := 8) (by decide) (k2 : Int)
  rw [hA] at ca HR
  rw [hR] at cb HR
  rw [hT] at cc HR
  obtain ⟨u1, hu1⟩ : ∃ u, A ++ [32] = u := ⟨_, rfl⟩
  obtain ⟨u2, hu2⟩ : ∃ u, u1 ++ R = u := ⟨_, rfl⟩
  obtain ⟨u3, hu3⟩ : ∃ u, u2 ++ [32] = u := ⟨_, rfl⟩
  obtain ⟨u4, hu4⟩ : ∃ u, u3 ++ T = u := ⟨_, rfl⟩
  have m1 : u1.length ≤ 9 := by rw [← hu1]; simp; omega
  have m2 : u2.length ≤ 17 := by rw [← hu2, List.length_append]; omega
  have m3 : u3.length ≤ 18 := by rw [← hu3]; simp; omega
  have c1 := fun w => add_s (P := Tryz.prog) A [32] (by omega) (by decide) w
  have c2 := fun w => add_s (P := Tryz.prog) u1 R (by omega) (by omega) w
  have c3 := fun w => add_s (P := Tryz.prog) u2 [32] (by omega) (by decide) w
  have c4 := fun w => add_s (P := Tryz.prog) u3 T (by omega) (by omega) w
  rw [hu1, show bx [32] = ⟨#[32]⟩ from rfl] at c1
  rw [hu2] at c2
  rw [hu3, show bx [32] = ⟨#[32]⟩ from rfl] at c3
  rw [hu4] at c4
  have HF : Hid (joinT (eraWs ⟨kd, ra, rb, rc⟩) = u4) := by
    show _ = _
    rw [HR.out, ← hu4, ← hu3, ← hu2, ← hu1]
    simp
  clear HR hA hR hT hu1 hu2 hu3 hu4 l1 l2 l3 m1 m2 m3 hk0 hk1 hk2 ik ib i6 X0 X1 X2 X3 Ba Bb Bc B0
  unfold rzA
  go_enter Tryz.func44, Tryz.ntmps44
  go_upto_region 1 with fail
  rw [← H0.out]
  go_wp2_with fail
  rw [← Ha.out]
  refine (HP0.out _).mono ?_; rintro e w4 ⟨rfl, rfl⟩
  go_wp2_with fail
  rw [← Hb.out]
  refine (HP1.out _).mono ?_; rintro e w4 ⟨rfl, rfl⟩
  go_wp2_with fail
  rw [← Hc.out]
  refine (HP2.out _).mono ?_; rintro e w4 ⟨rfl, rfl⟩
  go_wp2
  go_ret
  exact ⟨by rw [HF.out]; rfl, BF.out⟩
end Go.Proofs.YtbikdlcjbigafaaGreatDoor
