/-
  The laws' own sources of raw things: numbers picked, two digits, hours, days, months, years.
-/
import Derived.Lib.AppendIntMem
import Derived.Lib.ItoaLen
import Derived.Laws.Concat
import Derived.Test.YtcmlcmokjgkciaaGreatDoorJTreeT
import Derived.Test.YtcmlcmokjgkciaaGreatDoorJSoA
import Derived.Test.YtcmlcmokjgkciaaGreatDoorJRdD
import Derived.Test.YtcmlcmokjgkciaaGreatDoorJShTxt
namespace Go.Proofs.YtcmlcmokjgkciaaGreatDoor
set_option linter.unusedVariables false
set_option linter.unusedSimpArgs false
open Go.ChangeShapes Go.WideShapes Go.ChangeAt Go.RowKit Civ

theorem add_s {P : Program} (x y : Wd) (hx : x.length ≤ 8000000) (hy : y.length ≤ 8000000) (w : World) : (Op.stringOp .add (bx x) (bx y)).run P w = .ok (.string (bx (x ++ y))) w := run_string_add_lists w x y (by omega) (by omega)
def I6 (n : Int) : Prop := -9223372036854775808 ≤ n ∧ n ≤ 9223372036854775807
/-- the table of powers of ten. -/
def PwT (w : World) : Prop := Lib.TabIs Tryz.prog w "internal/strconv.uint64pow10" .u64 Lib.pow10Tab
theorem PwT.below {w w' : World} (h : PwT w) (hb : Below w.heap.size w w') : PwT w' := Lib.tabBelow_of_tabIs h w' hb
theorem itoa_s (n : Int) (w : World) (h : I6 n) (hT : PwT w) : Calls Tryz.prog 7 #[.int .i64 n] w fun e w' => e = .returned (.string (bx (Lib.itoa n))) ∧ Below w.heap.size w w' := by
  refine (Sh.strconv_Itoa n h.1 h.2 w hT).mono ?_
  rintro e w' ⟨rfl, k, os, rfl⟩
  exact ⟨rfl, Lib.below_grow _ _ (Nat.le_refl _) k os⟩
theorem pick_s (n many : Int) (w : World) (hn : I6 n) (h1 : 1 ≤ many) (h2 : many ≤ 9000000000) :
    Calls Tryz.prog 6 #[.int .i64 n, .int .i64 many] w fun e w' => e = .returned (.int .i64 (pkz n many)) ∧ w = w' := by
  refine picked_v n many w ?_ h1 h2
  have h3 := hn.1
  have h4 := hn.2
  have e1 : IntKind.i64.min = -9223372036854775808 := rfl
  have e2 : IntKind.i64.max = 9223372036854775807 := rfl
  simp [Lit.wf, e1, e2]
  omega
theorem I6.tdiv {n k : Int} (h : I6 n) (hk : 0 < k) : I6 (n.tdiv k) := by
  obtain ⟨h1, h2⟩ := h
  rcases Int.le_total 0 n with h0 | h0
  · rw [Int.tdiv_eq_ediv_of_nonneg h0]
    have a := Int.ediv_nonneg h0 (Int.le_of_lt hk)
    have b := Int.ediv_le_self k h0
    exact ⟨by omega, by omega⟩
  · have e : n = -(-n) := by omega
    rw [e, Int.neg_tdiv, Int.tdiv_eq_ediv_of_nonneg (by omega)]
    have a := Int.ediv_nonneg (show 0 ≤ -n by omega) (Int.le_of_lt hk)
    have b := Int.ediv_le_self k (show 0 ≤ -n by omega)
    exact ⟨by omega, by omega⟩
theorem I6.small {n : Int} (h : 0 ≤ n) (h2 : n ≤ 9000000000) : I6 n := ⟨by omega, by omega⟩
theorem itoa_le {n : Int} (h : I6 n) : (Lib.itoa n).length ≤ 21 := Lib.itoa_length_le n h.1 h.2
theorem tmod_bd (n : Int) : -10 < n.tmod 10 ∧ n.tmod 10 < 10 := by
  rcases Int.le_total 0 n with h0 | h0
  · rw [Int.tmod_eq_emod_of_nonneg h0]; omega
  · have e : n = -(-n) := by omega
    rw [e, Int.neg_tmod, Int.tmod_eq_emod_of_nonneg (by omega)]; omega
theorem two_s (n : Int) (w : World) (hn : I6 n) (hT : PwT w) :
    Calls Tryz.prog 8 #[.int .i64 n] w fun e w' => e = .returned (.string (bx (twoT n))) ∧ Below w.heap.size w w' := by
  have HT := Lib.hid hT
  have q1 : I6 (n.tdiv 10) := hn.tdiv (by decide)
  have q2 : I6 (n.tmod 10) := ⟨by have := tmod_bd n; omega, by have := tmod_bd n; omega⟩
  obtain ⟨h1, h2⟩ := hn
  obtain ⟨a, ha⟩ : ∃ a, n.tdiv 10 = a := ⟨_, rfl⟩
  obtain ⟨b, hb⟩ : ∃ b, n.tmod 10 = b := ⟨_, rfl⟩
  have HR : Hid (twoT n = Lib.itoa a ++ Lib.itoa b) := by show _ = _; unfold twoT; rw [ha, hb]
  rw [ha] at q1
  rw [hb] at q2
  have wa : IntKind.i64.wrap a = a := IntWalk.i64_in _ ⟨by have := q1.1; omega, by have := q1.2; omega⟩
  have wb : IntKind.i64.wrap b = b := IntWalk.i64_in _ ⟨by have := q2.1; omega, by have := q2.2; omega⟩
  have HA := Lib.hid (fun wx (h : PwT wx) => itoa_s a wx q1 h)
  have HB := Lib.hid (fun wx (h : PwT wx) => itoa_s b wx q2 h)
  have hc := fun w => add_s (P := Tryz.prog) (Lib.itoa a) (Lib.itoa b) (by have := itoa_le q1; omega) (by have := itoa_le q2; omega) w
  clear q1 q2 hT
  go_enter Tryz.func8, Tryz.ntmps8
  go_wp2_with fail
  refine (HA.out _ HT.out).mono ?_; rintro e w1 ⟨rfl, b1⟩
  go_wp2_with fail
  refine (HB.out _ (HT.out.below b1)).mono ?_; rintro e w2 ⟨rfl, b2⟩
  go_wp2
  go_ret
  exact ⟨by rw [HR.out]; rfl, b1.trans (b2.mono b1.size)⟩
theorem two_len (n : Int) (h : I6 n) : (twoT n).length ≤ 42 := by
  unfold twoT
  rw [List.length_append]
  have h1 := itoa_le (h.tdiv (k := 10) (by decide))
  have h2 := itoa_le (n := n.tmod 10) ⟨by have := tmod_bd n; omega, by have := tmod_bd n; omega⟩
  omega
end Go.Proofs.YtcmlcmokjgkciaaGreatDoor
