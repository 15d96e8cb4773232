/-
  What is wrong with spans, by the document.
-/
import Derived.Test.YtlhidbbphngpcaaFwdA
namespace Go.Proofs.Ytlhidbbphngpcaa
set_option linter.unusedVariables false
set_option linter.unusedSimpArgs false
open Go.ChangeShapes Go.WideShapes Go.ChangeAt Go.RowKit

set_option maxRecDepth 100000 in
set_option maxHeartbeats 4000000 in
theorem spansFault_any (v : Value) (xs : List Spn) (w : World) (hv : SlAt w 4 RSpn v xs) :
    Calls Try.prog 40 #[v] w fun e w' => e = .returned (.int .i64 (spnE xs)) ∧ Below w.heap.size w w' := by
  obtain ⟨an, cn, rfl, ln⟩ := hv.shape
  have ln' := maxLen_eq _ ln
  have HN := Lib.hid hv
  clear hv ln
  by_cases h0 : xs.length = 0
  · have hb : ((xs.length : Int) == 0) = true := by simpa using h0
    have HE : Hid (spnE xs = 6) := by show spnE _ = 6; unfold spnE; rw [if_pos h0]
    clear h0
    go_enter Try.func40, Try.ntmps40
    go_wp2_with (go_at_call 45; refine (winOf _).mono ?_; rintro e w' ⟨rfl, rfl⟩)
    go_ret
    exact ⟨ret_int HE.out.symm, Below.refl _ _⟩
  · have hb : ((xs.length : Int) == 0) = false := by rw [beq_eq_false_iff_ne]; omega
    by_cases h1 : 1000 < xs.length
    · have HE : Hid (spnE xs = 1) := by show spnE _ = 1; unfold spnE; rw [if_neg h0, if_pos h1]
      have hx : 1000 < (xs.length : Int) := by omega
      clear h0 h1
      go_enter Try.func40, Try.ntmps40
      go_wp2_with (go_at_call 45; refine (winOf _).mono ?_; rintro e w' ⟨rfl, rfl⟩)
      go_ret
      exact ⟨ret_int HE.out.symm, Below.refl _ _⟩
    · have hx : (xs.length : Int) ≤ 1000 := by omega
      have HE : Hid (spnE xs = ferr (spE xs) 0 xs) := by show spnE _ = _; unfold spnE; rw [if_neg h0, if_neg h1]
      clear h0 h1
      go_enter Try.func40, Try.ntmps40
      go_wp2_with (go_at_call 45; refine (winOf _).mono ?_; rintro e w' ⟨rfl, rfl⟩)
      go_loopw [5] (fun t wr => ∃ k : Nat, k ≤ xs.length ∧ t = .int .i64 k ∧ Hid (∀ i (hi : i < xs.length), i < k → spE xs i xs[i] = 0) ∧ Below w.heap.size w wr) (fun t _ => (xs.length - intOf t).toNat)
      case atStart => exact ⟨0, by omega, rfl, fun i _ h => by omega, Below.refl _ _⟩
      case round =>
        obtain ⟨k, hk, rfl, hz, hbr⟩ := hrel
        obtain ⟨hc, hf⟩ := bcell hbr
        by_cases hlt : k < xs.length
        · obtain ⟨b, off, rfl, hbb, ⟨c0, c1, c2, c3⟩, _, _, hnm⟩ := elemSpn HN.out k hlt
          have hnm' := maxLen_eq _ hnm
          have d0 := (hc _ (off + k * 4) hbb).trans c0
          have d1 := (hc _ (off + k * 4 + 1) hbb).trans c1
          have d2 := (hc _ (off + k * 4 + 2) hbb).trans c2
          have d3 := (hc _ (off + k * 4 + 3) hbb).trans c3
          have hprev : Hid (0 < k → wr.cell? ⟨b, off + (k - 1) * 4, none⟩ = some (.int .i64 (prevF xs k)) ∧ -2208988800 ≤ prevF xs k) := fun h0 => by
            obtain ⟨b', off', hbo, hbb', ⟨e0, _⟩, _⟩ := elemSpn HN.out (k - 1) (by omega)
            obtain ⟨rfl, rfl⟩ : b = b' ∧ off = off' := by simpa using hbo
            rw [prevF_at h0 (by omega)]
            refine ⟨(hc _ _ hbb).trans e0, ?_⟩
            exact (spE_zero (hz.out (k - 1) (by omega) (by omega))).1
          have hbad : Hid (∀ r : Int, r ≠ 0 → spE xs k xs[k] = r → spnE xs = r) := fun r hr h => by
            have := ferr_at (spE xs) xs 0 k hlt (fun i hi => by simpa using hz.out i (by omega) hi) (by simpa [h] using hr)
            simp only [Nat.zero_add] at this
            rw [HE.out]; exact this.trans h
          have hgood : Hid (spE xs k xs[k] = 0 → Hid (∀ i (hi : i < xs.length), i < k + 1 → spE xs i xs[i] = 0)) := fun h i hi h' => by
            by_cases e : i = k
            · subst e; exact h
            · exact hz.out i hi (by omega)
          have hcase := spE_cases xs k xs[k]
          have hbw : b < wr.heap.size := Nat.lt_of_lt_of_le hbb hbr.size
          clear hc hf hz c0 c1 c2 c3 hnm
          generalize xs[k] = x at *
          rcases hcase with ⟨q1, hr⟩ | ⟨q1, q2, hr⟩ | ⟨q1, q2, q3, hr⟩ | ⟨q1, q2, q3, q4, hr⟩ | ⟨q1, q2, q3, q4, q5, hr⟩ | ⟨q1, q2, q3, q4, q5, hcase⟩
          · have HR := Lib.hid (hbad.out _ (by omega) hr)
            clear hr
            go_wp2
            go_ret
            exact ⟨ret_int HR.out.symm, hbr.alloc hbr.size _⟩
          · have D1 : Hid (decide (-2208988800 ≤ x.fr ∧ x.fr ≤ 4102444799) = false) := by show decide (-2208988800 ≤ x.fr ∧ x.fr ≤ 4102444799) = false; rw [decide_eq_false_iff_not]; omega
            have HR := Lib.hid (hbad.out _ (by omega) hr)
            clear hr
            go_wp2_with (go_at_call 42; (first | (with_reducible refine (in_lit x.fr (-2208988800) 4102444799 false _ D1.out).mono ?_)); rintro e w' ⟨rfl, rfl⟩)
            go_ret
            exact ⟨ret_int HR.out.symm, hbr.alloc hbr.size _⟩
          · have D1 : Hid (decide (-2208988800 ≤ x.fr ∧ x.fr ≤ 4102444799) = false) := by show decide (-2208988800 ≤ x.fr ∧ x.fr ≤ 4102444799) = false; rw [decide_eq_false_iff_not]; omega
            have HR := Lib.hid (hbad.out _ (by omega) hr)
            clear hr
            go_wp2_with (go_at_call 42; (first | (with_reducible refine (in_lit x.fr (-2208988800) 4102444799 false _ D1.out).mono ?_)); rintro e w' ⟨rfl, rfl⟩)
            go_ret
            exact ⟨ret_int HR.out.symm, hbr.alloc hbr.size _⟩
          · have D1 : Hid (decide (-2208988800 ≤ x.fr ∧ x.fr ≤ 4102444799) = true) := by show decide (-2208988800 ≤ x.fr ∧ x.fr ≤ 4102444799) = true; rw [decide_eq_true_eq]; omega
            have D2 : Hid (decide (-172800 ≤ x.ck.off ∧ x.ck.off ≤ 172800) = false) := by show decide (-172800 ≤ x.ck.off ∧ x.ck.off ≤ 172800) = false; rw [decide_eq_false_iff_not]; omega
            have HR := Lib.hid (hbad.out _ (by omega) hr)
            clear hr
            go_wp2_with (go_at_call 42; (first | (with_reducible refine (in_lit x.fr (-2208988800) 4102444799 true _ D1.out).mono ?_) | (with_reducible refine (in_lit x.ck.off (-172800) 172800 false _ D2.out).mono ?_)); rintro e w' ⟨rfl, rfl⟩)
            go_ret
            exact ⟨ret_int HR.out.symm, hbr.alloc hbr.size _⟩
          · have D1 : Hid (decide (-2208988800 ≤ x.fr ∧ x.fr ≤ 4102444799) = true) := by show decide (-2208988800 ≤ x.fr ∧ x.fr ≤ 4102444799) = true; rw [decide_eq_true_eq]; omega
            have D2 : Hid (decide (-172800 ≤ x.ck.off ∧ x.ck.off ≤ 172800) = false) := by show decide (-172800 ≤ x.ck.off ∧ x.ck.off ≤ 172800) = false; rw [decide_eq_false_iff_not]; omega
            have HR := Lib.hid (hbad.out _ (by omega) hr)
            clear hr
            go_wp2_with (go_at_call 42; (first | (with_reducible refine (in_lit x.fr (-2208988800) 4102444799 true _ D1.out).mono ?_) | (with_reducible refine (in_lit x.ck.off (-172800) 172800 false _ D2.out).mono ?_)); rintro e w' ⟨rfl, rfl⟩)
            go_ret
            exact ⟨ret_int HR.out.symm, hbr.alloc hbr.size _⟩
          · have D1 : Hid (decide (-2208988800 ≤ x.fr ∧ x.fr ≤ 4102444799) = true) := by show decide (-2208988800 ≤ x.fr ∧ x.fr ≤ 4102444799) = true; rw [decide_eq_true_eq]; omega
            have D2 : Hid (decide (-172800 ≤ x.ck.off ∧ x.ck.off ≤ 172800) = true) := by show decide (-172800 ≤ x.ck.off ∧ x.ck.off ≤ 172800) = true; rw [decide_eq_true_eq]; omega
            rcases hcase with ⟨q0, q6, hr⟩ | ⟨q0, q6, hr⟩ | ⟨q0, q6, hr⟩ | ⟨q0, q6, hr⟩
            · have t1 : (x.fr != -2208988800) = true := bne_iff_ne.2 q6
              have t2 : ((k : Int) == 0) = true := by rw [beq_iff_eq]; omega
              have t3 : (k : Int) ≤ 0 := by omega
              have HR := Lib.hid (hbad.out _ (by omega) hr)
              clear hr q6 q0 hprev
              go_wp2_with (go_at_call 42; (first | (with_reducible refine (in_lit x.fr (-2208988800) 4102444799 true _ D1.out).mono ?_) | (with_reducible refine (in_lit x.ck.off (-172800) 172800 true _ D2.out).mono ?_)); rintro e w' ⟨rfl, rfl⟩)
              go_quiet (fail)
              go_wp2
              go_ret
              exact ⟨ret_int HR.out.symm, below_draws (hbr.alloc hbr.size _) _⟩
            · have t1 : (x.fr != -2208988800) = false := by rw [bne_eq_false_iff_eq]; exact q6
              have t2 : ((k : Int) == 0) = true := by rw [beq_iff_eq]; omega
              have t3 : decide ((0 : Int) < (k : Int)) = false := by rw [decide_eq_false_iff_not]; omega
              have t3' : decide (0 < k) = false := by rw [decide_eq_false_iff_not]; omega
              have HR := hgood.out hr
              clear hr q6 q0 hprev
              go_wp2_with (go_at_call 42; (first | (with_reducible refine (in_lit x.fr (-2208988800) 4102444799 true _ D1.out).mono ?_) | (with_reducible refine (in_lit x.ck.off (-172800) 172800 true _ D2.out).mono ?_)); rintro e w' ⟨rfl, rfl⟩)
              go_quiet (fail)
              go_wp2
              go_roundw
              case rel => exact ⟨k + 1, by omega, by go_num, HR, below_draws (hbr.alloc hbr.size _) _⟩
              case measure => simp [intOf]; omega
            · obtain ⟨e0, e1⟩ := hprev.out q0
              have t2 : ((k : Int) == 0) = false := by rw [beq_eq_false_iff_ne]; omega
              have t3 : decide ((0 : Int) < (k : Int)) = true := by rw [decide_eq_true_eq]; omega
              have t3' : decide (0 < k) = true := by rw [decide_eq_true_eq]; omega
              have t7 : IntKind.i64.wrap ((k : Int) - 1) = (k : Int) - 1 := IntWalk.i64_in _ (by omega)
              have t4 : ((k : Int) - 1).toNat = k - 1 := by omega
              have t5 : (0 : Int) ≤ (k : Int) - 1 := by omega
              have t6 : (k : Int) - 1 < (xs.length : Int) := by omega
              have HR := Lib.hid (hbad.out _ (by omega) hr)
              generalize prevF xs k = pv at *
              by_cases q7 : x.fr = -2208988800
              · have t1 : (x.fr == -2208988800) = true := by rw [beq_iff_eq]; exact q7
                have t8 : decide (x.fr ≤ pv) = true := by rw [decide_eq_true_eq]; exact q6
                clear hr q0 q7 hprev
                go_wp2_with (go_at_call 42; (first | (with_reducible refine (in_lit x.fr (-2208988800) 4102444799 true _ D1.out).mono ?_) | (with_reducible refine (in_lit x.ck.off (-172800) 172800 true _ D2.out).mono ?_)); rintro e w' ⟨rfl, rfl⟩)
                go_quiet (fail)
                go_wp2
                go_ret
                exact ⟨ret_int HR.out.symm, below_draws (hbr.alloc hbr.size _) _⟩
              · have t1 : (x.fr == -2208988800) = false := beq_eq_false_iff_ne.2 q7
                have t8 : decide (x.fr ≤ pv) = true := by rw [decide_eq_true_eq]; exact q6
                clear hr q0 q7 hprev
                go_wp2_with (go_at_call 42; (first | (with_reducible refine (in_lit x.fr (-2208988800) 4102444799 true _ D1.out).mono ?_) | (with_reducible refine (in_lit x.ck.off (-172800) 172800 true _ D2.out).mono ?_)); rintro e w' ⟨rfl, rfl⟩)
                go_quiet (fail)
                go_wp2
                go_ret
                exact ⟨ret_int HR.out.symm, below_draws (hbr.alloc hbr.size _) _⟩
            · obtain ⟨e0, e1⟩ := hprev.out q0
              have t2 : ((k : Int) == 0) = false := by rw [beq_eq_false_iff_ne]; omega
              have t3 : decide ((0 : Int) < (k : Int)) = true := by rw [decide_eq_true_eq]; omega
              have t3' : decide (0 < k) = true := by rw [decide_eq_true_eq]; omega
              have t7 : IntKind.i64.wrap ((k : Int) - 1) = (k : Int) - 1 := IntWalk.i64_in _ (by omega)
              have t4 : ((k : Int) - 1).toNat = k - 1 := by omega
              have t5 : (0 : Int) ≤ (k : Int) - 1 := by omega
              have t6 : (k : Int) - 1 < (xs.length : Int) := by omega
              have HR := hgood.out hr
              generalize prevF xs k = pv at *
              have t1 : (x.fr == -2208988800) = false := by rw [beq_eq_false_iff_ne]; omega
              have t8 : decide (x.fr ≤ pv) = false := by rw [decide_eq_false_iff_not]; omega
              clear hr q0 hprev
              go_wp2_with (go_at_call 42; (first | (with_reducible refine (in_lit x.fr (-2208988800) 4102444799 true _ D1.out).mono ?_) | (with_reducible refine (in_lit x.ck.off (-172800) 172800 true _ D2.out).mono ?_)); rintro e w' ⟨rfl, rfl⟩)
              go_quiet (fail)
              go_wp2
              go_roundw
              case rel => exact ⟨k + 1, by omega, by go_num, HR, below_draws (hbr.alloc hbr.size _) _⟩
              case measure => simp [intOf]; omega
        · have HS : Hid (spnE xs = 0) := by
            show spnE xs = 0
            rw [HE.out]
            exact ferr_none (spE xs) xs 0 (fun i hi => by simpa using hz.out i hi (by omega))
          clear hz hc hf
          go_wp2
          go_ret
          exact ⟨ret_int HS.out.symm, hbr⟩
theorem spansFaultP_any (v : Value) (xs : List Spn) (w : World) (hv : SlAt w 4 RSpn v xs) :
    Calls Try.prog 10 #[v] w fun e w' => e = .returned (.int .i64 (spnE xs)) ∧ Below w.heap.size w w' := by
  have HV := Lib.hid hv
  clear hv
  go_enter Try.func10, Try.ntmps10
  go_wp2_with (go_at_call 40; refine (spansFault_any _ xs _ HV.out).mono ?_; rintro e w' ⟨rfl, hb⟩)
  go_ret
  exact ⟨rfl, hb⟩
end Go.Proofs.Ytlhidbbphngpcaa
