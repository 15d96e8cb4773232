/-
  The laws on days: what each law's own function answers.
-/
import Derived.Test.YtalaejdbmjbocaaDoorCivilC
import Derived.Test.YtalaejdbmjbocaaDoorCivilE
import Derived.Test.YtalaejdbmjbocaaDoorRefC
namespace Go.Proofs.YtalaejdbmjbocaaDoor
set_option linter.unusedVariables false
set_option linter.unusedSimpArgs false
open Go.ChangeShapes Go.WideShapes Go.ChangeAt Go.RowKit Civ

theorem walkCivilDays (a0 a1 : Int) (w : World) (w0 : (Lit.int .i64 a0).wf = true) (w1 : (Lit.int .i64 a1).wf = true) (hT : Tab w) :
    Calls Tryd.prog 3 #[.int .i64 a0, .int .i64 a1] w fun e w' => e = .returned (.bool true) ∧ Below w.heap.size w w' := by
  clear w0 w1
  by_cases h : 1899 ≤ a0 ∧ a0 ≤ 2100 ∧ 1 ≤ a1 ∧ a1 ≤ 12
  · obtain ⟨h1, h2, h3, h4⟩ := h
    go_enter Tryd.func3, Tryd.ntmps3
    go_wp2_with (first | (go_at_call 13; refine (days_ok _ _ _ hT h1 h2 h3 h4).mono ?_; rintro e w' ⟨rfl, n, rfl⟩) | (go_at_call 14; refine (daysof_ok _ _ _ h1 h2 h3 h4).mono ?_; rintro e w' ⟨rfl, rfl⟩))
    go_ret
    exact ⟨rfl, below_draws (Below.refl _ _) _⟩
  · have H := Lib.hid h
    clear h
    go_enter Tryd.func3, Tryd.ntmps3
    go_wp2_with (first | (go_at_call 13; refine (days_bad _ _ _ H.out).mono ?_; rintro e w' ⟨rfl, rfl⟩) | (go_at_call 14; refine (daysof_bad _ _ _ H.out).mono ?_; rintro e w' ⟨rfl, rfl⟩))
    go_ret
    exact ⟨rfl, Below.refl _ _⟩
theorem walkCivilNumbers (a0 a1 a2 : Int) (w : World) (w0 : (Lit.int .i64 a0).wf = true) (w1 : (Lit.int .i64 a1).wf = true) (w2 : (Lit.int .i64 a2).wf = true) (hT : Tab w) :
    Calls Tryd.prog 5 #[.int .i64 a0, .int .i64 a1, .int .i64 a2] w fun e w' => e = .returned (.bool true) ∧ Below w.heap.size w w' := by
  clear w0 w1 w2
  by_cases h : numOk a0 a1 a2
  · have H := Lib.hid h
    clear h
    go_enter Tryd.func5, Tryd.ntmps5
    go_wp2_with (first | (go_at_call 17; refine (number_ok _ _ _ _ hT H.out).mono ?_; rintro e w' ⟨rfl, n, rfl⟩) | (go_at_call 18; refine (numberof_ok _ _ _ _ H.out).mono ?_; rintro e w' ⟨rfl, rfl⟩))
    go_ret
    exact ⟨rfl, below_draws (Below.refl _ _) _⟩
  · have H := Lib.hid h
    clear h
    go_enter Tryd.func5, Tryd.ntmps5
    go_wp2_with (first | (go_at_call 17; refine (number_bad _ _ _ _ hT H.out).mono ?_; rintro e w' ⟨rfl, n, rfl⟩) | (go_at_call 18; refine (numberof_bad _ _ _ _ H.out).mono ?_; rintro e w' ⟨rfl, rfl⟩))
    go_ret
    exact ⟨rfl, below_draws (Below.refl _ _) _⟩
theorem walkCivilDates (a0 : Int) (w : World) (w0 : (Lit.int .i64 a0).wf = true) (hT : Tab w) :
    Calls Tryd.prog 4 #[.int .i64 a0] w fun e w' => e = .returned (.bool true) ∧ Below w.heap.size w w' := by
  clear w0
  by_cases h : fst 1899 ≤ a0 ∧ a0 < fst 2101
  · obtain ⟨h1, h2⟩ := h
    have H1 : Hid (fst 1899 ≤ a0) := h1
    have H2 : Hid (a0 < fst 2101) := h2
    clear h1 h2
    go_enter Tryd.func4, Tryd.ntmps4
    go_wp2_with fail
    refine (date_ok _ _ hT H1.out H2.out).mono ?_
    rintro e w' ⟨y, m, d, rfl, ok, hn, rfl⟩
    have OK := Lib.hid ok
    have HN := Lib.hid hn
    clear ok hn
    go_wp2_with fail
    refine (dateof_ok _ _ H1.out H2.out).mono ?_
    rintro e w' ⟨y', m', d', rfl, ok', hn', rfl⟩
    obtain ⟨rfl, rfl, rfl⟩ := num_inj OK.out ok' (HN.out.trans hn'.symm)
    clear ok' hn'
    go_wp2
    go_ret
    exact ⟨rfl, Below.refl _ _⟩
  · have H := Lib.hid h
    clear h
    go_enter Tryd.func4, Tryd.ntmps4
    go_wp2_with (first | (go_at_call 15; refine (date_bad _ _ H.out).mono ?_; rintro e w' ⟨rfl, rfl⟩) | (go_at_call 16; refine (dateof_bad _ _ H.out).mono ?_; rintro e w' ⟨rfl, rfl⟩))
    go_ret
    exact ⟨rfl, Below.refl _ _⟩
theorem walkCivilFinds (a0 a1 k a n : Int) (w : World) (w0 : (Lit.int .i64 a0).wf = true) (w1 : (Lit.int .i64 a1).wf = true) (w2 : (Lit.int .i64 k).wf = true) (w3 : (Lit.int .i64 a).wf = true) (w4 : (Lit.int .i64 n).wf = true) (hT : Tab w) :
    Calls Tryd.prog 8 #[.int .i64 a0, .int .i64 a1, .agg #[.int .i64 k, .int .i64 a, .int .i64 n]] w fun e w' => e = .returned (.bool true) ∧ Below w.heap.size w w' := by
  clear w0 w1 w2 w3 w4
  by_cases h : fndE a0 a1 k a n = 0
  · have H := Lib.hid h
    clear h
    go_enter Tryd.func8, Tryd.ntmps8
    go_wp2_with fail
    refine (find_ok _ _ _ _ _ _ (hT.alloc _) H.out).mono ?_; rintro e w1 ⟨rfl, hb1⟩
    obtain ⟨hc, hf⟩ := bcell hb1
    go_wp2_with fail
    refine (found_ok _ _ _ _ _ _ H.out).mono ?_; rintro e w2 ⟨rfl, hb2⟩
    go_wp2
    go_ret
    exact ⟨rfl, below_two hb1 hb2⟩
  · have H := Lib.hid h
    clear h
    go_enter Tryd.func8, Tryd.ntmps8
    go_wp2_with fail
    refine (find_err _ _ _ _ _ _ (hT.alloc _) H.out).mono ?_; rintro e w1 ⟨rfl, hb1⟩
    obtain ⟨hc, hf⟩ := bcell hb1
    go_wp2_with fail
    refine (found_err _ _ _ _ _ _ H.out).mono ?_; rintro e w2 ⟨rfl, hb2⟩
    go_wp2
    go_ret
    exact ⟨rfl, below_two hb1 hb2⟩
theorem walkCivilInstants (a0 mo k a n t c a2 a3 : Int) (w : World) (w0 : (Lit.int .i64 a0).wf = true) (w1 : (Lit.int .i64 mo).wf = true) (w2 : (Lit.int .i64 k).wf = true) (w3 : (Lit.int .i64 a).wf = true) (w4 : (Lit.int .i64 n).wf = true) (w5 : (Lit.int .i64 t).wf = true) (w6 : (Lit.int .i64 c).wf = true) (w7 : (Lit.int .i64 a2).wf = true) (w8 : (Lit.int .i64 a3).wf = true) (hT : Tab w) :
    Calls Tryd.prog 11 #[.int .i64 a0, .agg #[.int .i64 mo, .int .i64 k, .int .i64 a, .int .i64 n, .int .i64 t, .int .i64 c], .int .i64 a2, .int .i64 a3] w fun e w' => e = .returned (.bool true) ∧ Below w.heap.size w w' := by
  clear w0 w1 w2 w3 w4 w5 w6 w7 w8
  by_cases h : insE a0 mo k a n t c a2 a3 = 0
  · have H := Lib.hid h
    clear h
    go_enter Tryd.func11, Tryd.ntmps11
    go_wp2_with fail
    refine (instant_ok _ _ _ _ _ _ _ _ _ _ (hT.alloc _) H.out).mono ?_; rintro e w1 ⟨rfl, hb1⟩
    obtain ⟨hc, hf⟩ := bcell hb1
    go_wp2_with fail
    refine (instantof_ok _ _ _ _ _ _ _ _ _ _ H.out).mono ?_; rintro e w2 ⟨rfl, hb2⟩
    go_wp2
    go_ret
    exact ⟨rfl, below_two hb1 hb2⟩
  · have H := Lib.hid h
    clear h
    go_enter Tryd.func11, Tryd.ntmps11
    go_wp2_with fail
    refine (instant_err _ _ _ _ _ _ _ _ _ _ (hT.alloc _) H.out).mono ?_; rintro e w1 ⟨rfl, hb1⟩
    obtain ⟨hc, hf⟩ := bcell hb1
    go_wp2_with fail
    refine (instantof_err _ _ _ _ _ _ _ _ _ _ H.out).mono ?_; rintro e w2 ⟨rfl, hb2⟩
    go_wp2
    go_ret
    exact ⟨rfl, below_two hb1 hb2⟩
end Go.Proofs.YtalaejdbmjbocaaDoor
