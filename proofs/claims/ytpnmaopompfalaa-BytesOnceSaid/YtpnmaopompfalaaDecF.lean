/-
  A spool of bytes: numbers and counts, whether or not an error is there already.
-/
import Derived.Test.YtpnmaopompfalaaDecD
import Derived.Test.YtpnmaopompfalaaDecP
namespace Go.Proofs.Ytpnmaopompfalaa
set_option linter.unusedVariables false
set_option linter.unusedSimpArgs false
open Go.ChangeShapes Go.WideShapes Go.ChangeAt Go.RowKit

/-- a spool with these bytes left. -/
def SpD (w : World) (S g : Nat) (b bs : List Int) (e : Int) : Prop := ∃ i, SpAt w S g b i e ∧ b.drop i = bs
theorem snumE (S g : Nat) (b bs : List Int) (e : Int) (w : World) (h : SpD w S g b bs e) (hb : Byt b) {x e1 : Int} {b1 : List Int} (hn : numE bs e = (x, b1, e1)) :
    Calls Try.prog 100 #[.pointer (some ⟨S, 0, none⟩)] w fun r w' => r = .returned (.int .i64 x) ∧ SpD w' S g b b1 e1 ∧ w.grownBy w' (some S) := by
  obtain ⟨i, hs, rfl⟩ := h
  by_cases he : e = 0
  · subst he
    rw [numE_ok] at hn
    refine (snum_any S g i b w hs hb).mono ?_
    rintro r w1 ⟨rfl, ⟨i', h1, h3⟩, h2⟩
    rw [hn] at h1 h3 ⊢
    exact ⟨rfl, ⟨i', h1, h3⟩, h2⟩
  · rw [numE_err he] at hn
    cases hn
    refine (snum_no S g i b e w hs he).mono ?_
    rintro r w1 ⟨rfl, rfl⟩
    exact ⟨rfl, ⟨i, hs, rfl⟩, ⟨rfl, rfl, rfl, Nat.le_refl _, fun _ _ _ => rfl⟩⟩
set_option maxHeartbeats 1000000 in
theorem scount (S g : Nat) (m : Int) (b bs : List Int) (e : Int) (w : World) (h : SpD w S g b bs e) (hb : Byt b) (hm : 0 ≤ m) {n e1 : Int} {b1 : List Int} (hc : cntE m bs e = (n, b1, e1)) :
    Calls Try.prog 99 #[.pointer (some ⟨S, 0, none⟩), .int .i64 m] w fun r w' => r = .returned (.int .i64 n) ∧ SpD w' S g b b1 e1 ∧ w.grownBy w' (some S) := by
  obtain ⟨x, b2, e2, hx⟩ : ∃ x b e', numE bs e = (x, b, e') := ⟨_, _, _, rfl⟩
  have H := Lib.hid h
  have HB := Lib.hid hb
  have HX := Lib.hid hx
  have hbd := numE_bad bs e
  rw [hx] at hbd
  unfold cntE at hc
  rw [hx] at hc
  dsimp only at hc hbd
  clear h hb hx
  by_cases hbad : x < 0 ∨ m < x
  · rw [if_pos hbad] at hc
    cases hc
    obtain rfl : e2 = 0 := by omega
    have D1 : Hid (decide (0 ≤ x ∧ x ≤ m) = false) := by show _ = _; rw [decide_eq_false_iff_not]; omega
    clear hbad hbd hm
    go_enter Try.func99, Try.ntmps99
    go_wp2_with fail
    refine (snumE S g b bs e w H.out HB.out HX.out).mono ?_; rintro r w1 ⟨rfl, ⟨i, hr, hi⟩, hg⟩
    have HI := Lib.hid hi
    have HR := Lib.hid hr
    have HG := Lib.hid hg
    obtain ⟨off, cap, h1, h2, h3, h4, h5, h6, h7, h8⟩ := hr
    have hz := cell_lt h4
    have f2 := h6 2
    clear hg h6 h8 hi
    go_wp2_with (go_at_call 60; (first | (with_reducible refine (in_lit x 0 m false _ D1.out).mono ?_)); rintro e w' ⟨rfl, rfl⟩)
    go_ret
    exact ⟨rfl, ⟨i, HR.out.setE 1, HI.out⟩, grown_two HG.out (grown_setC _ _ _ _)⟩
  · rw [if_neg hbad] at hc
    cases hc
    have D1 : Hid (decide (0 ≤ n ∧ n ≤ m) = true) := by show _ = _; rw [decide_eq_true_iff]; omega
    clear hbad hbd
    by_cases he : e1 = 0
    · subst he
      clear hm
      go_enter Try.func99, Try.ntmps99
      go_wp2_with fail
      refine (snumE S g b bs e w H.out HB.out HX.out).mono ?_; rintro r w1 ⟨rfl, ⟨i, hr, hi⟩, hg⟩
      have HI := Lib.hid hi
      have HR := Lib.hid hr
      have HG := Lib.hid hg
      obtain ⟨off, cap, h1, h2, h3, h4, h5, h6, h7, h8⟩ := hr
      have hz := cell_lt h4
      clear hg h6 h8 hi
      go_wp2_with (go_at_call 60; (first | (with_reducible refine (in_lit n 0 m true _ D1.out).mono ?_)); rintro e w' ⟨rfl, rfl⟩)
      go_ret
      exact ⟨rfl, ⟨i, HR.out, HI.out⟩, HG.out⟩
    · have hne : (e1 == 0) = false := by rw [beq_eq_false_iff_ne]; exact he
      clear he hm
      go_enter Try.func99, Try.ntmps99
      go_wp2_with fail
      refine (snumE S g b bs e w H.out HB.out HX.out).mono ?_; rintro r w1 ⟨rfl, ⟨i, hr, hi⟩, hg⟩
      have HI := Lib.hid hi
      have HR := Lib.hid hr
      have HG := Lib.hid hg
      obtain ⟨off, cap, h1, h2, h3, h4, h5, h6, h7, h8⟩ := hr
      have hz := cell_lt h4
      clear hg h6 h8 hi
      go_wp2_with fail
      go_ret
      exact ⟨rfl, ⟨i, HR.out, HI.out⟩, HG.out⟩
end Go.Proofs.Ytpnmaopompfalaa
