/-
  A reader of bytes: numbers, counts and pieces, whether or not an error is there already.
-/
import Derived.Test.YtpnmaopompfalaaDecC
import Derived.Test.YtpnmaopompfalaaDecP
namespace Go.Proofs.Ytpnmaopompfalaa
set_option linter.unusedVariables false
set_option linter.unusedSimpArgs false
open Go.ChangeShapes Go.WideShapes Go.ChangeAt Go.RowKit

theorem rnumE (P g : Nat) (bs : List Int) (e : Int) (w : World) (h : RdAt w P g bs e) (hb : Byt bs) {x e1 : Int} {b1 : List Int} (hn : numE bs e = (x, b1, e1)) :
    Calls Try.prog 97 #[.pointer (some ⟨P, 0, none⟩)] w fun r w' => r = .returned (.int .i64 x) ∧ RdAt w' P g b1 e1 ∧ w.grownBy w' (some P) := by
  by_cases he : e = 0
  · subst he
    rw [numE_ok] at hn
    refine (rnum_any P g bs w h hb).mono ?_
    rintro r w1 ⟨rfl, h1, h2⟩
    rw [hn] at h1 ⊢
    exact ⟨rfl, h1, h2⟩
  · rw [numE_err he] at hn
    cases hn
    exact rnum_no P g bs e w h he
set_option maxHeartbeats 1000000 in
theorem rcount (P g : Nat) (m : Int) (bs : List Int) (e : Int) (w : World) (h : RdAt w P g bs e) (hb : Byt bs) {n e1 : Int} {b1 : List Int} (hc : cntE m bs e = (n, b1, e1)) :
    Calls Try.prog 96 #[.pointer (some ⟨P, 0, none⟩), .int .i64 m] w fun r w' => r = .returned (.int .i64 n) ∧ RdAt w' P g b1 e1 ∧ w.grownBy w' (some P) := by
  obtain ⟨x, b2, e2, hx⟩ : ∃ x b e', numE bs e = (x, b, e') := ⟨_, _, _, rfl⟩
  have H := Lib.hid h
  have HB := Lib.hid hb
  have HX := Lib.hid hx
  unfold cntE at hc
  rw [hx] at hc
  dsimp only at hc
  clear h hb hx
  by_cases hbad : x < 0 ∨ m < x
  · rw [if_pos hbad] at hc
    cases hc
    have hs : x < 0 ∨ (0 ≤ x ∧ m < x) := by omega
    clear hbad
    rcases hs with h1 | ⟨h1, h2⟩
    all_goals
      go_enter Try.func96, Try.ntmps96
      go_wp2_with fail
      refine (rnumE P g bs e w H.out HB.out HX.out).mono ?_; rintro r w1 ⟨rfl, hr, hg⟩
      have HR := Lib.hid hr
      have HG := Lib.hid hg
      clear hr hg
      go_wp2_with fail
      refine (wrong_any P g _ e2 1 w1 HR.out).mono ?_; rintro r w2 ⟨rfl, hr, hg⟩
      have HR2 := Lib.hid hr
      have HG2 := Lib.hid (grown_two HG.out hg)
      clear hr hg
      go_wp2
      go_ret
      exact ⟨rfl, HR2.out, HG2.out⟩
  · rw [if_neg hbad] at hc
    cases hc
    have h1 : 0 ≤ n := by omega
    have h2 : n ≤ m := by omega
    clear hbad
    go_enter Try.func96, Try.ntmps96
    go_wp2_with fail
    refine (rnumE P g bs e w H.out HB.out HX.out).mono ?_; rintro r w1 ⟨rfl, hr, hg⟩
    have HR := Lib.hid hr
    have HG := Lib.hid hg
    clear hr hg
    go_wp2
    go_ret
    exact ⟨rfl, HR.out, HG.out⟩
theorem rtake (P g n : Nat) (bs : List Int) (e : Int) (w : World) (h : RdAt w P g bs e) {l b1 : List Int} {e1 : Int} (ht : tkD n bs e = (l, b1, e1)) :
    Calls Try.prog 94 #[.pointer (some ⟨P, 0, none⟩), .int .i64 n] w fun r w' => ∃ a cap, r = .returned (.slice a l.length cap) ∧ (convert 66 9 (.slice a l.length cap)).run Try.prog w' = .ok (.string (strOfNums l)) w' ∧ (∀ i (hi : i < l.length), ∃ off, a = some ⟨g, off, none⟩ ∧ w'.cell? ⟨g, off + i, none⟩ = some (.int .u8 l[i])) ∧ RdAt w' P g b1 e1 ∧ w.grownBy w' (some P) := by
  unfold tkD at ht
  by_cases hh : e = 0 ∧ n ≤ bs.length
  · rw [if_pos hh] at ht
    cases ht
    obtain ⟨rfl, hn⟩ := hh
    have hl : (bs.take n).length = n := by rw [List.length_take]; exact Nat.min_eq_left hn
    refine (take_ok P g n bs w h hn).mono ?_
    rintro r w1 ⟨off, ⟨cap, rfl⟩, hc, hr, hg⟩
    have hcc : ∀ i (hi : i < (bs.take n).length), w1.cell? ⟨g, off + i, none⟩ = some (.int .u8 (bs.take n)[i]) := fun i hi => by
      rw [hl] at hi
      rw [List.getElem_take]
      exact hc i (by omega) hi
    refine ⟨some ⟨g, off, none⟩, cap, by rw [hl], ?_, fun i hi => ⟨off, rfl, hcc i hi⟩, hr, hg⟩
    exact run_convert_bytes_arg (P := Try.prog) w1 66 5 Try.underlying66 Try.underlying5 g off _ cap (bs.take n) rfl (fun i hi => by
      rw [hcc i hi, List.getD_eq_getElem?_getD, List.getElem?_eq_getElem hi]; rfl) 9 Try.underlying9
  · rw [if_neg hh] at ht
    cases ht
    refine (take_no P g n e bs w h (by
      rcases (show e ≠ 0 ∨ e = 0 by omega) with h1 | h1
      · exact .inl h1
      · right
        have : ¬ n ≤ bs.length := fun q => hh ⟨h1, q⟩
        omega)).mono ?_
    rintro r w1 ⟨rfl, hr, hg⟩
    exact ⟨none, 0, rfl, run_convert_bytes_nil (P := Try.prog) w1 66 5 Try.underlying66 Try.underlying5 0 0 9 Try.underlying9, fun i hi => by simp at hi, hr, hg⟩
end Go.Proofs.Ytpnmaopompfalaa
