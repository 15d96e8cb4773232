/-
  A reader of bytes: what goes wrong first counts; so many bytes.
-/
import Derived.Test.YtpnmaopompfalaaLem
namespace Go.Proofs.Ytpnmaopompfalaa
set_option linter.unusedVariables false
set_option linter.unusedSimpArgs false
open Go.ChangeShapes Go.WideShapes Go.ChangeAt Go.RowKit

/-- block P is a reader: the bytes that are left, and what went wrong. -/
def RdAt (w : World) (P g : Nat) (bs : List Int) (e : Int) : Prop := ∃ off cap, w.cell? ⟨P, 0, none⟩ = some (.slice (some ⟨g, off, none⟩) bs.length cap) ∧ bs.length ≤ cap ∧ cap ≤ maxLen ∧ w.cell? ⟨P, 1, none⟩ = some (.int .i64 e) ∧ (∀ j, w.frozen? ⟨P, j, none⟩ = false) ∧ g ≠ P ∧ ∀ i (h : i < bs.length), w.cell? ⟨g, off + i, none⟩ = some (.int .u8 bs[i])
theorem cell_lt {w : World} {b o : Nat} {v : Value} (h : w.cell? ⟨b, o, none⟩ = some v) : b < w.heap.size := by
  rcases Nat.lt_or_ge b w.heap.size with q | q
  · exact q
  · simp [World.cell?, Array.getElem?_eq_none q] at h
theorem grown_setC (w : World) (P o : Nat) (u : Value) : w.grownBy (w.setCell ⟨P, o, none⟩ u) (some P) :=
  ⟨rfl, rfl, rfl, by rw [World.size_setCell]; exact Nat.le_refl _, fun k _ hk => RowKit.Below.heap_setCell _ _ _ _ (fun e => hk (by rw [e]))⟩
def erE (e x : Int) : Int := if e = 0 then x else e
theorem RdAt.setE {w : World} {P g : Nat} {bs : List Int} {e : Int} (h : RdAt w P g bs e) (x : Int) : RdAt (w.setCell ⟨P, 1, none⟩ (.int .i64 x)) P g bs x := by
  obtain ⟨off, cap, h1, h2, h3, h4, h5, h6, h7⟩ := h
  refine ⟨off, cap, ?_, h2, h3, World.cell?_setCell_same (h := h4) .., fun j => by rw [World.frozen?_setCell]; exact h5 j, h6, fun i hi => ?_⟩
  · rw [World.cell?_setCell_other (h := by simp)]; exact h1
  · rw [World.cell?_setCell_other (h := by simp [h6])]; exact h7 i hi
theorem wrong_any (P g : Nat) (bs : List Int) (e x : Int) (w : World) (h : RdAt w P g bs e) :
    Calls Try.prog 95 #[.pointer (some ⟨P, 0, none⟩), .int .i64 x] w fun r w' => r = .returned (.tuple #[]) ∧ RdAt w' P g bs (erE e x) ∧ w.grownBy w' (some P) := by
  have H := Lib.hid h
  obtain ⟨off, cap, h1, h2, h3, h4, h5, h6, h7⟩ := h
  have hz := cell_lt h4
  clear h7
  by_cases he : e = 0
  · subst he
    have HX := Lib.hid (H.out.setE x)
    go_enter Try.func95, Try.ntmps95
    go_wp2
    go_end0
    exact ⟨rfl, by unfold erE; rw [if_pos rfl]; exact HX.out, grown_setC _ _ _ _⟩
  · have hb : (e == 0) = false := by rw [beq_eq_false_iff_ne]; exact he
    have HE : Hid (erE e x = e) := by show _ = _; unfold erE; rw [if_neg he]
    clear he
    go_enter Try.func95, Try.ntmps95
    go_wp2
    go_end0
    exact ⟨rfl, by rw [HE.out]; exact H.out, ⟨rfl, rfl, rfl, Nat.le_refl _, fun _ _ _ => rfl⟩⟩
theorem RdAt.dropN {w : World} {P g n off off2 cap2 len2 : Nat} {bs : List Int} {e : Int} {v : Value} (h1 : w.cell? ⟨P, 0, none⟩ = some v) (h4 : w.cell? ⟨P, 1, none⟩ = some (.int .i64 e)) (h5 : ∀ j, w.frozen? ⟨P, j, none⟩ = false) (h6 : g ≠ P) (h7 : ∀ i (h : i < bs.length), w.cell? ⟨g, off + i, none⟩ = some (.int .u8 bs[i]))
    (hl : len2 = bs.length - n) (hc : bs.length - n ≤ cap2) (hm : cap2 ≤ maxLen) (ho : off2 = off + n ∨ bs.length ≤ n) : RdAt (w.setCell ⟨P, 0, none⟩ (.slice (some ⟨g, off2, none⟩) len2 cap2)) P g (bs.drop n) e := by
  subst hl
  refine ⟨off2, cap2, ?_, by rw [List.length_drop]; exact hc, hm, ?_, fun j => by rw [World.frozen?_setCell]; exact h5 j, h6, fun i hi => ?_⟩
  · rw [List.length_drop]; exact World.cell?_setCell_same (h := h1) ..
  · rw [World.cell?_setCell_other (h := by simp)]; exact h4
  · rw [List.length_drop] at hi
    rcases ho with rfl | ho
    · rw [World.cell?_setCell_other (h := by simp [h6]), List.getElem_drop, show off + n + i = off + (n + i) from by omega]
      exact h7 (n + i) (by omega)
    · omega
set_option maxHeartbeats 1000000 in
theorem take_ok (P g n : Nat) (bs : List Int) (w : World) (h : RdAt w P g bs 0) (hn : n ≤ bs.length) :
    Calls Try.prog 94 #[.pointer (some ⟨P, 0, none⟩), .int .i64 n] w fun r w' => ∃ off, (∃ cap, r = .returned (.slice (some ⟨g, off, none⟩) n cap)) ∧ (∀ i (h : i < bs.length), i < n → w'.cell? ⟨g, off + i, none⟩ = some (.int .u8 bs[i])) ∧ RdAt w' P g (bs.drop n) 0 ∧ w.grownBy w' (some P) := by
  obtain ⟨off, cap, h1, h2, h3, h4, h5, h6, h7⟩ := h
  have hz := cell_lt h4
  have H7 := Lib.hid h7
  have H3 := Lib.hid h3
  have f0 := h5 0
  have hnl : (n : Int) ≤ (bs.length : Int) := by omega
  have hcl : (bs.length : Int) ≤ (cap : Int) := by omega
  have H1 := Lib.hid h1
  have H4 := Lib.hid h4
  have H5 := Lib.hid h5
  have H6 := Lib.hid h6
  clear h7
  have keep : ∀ (v : Value) i (h : i < bs.length), i < n → (w.setCell ⟨P, 0, none⟩ v).cell? ⟨g, off + i, none⟩ = some (.int .u8 bs[i]) := fun v i hi _ => by
    rw [World.cell?_setCell_other (h := by simp [H6.out])]; exact H7.out i hi
  have KP := Lib.hid keep
  clear keep
  rcases (show n < cap ∨ n = cap by omega) with hc | hc
  · have hc' : (n : Int) < (cap : Int) := by omega
    go_enter Try.func94, Try.ntmps94
    go_wp2
    all_goals
      go_ret
      exact ⟨off, ⟨_, rfl⟩, KP.out _, RdAt.dropN H1.out H4.out H5.out H6.out H7.out (by omega) (by omega) (by have := H3.out; omega) (by first | exact .inl rfl | (right; omega)), grown_setC _ _ _ _⟩
  · have hnb : n = bs.length := by omega
    subst hc
    subst hnb
    clear hcl hnl
    go_enter Try.func94, Try.ntmps94
    go_wp2
    all_goals
      go_ret
      refine ⟨off, ⟨_, rfl⟩, KP.out _, ?_, grown_setC _ _ _ _⟩
      exact RdAt.dropN (off := off) H1.out H4.out H5.out H6.out H7.out (by omega) (by omega) (by omega) (.inr (Nat.le_refl _))
set_option maxHeartbeats 1000000 in
theorem take_no (P g : Nat) (n e : Int) (bs : List Int) (w : World) (h : RdAt w P g bs e) (hn : e ≠ 0 ∨ (bs.length : Int) < n) :
    Calls Try.prog 94 #[.pointer (some ⟨P, 0, none⟩), .int .i64 n] w fun r w' => r = .returned (.slice none 0 0) ∧ RdAt w' P g bs (erE e 5) ∧ w.grownBy w' (some P) := by
  have H := Lib.hid h
  obtain ⟨off, cap, h1, h2, h3, h4, h5, h6, h7⟩ := h
  have hz := cell_lt h4
  clear h7
  by_cases he : e = 0
  · subst he
    have hlt : (bs.length : Int) < n := hn.resolve_left (by simp)
    clear hn
    go_enter Try.func94, Try.ntmps94
    go_wp2_with fail
    refine (wrong_any P g bs 0 5 w H.out).mono ?_; rintro r w1 ⟨rfl, hr, hg⟩
    have HR := Lib.hid hr
    clear hr
    go_wp2
    go_ret
    exact ⟨rfl, HR.out, hg⟩
  · have hb : (e != 0) = true := by rw [bne_iff_ne]; exact he
    clear hn he
    go_enter Try.func94, Try.ntmps94
    go_wp2_with fail
    refine (wrong_any P g bs e 5 w H.out).mono ?_; rintro r w1 ⟨rfl, hr, hg⟩
    have HR := Lib.hid hr
    clear hr
    go_wp2
    go_ret
    exact ⟨rfl, HR.out, hg⟩
end Go.Proofs.Ytpnmaopompfalaa
