/-
  A spool of bytes, by the document: numbers.
-/
import Derived.Test.YtpnmaopompfalaaDecB
namespace Go.Proofs.Ytpnmaopompfalaa
set_option linter.unusedVariables false
set_option linter.unusedSimpArgs false
open Go.ChangeShapes Go.WideShapes Go.ChangeAt Go.RowKit

/-- block S is a spool: all its bytes, how far it is, and what went wrong. -/
def SpAt (w : World) (S g : Nat) (b : List Int) (i : Nat) (e : Int) : Prop := ∃ off cap, w.cell? ⟨S, 0, none⟩ = some (.slice (some ⟨g, off, none⟩) b.length cap) ∧ b.length ≤ 200000 ∧ i ≤ b.length ∧ w.cell? ⟨S, 1, none⟩ = some (.int .i64 i) ∧ w.cell? ⟨S, 2, none⟩ = some (.int .i64 e) ∧ (∀ j, w.frozen? ⟨S, j, none⟩ = false) ∧ g ≠ S ∧ ∀ k (h : k < b.length), w.cell? ⟨g, off + k, none⟩ = some (.int .u8 b[k])
theorem SpAt.setE {w : World} {S g i : Nat} {b : List Int} {e : Int} (h : SpAt w S g b i e) (x : Int) : SpAt (w.setCell ⟨S, 2, none⟩ (.int .i64 x)) S g b i x := by
  obtain ⟨off, cap, h1, h2, h3, h4, h5, h6, h7, h8⟩ := h
  refine ⟨off, cap, ?_, h2, h3, ?_, World.cell?_setCell_same (h := h5) .., fun j => by rw [World.frozen?_setCell]; exact h6 j, h7, fun k hk => ?_⟩
  · rw [World.cell?_setCell_other (h := by simp)]; exact h1
  · rw [World.cell?_setCell_other (h := by simp)]; exact h4
  · rw [World.cell?_setCell_other (h := by simp [h7])]; exact h8 k hk
theorem SpAt.setI {w : World} {S g i : Nat} {b : List Int} {e : Int} (h : SpAt w S g b i e) (j : Nat) (hj : j ≤ b.length) : SpAt (w.setCell ⟨S, 1, none⟩ (.int .i64 j)) S g b j e := by
  obtain ⟨off, cap, h1, h2, h3, h4, h5, h6, h7, h8⟩ := h
  refine ⟨off, cap, ?_, h2, hj, World.cell?_setCell_same (h := h4) .., ?_, fun j => by rw [World.frozen?_setCell]; exact h6 j, h7, fun k hk => ?_⟩
  · rw [World.cell?_setCell_other (h := by simp)]; exact h1
  · rw [World.cell?_setCell_other (h := by simp)]; exact h5
  · rw [World.cell?_setCell_other (h := by simp [h7])]; exact h8 k hk
theorem SpAt.drewN {w : World} {S g i : Nat} {b : List Int} {e : Int} (h : SpAt w S g b i e) (q : Nat) : SpAt (w.drewN q) S g b i e := h
theorem grown_drewN {w w1 : World} {b : Option Nat} (h : w.grownBy w1 b) (q : Nat) : w.grownBy (w1.drewN q) b := ⟨h.os, h.tape, h.output, h.size, h.block⟩
/-- with an error already there is nothing to read. -/
theorem snum_no (S g i : Nat) (b : List Int) (e : Int) (w : World) (h : SpAt w S g b i e) (he : e ≠ 0) :
    Calls Try.prog 100 #[.pointer (some ⟨S, 0, none⟩)] w fun r w' => r = .returned (.int .i64 0) ∧ w = w' := by
  obtain ⟨off, cap, h1, h2, h3, h4, h5, h6, h7, h8⟩ := h
  have hz := cell_lt h4
  have hne : (e != 0) = true := by rw [bne_iff_ne]; exact he
  clear h8 he
  go_enter Try.func100, Try.ntmps100
  go_wp2
  go_ret
  exact ⟨rfl, rfl⟩
set_option maxHeartbeats 1000000 in
theorem rnum_no (P g : Nat) (bs : List Int) (e : Int) (w : World) (h : RdAt w P g bs e) (he : e ≠ 0) :
    Calls Try.prog 97 #[.pointer (some ⟨P, 0, none⟩)] w fun r w' => r = .returned (.int .i64 0) ∧ RdAt w' P g bs e ∧ w.grownBy w' (some P) := by
  have H := Lib.hid h
  have HE := Lib.hid he
  have hne : (e != 0) = true := by rw [bne_iff_ne]; exact he
  clear h he
  go_enter Try.func97, Try.ntmps97
  go_wp2
  go_loopw [3, 4] (fun u i wr => u = .int .u64 0 ∧ i = .int .i64 0 ∧ wr = w) (fun _ _ _ => 0)
  case atStart => exact ⟨rfl, rfl, rfl⟩
  case round =>
    obtain ⟨rfl, rfl, rfl⟩ := hrel
    go_wp2_with fail
    refine (take_no P g 1 e bs _ H.out (.inl HE.out)).mono ?_; rintro r w1 ⟨rfl, hr, hg⟩
    have hr' : RdAt w1 P g bs e := by
      have : erE e 5 = e := by unfold erE; rw [if_neg HE.out]
      rw [this] at hr
      exact hr
    have HR := Lib.hid hr'
    obtain ⟨off, cap, h1, h2, h3, h4, h5, h6, h7⟩ := hr'
    have hz := cell_lt h4
    clear h1 h2 h3 h5 h7 hr
    go_wp2
    go_ret
    exact ⟨rfl, HR.out, hg⟩
end Go.Proofs.Ytpnmaopompfalaa
