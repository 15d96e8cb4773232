/-
  code.Gen of a forest that may not be.
-/
import Derived.Test.YtpnmaopompfalaaGenI
import Derived.Test.YtpnmaopompfalaaGenK
namespace Go.Proofs.Ytpnmaopompfalaa
set_option linter.unusedVariables false
set_option linter.unusedSimpArgs false
open Go.ChangeShapes Go.WideShapes Go.ChangeAt Go.RowKit

/-- Gen's two first boxes: the forest, the result. -/
def GnQ (w wx : World) (vn va : Value) : Prop := wx.cell? ⟨w.heap.size, 0, none⟩ = some vn ∧ wx.cell? ⟨w.heap.size, 1, none⟩ = some va ∧ GnB wx (w.heap.size + 1) (.slice none 0 0) (.slice none 0 0) (.slice none 0 0) ∧ Below w.heap.size w wx ∧ w.heap.size + 2 ≤ wx.heap.size
theorem GnQ.new (w : World) (vn va : Value) (t t' : TypeId) : GnQ w ((w.alloc (.cells #[vn, va] t)).alloc (.cells #[.slice none 0 0, .slice none 0 0, .slice none 0 0] t')) vn va := by
  obtain ⟨h1, h2, h3, h4, h5⟩ := two_new w #[vn, va] #[.slice none 0 0, .slice none 0 0, .slice none 0 0] t t'
  exact ⟨h2 0, h2 1, ⟨h3 0, h3 1, h3 2, h5⟩, below_alloc2 (Nat.le_refl _) _ _, by rw [h1]; exact Nat.le_refl _⟩
theorem GnQ.keep {w wx w' : World} {vn va : Value} (h : GnQ w wx vn va) (h0 : w'.heap[w.heap.size]? = wx.heap[w.heap.size]?) (h1 : w'.heap[w.heap.size + 1]? = wx.heap[w.heap.size + 1]?) (hB : Below w.heap.size wx w') : GnQ w w' vn va :=
  ⟨(blk_cell h0 _).trans h.1, (blk_cell h0 _).trans h.2.1, h.2.2.1.keep h1, h.2.2.2.1.trans hB, Nat.le_trans h.2.2.2.2 hB.size⟩
theorem GnQ.below {w wx w' : World} {vn va : Value} (h : GnQ w wx vn va) (hB : Below wx.heap.size wx w') : GnQ w w' vn va :=
  h.keep (hB.block _ (by have := h.2.2.2.2; omega)) (hB.block _ (by have := h.2.2.2.2; omega)) (hB.mono (by have := h.2.2.2.2; omega))
theorem GnQ.facts {w wx : World} {vn va : Value} (h : GnQ w wx vn va) : wx.cell? ⟨w.heap.size, 0, none⟩ = some vn ∧ wx.cell? ⟨w.heap.size, 1, none⟩ = some va ∧ w.heap.size < wx.heap.size := ⟨h.1, h.2.1, by have := h.2.2.2.2; omega⟩
theorem GnQ.res {w wx : World} {vn va : Value} (h : GnQ w wx vn va) : wx.cell? ⟨w.heap.size + 1, 0, none⟩ = some (.slice none 0 0) ∧ wx.cell? ⟨w.heap.size + 1, 1, none⟩ = some (.slice none 0 0) ∧ wx.cell? ⟨w.heap.size + 1, 2, none⟩ = some (.slice none 0 0) ∧ (∀ j, wx.frozen? ⟨w.heap.size + 1, j, none⟩ = false) ∧ w.heap.size + 1 < wx.heap.size :=
  ⟨h.2.2.1.1, h.2.2.1.2.1, h.2.2.1.2.2.1, h.2.2.1.2.2.2, h.2.2.1.lt⟩
theorem check_lit (f : Frs) (vn va : Value) (w : World) (hf : FrsAt w vn va f) {e : Int} (h : frsE f = e) :
    Calls Try.prog 24 #[.agg #[vn, va]] w fun r w' => r = .returned (.int .i64 e) ∧ Below w.heap.size w w' := h ▸ check_any f vn va w hf
set_option maxRecDepth 100000 in
set_option maxHeartbeats 4000000 in
theorem gen_bad (vn va : Value) (f : Frs) (w : World) (hf : FrsAt w vn va f) {e : Int} (h : frsE f = e) (he : e ≠ 0) :
    Calls Try.prog 43 #[.agg #[vn, va]] w fun e' w' => e' = .returned (.tuple #[.agg #[.slice none 0 0, .slice none 0 0, .slice none 0 0], .int .i64 e]) ∧ Below w.heap.size w w' := by
  have Q0 := Lib.hid (GnQ.new w vn va 34 58)
  have HF := Lib.hid hf
  have HE := Lib.hid h
  clear hf h
  go_enter Try.func43, Try.ntmps43
  go_wp2_with fail
  refine (check_lit f vn va _ (HF.out.mono (by exact Q0.out.2.2.2.1)) HE.out).mono ?_; rintro r w1 ⟨rfl, hb1⟩
  have Q1 := Lib.hid (Q0.out.below hb1)
  obtain ⟨r0, r1, r2, r3, r4⟩ := Q1.out.res
  clear hb1
  go_wp2
  have HB : Hid (Below w.heap.size w w1) := Q1.out.2.2.2.1
  refine bodyPost_ret (v := .tuple #[.agg #[.slice none 0 0, .slice none 0 0, .slice none 0 0], .int .i64 e]) (by simp [results, Try.results43, go_sem, r0, r1, r2, r4]) rfl ⟨rfl, ?_⟩
  exact ((HB.out.setCell (by show w.heap.size ≤ w.heap.size + 1; omega) _).setCell (by show w.heap.size ≤ w.heap.size + 1; omega) _).setCell (by show w.heap.size ≤ w.heap.size + 1; omega) _
end Go.Proofs.Ytpnmaopompfalaa
