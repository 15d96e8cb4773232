/-
  The law CodeTexts: its walk.
-/
import Derived.Test.YtlhidbbphngpcaaDoorTxtC
namespace Go.Proofs.YtlhidbbphngpcaaDoor
set_option linter.unusedVariables false
set_option linter.unusedSimpArgs false
open Go.ChangeShapes Go.WideShapes Go.ChangeAt Go.RowKit

set_option maxRecDepth 100000 in
set_option maxHeartbeats 4000000 in
theorem walkCodeTexts (vl : Value) (l : List Ins) (w : World) (h : SlAt w 2 RIns vl l) (hT : Lib.TabIs Tryd.prog w "internal/strconv.uint64pow10" .u64 Lib.pow10Tab ∧ NmT w) :
    Calls Tryd.prog 3 #[vl] w fun e w' => e = .returned (.bool true) ∧ Below w.heap.size w w' := by
  obtain ⟨al, cl, rfl, ll⟩ := h.shape
  have ll' := maxLen_eq _ ll
  have HL := Lib.hid h
  have HT := Lib.hid hT
  obtain ⟨S, hS⟩ : ∃ S, S = txtS l := ⟨_, rfl⟩
  obtain ⟨E, hE⟩ : ∃ E, E = txtE l := ⟨_, rfl⟩
  clear h hT ll
  go_enter Tryd.func3, Tryd.ntmps3
  go_wp2_with fail
  refine (text_any l _ w HL.out HT.out.2 HT.out.1).mono ?_
  rintro e w1 ⟨rfl, hb1⟩
  rw [← hS, ← hE]
  have HL1 := Lib.hid (HL.out.mono hb1 fun _ _ h => h)
  go_wp2_with fail
  refine (textOf_any l _ w1 HL1.out).mono ?_
  rintro e w2 ⟨rfl, hb2⟩
  rw [← hS, ← hE]
  clear hS hE
  have HB := Lib.hid (hb1.trans (hb2.mono hb1.size))
  clear hb1 hb2
  go_wp2
  go_ret
  exact ⟨rfl, HB.out⟩
end Go.Proofs.YtlhidbbphngpcaaDoor
