/-
  What the rows' conditions on the listed variables give the walks of code.Text and code.Parse: the tables of names and of powers of ten; a parameter of instructions.
-/
import Derived.Stop.LaidErr
import Derived.Lib.ItoaNum
import Derived.Test.YtlhidbbphngpcaaDoorNam
namespace Go.Proofs.YtlhidbbphngpcaaDoor
set_option linter.unusedVariables false
set_option linter.unusedSimpArgs false
set_option maxRecDepth 100000
open Go.ChangeShapes Go.WideShapes Go.ChangeAt Go.RowKit

theorem own : ownKnob Tryd.prog.godebug = none := by kernel_rfl
theorem laidOut : laidOutB Tryd.prog = true := by kernel_rfl
theorem tPow : (Tryd.prog.globals[4]?).map (·.type) = some 146 := by kernel_rfl
theorem cellsU64 : Tryd.prog.cellsOf 126 = 1 := by kernel_rfl
theorem cellsPow : Tryd.prog.cellsOf 146 = 20 := by kernel_rfl
theorem gPow : Tryd.prog.globalNamed "internal/strconv.uint64pow10" = some 4 := by kernel_rfl
theorem gNam : Tryd.prog.globalNamed "sundial/code.names" = some 0 := by kernel_rfl
theorem pow_of {W : World} {rest : List (String × DataW Unit)} (h : laidMet Tryd.prog (("internal/strconv.uint64pow10", Rows.laid_internal_strconv_uint64pow10) :: rest) W) : Lib.TabIs Tryd.prog W "internal/strconv.uint64pow10" .u64 Lib.pow10Tab := by
  have e : (Rows.laid_internal_strconv_uint64pow10 : DataW Unit) = Lib.tabData .u64 Lib.pow10Tab := by kernel_rfl
  rw [e] at h
  exact Lib.tabIs_of_head gPow tPow Tryd.underlying146 Tryd.underlying126 cellsU64 cellsPow h
theorem tabs_texts {W : World} (h : laidMet Tryd.prog Rows.codeTextsRow.laid W) : Lib.TabIs Tryd.prog W "internal/strconv.uint64pow10" .u64 Lib.pow10Tab ∧ NmT W := by
  have h1 : laidMet Tryd.prog (("math/bits.deBruijn32tab", Rows.laid_math_bits_deBruijn32tab) :: ("math/bits.deBruijn64tab", Rows.laid_math_bits_deBruijn64tab) :: ("internal/strconv.uint64pow10", Rows.laid_internal_strconv_uint64pow10) :: ("sundial/code.names", Rows.laid_sundial_code_names) :: []) W := h
  exact ⟨pow_of h1.tail.tail, nmT_of gNam h1.tail.tail.tail⟩
section
variable {H : Type} {enc : TypeId × Value → H} {w : World} {b b0 : Nat} {sp : Nat → Bool} {held : Bool} {r : Reach}
theorem openInstrs {v : Value} {d : DataW H} {p : List MemPlace} (hv : Value.okWide Tryd.prog w r b0 22 v) (h : DataW.Trod enc Tryd.prog w b sp held 22 v d p) : ∃ xs, SlAt w 2 RIns v xs := by
  obtain ⟨a, len, cap, rfl⟩ := okWide_slice Tryd.underlying22 hv
  obtain ⟨fuel, hf⟩ := h
  obtain ⟨v', xs, e, h1⟩ := rdInss hf
  have e' : [Value.slice a len cap] = [v'] := e
  simp only [List.cons.injEq, and_true] at e'
  subst e'
  exact ⟨xs, h1⟩
end
end Go.Proofs.YtlhidbbphngpcaaDoor
