/-
  How a slice of raw numbers that came in reads.
-/
import Derived.Test.YtlhidbbphngpcaaKfA
import Derived.Test.YtlhidbbphngpcaaReadModel
namespace Go.Proofs.Ytlhidbbphngpcaa
set_option linter.unusedVariables false
set_option linter.unusedSimpArgs false
set_option maxRecDepth 100000
open Go.ChangeShapes Go.WideShapes Go.ChangeAt Go.RowKit
section
variable {H : Type} {enc : TypeId × Value → H} {w : World} {r : Reach} {b0 b : Nat} {sp : Nat → Bool} {held : Bool} {fuel : Nat} {cs : List Value} {y : DataW H × List MemPlace} {v : Value} {d : DataW H} {p : List MemPlace}
theorem rdRaws (h : DataW.trod enc Try.prog w b sp held fuel 57 cs = some y) : ∃ v xs, cs = [v] ∧ SlAt w 4 RRw v xs :=
  slAt_of_trod Try.underlying57 cRaw (by omega) (fun m cs' z hz => by
    obtain ⟨k, a, b, c, e, w1, w2, w3, w4⟩ := rdRaw hz
    exact ⟨⟨k, a, b, c⟩, e, w1, w2, w3, w4⟩) h
theorem openRaws (hv : Value.okWide Try.prog w r b0 57 v) (h : DataW.Trod enc Try.prog w b sp held 57 v d p) : ∃ xs, SlAt w 4 RRw v xs := by
  obtain ⟨a, len, cap, rfl⟩ := okWide_slice Try.underlying57 hv
  obtain ⟨fuel, hf⟩ := h
  obtain ⟨v', xs, e, h1⟩ := rdRaws hf
  have e' : [Value.slice a len cap] = [v'] := e
  simp only [List.cons.injEq, and_true] at e'
  subst e'
  exact ⟨xs, h1⟩
end
end Go.Proofs.Ytlhidbbphngpcaa
