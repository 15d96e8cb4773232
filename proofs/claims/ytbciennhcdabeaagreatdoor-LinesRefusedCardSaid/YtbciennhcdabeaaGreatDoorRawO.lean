/-
  A parameter of raw things.
-/
import Derived.Test.YtbciennhcdabeaaGreatDoorBase
import Derived.Test.YtbciennhcdabeaaGreatDoorKsB
namespace Go.Proofs.YtbciennhcdabeaaGreatDoor
set_option linter.unusedVariables false
set_option linter.unusedSimpArgs false
set_option maxRecDepth 100000
open Go.ChangeShapes Go.WideShapes Go.ChangeAt Go.RowKit Civ
theorem i6_wf {n : Int} (h : (Lit.int .i64 n).wf = true) : I6 n := by
  obtain ⟨h1, h2⟩ := bounds_i64 h
  exact ⟨h1, by omega⟩
section
variable {H : Type} {enc : TypeId × Value → H} {w : World} {r : Reach} {b0 b : Nat} {sp : Nat → Bool} {held : Bool} {fuel : Nat} {cs : List Value} {y : DataW H × List MemPlace} {v : Value} {d : DataW H} {p : List MemPlace}
theorem rdRawsZ (h : DataW.trod enc Tryz.prog w b sp held fuel 32 cs = some y) : ∃ v xs, cs = [v] ∧ SlAt w 4 RRz v xs :=
  slAt_of_trod Tryz.underlying32 cRaw (by omega) (fun m cs' z hz => by
    obtain ⟨k, a, b, c, e, w1, w2, w3, w4⟩ := rdRaw hz
    exact ⟨⟨k, a, b, c⟩, e, ⟨i6_wf w1, i6_wf w2, i6_wf w3, i6_wf w4⟩⟩) h
theorem openRawsZ (hv : Value.okWide Tryz.prog w r b0 32 v) (h : DataW.Trod enc Tryz.prog w b sp held 32 v d p) : ∃ xs, SlAt w 4 RRz v xs := by
  obtain ⟨a, len, cap, rfl⟩ := okWide_slice Tryz.underlying32 hv
  obtain ⟨fuel, hf⟩ := h
  obtain ⟨v', xs, e, h1⟩ := rdRawsZ hf
  have e' : [Value.slice a len cap] = [v'] := e
  simp only [List.cons.injEq, and_true] at e'
  subst e'
  exact ⟨xs, h1⟩
end
end Go.Proofs.YtbciennhcdabeaaGreatDoor
