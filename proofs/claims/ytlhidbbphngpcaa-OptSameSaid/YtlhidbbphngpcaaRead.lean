/-
  How arguments that came in read: structs, field by field.
-/
import Derived.Test.YtlhidbbphngpcaaRows
import Derived.ProofKit
import Derived.OpenShut
import Derived.ShutString
import Derived.ChangeOld
import Derived.Below
import Derived.Carry
import Derived.Deep.Slices
namespace Go.Proofs.Ytlhidbbphngpcaa
set_option linter.unusedVariables false
set_option linter.unusedSimpArgs false
open Go.ChangeShapes Go.WideShapes Go.ChangeAt Go.RowKit

section
variable {H : Type} {enc : TypeId × Value → H} {P : Program} {w : World} {b : Nat} {sp : Nat → Bool} {held : Bool}
theorem mapM_some {α β : Type} {f : α → Option β} : ∀ {l : List α} {r : List β}, l.mapM f = some r → ∀ a ∈ l, ∃ y, f a = some y
  | [], _, _, a, ha => by simp at ha
  | x :: l, r, h, a, ha => by
    simp only [List.mapM_cons, Option.bind_eq_bind, Option.bind_eq_some_iff, Option.pure_def, Option.some.injEq] at h
    obtain ⟨y, hy, r', hr', rfl⟩ := h
    rcases List.mem_cons.1 ha with rfl | ha
    · exact ⟨y, hy⟩
    · exact mapM_some hr' a ha
theorem trod_fields {fuel : Nat} {t : TypeId} {fs : Array Field} {cs : List Value} {y : DataW H × List MemPlace} (hs : P.underlying t = some (.struct fs)) (h : DataW.trod enc P w b sp held fuel t cs = some y) :
    cs.length = P.cellsOf t ∧ ∀ (j : Nat) f, fs[j]? = some f → ∃ m z, DataW.trod enc P w b sp held m f.type ((cs.drop f.offset).take (P.cellsOf f.type)) = some z := by
  cases fuel with
  | zero => simp [DataW.trod] at h
  | succ fuel =>
    simp only [DataW.trod, hs] at h
    split at h
    · rename_i hl
      obtain ⟨xs, hx, _⟩ := Option.map_eq_some_iff.1 h
      exact ⟨hl, fun j f hf => by obtain ⟨z, hz⟩ := mapM_some hx f (by simpa using Array.mem_of_getElem? hf); exact ⟨fuel, z, hz⟩⟩
    · cases h
end
theorem agg_of_toList {cs : Array Value} {l : List Value} (e : (Value.agg cs).cells.toList = l) : Value.agg cs = .agg l.toArray := by
  have e' : cs.toList = l := e
  rw [← e']
end Go.Proofs.Ytlhidbbphngpcaa
