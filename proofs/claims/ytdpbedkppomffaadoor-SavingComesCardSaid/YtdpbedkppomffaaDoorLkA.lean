/-
  LinksLong, plain: what is wrong with the sources that the law makes.
-/
import Derived.Test.YtdpbedkppomffaaDoorZonW0
import Derived.Test.YtdpbedkppomffaaDoorRdA
import Derived.Lib.ItoaMem
namespace Go.Proofs.YtdpbedkppomffaaDoor
set_option linter.unusedVariables false
set_option linter.unusedSimpArgs false
open Go.ChangeShapes Go.WideShapes Go.ChangeAt Go.RowKit Civ

def lkZ : Zon := ⟨⟨#[122]⟩, [⟨0, ⟨#[]⟩, 0, ⟨#[88]⟩, false, 0, ⟨0, 0, 0, 0, 0, 0⟩⟩]⟩
def lkN (i : Nat) : ByteArray := ⟨(108 :: Lib.itoa (i : Int)).toArray⟩
def lkL : Nat → List Lnk
  | 0 => []
  | 1 => [⟨⟨#[122]⟩, lkN 0⟩]
  | k + 2 => lkL (k + 1) ++ [⟨lkN k, lkN (k + 1)⟩]
theorem lkE (k : Nat) (h1 : 1 ≤ k) (h2 : k ≤ 12) : srcE ⟨[], [lkZ], lkL k⟩ = if 8 < k then 9 else 0 := by
  have : k = 1 ∨ k = 2 ∨ k = 3 ∨ k = 4 ∨ k = 5 ∨ k = 6 ∨ k = 7 ∨ k = 8 ∨ k = 9 ∨ k = 10 ∨ k = 11 ∨ k = 12 := by omega
  rcases this with rfl | rfl | rfl | rfl | rfl | rfl | rfl | rfl | rfl | rfl | rfl | rfl <;> decide +kernel
theorem lkRing : srcE ⟨[], [lkZ], [⟨⟨#[98]⟩, ⟨#[97]⟩⟩, ⟨⟨#[97]⟩, ⟨#[98]⟩⟩]⟩ = 9 := by decide +kernel
theorem lkLost : srcE ⟨[], [lkZ], [⟨⟨#[98]⟩, ⟨#[97]⟩⟩]⟩ = 6 := by decide +kernel
theorem lkTwice : srcE ⟨[], [lkZ], [⟨⟨#[122]⟩, ⟨#[122]⟩⟩]⟩ = 7 := by decide +kernel
end Go.Proofs.YtdpbedkppomffaaDoor
