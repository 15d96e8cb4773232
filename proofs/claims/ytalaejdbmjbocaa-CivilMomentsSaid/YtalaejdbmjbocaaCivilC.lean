/-
  What the functions of package civil on the numbers of days answer.
-/
import Derived.Test.YtalaejdbmjbocaaCivil
import Derived.Deep.Light
namespace Go.Proofs.Ytalaejdbmjbocaa
set_option linter.unusedVariables false
set_option linter.unusedSimpArgs false
open Go.ChangeShapes Go.WideShapes Go.ChangeAt Go.RowKit Civ

theorem date_end (n y m : Int) (a1 : fst y ≤ n) (a2 : n < fst (y + 1)) (b1 : 1899 ≤ y) (b2 : y ≤ 2100) (c1 : 1 ≤ m) (c2 : m ≤ 12) (d1 : ah y m ≤ n - fst y) (d2 : n - fst y < ah y (m + 1)) :
    numOk y m (n - fst y - ah y m + 1) ∧ num y m (n - fst y - ah y m + 1) = n := by
  rw [ah_succ y m c1 c2] at d2
  refine ⟨⟨b1, b2, c1, c2, by omega, by omega⟩, by unfold num; omega⟩
def DateIs (n : Int) (w : World) (e : Ending) (w' : World) : Prop := ∃ y m d : Int, e = .returned (.tuple #[.int .i64 y, .int .i64 m, .int .i64 d, .int .i64 0]) ∧ numOk y m d ∧ num y m d = n ∧ w = w'
end Go.Proofs.Ytalaejdbmjbocaa
