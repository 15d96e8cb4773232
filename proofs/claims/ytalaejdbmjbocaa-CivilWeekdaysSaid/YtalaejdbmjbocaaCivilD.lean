/-
  What the functions of package civil on days that are told answer.
-/
import Derived.Test.YtalaejdbmjbocaaCivilB
namespace Go.Proofs.Ytalaejdbmjbocaa
set_option linter.unusedVariables false
set_option linter.unusedSimpArgs false
open Go.ChangeShapes Go.WideShapes Go.ChangeAt Go.RowKit Civ

theorem checkday_ok (k a n : Int) (w : World) (h : chk k a n = 0) :
    Calls Try.prog 17 #[.agg #[.int .i64 k, .int .i64 a, .int .i64 n]] w fun e w' => e = .returned (.int .i64 0) ∧ Below w.heap.size w w' :=
  (checkday_any k a n w).mono fun e w' ⟨he, hb⟩ => ⟨by rw [he, h], hb⟩
end Go.Proofs.Ytalaejdbmjbocaa
