/-
  What the function of package civil on instants answers.
-/
import Derived.Test.YtalaejdbmjbocaaCivilD
namespace Go.Proofs.Ytalaejdbmjbocaa
set_option linter.unusedVariables false
set_option linter.unusedSimpArgs false
open Go.ChangeShapes Go.WideShapes Go.ChangeAt Go.RowKit Civ

theorem checkmoment_ok (mo k a n t c : Int) (w : World) (h : chkM mo k a n t c = 0) :
    Calls Try.prog 19 #[.agg #[.int .i64 mo, .int .i64 k, .int .i64 a, .int .i64 n, .int .i64 t, .int .i64 c]] w fun e w' => e = .returned (.int .i64 0) ∧ Below w.heap.size w w' :=
  (checkmoment_any mo k a n t c w).mono fun e w' ⟨he, hb⟩ => ⟨by rw [he, h], hb⟩
end Go.Proofs.Ytalaejdbmjbocaa
