/-
  What the document's functions on days that are told and on instants answer.
-/
import Derived.Test.YtalaejdbmjbocaaRefB
namespace Go.Proofs.Ytalaejdbmjbocaa
set_option linter.unusedVariables false
set_option linter.unusedSimpArgs false
open Go.ChangeShapes Go.WideShapes Go.ChangeAt Go.RowKit Civ

theorem dayfault_ok (k a n : Int) (w : World) (h : chk k a n = 0) :
    Calls Try.prog 18 #[.agg #[.int .i64 k, .int .i64 a, .int .i64 n]] w fun e w' => e = .returned (.int .i64 0) ∧ Below w.heap.size w w' :=
  (dayfault_any k a n w).mono fun e w' ⟨he, hb⟩ => ⟨by rw [he, h], hb⟩
theorem momentfault_ok (mo k a n t c : Int) (w : World) (h : chkM mo k a n t c = 0) :
    Calls Try.prog 20 #[.agg #[.int .i64 mo, .int .i64 k, .int .i64 a, .int .i64 n, .int .i64 t, .int .i64 c]] w fun e w' => e = .returned (.int .i64 0) ∧ Below w.heap.size w w' :=
  (momentfault_any mo k a n t c w).mono fun e w' ⟨he, hb⟩ => ⟨by rw [he, h], hb⟩
theorem windowof_any (w : World) : Calls Try.prog 16 #[] w fun e w' => e = .returned (.tuple #[.int .i64 (-2208988800), .int .i64 4102444800]) ∧ w = w' := by
  have h1 := fst_bd 1900 (by omega) (by omega)
  have h2 := fst_bd 2100 (by omega) (by omega)
  have h3 := ah_bd 1900 1 (by omega) (by omega)
  have h4 := ah_bd 2100 1 (by omega) (by omega)
  go_enter Try.func16, Try.ntmps16
  go_wp2_with (go_at_call 22; refine (daysto_any _ _ _ (by omega) (by omega) (by omega) (by omega)).mono ?_; rintro e w' ⟨rfl, rfl⟩)
  go_ret2
  exact ⟨ret_i2 (by rw [fst_1900, ah_one]; rfl) (by rw [fst_2100, ah_one]; rfl), rfl⟩
end Go.Proofs.Ytalaejdbmjbocaa
