/-
  The window.
-/
import Derived.Test.YtpnmaopompfalaaCivil
import Derived.Test.YtpnmaopompfalaaRefB
namespace Go.Proofs.Ytpnmaopompfalaa
set_option linter.unusedVariables false
set_option linter.unusedSimpArgs false
open Go.ChangeShapes Go.WideShapes Go.ChangeAt Go.RowKit
open Civ

theorem winIn (w : World) : Calls Try.prog 105 #[] w fun e w' => e = .returned (.tuple #[.int .i64 (-2208988800), .int .i64 4102444800]) ∧ w = w' := by
  have h1 := fst_bd 1900 (by omega) (by omega)
  have h2 := fst_bd 2100 (by omega) (by omega)
  go_enter Try.func105, Try.ntmps105
  go_wp2_with (go_at_call 113; refine (first_any _ _ (by omega) (by omega)).mono ?_; rintro e w' ⟨rfl, rfl⟩)
  go_ret2
  exact ⟨ret_i2 (by rw [fst_1900]; rfl) (by rw [fst_2100]; rfl), rfl⟩
theorem winOf (w : World) : Calls Try.prog 69 #[] w fun e w' => e = .returned (.tuple #[.int .i64 (-2208988800), .int .i64 4102444800]) ∧ w = w' := by
  have h1 := fst_bd 1900 (by omega) (by omega)
  have h2 := fst_bd 2100 (by omega) (by omega)
  have h3 := ah_bd 1900 1 (by omega) (by omega)
  have h4 := ah_bd 2100 1 (by omega) (by omega)
  go_enter Try.func69, Try.ntmps69
  go_wp2_with (go_at_call 107; refine (daysto_any _ _ _ (by omega) (by omega) (by omega) (by omega)).mono ?_; rintro e w' ⟨rfl, rfl⟩)
  go_ret2
  exact ⟨ret_i2 (by rw [fst_1900, ah_one]; rfl) (by rw [fst_2100, ah_one]; rfl), rfl⟩
end Go.Proofs.Ytpnmaopompfalaa
