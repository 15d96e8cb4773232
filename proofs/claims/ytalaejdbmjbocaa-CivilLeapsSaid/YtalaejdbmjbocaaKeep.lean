/-
  The laws on days without the document's answer: what each law's own function answers.
-/
import Derived.Test.YtalaejdbmjbocaaCivilC
import Derived.Test.YtalaejdbmjbocaaCivilE
namespace Go.Proofs.Ytalaejdbmjbocaa
set_option linter.unusedVariables false
set_option linter.unusedSimpArgs false
open Go.ChangeShapes Go.WideShapes Go.ChangeAt Go.RowKit Civ

theorem pick_bd (a b : Int) (h : 0 < b) : 0 ≤ a % b ∧ a % b < b := ⟨Int.emod_nonneg _ (by omega), Int.emod_lt_of_pos _ h⟩
def PickIs (many : Int) (w : World) (e : Ending) (w' : World) : Prop := ∃ p : Int, 0 ≤ p ∧ p < many ∧ e = .returned (.int .i64 p) ∧ w = w'
theorem picked_any (n many : Int) (w : World) (hn : (Lit.int .i64 n).wf = true) (h1 : 1 ≤ many) (h2 : many ≤ 9000000000) :
    Calls Try.prog 14 #[.int .i64 n, .int .i64 many] w (PickIs many w) := by
  obtain ⟨b1, b2⟩ := bounds_i64 hn
  clear hn
  by_cases h : n < 0
  · have hp := pick_bd (-(n + 1)) many (by omega)
    rw [← Int.tmod_eq_emod_of_nonneg (by omega), Int.neg_tmod] at hp
    have HP := Lib.hid hp
    clear hp
    go_enter Try.func14, Try.ntmps14
    go_wp2
    go_ret
    exact ⟨_, HP.out.1, HP.out.2, rfl, rfl⟩
  · have hp := pick_bd n many (by omega)
    have HP := Lib.hid hp
    clear hp
    go_enter Try.func14, Try.ntmps14
    go_wp2
    go_ret
    exact ⟨_, HP.out.1, HP.out.2, rfl, rfl⟩
theorem window_any (w : World) : Calls Try.prog 15 #[] w fun e w' => e = .returned (.tuple #[.int .i64 (-2208988800), .int .i64 4102444800]) ∧ w = w' := by
  have h1 := fst_bd 1900 (by omega) (by omega)
  have h2 := fst_bd 2100 (by omega) (by omega)
  go_enter Try.func15, Try.ntmps15
  go_wp2_with (go_at_call 21; refine (first_any _ _ (by omega) (by omega)).mono ?_; rintro e w' ⟨rfl, rfl⟩)
  go_ret2
  exact ⟨ret_i2 (by rw [fst_1900]; rfl) (by rw [fst_2100]; rfl), rfl⟩
end Go.Proofs.Ytalaejdbmjbocaa
