/-
  A number from 0 to many - 1.
-/
import Derived.Test.YtlhidbbphngpcaaKit
namespace Go.Proofs.Ytlhidbbphngpcaa
set_option linter.unusedVariables false
set_option linter.unusedSimpArgs false
open Go.ChangeShapes Go.WideShapes Go.ChangeAt Go.RowKit

theorem pick_bd (a b : Int) (h : 0 < b) : 0 ≤ a % b ∧ a % b < b := ⟨Int.emod_nonneg _ (by omega), Int.emod_lt_of_pos _ h⟩
def pkv (n many : Int) : Int := (if n < 0 then -(n + 1) else n) % many
theorem pkv_bd (n many : Int) (h : 0 < many) : 0 ≤ pkv n many ∧ pkv n many < many := pick_bd _ _ h
theorem picked_v (n many : Int) (w : World) (hn : (Lit.int .i64 n).wf = true) (h1 : 1 ≤ many) (h2 : many ≤ 9000000000) :
    Calls Try.prog 19 #[.int .i64 n, .int .i64 many] w fun e w' => e = .returned (.int .i64 (pkv n many)) ∧ w = w' := by
  obtain ⟨b1, b2⟩ := bounds_i64 hn
  clear hn
  by_cases h : n < 0
  · have hp : -(n + 1).tmod many = pkv n many := by
      unfold pkv; rw [if_pos h, ← Int.tmod_eq_emod_of_nonneg (by omega), Int.neg_tmod]
    have HP := Lib.hid hp
    clear hp
    go_enter Try.func19, Try.ntmps19
    go_wp2
    go_ret
    exact ⟨ret_int HP.out, rfl⟩
  · have hp : n % many = pkv n many := by unfold pkv; rw [if_neg h]
    have HP := Lib.hid hp
    clear hp
    go_enter Try.func19, Try.ntmps19
    go_wp2
    go_ret
    exact ⟨ret_int HP.out, rfl⟩
end Go.Proofs.Ytlhidbbphngpcaa
