/-
  sundialref.decimal: plain; walked.
-/
import Derived.Test.YtbciennhcdabeaaDoorSrcT
namespace Go.Proofs.YtbciennhcdabeaaDoor
set_option linter.unusedVariables false
set_option linter.unusedSimpArgs false
open Go.ChangeShapes Go.WideShapes Go.ChangeAt Go.RowKit

def dval (l : List Int) : Int := l.foldl (fun n b => 10 * n + (b - 48)) 0
theorem dval_snoc (l : List Int) (b : Int) : dval (l ++ [b]) = 10 * dval l + (b - 48) := by unfold dval; rw [List.foldl_append]; rfl
theorem dval_lt : ∀ (j : Nat) (l : List Int), l.length ≤ j → (∀ b ∈ l, 48 ≤ b ∧ b ≤ 57) → 0 ≤ dval l ∧ dval l < 10 ^ j
  | 0, l, h, _ => by
    have : l = [] := by cases l <;> simp_all
    subst this
    decide
  | j + 1, l, h, hd => by
    rcases List.eq_nil_or_concat l with rfl | ⟨r, b, rfl⟩
    · refine ⟨by decide, ?_⟩
      show (0 : Int) < 10 ^ (j + 1)
      exact Int.pow_pos (by decide)
    · rw [List.concat_eq_append] at h hd ⊢
      rw [dval_snoc]
      have h1 := dval_lt j r (by simp at h; omega) (fun x hx => hd x (by simp [hx]))
      have h2 := hd b (by simp)
      have h3 : (10 : Int) ^ (j + 1) = 10 * 10 ^ j := by rw [Int.pow_succ, Int.mul_comm]
      omega
def dcmBad (l : List Int) : Bool := !(decide (1 ≤ (l.length : Int) ∧ (l.length : Int) ≤ 6)) || (!(l.all digB) || (decide (1 < l.length) && (l.headD 0 == 48)))
def dcm (l : List Int) (most : Int) : Int × Int := if dcmBad l then (0, 4) else if most < dval l then (0, 2) else (dval l, 0)
theorem digB_iff (x : Int) : digB x = true ↔ 48 ≤ x ∧ x ≤ 57 := by unfold digB; simp
end Go.Proofs.YtbciennhcdabeaaDoor
