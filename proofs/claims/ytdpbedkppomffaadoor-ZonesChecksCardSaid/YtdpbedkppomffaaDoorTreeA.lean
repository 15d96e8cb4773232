/-
  What the functions on answers and forests answer: answers.
-/
import Derived.Test.YtdpbedkppomffaaDoorBase
import Derived.Shelf.Abstract
namespace Go.Proofs.YtdpbedkppomffaaDoor
set_option linter.unusedVariables false
set_option linter.unusedSimpArgs false
open Go.ChangeShapes Go.WideShapes Go.ChangeAt Go.RowKit

def oddB (n : Int) : Bool := decide (n < -172800) || decide (172800 < n)
/-- where the first one is; -1: none. -/
def fidx {α : Type} (p : α → Bool) : List α → Int
  | [] => -1
  | x :: xs => if p x then 0 else if fidx p xs < 0 then -1 else fidx p xs + 1
theorem fidx_lo {α : Type} (p : α → Bool) : ∀ xs : List α, -1 ≤ fidx p xs ∧ fidx p xs < xs.length
  | [] => by simp [fidx]
  | x :: xs => by
    have := fidx_lo p xs
    unfold fidx; split
    · simp
    · split <;> simp <;> omega
/-- the first at which it holds: at k, none ahead of it. -/
theorem fidx_at {α : Type} (p : α → Bool) : ∀ (xs : List α) (k : Nat) (h : k < xs.length), (∀ i (hi : i < k), p (xs[i]'(by omega)) = false) → p xs[k] = true → fidx p xs = k
  | x :: xs, 0, _, _, hp => by unfold fidx; simp at hp; simp [hp]
  | x :: xs, k + 1, h, hn, hp => by
    have h0 := hn 0 (by omega)
    simp at h0
    have ih := fidx_at p xs k (by simpa using h) (fun i hi => by have := hn (i + 1) (by omega); simpa using this) (by simpa using hp)
    unfold fidx; simp [h0]; omega
theorem fidx_none {α : Type} (p : α → Bool) : ∀ (xs : List α), (∀ i (hi : i < xs.length), p xs[i] = false) → fidx p xs = -1
  | [], _ => rfl
  | x :: xs, hn => by
    have h0 := hn 0 (by simp)
    simp at h0
    have ih := fidx_none p xs (fun i hi => by have := hn (i + 1) (by simpa using hi); simpa using this)
    unfold fidx; simp [h0, ih]
theorem fidx_any {α : Type} (p : α → Bool) : ∀ (xs : List α), decide (0 ≤ fidx p xs) = xs.any p
  | [] => rfl
  | x :: xs => by
    have ih := fidx_any p xs
    have hb := fidx_lo p xs
    unfold fidx
    cases h : p x
    · simp [h]
      rw [← ih]
      split <;> simp <;> omega
    · simp [h]
/-- the cell of element i. -/
theorem intCell {w : World} {b off : Nat} {xs : List Int} (h4 : ∀ (i : Nat) (h : i < xs.length), ∃ cs : List Value, cs.length = 1 ∧ RInt cs xs[i] ∧ ∀ j, j < 1 → w.cell? ⟨b, off + i * 1 + j, none⟩ = cs[j]?) (i : Nat) (h : i < xs.length) :
    w.cell? ⟨b, off + i, none⟩ = some (.int .i64 xs[i]) ∧ I64 xs[i] := by
  obtain ⟨cs, _, ⟨rfl, hw⟩, hc⟩ := h4 i h
  have := hc 0 (by omega)
  rw [Nat.mul_one, Nat.add_zero] at this
  exact ⟨this, hw⟩
def ansBad (a : Ans) : Bool := oddB a.ck.off || a.offs.any oddB || decide (a.jump < -1099511627776) || decide (1099511627776 < a.jump)
def ansBig (a : Ans) : Bool := decide (6 < (a.offs.length : Int)) || decide (24 < (a.ck.nm.size : Int))
/-- what is wrong with an answer. -/
def ansE (a : Ans) : Int := if ansBad a = true then 2 else if ansBig a = true then 1 else 0
theorem SlAt.shape {α : Type} {w : World} {sz : Nat} {R : List Value → α → Prop} {v : Value} {xs : List α} (h : SlAt w sz R v xs) : ∃ a cap, v = .slice a xs.length cap ∧ xs.length ≤ maxLen := by
  rcases h with ⟨a, cap, rfl, rfl⟩ | ⟨b, off, cap, rfl, h0, h1, h2, h3, h4⟩
  · exact ⟨a, cap, rfl, by simp⟩
  · exact ⟨_, cap, rfl, by omega⟩
theorem maxLen_eq (n : Nat) (h : n ≤ maxLen) : n ≤ 9223372036854775807 := by unfold maxLen at h; omega
theorem ansE_2 {off jump : Int} {sav : Bool} {nm : ByteArray} {offs : List Int} (h : oddB off = true ∨ offs.any oddB = true ∨ jump < -1099511627776 ∨ 1099511627776 < jump) : ansE ⟨⟨off, sav, nm⟩, offs, jump⟩ = 2 := by
  unfold ansE; rw [if_pos]; unfold ansBad; rcases h with h | h | h | h <;> simp only [h, decide_true, Bool.or_true, Bool.true_or]
theorem ansE_1 {off jump : Int} {sav : Bool} {nm : ByteArray} {offs : List Int} (h1 : oddB off = false) (h2 : offs.any oddB = false) (h3 : -1099511627776 ≤ jump) (h4 : jump ≤ 1099511627776) (h5 : 6 < (offs.length : Int) ∨ 24 < (nm.size : Int)) : ansE ⟨⟨off, sav, nm⟩, offs, jump⟩ = 1 := by
  unfold ansE ansBad ansBig; rw [if_neg, if_pos]
  · simp only [Bool.or_eq_true, decide_eq_true_eq]; omega
  · simp only [h1, h2, Bool.or_eq_true, decide_eq_true_eq]; simp; omega
theorem ansE_0 {off jump : Int} {sav : Bool} {nm : ByteArray} {offs : List Int} (h1 : oddB off = false) (h2 : offs.any oddB = false) (h3 : -1099511627776 ≤ jump) (h4 : jump ≤ 1099511627776) (h5 : (offs.length : Int) ≤ 6) (h6 : (nm.size : Int) ≤ 24) : ansE ⟨⟨off, sav, nm⟩, offs, jump⟩ = 0 := by
  unfold ansE ansBad ansBig; rw [if_neg, if_neg]
  · simp only [Bool.or_eq_true, decide_eq_true_eq]; omega
  · simp only [h1, h2, Bool.or_eq_true, decide_eq_true_eq]; simp; omega
theorem odd_in (n : Int) : oddB n = !decide (-172800 ≤ n ∧ n ≤ 172800) := by
  unfold oddB; rw [Bool.eq_iff_iff]; simp
end Go.Proofs.YtdpbedkppomffaaDoor
