/-
  What an operator does to the stack; where an instruction may go on.
-/
import Derived.Test.YtpnmaopompfalaaCodA
import Derived.Test.YtpnmaopompfalaaCodD
import Derived.Test.YtpnmaopompfalaaLem
namespace Go.Proofs.Ytpnmaopompfalaa
set_option linter.unusedVariables false
set_option linter.unusedSimpArgs false
open Go.ChangeShapes Go.WideShapes Go.ChangeAt Go.RowKit

theorem effect_any (op : Int) (w : World) (hop : op = 1 ∨ op = 2 ∨ op = 3 ∨ op = 4 ∨ op = 5 ∨ op = 6) :
    Calls Try.prog 78 #[.int .i64 op] w fun e w' => e = .returned (.tuple #[.int .i64 (needI op), .int .i64 (moreI op)]) ∧ w = w' := by
  rcases hop with rfl | rfl | rfl | rfl | rfl | rfl
  all_goals
    go_enter Try.func78, Try.ntmps78
    go_wp2
    go_ret2
    exact ⟨rfl, rfl⟩
theorem lit_one (w : World) (t : Int) : (w.alloc (.cells #[.int .i64 t] 3)).ownsRow w.heap.size 3 1 (.slice (some ⟨w.heap.size, 0, none⟩) 1 1) [t].length ([t].flatMap encI) :=
  World.ownsRow_lit w #[.int .i64 t] 1 (Nat.le_refl _) (by decide) rfl
theorem lit_two (w : World) (t u : Int) : (w.alloc (.cells #[.int .i64 t, .int .i64 u] 3)).ownsRow w.heap.size 3 1 (.slice (some ⟨w.heap.size, 0, none⟩) 2 2) [t, u].length ([t, u].flatMap encI) :=
  World.ownsRow_lit w #[.int .i64 t, .int .i64 u] 2 (Nat.le_refl _) (by decide) rfl
theorem next_64 (i : Nat) (op n : Int) (hi : i ≤ 8000) (hn : 0 ≤ n) (hn8 : n ≤ 8000) : ∀ t ∈ nextI i ⟨op, n⟩, I64 t ∧ t ≤ 16001 := by
  intro t ht
  have h : t = (i : Int) + 1 ∨ t = (i : Int) + 1 + n := by
    unfold nextI at ht
    split at ht
    · simp at ht
    · split at ht
      · exact .inr (by simpa using ht)
      · split at ht
        · simpa using ht
        · exact .inl (by simpa using ht)
  rcases h with rfl | rfl
  · exact ⟨i64_of (by omega) (by omega), by omega⟩
  · exact ⟨i64_of (by omega) (by omega), by omega⟩
theorem next_any (i : Nat) (op n : Int) (w : World) (hi : i ≤ 8000) (hn : 0 ≤ n) (hn8 : n ≤ 8000) (hop : op = 1 ∨ op = 2 ∨ op = 3 ∨ op = 4 ∨ op = 5 ∨ op = 6) :
    Calls Try.prog 79 #[.int .i64 i, .agg #[.int .i64 op, .int .i64 n]] w fun e w' => ∃ v, e = .returned v ∧ w'.ownsRow w.heap.size 3 1 v (nextI i ⟨op, n⟩).length ((nextI i ⟨op, n⟩).flatMap encI) ∧ Below w.heap.size w w' := by
  have hs := size_alloc w (.cells #[.int .i64 op, .int .i64 n] 71)
  have hle : w.heap.size ≤ w.heap.size + 1 := Nat.le_succ _
  have L1 := lit_one (w.alloc (.cells #[.int .i64 op, .int .i64 n] 71)) ((i : Int) + 1)
  have L2 := lit_one (w.alloc (.cells #[.int .i64 op, .int .i64 n] 71)) ((i : Int) + 1 + n)
  have L3 := lit_two (w.alloc (.cells #[.int .i64 op, .int .i64 n] 71)) ((i : Int) + 1) ((i : Int) + 1 + n)
  rw [hs] at L1 L2 L3
  have M1 := Lib.hid (ownsRow_base hle L1)
  have M2 := Lib.hid (ownsRow_base hle L2)
  have M3 := Lib.hid (ownsRow_base hle L3)
  clear hs L1 L2 L3
  have hi' : (i : Int) ≤ 8000 := by omega
  rcases hop with rfl | rfl | rfl | rfl | rfl | rfl
  all_goals
    go_enter Try.func79, Try.ntmps79
    go_wp2
    go_ret
    first
      | exact ⟨_, rfl, M1.out, below_alloc2 (Nat.le_refl _) _ _⟩
      | exact ⟨_, rfl, M2.out, below_alloc2 (Nat.le_refl _) _ _⟩
      | exact ⟨_, rfl, M3.out, below_alloc2 (Nat.le_refl _) _ _⟩
      | exact ⟨_, rfl, World.ownsRow_nil _ _ _ _, (Below.refl _ _).alloc (Nat.le_refl _) _⟩
end Go.Proofs.Ytpnmaopompfalaa
