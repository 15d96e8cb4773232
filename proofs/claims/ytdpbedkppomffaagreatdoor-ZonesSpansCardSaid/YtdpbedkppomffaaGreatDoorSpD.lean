/-
  sundialref.sorted, plain: two rising lists put together, each number once.
-/
import Derived.Test.YtdpbedkppomffaaGreatDoorSpnA
namespace Go.Proofs.YtdpbedkppomffaaGreatDoor
set_option linter.unusedVariables false
set_option linter.unusedSimpArgs false
open Go.ChangeShapes Go.WideShapes Go.ChangeAt Go.RowKit Civ

/-- two lists that rise, put together. -/
def mgB : List Int → List Int → List Int
  | a, [] => a
  | [], y :: b => y :: mgB [] b
  | x :: a, y :: b => if x < y then x :: mgB a (y :: b) else if x = y then y :: mgB a b else y :: mgB (x :: a) b
termination_by a b => a.length + b.length
theorem mgB_nil (a : List Int) : mgB a [] = a := by unfold mgB; rfl
theorem mgB_none (y : Int) (b : List Int) : mgB [] (y :: b) = y :: mgB [] b := by rw [mgB]
theorem mgB_lt {x y : Int} (a b : List Int) (h : x < y) : mgB (x :: a) (y :: b) = x :: mgB a (y :: b) := by rw [mgB, if_pos h]
theorem mgB_eq (y : Int) (a b : List Int) : mgB (y :: a) (y :: b) = y :: mgB a b := by rw [mgB, if_neg (by omega), if_pos rfl]
theorem mgB_gt {x y : Int} (a b : List Int) (h : y < x) : mgB (x :: a) (y :: b) = y :: mgB (x :: a) b := by rw [mgB, if_neg (by omega), if_neg (by omega)]
theorem mgB_mem : ∀ (n : Nat) (a b : List Int), a.length + b.length ≤ n → ∀ z, z ∈ mgB a b ↔ z ∈ a ∨ z ∈ b
  | _, a, [], _, z => by rw [mgB_nil]; simp
  | 0, a, y :: b, h, z => by simp at h
  | n + 1, [], y :: b, h, z => by
    rw [mgB_none, List.mem_cons, mgB_mem n [] b (by simp at h ⊢; omega) z]
    simp
  | n + 1, x :: a, y :: b, h, z => by
    rcases Int.lt_trichotomy x y with h1 | h1 | h1
    · rw [mgB_lt _ _ h1, List.mem_cons, mgB_mem n a (y :: b) (by simp at h ⊢; omega) z]
      simp only [List.mem_cons, or_assoc]
    · subst h1
      rw [mgB_eq, List.mem_cons, mgB_mem n a b (by simp at h ⊢; omega) z, List.mem_cons, List.mem_cons]
      constructor
      · rintro (h | h | h)
        · exact .inl (.inl h)
        · exact .inl (.inr h)
        · exact .inr (.inr h)
      · rintro ((h | h) | (h | h))
        · exact .inl h
        · exact .inr (.inl h)
        · exact .inl h
        · exact .inr (.inr h)
    · rw [mgB_gt _ _ h1, List.mem_cons, mgB_mem n (x :: a) b (by simp at h ⊢; omega) z, List.mem_cons, List.mem_cons]
      constructor
      · rintro (h | (h | h) | h)
        · exact .inr (.inl h)
        · exact .inl (.inl h)
        · exact .inl (.inr h)
        · exact .inr (.inr h)
      · rintro ((h | h) | (h | h))
        · exact .inr (.inl (.inl h))
        · exact .inr (.inl (.inr h))
        · exact .inl h
        · exact .inr (.inr h)
theorem mgB_rise : ∀ (n : Nat) (a b : List Int), a.length + b.length ≤ n → a.Pairwise (· < ·) → b.Pairwise (· < ·) → (mgB a b).Pairwise (· < ·)
  | _, a, [], _, ha, _ => by rw [mgB_nil]; exact ha
  | 0, a, y :: b, h, _, _ => by simp at h
  | n + 1, [], y :: b, h, ha, hb => by
    rw [mgB_none]
    have h2 := List.pairwise_cons.1 hb
    refine List.pairwise_cons.2 ⟨fun z hz => ?_, mgB_rise n [] b (by simp at h ⊢; omega) ha h2.2⟩
    rcases (mgB_mem _ _ _ (Nat.le_refl _) z).1 hz with h3 | h3
    · cases h3
    · exact h2.1 z h3
  | n + 1, x :: a, y :: b, h, ha, hb => by
    have h2 := List.pairwise_cons.1 ha
    have h3 := List.pairwise_cons.1 hb
    rcases Int.lt_trichotomy x y with h1 | h1 | h1
    · rw [mgB_lt _ _ h1]
      refine List.pairwise_cons.2 ⟨fun z hz => ?_, mgB_rise n a (y :: b) (by simp at h ⊢; omega) h2.2 hb⟩
      rcases (mgB_mem _ _ _ (Nat.le_refl _) z).1 hz with h4 | h4
      · exact h2.1 z h4
      · rcases List.mem_cons.1 h4 with rfl | h4
        · exact h1
        · have := h3.1 z h4; omega
    · subst h1
      rw [mgB_eq]
      refine List.pairwise_cons.2 ⟨fun z hz => ?_, mgB_rise n a b (by simp at h ⊢; omega) h2.2 h3.2⟩
      rcases (mgB_mem _ _ _ (Nat.le_refl _) z).1 hz with h4 | h4
      · exact h2.1 z h4
      · exact h3.1 z h4
    · rw [mgB_gt _ _ h1]
      refine List.pairwise_cons.2 ⟨fun z hz => ?_, mgB_rise n (x :: a) b (by simp at h ⊢; omega) ha h3.2⟩
      rcases (mgB_mem _ _ _ (Nat.le_refl _) z).1 hz with h4 | h4
      · rcases List.mem_cons.1 h4 with rfl | h4
        · exact h1
        · have := h2.1 z h4; omega
      · exact h3.1 z h4
theorem mgB_srt (l m : List Int) : mgB (srtC l) (srtC m) = srtC (l ++ m) := by
  refine rise_ext (mgB_rise _ _ _ (Nat.le_refl _) (srtC_rise l) (srtC_rise m)) (srtC_rise _) fun x => ?_
  rw [mgB_mem _ _ _ (Nat.le_refl _), srtC_mem, srtC_mem, srtC_mem, List.mem_append]
theorem srtC_short {l : List Int} (h : l.length < 2) : srtC l = l := by
  refine rise_ext (srtC_rise l) ?_ fun x => srtC_mem l x
  match l, h with
  | [], _ => exact List.Pairwise.nil
  | [x], _ => exact List.pairwise_singleton _ _
theorem mgB_len (n : Nat) : ∀ (a b : List Int), a.length + b.length ≤ n → (mgB a b).length ≤ a.length + b.length := by
  induction n with
  | zero =>
    intro a b h
    cases b with
    | nil => rw [mgB_nil]; simp
    | cons y b => simp at h
  | succ n ih =>
    intro a b h
    match a, b, h with
    | a, [], _ => rw [mgB_nil]; simp
    | [], y :: b, h =>
      rw [mgB_none]
      have := ih [] b (by simp at h ⊢; omega)
      simp at this ⊢; omega
    | x :: a, y :: b, h =>
      rcases Int.lt_trichotomy x y with h1 | h1 | h1
      · rw [mgB_lt _ _ h1]
        have := ih a (y :: b) (by simp at h ⊢; omega)
        simp at this ⊢; omega
      · subst h1
        rw [mgB_eq]
        have := ih a b (by simp at h ⊢; omega)
        simp at this ⊢; omega
      · rw [mgB_gt _ _ h1]
        have := ih (x :: a) b (by simp at h ⊢; omega)
        simp at this ⊢; omega
/-- the steps of the loop. -/
theorem mgB_step_lt {a b : List Int} {i k : Nat} (hi : i < a.length) (hk : k < b.length) (h : a[i] < b[k]) : mgB (a.drop i) (b.drop k) = a[i] :: mgB (a.drop (i + 1)) (b.drop k) := by
  rw [List.drop_eq_getElem_cons hi, List.drop_eq_getElem_cons hk, mgB_lt _ _ h]
theorem mgB_step_eq {a b : List Int} {i k : Nat} (hi : i < a.length) (hk : k < b.length) (h : a[i] = b[k]) : mgB (a.drop i) (b.drop k) = b[k] :: mgB (a.drop (i + 1)) (b.drop (k + 1)) := by
  rw [List.drop_eq_getElem_cons hi, List.drop_eq_getElem_cons hk, h, mgB_eq]
theorem mgB_step_gt {a b : List Int} {i k : Nat} (hi : i < a.length) (hk : k < b.length) (h : b[k] < a[i]) : mgB (a.drop i) (b.drop k) = b[k] :: mgB (a.drop i) (b.drop (k + 1)) := by
  rw [List.drop_eq_getElem_cons hi, List.drop_eq_getElem_cons hk, mgB_gt _ _ h]
theorem mgB_step_end {a b : List Int} {i k : Nat} (hi : a.length ≤ i) (hk : k < b.length) : mgB (a.drop i) (b.drop k) = b[k] :: mgB (a.drop i) (b.drop (k + 1)) := by
  rw [List.drop_eq_nil_of_le hi, List.drop_eq_getElem_cons hk, mgB_none]
end Go.Proofs.YtdpbedkppomffaaGreatDoor
