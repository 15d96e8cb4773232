/-
  What the functions on forests answer: the check.
-/
import Derived.Test.YtdpbedkppomffaaDoorTreeA
namespace Go.Proofs.YtdpbedkppomffaaDoor
set_option linter.unusedVariables false
set_option linter.unusedSimpArgs false
open Go.ChangeShapes Go.WideShapes Go.ChangeAt Go.RowKit

/-- the first number that is not 0. -/
def ferr {α : Type} (f : Nat → α → Int) : Nat → List α → Int
  | _, [] => 0
  | i, x :: xs => if f i x ≠ 0 then f i x else ferr f (i + 1) xs
theorem ferr_at {α : Type} (f : Nat → α → Int) : ∀ (xs : List α) (s k : Nat) (h : k < xs.length), (∀ i (hi : i < k), f (s + i) (xs[i]'(by omega)) = 0) → f (s + k) xs[k] ≠ 0 → ferr f s xs = f (s + k) xs[k]
  | x :: xs, s, 0, _, _, hp => by unfold ferr; simp at hp ⊢; simp [hp]
  | x :: xs, s, k + 1, h, hn, hp => by
    have h0 := hn 0 (by omega)
    simp at h0
    have ih := ferr_at f xs (s + 1) k (by simpa using h) (fun i hi => by have := hn (i + 1) (by omega); simpa [Nat.add_assoc, Nat.add_comm 1 i] using this) (by simpa [Nat.add_assoc, Nat.add_comm 1 k] using hp)
    unfold ferr; simp [h0]
    rw [ih]; simp [Nat.add_assoc, Nat.add_comm 1 k]
theorem ferr_none {α : Type} (f : Nat → α → Int) : ∀ (xs : List α) (s : Nat), (∀ i (hi : i < xs.length), f (s + i) xs[i] = 0) → ferr f s xs = 0
  | [], _, _ => rfl
  | x :: xs, s, hn => by
    have h0 := hn 0 (by simp)
    simp at h0
    have ih := ferr_none f xs (s + 1) (fun i hi => by have := hn (i + 1) (by simpa using hi); simpa [Nat.add_assoc, Nat.add_comm 1 i] using this)
    unfold ferr; simp [h0, ih]
/-- what is wrong with a node. -/
def nodE (m i : Int) (n : Nod) : Int :=
  if n.lf = true then (if n.an < 0 ∨ m ≤ n.an then 2 else if n.bd ≠ 0 ∨ n.ls ≠ 0 ∨ n.mr ≠ 0 then 4 else 0)
  else (if n.an ≠ 0 then 4 else if n.ls < 0 ∨ i ≤ n.ls ∨ n.mr < 0 ∨ i ≤ n.mr then 8 else 0)
def anssE (l : List Ans) : Int := ferr (fun _ a => ansE a) 0 l
def nodsE (m : Int) (l : List Nod) : Int := ferr (fun i n => nodE m i n) 0 l
/-- what is wrong with a forest. -/
def frsE (f : Frs) : Int :=
  if f.nodes.length = 0 then 6 else if 8000 < f.nodes.length ∨ 2000 < f.answers.length then 1
  else if anssE f.answers ≠ 0 then anssE f.answers else nodsE f.answers.length f.nodes
theorem elemAns {w : World} {aa : Option Addr} {n ca : Nat} {xs : List Ans} (h : SlAt w 5 (RAns w) (.slice aa n ca) xs) (k : Nat) (hk : k < xs.length) :
    ∃ b off vo, aa = some ⟨b, off, none⟩ ∧ b < w.heap.size ∧
      (w.cell? ⟨b, off + k * 5, none⟩ = some (.int .i64 xs[k].ck.off) ∧ w.cell? ⟨b, off + k * 5 + 1, none⟩ = some (.bool xs[k].ck.sav) ∧ w.cell? ⟨b, off + k * 5 + 2, none⟩ = some (.string xs[k].ck.nm) ∧ w.cell? ⟨b, off + k * 5 + 3, none⟩ = some vo ∧ w.cell? ⟨b, off + k * 5 + 4, none⟩ = some (.int .i64 xs[k].jump)) ∧
      SlAt w 1 RInt vo xs[k].offs ∧ xs[k].ck.nm.size ≤ maxLen ∧ I64 xs[k].ck.off ∧ I64 xs[k].jump := by
  rcases h with ⟨a, cap, hv, rfl⟩ | ⟨b, off, cap, hv, h0, h1, h2, h3, h4⟩
  · simp at hk
  · obtain ⟨cs, _, ⟨vo, rfl, r1, r2, r3, r4⟩, c3⟩ := h4 k hk
    simp only [Value.slice.injEq] at hv
    exact ⟨b, off, vo, hv.1, h3, ⟨c3 0 (by omega), c3 1 (by omega), c3 2 (by omega), c3 3 (by omega), c3 4 (by omega)⟩, r1, r4, r2, r3⟩
theorem elemNod {w : World} {aa : Option Addr} {n ca : Nat} {xs : List Nod} (h : SlAt w 5 RNod (.slice aa n ca) xs) (k : Nat) (hk : k < xs.length) :
    ∃ b off, aa = some ⟨b, off, none⟩ ∧ b < w.heap.size ∧
      (w.cell? ⟨b, off + k * 5, none⟩ = some (.bool xs[k].lf) ∧ w.cell? ⟨b, off + k * 5 + 1, none⟩ = some (.int .i64 xs[k].an) ∧ w.cell? ⟨b, off + k * 5 + 2, none⟩ = some (.int .i64 xs[k].bd) ∧ w.cell? ⟨b, off + k * 5 + 3, none⟩ = some (.int .i64 xs[k].ls) ∧ w.cell? ⟨b, off + k * 5 + 4, none⟩ = some (.int .i64 xs[k].mr)) := by
  rcases h with ⟨a, cap, hv, rfl⟩ | ⟨b, off, cap, hv, h0, h1, h2, h3, h4⟩
  · simp at hk
  · obtain ⟨cs, _, ⟨rfl, _⟩, c3⟩ := h4 k hk
    simp only [Value.slice.injEq] at hv
    exact ⟨b, off, hv.1, h3, ⟨c3 0 (by omega), c3 1 (by omega), c3 2 (by omega), c3 3 (by omega), c3 4 (by omega)⟩⟩
theorem nodE_cases (m i : Int) (n : Nod) :
    (n.lf = true ∧ n.an < 0 ∧ nodE m i n = 2) ∨ (n.lf = true ∧ 0 ≤ n.an ∧ m ≤ n.an ∧ nodE m i n = 2) ∨
    (n.lf = true ∧ 0 ≤ n.an ∧ n.an < m ∧ n.bd ≠ 0 ∧ nodE m i n = 4) ∨ (n.lf = true ∧ 0 ≤ n.an ∧ n.an < m ∧ n.bd = 0 ∧ n.ls ≠ 0 ∧ nodE m i n = 4) ∨ (n.lf = true ∧ 0 ≤ n.an ∧ n.an < m ∧ n.bd = 0 ∧ n.ls = 0 ∧ n.mr ≠ 0 ∧ nodE m i n = 4) ∨
    (n.lf = true ∧ 0 ≤ n.an ∧ n.an < m ∧ n.bd = 0 ∧ n.ls = 0 ∧ n.mr = 0 ∧ nodE m i n = 0) ∨
    (n.lf = false ∧ n.an ≠ 0 ∧ nodE m i n = 4) ∨
    (n.lf = false ∧ n.an = 0 ∧ n.ls < 0 ∧ nodE m i n = 8) ∨ (n.lf = false ∧ n.an = 0 ∧ 0 ≤ n.ls ∧ i ≤ n.ls ∧ nodE m i n = 8) ∨
    (n.lf = false ∧ n.an = 0 ∧ 0 ≤ n.ls ∧ n.ls < i ∧ n.mr < 0 ∧ nodE m i n = 8) ∨ (n.lf = false ∧ n.an = 0 ∧ 0 ≤ n.ls ∧ n.ls < i ∧ 0 ≤ n.mr ∧ i ≤ n.mr ∧ nodE m i n = 8) ∨
    (n.lf = false ∧ n.an = 0 ∧ 0 ≤ n.ls ∧ n.ls < i ∧ 0 ≤ n.mr ∧ n.mr < i ∧ nodE m i n = 0) := by
  unfold nodE
  cases h : n.lf
  · simp only [Bool.false_eq_true, if_false, false_and, true_and, false_or]
    by_cases a1 : n.an = 0
    · rw [if_neg (by omega)]
      by_cases a2 : n.ls < 0 ∨ i ≤ n.ls ∨ n.mr < 0 ∨ i ≤ n.mr
      · rw [if_pos a2]; omega
      · rw [if_neg a2]; omega
    · rw [if_pos (by omega)]; omega
  · simp only [if_true, true_and]
    by_cases a1 : n.an < 0 ∨ m ≤ n.an
    · rw [if_pos a1]; omega
    · rw [if_neg a1]
      by_cases a2 : n.bd ≠ 0 ∨ n.ls ≠ 0 ∨ n.mr ≠ 0
      · rw [if_pos a2]; omega
      · rw [if_neg a2]; omega
end Go.Proofs.YtdpbedkppomffaaDoor
