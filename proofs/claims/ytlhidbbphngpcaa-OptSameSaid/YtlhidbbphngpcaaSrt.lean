/-
  Numbers, sorted, each once: plain.
-/
import Derived.Test.YtlhidbbphngpcaaKit
import Derived.Lib.SlicesCompact
namespace Go.Proofs.Ytlhidbbphngpcaa
set_option linter.unusedVariables false
set_option linter.unusedSimpArgs false
open Go.ChangeShapes Go.WideShapes Go.ChangeAt Go.RowKit

def srt (zs : List Int) : List Int := zs.mergeSort fun x y => decide (x ≤ y)
theorem srt_perm (zs : List Int) : (srt zs).Perm zs := List.mergeSort_perm _ _
theorem srt_len (zs : List Int) : (srt zs).length = zs.length := (srt_perm zs).length_eq
theorem srt_mem (zs : List Int) (x : Int) : x ∈ srt zs ↔ x ∈ zs := (srt_perm zs).mem_iff
theorem srt_sorted (zs : List Int) : (srt zs).Pairwise (· ≤ ·) := by
  have h := List.pairwise_mergeSort (le := fun x y : Int => decide (x ≤ y)) (fun a b c => by simp; omega) (fun a b => by simp; omega) zs
  exact h.imp fun h => by simpa using h
/-- sorted, each once. -/
def srtC (zs : List Int) : List Int := Lib.compact (srt zs)
theorem upTo_facts {d : Array Int} (hs : ∀ i j, i < j → j < d.size → d[i]! ≤ d[j]!) : ∀ m, m ≤ d.size → (Lib.compactUpTo d m).Pairwise (· < ·) ∧ (∀ x, x ∈ Lib.compactUpTo d m ↔ ∃ i, i < m ∧ d[i]! = x)
  | 0, _ => by simp [Lib.compactUpTo]
  | m + 1, hm => by
    obtain ⟨h1, h2⟩ := upTo_facts hs m (by omega)
    rw [Lib.compactUpTo_succ]
    by_cases hk : Lib.keeps d m = true
    · rw [if_pos hk]
      refine ⟨?_, fun x => ?_⟩
      · rw [List.pairwise_append]
        refine ⟨h1, by simp, fun a ha b hb => ?_⟩
        obtain rfl : b = d[m]! := by simpa using hb
        obtain ⟨i, hi, rfl⟩ := (h2 a).1 ha
        have hk' : m = 0 ∨ d[m]! ≠ d[m - 1]! := by simpa [Lib.keeps] using hk
        have hm0 : 0 < m := by omega
        have hne : d[m]! ≠ d[m - 1]! := hk'.resolve_left (by omega)
        have h3 := hs (m - 1) m (by omega) (by omega)
        by_cases e : i = m - 1
        · subst e; omega
        · have := hs i (m - 1) (by omega) (by omega)
          omega
      · rw [List.mem_append, h2]
        constructor
        · rintro (⟨i, hi, rfl⟩ | h)
          · exact ⟨i, by omega, rfl⟩
          · exact ⟨m, by omega, (List.mem_singleton.1 h).symm⟩
        · rintro ⟨i, hi, rfl⟩
          by_cases e : i = m
          · subst e; exact .inr (by simp)
          · exact .inl ⟨i, by omega, rfl⟩
    · rw [if_neg hk, List.append_nil]
      refine ⟨h1, fun x => ?_⟩
      rw [h2]
      have hk' : ¬ (m = 0 ∨ d[m]! ≠ d[m - 1]!) := by simpa [Lib.keeps] using hk
      have hm0 : 0 < m := by omega
      have he : d[m]! = d[m - 1]! := by
        by_cases e : d[m]! = d[m - 1]!
        · exact e
        · exact absurd (Or.inr e) hk'
      constructor
      · rintro ⟨i, hi, rfl⟩
        exact ⟨i, by omega, rfl⟩
      · rintro ⟨i, hi, rfl⟩
        by_cases e : i = m
        · subst e; exact ⟨i - 1, by omega, he.symm⟩
        · exact ⟨i, by omega, rfl⟩
theorem arr_sorted {zs : List Int} (h : zs.Pairwise (· ≤ ·)) : ∀ i j, i < j → j < zs.toArray.size → zs.toArray[i]! ≤ zs.toArray[j]! := by
  intro i j hij hj
  have hj' : j < zs.length := by simpa using hj
  rw [getElem!_pos zs.toArray i (by simp; omega), getElem!_pos zs.toArray j hj]
  simp only [List.getElem_toArray]
  exact List.pairwise_iff_getElem.1 h i j (by omega) hj' hij
theorem srtC_rise (zs : List Int) : (srtC zs).Pairwise (· < ·) := (upTo_facts (arr_sorted (srt_sorted zs)) _ (by simp)).1
theorem srtC_mem (zs : List Int) (x : Int) : x ∈ srtC zs ↔ x ∈ zs := by
  unfold srtC Lib.compact
  rw [(upTo_facts (arr_sorted (srt_sorted zs)) _ (by simp)).2, ← srt_mem]
  constructor
  · rintro ⟨i, hi, rfl⟩
    rw [getElem!_pos (srt zs).toArray i (by simpa using hi)]
    simp
  · intro h
    obtain ⟨i, hi, rfl⟩ := List.mem_iff_getElem.1 h
    exact ⟨i, hi, by rw [getElem!_pos (srt zs).toArray i (by simpa using hi)]; simp⟩
theorem compact_le (zs : List Int) : (Lib.compact zs).length ≤ zs.length := by
  unfold Lib.compact Lib.compactUpTo
  rw [List.length_map]
  exact Nat.le_trans (List.length_filter_le _ _) (by simp)
theorem srtC_len (zs : List Int) : (srtC zs).length ≤ zs.length := Nat.le_trans (compact_le _) (by rw [srt_len]; exact Nat.le_refl _)
end Go.Proofs.Ytlhidbbphngpcaa
