/-
  slices.Sort and slices.Compact on a row of the call's own.
-/
import Derived.Test.YtlhidbbphngpcaaLem
import Derived.Test.YtlhidbbphngpcaaSrt
import Derived.Test.YtlhidbbphngpcaaShSort
namespace Go.Proofs.Ytlhidbbphngpcaa
set_option linter.unusedVariables false
set_option linter.unusedSimpArgs false
open Go.ChangeShapes Go.WideShapes Go.ChangeAt Go.RowKit

theorem flatI (xs : List Int) : xs.flatMap encI = xs.map (Value.int .i64) := by
  induction xs with
  | nil => rfl
  | cons x xs ih => rw [List.flatMap_cons, ih]; rfl
theorem holds_own {w : World} {B n : Nat} {e : TypeId} {g cap : Nat} {xs : List Int} (h : w.ownsRow B e 1 (.slice (some ⟨g, 0, none⟩) n cap) xs.length (xs.flatMap encI)) : Go.Sort.Holds (Value.int .i64) w g 0 xs.toArray := by
  intro j hj
  have hj' : j < xs.length := by simpa using hj
  obtain ⟨hl, h2⟩ := h
  rcases h2 with ⟨h2, _⟩ | ⟨g', cap', cur, hv, hb, hh, hc, hm, hs, ht⟩
  · cases h2
  · injection hv with e1 e2 e3
    injection e1 with e1
    injection e1 with e1
    subst e1
    have hcur : cur[0 + j]? = some (.int .i64 xs[j]) := by
      have e4 : (cur.toList.take (xs.length * 1))[j]? = cur.toList[j]? := by
        rw [List.getElem?_take, if_pos (by omega)]
      rw [ht, flatI, List.getElem?_map, List.getElem?_eq_getElem hj'] at e4
      rw [Nat.zero_add, ← Array.getElem?_toList, ← e4]; rfl
    constructor
    · unfold World.cell?
      rw [show (⟨g, 0 + j, none⟩ : Addr).block = g from rfl, hh]
      rw [getElem!_pos xs.toArray j hj, List.getElem_toArray]
      simpa [World.cell?] using hcur
    · simp [World.frozen?, hh]
theorem put_own {w : World} {B n m : Nat} {e : TypeId} {g cap : Nat} {xs ys : List Int} (os : Array Obj) (k : Nat) (h : w.ownsRow B e 1 (.slice (some ⟨g, 0, none⟩) n cap) xs.length (xs.flatMap encI)) (hm : m ≤ ys.length) (hy : ys.length = xs.length) :
    (Go.Sort.grow (Go.Sort.putRow (Value.int .i64) (Go.Sort.ahead w k) g 0 ys.toArray) os).ownsRow B e 1 (.slice (some ⟨g, 0, none⟩) m cap) m ((ys.take m).flatMap encI) ∧
    w.grownBy (Go.Sort.grow (Go.Sort.putRow (Value.int .i64) (Go.Sort.ahead w k) g 0 ys.toArray) os) (some g) := by
  obtain ⟨hl, h2⟩ := h
  rcases h2 with ⟨h2, _⟩ | ⟨g', cap', cur, hv, hb, hh, hc, hmx, hs, ht⟩
  · cases h2
  · injection hv with e1 e2 e3
    injection e1 with e1
    injection e1 with e1
    subst e1 e3
    have hg : g < w.heap.size := by
      rcases Nat.lt_or_ge g w.heap.size with q | q
      · exact q
      · rw [Array.getElem?_eq_none q] at hh; cases hh
    have hsz : (Go.Sort.putRow (Value.int .i64) (Go.Sort.ahead w k) g 0 ys.toArray).heap.size = w.heap.size := by
      unfold Go.Sort.putRow Go.Sort.mapBlock Go.Sort.ahead
      simp
    have hblk : (Go.Sort.grow (Go.Sort.putRow (Value.int .i64) (Go.Sort.ahead w k) g 0 ys.toArray) os).heap[g]? = some (.cells (Go.Sort.putCells (Value.int .i64) 0 ys.toArray cur) e (0, 0)) := by
      unfold Go.Sort.grow
      dsimp only
      rw [Array.getElem?_append_left (by rw [hsz]; exact hg)]
      unfold Go.Sort.putRow Go.Sort.mapBlock Go.Sort.ahead
      dsimp only
      rw [Array.getElem?_modify, if_pos rfl, hh]
      rfl
    refine ⟨⟨by rw [flatI]; simp; omega, .inr ⟨g, cap, _, rfl, hb, hblk, by omega, hmx, ?_, ?_⟩⟩, rfl, rfl, rfl, ?_, fun b hb' hne => ?_⟩
    · unfold Go.Sort.putCells; rw [Array.size_mapIdx]; exact hs
    · apply List.ext_getElem?
      intro j
      rw [flatI, Nat.mul_one]
      by_cases hj : j < m
      · rw [List.getElem?_take, if_pos hj, Array.getElem?_toList]
        unfold Go.Sort.putCells
        rw [Array.getElem?_mapIdx]
        have hjc : j < cur.size := by omega
        rw [Array.getElem?_eq_getElem hjc]
        simp only [Option.map_some, Nat.zero_le, true_and, Nat.zero_add, Nat.sub_zero]
        rw [if_pos (by simp; omega), getElem!_pos ys.toArray j (by simp; omega), List.getElem_toArray, List.getElem?_map, List.getElem?_take, if_pos hj, List.getElem?_eq_getElem (by omega)]
        rfl
      · rw [List.getElem?_eq_none (by rw [List.length_take]; omega), List.getElem?_eq_none (by rw [List.length_map, List.length_take]; omega)]
    · unfold Go.Sort.grow
      dsimp only
      rw [Array.size_append, hsz]
      omega
    · unfold Go.Sort.grow
      dsimp only
      rw [Array.getElem?_append_left (by rw [hsz]; exact hb')]
      unfold Go.Sort.putRow Go.Sort.mapBlock Go.Sort.ahead
      dsimp only
      rw [Array.getElem?_modify, if_neg (fun e => hne (by rw [e]))]
/-- slices.Sort of a row of the call's own. -/
theorem sort_own (v : Value) (xs : List Int) (B : Nat) (w : World) (h : w.ownsRow B 3 1 v xs.length (xs.flatMap encI)) (hl : xs.length < 4611686018427387904) :
    Calls Try.prog 35 #[v] w fun e w' => e = .returned (.tuple #[]) ∧ w'.ownsRow B 3 1 v (srt xs).length ((srt xs).flatMap encI) ∧ w.grownBy w' v.ownBlock := by
  have h0 := h
  rcases h0.2 with ⟨rfl, hz⟩ | ⟨g, cap, cur, rfl, hb, hh, hc, hmx, hs, ht⟩
  · obtain rfl : xs = [] := List.length_eq_zero_iff.1 hz
    refine (Sh.slices_Sort_int_none none 0 w).mono ?_
    rintro e w' ⟨rfl, rfl⟩
    rw [show srt [] = [] from List.length_eq_zero_iff.1 (srt_len [])]
    exact ⟨rfl, World.ownsRow_nil _ _ _ _, rfl, rfl, rfl, Nat.le_refl _, fun _ _ _ => rfl⟩
  · have hg : g < w.heap.size := by
      rcases Nat.lt_or_ge g w.heap.size with q | q
      · exact q
      · rw [Array.getElem?_eq_none q] at hh; cases hh
    refine (Sh.slices_Sort_int g 0 cap xs w (holds_own h) hg hl).mono ?_
    rintro e w' ⟨rfl, n, os, rfl⟩
    have hp := put_own (m := xs.length) (ys := srt xs) os n h (by rw [srt_len]; exact Nat.le_refl _) (srt_len xs)
    rw [show (srt xs).take xs.length = srt xs from List.take_of_length_le (by rw [srt_len]; exact Nat.le_refl _)] at hp
    rw [srt_len]
    exact ⟨rfl, hp.1, hp.2⟩
/-- slices.Compact of a row of the call's own. -/
theorem compact_own (v : Value) (xs : List Int) (B : Nat) (w : World) (h : w.ownsRow B 3 1 v xs.length (xs.flatMap encI)) :
    Calls Try.prog 36 #[v] w fun e w' => ∃ v', e = .returned v' ∧ w'.ownsRow B 3 1 v' (Lib.compact xs).length ((Lib.compact xs).flatMap encI) ∧ w.grownBy w' v.ownBlock ∧ v'.ownBlock = v.ownBlock := by
  have h0 := h
  rcases h0.2 with ⟨rfl, hz⟩ | ⟨g, cap, cur, rfl, hb, hh, hc, hmx, hs, ht⟩
  · obtain rfl : xs = [] := List.length_eq_zero_iff.1 hz
    refine (Sh.slices_Compact_int_empty none 0 w).mono ?_
    rintro e w' ⟨rfl, rfl⟩
    exact ⟨_, rfl, World.ownsRow_nil _ _ _ _, ⟨rfl, rfl, rfl, Nat.le_refl _, fun _ _ _ => rfl⟩, rfl⟩
  · refine (Sh.slices_Compact_int g 0 cap xs w (holds_own h) (by unfold maxLen at hmx; omega) hc).mono ?_
    rintro e w' ⟨rfl, q, rfl⟩
    have hcl := compact_le xs
    have hp := put_own (m := (Lib.compact xs).length) (ys := Lib.compact xs ++ List.replicate (xs.length - (Lib.compact xs).length) 0) #[] q h (by simp) (by simp; omega)
    rw [Go.Sort.grow_empty, List.take_left'] at hp
    · exact ⟨_, rfl, hp.1, hp.2, rfl⟩
    · rfl
end Go.Proofs.Ytlhidbbphngpcaa
