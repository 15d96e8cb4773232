/-
  code.Run: the stack; pop.
-/
import Derived.Test.YtpnmaopompfalaaCodI
import Derived.Test.YtpnmaopompfalaaLem
namespace Go.Proofs.Ytpnmaopompfalaa
set_option linter.unusedVariables false
set_option linter.unusedSimpArgs false
open Go.ChangeShapes Go.WideShapes Go.ChangeAt Go.RowKit

theorem own_pre {w : World} {B n m cap : Nat} {e : TypeId} {a : Option Addr} {xs ys : List Value} (h : w.ownsRow B e 1 (.slice a (n + m) cap) (n + m) (xs ++ ys)) (hx : xs.length = n) (hm : 0 < m) : w.ownsRow B e 1 (.slice a n cap) n xs := by
  obtain ⟨h1, h2⟩ := h
  refine ⟨by omega, ?_⟩
  rcases h2 with ⟨hv, h0⟩ | ⟨g, cap', cur, hv, hb, hh, hc, hm', hs, ht⟩
  · omega
  · right
    simp only [Value.slice.injEq] at hv
    obtain ⟨rfl, _, rfl⟩ := hv
    refine ⟨g, cap, cur, rfl, hb, hh, by omega, hm', hs, ?_⟩
    have e1 : cur.toList.take (n * 1) = (cur.toList.take ((n + m) * 1)).take n := by rw [List.take_take, Nat.min_eq_left (by omega), Nat.mul_one]
    rw [e1, ht, ← hx, List.take_left]
theorem own_some {w : World} {B n cap : Nat} {e : TypeId} {a : Option Addr} {xs : List Value} (h : w.ownsRow B e 1 (.slice a n cap) n xs) (hn : 0 < n) : ∃ g, a = some ⟨g, 0, none⟩ ∧ B ≤ g ∧ g < w.heap.size ∧ n ≤ cap := by
  obtain ⟨h1, h2⟩ := h
  rcases h2 with ⟨hv, h0⟩ | ⟨g, cap', cur, hv, hb, hh, hc, hm', hs, ht⟩
  · omega
  · simp only [Value.slice.injEq] at hv
    obtain ⟨rfl, _, rfl⟩ := hv
    refine ⟨g, rfl, hb, ?_, hc⟩
    rcases Nat.lt_or_ge g w.heap.size with q | q
    · exact q
    · rw [Array.getElem?_eq_none q] at hh; cases hh
/-- block o holds the stack l. -/
def StkAt (w : World) (o B : Nat) (l : List Int) : Prop := ∃ v, w.cell? ⟨o, 0, none⟩ = some v ∧ w.frozen? ⟨o, 0, none⟩ = false ∧ w.ownsRow B 3 1 v l.length (l.flatMap encI)
theorem flatI_len (l : List Int) : (l.flatMap encI).length = l.length := by
  induction l with
  | nil => rfl
  | cons x l ih => rw [List.flatMap_cons, List.length_append, ih]; simp [encI]; omega
theorem flatI_at (l : List Int) (i : Nat) (h : i < l.length) : (l.flatMap encI)[i]? = some (.int .i64 l[i]) := by
  induction l generalizing i with
  | nil => simp at h
  | cons x l ih =>
    cases i with
    | zero => rfl
    | succ i => exact ih i (by simpa using h)
theorem own_intAt {w : World} {B cap g : Nat} {e : TypeId} {l : List Int} (h : w.ownsRow B e 1 (.slice (some ⟨g, 0, none⟩) l.length cap) l.length (l.flatMap encI)) (i : Nat) (hi : i < l.length) : w.cell? ⟨g, i, none⟩ = some (.int .i64 l[i]) := by
  rw [World.ownsRow.cellAt h i (by omega)]
  exact flatI_at l i hi
set_option maxHeartbeats 1000000 in
theorem pop_any (o B : Nat) (l : List Int) (x : Int) (w : World) (hoB : o < B) (hB : B ≤ w.heap.size) (hl : l.length ≤ 8) (hs : StkAt w o B (l ++ [x])) :
    Calls Try.prog 93 #[.pointer (some ⟨o, 0, none⟩)] w fun e w' => e = .returned (.int .i64 x) ∧ StkAt w' o B l ∧ Below o w w' ∧ (∀ b j, b ≠ o → w'.cell? ⟨b, j, none⟩ = w.cell? ⟨b, j, none⟩) ∧ w'.heap.size = w.heap.size := by
  obtain ⟨v, hc, hf, hown⟩ := hs
  obtain ⟨a, cap, rfl⟩ := own_shape hown
  obtain ⟨g, rfl, hg, hgs, hcap⟩ := own_some hown (by simp)
  have hlast := own_intAt hown l.length (by simp)
  rw [List.getElem_concat_length rfl] at hlast
  have hpre := hown
  rw [List.flatMap_append, List.length_append] at hpre
  have hp2 := Lib.hid (own_pre hpre (flatI_len l) (by simp))
  have hoz : o < w.heap.size := by omega
  have hlen : (l ++ [x]).length = l.length + 1 := by simp
  rw [hlen] at hc hcap
  have hca : (l.length : Int) ≤ (cap : Int) := by omega
  clear hpre hown hlen
  have HC := Lib.hid hc
  have HF := Lib.hid hf
  go_enter Try.func93, Try.ntmps93
  go_wp2
  go_ret
  refine ⟨rfl, ⟨_, World.cell?_setCell_same (h := HC.out) .., ?_, ?_⟩, ?_, fun b j hb => ?_, World.size_setCell _ _ _⟩
  · rw [World.frozen?_setCell]; exact HF.out
  · exact ownsRow_setCell_below hp2.out hoB _
  · exact (Below.refl o w).setCell (p := ⟨o, 0, none⟩) (Nat.le_refl _) _
  · exact World.cell?_setCell_other (h := by simp [hb]) ..
end Go.Proofs.Ytpnmaopompfalaa
