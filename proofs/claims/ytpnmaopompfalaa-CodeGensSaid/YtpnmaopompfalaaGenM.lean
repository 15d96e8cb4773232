/-
  code.Gen: the copies of the answers.
-/
import Derived.Test.YtpnmaopompfalaaGenL
namespace Go.Proofs.Ytpnmaopompfalaa
set_option linter.unusedVariables false
set_option linter.unusedSimpArgs false
open Go.ChangeShapes Go.WideShapes Go.ChangeAt Go.RowKit

def encW (x : Ans × Value) : List Value := [.int .i64 x.1.ck.off, .bool x.1.ck.sav, .string x.1.ck.nm, x.2, .int .i64 x.1.jump]
theorem encW_one (x : Ans × Value) (hs : ∃ a n c, x.2 = .slice a n c) : ∀ u ∈ encW x, u.oneCell' = true := by
  intro u hu
  obtain ⟨a, n, c, hs⟩ := hs
  simp [encW, hs] at hu
  rcases hu with rfl | rfl | rfl | rfl | rfl <;> rfl
theorem own_mv {w w' : World} {B n sz : Nat} {e : TypeId} {v : Value} {xs : List Value} (h : w.ownsRow B e sz v n xs) (k : ∀ c, B ≤ c → c < w.heap.size → w'.heap[c]? = w.heap[c]?) : w'.ownsRow B e sz v n xs := by
  obtain ⟨h1, h2⟩ := h
  refine ⟨h1, ?_⟩
  rcases h2 with h2 | ⟨g, cap, cur, hv, hg, hh, r⟩
  · exact .inl h2
  · exact .inr ⟨g, cap, cur, hv, hg, (k g hg (Array.getElem?_eq_some_iff.1 hh).1).trans hh, r⟩
/-- a row of answers, each with a row of its offsets. -/
def AnG (w : World) (B : Nat) (va : Value) (l : List (Ans × Value)) : Prop := w.ownsRow B 27 5 va l.length (l.flatMap encW) ∧ ∀ x ∈ l, w.ownsRow B 3 1 x.2 x.1.offs.length (x.1.offs.flatMap encI)
theorem AnG.mv {w w' : World} {B : Nat} {va : Value} {l : List (Ans × Value)} (h : AnG w B va l) (k : ∀ c, B ≤ c → c < w.heap.size → w'.heap[c]? = w.heap[c]?) : AnG w' B va l := ⟨own_mv h.1 k, fun x hx => own_mv (h.2 x hx) k⟩
theorem AnG.nil (w : World) (B : Nat) : AnG w B (.slice none 0 0) [] := ⟨World.ownsRow_nil _ _ _ _, fun x hx => by simp at hx⟩
theorem slAt_via {α β : Type} {w : World} {sz : Nat} {R : List Value → α → Prop} {R' : List Value → β → Prop} {v : Value} {xs : List α} (f : α → β) (h : SlAt w sz R v xs) (hR : ∀ cs, ∀ x ∈ xs, R cs x → R' cs (f x)) : SlAt w sz R' v (xs.map f) := by
  rcases h with ⟨a, cap, hv, rfl⟩ | ⟨b, off, cap, hv, h0, h1, h2, h3, h4⟩
  · exact .inl ⟨a, cap, hv, rfl⟩
  · refine .inr ⟨b, off, cap, by rw [List.length_map]; exact hv, by rw [List.length_map]; exact h0, by rw [List.length_map]; exact h1, h2, h3, fun i hi => ?_⟩
    rw [List.length_map] at hi
    obtain ⟨cs, c1, c2, c3⟩ := h4 i hi
    exact ⟨cs, c1, by rw [List.getElem_map]; exact hR _ _ (List.getElem_mem hi) c2, c3⟩
/-- what an answer must be to lie in memory. -/
def AnO (x : Ans) : Prop := I64 x.ck.off ∧ I64 x.jump ∧ x.ck.nm.size ≤ maxLen ∧ ∀ o ∈ x.offs, I64 o
theorem AnG.at {w : World} {B : Nat} {va : Value} {l : List (Ans × Value)} (h : AnG w B va l) (hok : ∀ x ∈ l.map Prod.fst, AnO x) : SlAt w 5 (RAns w) va (l.map Prod.fst) := by
  obtain ⟨h1, h2⟩ := h
  refine slAt_via Prod.fst (slAt_of_own (enc := encW) (R := fun cs x => cs = encW x) (by omega) (fun _ => rfl) (fun _ _ => rfl) h1) fun cs x hx hc => ?_
  obtain ⟨k1, k2, k3, k4⟩ := hok x.1 (List.mem_map_of_mem hx)
  exact ⟨x.2, hc, ints_of_own k4 (h2 x hx), k1, k2, k3⟩
theorem anO_of {w : World} {va : Value} {l : List Ans} (h : SlAt w 5 (RAns w) va l) (x : Ans) (hx : x ∈ l) : AnO x := by
  obtain ⟨cs, v, _, h1, h2, h3, h4⟩ := h.all x hx
  exact ⟨h2, h3, h4, ints64 h1⟩
theorem AnG.snoc {wx w' : World} {B : Nat} {va va' : Value} {l : List (Ans × Value)} {y : Ans × Value} {o : Obj} (h : AnG wx B va l) (hy : wx.ownsRow B 3 1 y.2 y.1.offs.length (y.1.offs.flatMap encI)) (ho : w'.ownsRow B 27 5 va' (l.length + 1) (l.flatMap encW ++ encW y)) (hg : (wx.alloc o).grownBy w' va.ownBlock) : AnG w' B va' (l ++ [y]) := by
  refine ⟨own_snocG ho, fun x hx => ?_⟩
  have k : ∀ {z : Value} {n : Nat} {xs : List Value}, wx.ownsRow B 3 1 z n xs → w'.ownsRow B 3 1 z n xs := fun {z n xs} hz => own_side hz h.1 (by decide) hg
  rcases List.mem_append.1 hx with hx | hx
  · exact k (h.2 x hx)
  · rw [List.mem_singleton.1 hx]; exact k hy
/-- the state of the first loop. -/
def GnA (w1 wr : World) (va : Value) (l : List (Ans × Value)) : Prop := AnG wr (w1.heap.size + 1) va l ∧ GnB wr w1.heap.size (.slice none 0 0) (.slice none 0 0) va ∧ Below w1.heap.size w1 wr ∧ w1.heap.size + 1 ≤ wr.heap.size
theorem GnA.facts {w1 wr : World} {va : Value} {l : List (Ans × Value)} (h : GnA w1 wr va l) : wr.cell? ⟨w1.heap.size, 0, none⟩ = some (.slice none 0 0) ∧ wr.cell? ⟨w1.heap.size, 1, none⟩ = some (.slice none 0 0) ∧ wr.cell? ⟨w1.heap.size, 2, none⟩ = some va ∧ (∀ j, wr.frozen? ⟨w1.heap.size, j, none⟩ = false) ∧ w1.heap.size < wr.heap.size :=
  ⟨h.2.1.1, h.2.1.2.1, h.2.1.2.2.1, h.2.1.2.2.2, h.2.1.lt⟩
theorem GnA.start (w1 : World) (t : TypeId) : GnA w1 (w1.alloc (.cells #[.slice none 0 0, .slice none 0 0, .slice none 0 0] t)) (.slice none 0 0) [] :=
  ⟨AnG.nil _ _, ⟨World.cell?_alloc_at (w := w1) _ _ w1.heap.size 0 rfl, World.cell?_alloc_at (w := w1) _ _ w1.heap.size 1 rfl, World.cell?_alloc_at (w := w1) _ _ w1.heap.size 2 rfl, fun j => World.frozen?_alloc_at (w := w1) _ _ w1.heap.size j rfl⟩, (Below.refl _ _).alloc (Nat.le_refl _) _, by rw [size_alloc]; exact Nat.le_refl _⟩
/-- behind the copy of an answer's offsets, the copy stored in the answer's box. -/
theorem GnA.copied {w1 wr w2 : World} {va v' : Value} {l : List (Ans × Value)} {x0 x1 x2 x3 x4 : Value} {t : TypeId} {m : Nat} {xs : List Value} (h : GnA w1 wr va l) (hb : Below (wr.alloc (.cells #[x0, x1, x2, x3, x4] t)).heap.size (wr.alloc (.cells #[x0, x1, x2, x3, x4] t)) w2) (hv : w2.ownsRow (wr.alloc (.cells #[x0, x1, x2, x3, x4] t)).heap.size 3 1 v' m xs) :
    (w2.cell? ⟨wr.heap.size, 0, none⟩ = some x0 ∧ w2.cell? ⟨wr.heap.size, 1, none⟩ = some x1 ∧ w2.cell? ⟨wr.heap.size, 2, none⟩ = some x2 ∧ w2.cell? ⟨wr.heap.size, 3, none⟩ = some x3 ∧ w2.cell? ⟨wr.heap.size, 4, none⟩ = some x4 ∧ (∀ j, w2.frozen? ⟨wr.heap.size, j, none⟩ = false) ∧ wr.heap.size < w2.heap.size) ∧
    GnA w1 (w2.setCell ⟨wr.heap.size, 3, none⟩ v') va l ∧ (w2.setCell ⟨wr.heap.size, 3, none⟩ v').ownsRow (w1.heap.size + 1) 3 1 v' m xs ∧ w1.heap.size ≠ wr.heap.size := by
  obtain ⟨h1, h2, h3, h4⟩ := h
  have hs := size_alloc wr (.cells #[x0, x1, x2, x3, x4] t)
  have hbz := hb.size
  have hc : ∀ j, w2.cell? ⟨wr.heap.size, j, none⟩ = (wr.alloc (.cells #[x0, x1, x2, x3, x4] t)).cell? ⟨wr.heap.size, j, none⟩ := fun j => hb.cell (p := ⟨wr.heap.size, j, none⟩) (by rw [hs]; exact Nat.lt_succ_self _)
  have hc2 : ∀ j, (wr.alloc (.cells #[x0, x1, x2, x3, x4] t)).cell? ⟨wr.heap.size, j, none⟩ = #[x0, x1, x2, x3, x4][j]? := fun j => World.cell?_alloc_at (w := wr) _ _ wr.heap.size j rfl
  have hf : ∀ j, w2.frozen? ⟨wr.heap.size, j, none⟩ = false := fun j => (hb.frozen (p := ⟨wr.heap.size, j, none⟩) (by rw [hs]; exact Nat.lt_succ_self _)).trans (World.frozen?_alloc_at (w := wr) _ _ wr.heap.size j rfl)
  have k : ∀ c, c < wr.heap.size → (w2.setCell ⟨wr.heap.size, 3, none⟩ v').heap[c]? = wr.heap[c]? := fun c hc => (Below.heap_setCell _ _ _ _ (by show c ≠ wr.heap.size; omega)).trans ((hb.block c (by omega)).trans (Below.heap_alloc _ _ _ hc))
  have hB : Below wr.heap.size wr (w2.setCell ⟨wr.heap.size, 3, none⟩ v') := (((Below.refl _ _).alloc (Nat.le_refl _) _).trans (hb.mono (by omega))).setCell (by show wr.heap.size ≤ wr.heap.size; omega) _
  refine ⟨⟨(hc 0).trans (hc2 0), (hc 1).trans (hc2 1), (hc 2).trans (hc2 2), (hc 3).trans (hc2 3), (hc 4).trans (hc2 4), hf, by omega⟩, ⟨h1.mv fun c _ hc => k c hc, h2.keep (k _ (by omega)), h3.trans (hB.mono (by omega)), Nat.le_trans h4 hB.size⟩, ?_, by omega⟩
  exact ownsRow_base (by omega) (ownsRow_setCell_below hv (by show wr.heap.size < _; omega) _)
/-- one more answer. -/
theorem GnA.more {w1 wx w' : World} {va va' : Value} {l : List (Ans × Value)} {y : Ans × Value} {o : Obj} (h : GnA w1 wx va l) (hy : wx.ownsRow (w1.heap.size + 1) 3 1 y.2 y.1.offs.length (y.1.offs.flatMap encI)) (ho : w'.ownsRow (w1.heap.size + 1) 27 5 va' (l.length + 1) (l.flatMap encW ++ encW y)) (hg : (wx.alloc o).grownBy w' va.ownBlock) :
    (w'.cell? ⟨w1.heap.size, 2, none⟩ = some va ∧ (∀ j, w'.frozen? ⟨w1.heap.size, j, none⟩ = false) ∧ w1.heap.size < w'.heap.size) ∧ GnA w1 (w'.setCell ⟨w1.heap.size, 2, none⟩ va') va' (l ++ [y]) := by
  obtain ⟨h1, h2, h3, h4⟩ := h
  have hb := row_low h1.1 h4 hg
  have hB := h2.keep (hb.block _ (Nat.lt_succ_self _))
  have hA := h1.snoc hy ho hg
  refine ⟨⟨hB.2.2.1, hB.2.2.2, hB.lt⟩, ⟨hA.mv fun c hc _ => Below.heap_setCell _ _ _ _ (by show c ≠ w1.heap.size; omega), (hB.set va').2.2, (h3.trans (hb.mono (Nat.le_succ _))).setCell (Nat.le_refl _) _, ?_⟩⟩
  rw [World.size_setCell]
  exact Nat.le_trans h4 hb.size
end Go.Proofs.Ytpnmaopompfalaa
