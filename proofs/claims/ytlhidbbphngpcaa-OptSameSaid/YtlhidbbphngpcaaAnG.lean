/-
  Rows of answers, each with a row of its offsets.
-/
import Derived.Test.YtlhidbbphngpcaaLem
namespace Go.Proofs.Ytlhidbbphngpcaa
set_option linter.unusedVariables false
set_option linter.unusedSimpArgs false
open Go.ChangeShapes Go.WideShapes Go.ChangeAt Go.RowKit

theorem own_side {wx w' : World} {B n n' sz sz' : Nat} {e e' : TypeId} {v v' : Value} {xs xs' : List Value} {o : Obj} (h : wx.ownsRow B e sz v n xs) (h' : wx.ownsRow B e' sz' v' n' xs') (hne : e ≠ e') (hg : (wx.alloc o).grownBy w' v'.ownBlock) : w'.ownsRow B e sz v n xs := (h.alloc o).kept hg (own_apart h h' hne)
theorem row_low {wo wx w' : World} {B n sz : Nat} {t : TypeId} {v : Value} {xs : List Value} {o : Obj} (hown : wo.ownsRow B t sz v n xs) (hz : B ≤ wx.heap.size) (hg : (wx.alloc o).grownBy w' v.ownBlock) : Below B wx w' :=
  ((Below.refl B wx).alloc hz o).grown hg (Nat.le_trans hz (size_le_push_ wx o)) (fun k hk => (hown.lt k hk).1)
def encW (x : Ans × Value) : List Value := [.int .i64 x.1.ck.off, .bool x.1.ck.sav, .string x.1.ck.nm, x.2, .int .i64 x.1.jump]
theorem encW_one (x : Ans × Value) (hs : ∃ a n c, x.2 = .slice a n c) : ∀ u ∈ encW x, u.oneCell' = true := by
  intro u hu
  obtain ⟨a, n, c, hs⟩ := hs
  simp [encW, hs] at hu
  rcases hu with rfl | rfl | rfl | rfl | rfl <;> rfl
theorem own_mv {w w' : World} {B n sz : Nat} {e : TypeId} {v : Value} {xs : List Value} (h : w.ownsRow B e sz v n xs) (k : ∀ c, B ≤ c → c < w.heap.size → w'.heap[c]? = w.heap[c]?) : w'.ownsRow B e sz v n xs := by
  obtain ⟨h1, h2⟩ := h
  refine ⟨h1, ?_⟩
  rcases h2 with h2 | ⟨g, cap, cur, hv, hg, hh, r⟩
  · exact .inl h2
  · exact .inr ⟨g, cap, cur, hv, hg, (k g hg (Array.getElem?_eq_some_iff.1 hh).1).trans hh, r⟩
/-- a row of answers, each with a row of its offsets. -/
def AnG (w : World) (B : Nat) (va : Value) (l : List (Ans × Value)) : Prop := w.ownsRow B 39 5 va l.length (l.flatMap encW) ∧ ∀ x ∈ l, w.ownsRow B 3 1 x.2 x.1.offs.length (x.1.offs.flatMap encI)
theorem AnG.mv {w w' : World} {B : Nat} {va : Value} {l : List (Ans × Value)} (h : AnG w B va l) (k : ∀ c, B ≤ c → c < w.heap.size → w'.heap[c]? = w.heap[c]?) : AnG w' B va l := ⟨own_mv h.1 k, fun x hx => own_mv (h.2 x hx) k⟩
theorem AnG.nil (w : World) (B : Nat) : AnG w B (.slice none 0 0) [] := ⟨World.ownsRow_nil _ _ _ _, fun x hx => by simp at hx⟩
theorem slAt_via {α β : Type} {w : World} {sz : Nat} {R : List Value → α → Prop} {R' : List Value → β → Prop} {v : Value} {xs : List α} (f : α → β) (h : SlAt w sz R v xs) (hR : ∀ cs, ∀ x ∈ xs, R cs x → R' cs (f x)) : SlAt w sz R' v (xs.map f) := by
  rcases h with ⟨a, cap, hv, rfl⟩ | ⟨b, off, cap, hv, h0, h1, h2, h3, h4⟩
  · exact .inl ⟨a, cap, hv, rfl⟩
  · refine .inr ⟨b, off, cap, by rw [List.length_map]; exact hv, by rw [List.length_map]; exact h0, by rw [List.length_map]; exact h1, h2, h3, fun i hi => ?_⟩
    rw [List.length_map] at hi
    obtain ⟨cs, c1, c2, c3⟩ := h4 i hi
    exact ⟨cs, c1, by rw [List.getElem_map]; exact hR _ _ (List.getElem_mem hi) c2, c3⟩
/-- what an answer must be to lie in memory. -/
def AnO (x : Ans) : Prop := I64 x.ck.off ∧ I64 x.jump ∧ x.ck.nm.size ≤ maxLen ∧ ∀ o ∈ x.offs, I64 o
theorem AnG.at {w : World} {B : Nat} {va : Value} {l : List (Ans × Value)} (h : AnG w B va l) (hok : ∀ x ∈ l.map Prod.fst, AnO x) : SlAt w 5 (RAns w) va (l.map Prod.fst) := by
  obtain ⟨h1, h2⟩ := h
  refine slAt_via Prod.fst (slAt_of_own (enc := encW) (R := fun cs x => cs = encW x) (by omega) (fun _ => rfl) (fun _ _ => rfl) h1) fun cs x hx hc => ?_
  obtain ⟨k1, k2, k3, k4⟩ := hok x.1 (List.mem_map_of_mem hx)
  exact ⟨x.2, hc, ints_of_own k4 (h2 x hx), k1, k2, k3⟩
theorem anO_of {w : World} {va : Value} {l : List Ans} (h : SlAt w 5 (RAns w) va l) (x : Ans) (hx : x ∈ l) : AnO x := by
  obtain ⟨cs, v, _, h1, h2, h3, h4⟩ := h.all x hx
  exact ⟨h2, h3, h4, ints64 h1⟩
theorem AnG.snoc {wx w' : World} {B : Nat} {va va' : Value} {l : List (Ans × Value)} {y : Ans × Value} {o : Obj} (h : AnG wx B va l) (hy : wx.ownsRow B 3 1 y.2 y.1.offs.length (y.1.offs.flatMap encI)) (ho : w'.ownsRow B 39 5 va' (l.length + 1) (l.flatMap encW ++ encW y)) (hg : (wx.alloc o).grownBy w' va.ownBlock) : AnG w' B va' (l ++ [y]) := by
  refine ⟨own_snocG ho, fun x hx => ?_⟩
  have k : ∀ {z : Value} {n : Nat} {xs : List Value}, wx.ownsRow B 3 1 z n xs → w'.ownsRow B 3 1 z n xs := fun {z n xs} hz => own_side hz h.1 (by decide) hg
  rcases List.mem_append.1 hx with hx | hx
  · exact k (h.2 x hx)
  · rw [List.mem_singleton.1 hx]; exact k hy
end Go.Proofs.Ytlhidbbphngpcaa
