/-
  A block that is known whole.
-/
import Derived.RangeFuncRecord
import Derived.Test.YtbciennhcdabeaaDoorTreeT
namespace Go.Proofs.YtbciennhcdabeaaDoor
set_option linter.unusedVariables false
set_option linter.unusedSimpArgs false
open Go.ChangeShapes Go.WideShapes Go.ChangeAt Go.RowKit

def BxO (W : World) (b : Nat) (cs : Array Value) (t : TypeId) : Prop := W.heap[b]? = some (.cells cs t (0, 0))
theorem BxO.lt {W : World} {b : Nat} {cs : Array Value} {t : TypeId} (h : BxO W b cs t) : b < W.heap.size := (Array.getElem?_eq_some_iff.1 h).1
theorem BxO.cell {W : World} {b : Nat} {cs : Array Value} {t : TypeId} (h : BxO W b cs t) (i : Nat) : W.cell? ⟨b, i, none⟩ = cs[i]? := by
  unfold World.cell?
  rw [show W.heap[b]? = _ from h]
  rfl
theorem BxO.frozen {W : World} {b : Nat} {cs : Array Value} {t : TypeId} (h : BxO W b cs t) (i : Nat) : W.frozen? ⟨b, i, none⟩ = false := by simp [World.frozen?, show W.heap[b]? = _ from h]
theorem BxO.kept {W W' : World} {b : Nat} {cs : Array Value} {t : TypeId} {row : Option Nat} (h : BxO W b cs t) (hg : W.grownBy W' row) (hne : some b ≠ row) : BxO W' b cs t := (hg.block b h.lt hne).trans h
theorem BxO.new (W : World) (cs : Array Value) (t : TypeId) : BxO (W.alloc (.cells cs t)) W.heap.size cs t := World.alloc_heap_new W _
theorem BxO.alloc {W : World} {b : Nat} {cs : Array Value} {t : TypeId} (h : BxO W b cs t) (o : Obj) : BxO (W.alloc o) b cs t := h.kept (World.grownBy_alloc W o none) (by simp)
theorem BxO.other {W : World} {b : Nat} {cs : Array Value} {t : TypeId} (h : BxO W b cs t) {b' : Nat} (hne : b ≠ b') (i : Nat) (u : Value) : BxO (W.setCell ⟨b', i, none⟩ u) b cs t := (Below.heap_setCell _ _ _ _ hne).trans h
theorem BxO.drew {W : World} {b : Nat} {cs : Array Value} {t : TypeId} (h : BxO W b cs t) : BxO W.drew b cs t := h
theorem BxO.set0 {W : World} {b : Nat} {v : Value} {t : TypeId} (h : BxO W b #[v] t) (u : Value) : BxO (W.setCell ⟨b, 0, none⟩ u) b #[u] t := by
  simp [BxO, World.setCell, Array.getElem?_modify, show W.heap[b]? = _ from h]
theorem BxO.set2 {W : World} {b : Nat} {u0 u1 v : Value} {t : TypeId} (h : BxO W b #[u0, u1, v] t) (u : Value) : BxO (W.setCell ⟨b, 2, none⟩ u) b #[u0, u1, u] t := by
  simp [BxO, World.setCell, Array.getElem?_modify, show W.heap[b]? = _ from h]
theorem BxO.set3 {W : World} {b : Nat} {u0 u1 u2 : Value} {t : TypeId} (h : BxO W b #[u0, u1, u2] t) (v0 v1 v2 : Value) : BxO (((W.setCell ⟨b, 0, none⟩ v0).setCell ⟨b, 1, none⟩ v1).setCell ⟨b, 2, none⟩ v2) b #[v0, v1, v2] t := by
  simp [BxO, World.setCell, Array.getElem?_modify, show W.heap[b]? = _ from h]
theorem BxO.setAt2 {W : World} {b : Nat} {u0 u1 u2 : Value} {t : TypeId} (h : BxO W b #[u0, u1, u2] t) (v2 : Value) : BxO (W.setCell ⟨b, 2, none⟩ v2) b #[u0, u1, v2] t := by
  simp [BxO, World.setCell, Array.getElem?_modify, show W.heap[b]? = _ from h]
end Go.Proofs.YtbciennhcdabeaaDoor
