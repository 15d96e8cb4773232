/-
  What a reader, a spool and a row keep while other blocks change.
-/
import Derived.Test.YtpnmaopompfalaaDecE
import Derived.Test.YtpnmaopompfalaaDecF
namespace Go.Proofs.Ytpnmaopompfalaa
set_option linter.unusedVariables false
set_option linter.unusedSimpArgs false
open Go.ChangeShapes Go.WideShapes Go.ChangeAt Go.RowKit

theorem cell_blk {w w' : World} {b : Nat} (h : w'.heap[b]? = w.heap[b]?) (o : Nat) : w'.cell? ⟨b, o, none⟩ = w.cell? ⟨b, o, none⟩ := World.cell?_of_block (a := ⟨b, o, none⟩) h
theorem froz_blk {w w' : World} {b : Nat} (h : w'.heap[b]? = w.heap[b]?) (o : Nat) : w'.frozen? ⟨b, o, none⟩ = w.frozen? ⟨b, o, none⟩ := World.frozen?_of_block (a := ⟨b, o, none⟩) h
theorem RdAt.keep {w w' : World} {P g : Nat} {bs : List Int} {e : Int} (h : RdAt w P g bs e) (h1 : w'.heap[P]? = w.heap[P]?) (h2 : w'.heap[g]? = w.heap[g]?) : RdAt w' P g bs e := by
  obtain ⟨off, cap, a1, a2, a3, a4, a5, a6, a7⟩ := h
  exact ⟨off, cap, (cell_blk h1 _).trans a1, a2, a3, (cell_blk h1 _).trans a4, fun j => (froz_blk h1 _).trans (a5 j), a6, fun i hi => (cell_blk h2 _).trans (a7 i hi)⟩
theorem SpAt.keep {w w' : World} {S g i : Nat} {b : List Int} {e : Int} (h : SpAt w S g b i e) (h1 : w'.heap[S]? = w.heap[S]?) (h2 : w'.heap[g]? = w.heap[g]?) : SpAt w' S g b i e := by
  obtain ⟨off, cap, a1, a2, a3, a4, a5, a6, a7, a8⟩ := h
  exact ⟨off, cap, (cell_blk h1 _).trans a1, a2, a3, (cell_blk h1 _).trans a4, (cell_blk h1 _).trans a5, fun j => (froz_blk h1 _).trans (a6 j), a7, fun k hk => (cell_blk h2 _).trans (a8 k hk)⟩
theorem SpD.keep {w w' : World} {S g : Nat} {b bs : List Int} {e : Int} (h : SpD w S g b bs e) (h1 : w'.heap[S]? = w.heap[S]?) (h2 : w'.heap[g]? = w.heap[g]?) : SpD w' S g b bs e := by
  obtain ⟨i, h, hd⟩ := h
  exact ⟨i, h.keep h1 h2, hd⟩
theorem heap_sx {w : World} {k o b : Nat} {v : Value} (h : b ≠ k) : (w.setCell ⟨k, o, none⟩ v).heap[b]? = w.heap[b]? := RowKit.Below.heap_setCell _ _ _ _ h
theorem heap_nw {w : World} {b : Nat} (o : Obj) (h : b < w.heap.size) : (w.alloc o).heap[b]? = w.heap[b]? := ((Below.refl w.heap.size w).alloc (Nat.le_refl _) o).block b h
theorem RdAt.alloc {w : World} {P g : Nat} {bs : List Int} {e : Int} (h : RdAt w P g bs e) (hP : P < w.heap.size) (hg : g < w.heap.size) (o : Obj) : RdAt (w.alloc o) P g bs e := h.keep (heap_nw o hP) (heap_nw o hg)
theorem RdAt.set {w : World} {P g k o : Nat} {bs : List Int} {e : Int} {v : Value} (h : RdAt w P g bs e) (hP : P ≠ k) (hg : g ≠ k) : RdAt (w.setCell ⟨k, o, none⟩ v) P g bs e := h.keep (heap_sx hP) (heap_sx hg)
theorem RdAt.grown {w w' : World} {P g : Nat} {bs : List Int} {e : Int} {b : Option Nat} (h : RdAt w P g bs e) (hP : P < w.heap.size) (hg : g < w.heap.size) (hb : w.grownBy w' b) (h1 : some P ≠ b) (h2 : some g ≠ b) : RdAt w' P g bs e := h.keep (hb.block _ hP h1) (hb.block _ hg h2)
theorem SpD.alloc {w : World} {S g : Nat} {b bs : List Int} {e : Int} (h : SpD w S g b bs e) (hP : S < w.heap.size) (hg : g < w.heap.size) (o : Obj) : SpD (w.alloc o) S g b bs e := h.keep (heap_nw o hP) (heap_nw o hg)
theorem SpD.set {w : World} {S g k o : Nat} {b bs : List Int} {e : Int} {v : Value} (h : SpD w S g b bs e) (hP : S ≠ k) (hg : g ≠ k) : SpD (w.setCell ⟨k, o, none⟩ v) S g b bs e := h.keep (heap_sx hP) (heap_sx hg)
theorem SpD.grown {w w' : World} {S g : Nat} {b bs : List Int} {e : Int} {r : Option Nat} (h : SpD w S g b bs e) (hP : S < w.heap.size) (hg : g < w.heap.size) (hb : w.grownBy w' r) (h1 : some S ≠ r) (h2 : some g ≠ r) : SpD w' S g b bs e := h.keep (hb.block _ hP h1) (hb.block _ hg h2)
/-- grown as before, though more is made and what is new is written. -/
theorem grown_new {w w1 : World} {b : Option Nat} (h : w.grownBy w1 b) (o : Obj) : w.grownBy (w1.alloc o) b :=
  ⟨h.os, h.tape, h.output, Nat.le_trans h.size (size_le_push_ w1 o), fun k hk hb => (heap_nw o (Nat.lt_of_lt_of_le hk h.size)).trans (h.block k hk hb)⟩
theorem grown_sx {w w1 : World} {b : Option Nat} {k o : Nat} {v : Value} (h : w.grownBy w1 b) (hk : w.heap.size ≤ k) : w.grownBy (w1.setCell ⟨k, o, none⟩ v) b :=
  ⟨h.os, h.tape, h.output, by rw [World.size_setCell]; exact h.size, fun j hj hb => (heap_sx (by omega)).trans (h.block j hj hb)⟩
theorem grown_in {w w1 w2 : World} {b r : Option Nat} (h : w.grownBy w1 b) (g : w1.grownBy w2 r) (hr : ∀ k, r = some k → w.heap.size ≤ k) : w.grownBy w2 b :=
  ⟨g.os.trans h.os, g.tape.trans h.tape, g.output.trans h.output, Nat.le_trans h.size g.size, fun k hk hb => (g.block k (Nat.lt_of_lt_of_le hk h.size) (fun e => by have := hr k e.symm; omega)).trans (h.block k hk hb)⟩
theorem grown_refl (w : World) (b : Option Nat) : w.grownBy w b := ⟨rfl, rfl, rfl, Nat.le_refl _, fun _ _ _ => rfl⟩
theorem grown_frozen {w w' : World} {row : Option Nat} (h : w.grownBy w' row) {b o : Nat} (hb : b < w.heap.size) (hne : some b ≠ row) : w'.frozen? ⟨b, o, none⟩ = w.frozen? ⟨b, o, none⟩ := froz_blk (h.block b hb hne) o
theorem grown_below {w w1 : World} {B : Nat} {b : Option Nat} (h : w.grownBy w1 b) (hB : B ≤ w.heap.size) (hb : ∀ k, b = some k → B ≤ k) : Below B w w1 := (Below.refl B w).grown h hB hb
/-- an own row beside a block that is none of its own. -/
theorem own_grown {w w1 : World} {B R n sz : Nat} {e : TypeId} {v : Value} {xs : List Value} (h : w.ownsRow B e sz v n xs) (hg : w.grownBy w1 (some R)) (hR : R < B) : w1.ownsRow B e sz v n xs :=
  h.kept hg (.inr (fun q => by have := (h.lt R q).1; omega))
theorem own_drew {w : World} {B n sz : Nat} {e : TypeId} {v : Value} {xs : List Value} (h : w.ownsRow B e sz v n xs) : w.drew.ownsRow B e sz v n xs := h.drew
theorem RdAt.drew {w : World} {P g : Nat} {bs : List Int} {e : Int} (h : RdAt w P g bs e) : RdAt w.drew P g bs e := h
theorem SpD.drew {w : World} {S g : Nat} {b bs : List Int} {e : Int} (h : SpD w S g b bs e) : SpD w.drew S g b bs e := h
theorem grown_drew {w w1 : World} {b : Option Nat} (h : w.grownBy w1 b) : w.grownBy w1.drew b := ⟨h.os, h.tape, h.output, h.size, h.block⟩
theorem grown_from {w w1 : World} {b : Option Nat} (h : w.drew.grownBy w1 b) : w.grownBy w1 b := ⟨h.os, h.tape, h.output, h.size, h.block⟩
/-- an own row behind one more, and what it leaves as it was. -/
theorem row_ne {w : World} {B n sz k : Nat} {e : TypeId} {v : Value} {xs : List Value} (h : w.ownsRow B e sz v n xs) (hk : k < B) : some k ≠ v.ownBlock := fun q => by have := (h.lt k q.symm).1; omega
end Go.Proofs.Ytpnmaopompfalaa
