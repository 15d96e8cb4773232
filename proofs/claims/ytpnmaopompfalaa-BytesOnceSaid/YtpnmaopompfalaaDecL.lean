/-
  ProgramOf: its state.
-/
import Derived.Test.YtpnmaopompfalaaDecJ
namespace Go.Proofs.Ytpnmaopompfalaa
set_option linter.unusedVariables false
set_option linter.unusedSimpArgs false
open Go.ChangeShapes Go.WideShapes Go.ChangeAt Go.RowKit

/-- the state of ProgramOf: block q the result, q + 1 the spool, Q the program. -/
def PoS (w : World) (g q Q : Nat) (b : List Int) (wx : World) (bs : List Int) (e : Int) (v0 v1 v2 : Value) : Prop :=
  SpD wx (q + 1) g b bs e ∧ Bx3 wx q (.slice none 0 0) (.slice none 0 0) (.slice none 0 0) ∧ Bx3 wx Q v0 v1 v2 ∧ Below q w wx ∧ w.heap.size = q ∧ g < q ∧ q + 2 ≤ Q
theorem PoS.below {w wx w' : World} {g q Q : Nat} {b bs : List Int} {e : Int} {v0 v1 v2 : Value} (h : PoS w g q Q b wx bs e v0 v1 v2) (hB : Below (Q + 1) wx w') : PoS w g q Q b w' bs e v0 v1 v2 := by
  obtain ⟨h1, h2, h3, h4, h5, h6, h7⟩ := h
  exact ⟨h1.keep (hB.block _ (by omega)) (hB.block _ (by omega)), h2.keep (hB.block _ (by omega)), h3.keep (hB.block _ (by omega)), h4.trans (hB.mono (by omega)), h5, h6, h7⟩
theorem PoS.call {w wx w' : World} {g q Q : Nat} {b bs b1 : List Int} {e e1 : Int} {v0 v1 v2 : Value} (h : PoS w g q Q b wx bs e v0 v1 v2) (hr : SpD w' (q + 1) g b b1 e1) (hg : wx.grownBy w' (some (q + 1))) : PoS w g q Q b w' b1 e1 v0 v1 v2 := by
  obtain ⟨h1, h2, h3, h4, h5, h6, h7⟩ := h
  exact ⟨hr, h2.keep (hg.block _ h2.lt (fun e => by have := Option.some.inj e; omega)), h3.keep (hg.block _ h3.lt (fun e => by have := Option.some.inj e; omega)), h4.grown hg (by have := h2.lt; omega) (fun k e => by have := Option.some.inj e; omega), h5, h6, h7⟩
theorem PoS.put {w wx : World} {g q Q o : Nat} {b bs : List Int} {e : Int} {v0 v1 v2 u0 u1 u2 v : Value} (h : PoS w g q Q b wx bs e v0 v1 v2) (hb : Bx3 (wx.setCell ⟨Q, o, none⟩ v) Q u0 u1 u2) : PoS w g q Q b (wx.setCell ⟨Q, o, none⟩ v) bs e u0 u1 u2 := by
  obtain ⟨h1, h2, h3, h4, h5, h6, h7⟩ := h
  exact ⟨h1.set (by omega) (by omega), h2.keep (heap_sx (by omega)), hb, h4.setCell (by show q ≤ Q; omega) _, h5, h6, h7⟩
theorem PoS.lt {w wx : World} {g q Q : Nat} {b bs : List Int} {e : Int} {v0 v1 v2 : Value} (h : PoS w g q Q b wx bs e v0 v1 v2) : Q < wx.heap.size := h.2.2.1.lt
theorem PoS.facts {w wx : World} {g q Q : Nat} {b bs : List Int} {e : Int} {v0 v1 v2 : Value} (h : PoS w g q Q b wx bs e v0 v1 v2) : wx.cell? ⟨q + 1, 2, none⟩ = some (.int .i64 e) ∧ wx.cell? ⟨Q, 0, none⟩ = some v0 ∧ wx.cell? ⟨Q, 1, none⟩ = some v1 ∧ wx.cell? ⟨Q, 2, none⟩ = some v2 ∧ (∀ j, wx.frozen? ⟨Q, j, none⟩ = false) ∧ Q < wx.heap.size ∧ q + 1 < wx.heap.size := by
  have hl := h.lt
  obtain ⟨⟨i, ⟨off, cap, a1, a2, a3, a4, a5, a6, a7, a8⟩, _⟩, h2, ⟨c0, c1, c2, f⟩, h4, h5, h6, h7⟩ := h
  exact ⟨a5, c0, c1, c2, f, hl, by omega⟩
/-- where the spool is. -/
theorem SpD.place {w : World} {S g : Nat} {b bs : List Int} {e : Int} (h : SpD w S g b bs e) : ∃ i : Nat, w.cell? ⟨S, 1, none⟩ = some (.int .i64 i) ∧ w.cell? ⟨S, 2, none⟩ = some (.int .i64 e) ∧ (∀ j, w.frozen? ⟨S, j, none⟩ = false) ∧ S < w.heap.size ∧ i ≤ b.length ∧ b.length ≤ 200000 ∧ b.drop i = bs ∧ SpAt w S g b i e := by
  obtain ⟨i, h, hd⟩ := h
  have h' := h
  obtain ⟨off, cap, a1, a2, a3, a4, a5, a6, a7, a8⟩ := h
  exact ⟨i, a4, a5, a6, cell_lt a4, a3, a2, hd, h'⟩
theorem PoS.res {w wx : World} {g q Q : Nat} {b bs : List Int} {e : Int} {v0 v1 v2 : Value} (h : PoS w g q Q b wx bs e v0 v1 v2) : wx.cell? ⟨q, 0, none⟩ = some (.slice none 0 0) ∧ wx.cell? ⟨q, 1, none⟩ = some (.slice none 0 0) ∧ wx.cell? ⟨q, 2, none⟩ = some (.slice none 0 0) ∧ (∀ j, wx.frozen? ⟨q, j, none⟩ = false) ∧ q < wx.heap.size :=
  ⟨h.2.1.1, h.2.1.2.1, h.2.1.2.2.1, h.2.1.2.2.2, h.2.1.lt⟩
/-- an error is set. -/
theorem SpD.err {w : World} {S g : Nat} {b bs : List Int} {e : Int} (h : SpD w S g b bs e) (x : Int) : SpD (w.setCell ⟨S, 2, none⟩ (.int .i64 x)) S g b bs x := by
  obtain ⟨i, h, hd⟩ := h
  exact ⟨i, h.setE x, hd⟩
/-- one answer of ProgramOf: it lies in block wr.heap.size. -/
def AxS (wr : World) (S g : Nat) (b : List Int) (wx : World) (bs : List Int) (e : Int) (v0 v1 v2 v3 v4 : Value) : Prop :=
  SpD wx S g b bs e ∧ Bx5 wx wr.heap.size v0 v1 v2 v3 v4 ∧ wr.grownBy wx (some S) ∧ S < wr.heap.size ∧ g < wr.heap.size
theorem AxS.new {wr : World} {S g : Nat} {b bs : List Int} {e : Int} {t : TypeId} (h : SpD wr S g b bs e) (hS : S < wr.heap.size) (hg : g < wr.heap.size) : AxS wr S g b (wr.alloc (.cells #[.int .i64 0, .bool false, .string ⟨#[]⟩, .slice none 0 0, .int .i64 0] t)) bs e (.int .i64 0) (.bool false) (.string ⟨#[]⟩) (.slice none 0 0) (.int .i64 0) :=
  ⟨h.alloc hS hg _, ⟨World.cell?_alloc_at (w := wr) _ _ wr.heap.size 0 rfl, World.cell?_alloc_at (w := wr) _ _ wr.heap.size 1 rfl, World.cell?_alloc_at (w := wr) _ _ wr.heap.size 2 rfl, World.cell?_alloc_at (w := wr) _ _ wr.heap.size 3 rfl, World.cell?_alloc_at (w := wr) _ _ wr.heap.size 4 rfl, fun j => World.frozen?_alloc_at (w := wr) _ _ wr.heap.size j rfl⟩, grown_new (grown_refl wr _) _, hS, hg⟩
theorem AxS.call {wr wx w' : World} {S g : Nat} {b bs b1 : List Int} {e e1 : Int} {v0 v1 v2 v3 v4 : Value} (h : AxS wr S g b wx bs e v0 v1 v2 v3 v4) (hr : SpD w' S g b b1 e1) (hg : wx.grownBy w' (some S)) : AxS wr S g b w' b1 e1 v0 v1 v2 v3 v4 := by
  obtain ⟨h1, h2, h3, h4, h5⟩ := h
  exact ⟨hr, h2.keep (hg.block _ h2.lt (fun e => by have := Option.some.inj e; omega)), grown_two h3 hg, h4, h5⟩
theorem AxS.put {wr wx : World} {S g o : Nat} {b bs : List Int} {e : Int} {v0 v1 v2 v3 v4 u0 u1 u2 u3 u4 v : Value} (h : AxS wr S g b wx bs e v0 v1 v2 v3 v4) (hb : Bx5 (wx.setCell ⟨wr.heap.size, o, none⟩ v) wr.heap.size u0 u1 u2 u3 u4) : AxS wr S g b (wx.setCell ⟨wr.heap.size, o, none⟩ v) bs e u0 u1 u2 u3 u4 := by
  obtain ⟨h1, h2, h3, h4, h5⟩ := h
  exact ⟨h1.set (by omega) (by omega), hb, grown_sx h3 (Nat.le_refl _), h4, h5⟩
theorem AxS.facts {wr wx : World} {S g : Nat} {b bs : List Int} {e : Int} {v0 v1 v2 v3 v4 : Value} (h : AxS wr S g b wx bs e v0 v1 v2 v3 v4) : wx.cell? ⟨wr.heap.size, 0, none⟩ = some v0 ∧ wx.cell? ⟨wr.heap.size, 1, none⟩ = some v1 ∧ wx.cell? ⟨wr.heap.size, 2, none⟩ = some v2 ∧ wx.cell? ⟨wr.heap.size, 3, none⟩ = some v3 ∧ wx.cell? ⟨wr.heap.size, 4, none⟩ = some v4 ∧ (∀ j, wx.frozen? ⟨wr.heap.size, j, none⟩ = false) ∧ wr.heap.size < wx.heap.size :=
  ⟨h.2.1.1, h.2.1.2.1, h.2.1.2.2.1, h.2.1.2.2.2.1, h.2.1.2.2.2.2.1, h.2.1.2.2.2.2.2, h.2.1.lt⟩
theorem AxS.row {wr wx wo w' : World} {S g n sz : Nat} {t : TypeId} {vv : Value} {xs : List Value} {b bs : List Int} {e : Int} {v0 v1 v2 v3 v4 : Value} {o : Obj} (h : AxS wr S g b wx bs e v0 v1 v2 v3 v4) (hown : wo.ownsRow (wr.heap.size + 1) t sz vv n xs) (hg : (wx.alloc o).grownBy w' vv.ownBlock) : AxS wr S g b w' bs e v0 v1 v2 v3 v4 := by
  obtain ⟨h1, h2, h3, h4, h5⟩ := h
  have hs := size_alloc wx o
  have z2 := h2.lt
  have k : ∀ c, c < wr.heap.size + 1 → w'.heap[c]? = wx.heap[c]? := fun c hb => (hg.block c (by omega) (row_ne hown hb)).trans (heap_nw o (by omega))
  exact ⟨h1.keep (k S (by omega)) (k g (by omega)), h2.keep (k _ (by omega)), grown_in (grown_new h3 o) hg (fun j hj => by have := (hown.lt j hj).1; omega), h4, h5⟩
theorem PoS.grown {w wr wx : World} {g q Q : Nat} {b bs bs' : List Int} {e e' : Int} {v0 v1 v2 : Value} (h : PoS w g q Q b wr bs e v0 v1 v2) (hr : SpD wx (q + 1) g b bs' e') (hg : wr.grownBy wx (some (q + 1))) : PoS w g q Q b wx bs' e' v0 v1 v2 := h.call hr hg
end Go.Proofs.Ytpnmaopompfalaa
