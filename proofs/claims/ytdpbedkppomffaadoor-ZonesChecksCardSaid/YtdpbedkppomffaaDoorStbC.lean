/-
  A row of turns in memory; two of them exchanged.
-/
import Derived.Test.YtdpbedkppomffaaDoorZonA
import Derived.Test.YtdpbedkppomffaaDoorStbB
import Derived.Test.YtdpbedkppomffaaDoorTreeT
import Derived.BigRegion
import Derived.RegionTactic
namespace Go.Proofs.YtdpbedkppomffaaDoor
set_option linter.unusedVariables false
set_option linter.unusedSimpArgs false
open Go.ChangeShapes Go.WideShapes Go.ChangeAt Go.RowKit

/-- a turn's cells, as the code holds it: what is told, its place (then its instant), what is saved, letters. -/
def chV (x : Trn) : List Value := [.int .i64 x.no, .int .i64 x.tg, .int .i64 x.r.sv, .string x.r.lt]
/-- the block D holds turns from off on, and may be written. -/
def RowC (w : World) (D off : Nat) (l : List Trn) : Prop :=
  (∀ i (h : i < l.length), w.cell? ⟨D, off + i * 4, none⟩ = some (.int .i64 l[i].no) ∧ w.cell? ⟨D, off + i * 4 + 1, none⟩ = some (.int .i64 l[i].tg) ∧ w.cell? ⟨D, off + i * 4 + 2, none⟩ = some (.int .i64 l[i].r.sv) ∧ w.cell? ⟨D, off + i * 4 + 3, none⟩ = some (.string l[i].r.lt)) ∧
  (∀ o, w.frozen? ⟨D, o, none⟩ = false) ∧ D < w.heap.size
theorem RowC.block {w w' : World} {D off : Nat} {l : List Trn} (h : RowC w D off l) (e : w'.heap[D]? = w.heap[D]?) (hz : D < w'.heap.size) : RowC w' D off l := by
  refine ⟨fun i hi => ?_, fun o => ?_, hz⟩
  · obtain ⟨a, b, c, d⟩ := h.1 i hi
    exact ⟨(World.cell?_of_block (a := ⟨D, _, none⟩) e).trans a, (World.cell?_of_block (a := ⟨D, _, none⟩) e).trans b, (World.cell?_of_block (a := ⟨D, _, none⟩) e).trans c, (World.cell?_of_block (a := ⟨D, _, none⟩) e).trans d⟩
  · exact (World.frozen?_of_block (a := ⟨D, o, none⟩) e).trans (h.2.1 o)
theorem RowC.below {w w' : World} {D off : Nat} {l : List Trn} (h : RowC w D off l) (hb : Below w.heap.size w w') : RowC w' D off l := h.block (hb.block D h.2.2) (Nat.lt_of_lt_of_le h.2.2 hb.size)
/-- two elements exchanged. -/
def swp (l : List Trn) (i j : Nat) : List Trn := match l[i]?, l[j]? with
  | some x, some y => (l.set i y).set j x
  | _, _ => l
theorem swp_len (l : List Trn) (i j : Nat) : (swp l i j).length = l.length := by
  unfold swp
  split <;> simp
theorem swp_mid {A M B : List Trn} (x y : Trn) : swp (A ++ x :: (M ++ y :: B)) A.length (A.length + 1 + M.length) = A ++ y :: (M ++ x :: B) := by
  have h1 : (A ++ x :: (M ++ y :: B))[A.length]? = some x := by simp
  have h2 : (A ++ x :: (M ++ y :: B))[A.length + 1 + M.length]? = some y := by
    rw [List.getElem?_append_right (by omega), show A.length + 1 + M.length - A.length = M.length + 1 by omega, List.getElem?_cons_succ]
    simp
  unfold swp
  rw [h1, h2]
  simp only
  have e1 : (A ++ x :: (M ++ y :: B)).set A.length y = A ++ y :: (M ++ y :: B) := by simp
  have e2 : (A ++ y :: (M ++ y :: B)).set (A.length + 1 + M.length) x = A ++ y :: (M ++ x :: B) := by
    have e3 : A ++ y :: (M ++ y :: B) = (A ++ y :: M) ++ y :: B := by simp
    have e4 : A.length + 1 + M.length = (A ++ y :: M).length := by simp; omega
    rw [e3, e4]
    simp
  rw [e1, e2]
theorem swp_sym (l : List Trn) (i j : Nat) : swp l i j = swp l j i := by
  unfold swp
  rcases hi : l[i]? with _ | x <;> rcases hj : l[j]? with _ | y <;> simp only
  by_cases e : i = j
  · subst e
    rw [hi] at hj
    obtain rfl := Option.some.inj hj
    rfl
  · rw [List.set_comm _ _ e]
theorem swp_adj {A B : List Trn} (x y : Trn) : swp (A ++ x :: y :: B) A.length (A.length + 1) = A ++ y :: x :: B := swp_mid (M := []) x y
/-- w' is w with new blocks and writes to block D alone. -/
def GW (D : Nat) (w w' : World) : Prop := w.grownBy w' (some D)
theorem GW.refl (D : Nat) (w : World) : GW D w w := ⟨rfl, rfl, rfl, Nat.le_refl _, fun _ _ _ => rfl⟩
theorem GW.trans {D : Nat} {w w1 w2 : World} (h : GW D w w1) (g : GW D w1 w2) : GW D w w2 :=
  ⟨g.os.trans h.os, g.tape.trans h.tape, g.output.trans h.output, Nat.le_trans h.size g.size, fun k hk hne => (g.block k (Nat.lt_of_lt_of_le hk h.size) hne).trans (h.block k hk hne)⟩
theorem GW.below {D : Nat} {w w1 w2 : World} (h : GW D w w1) (g : Below w1.heap.size w1 w2) : GW D w w2 :=
  ⟨g.os.trans h.os, g.tape.trans h.tape, g.output.trans h.output, Nat.le_trans h.size g.size, fun k hk hne => (g.block k (Nat.lt_of_lt_of_le hk h.size)).trans (h.block k hk hne)⟩
theorem GW.drew {D : Nat} {w w1 : World} (h : GW D w w1) : GW D w w1.drew := ⟨h.os, h.tape, h.output, h.size, h.block⟩
theorem GW.set {D : Nat} {w w1 : World} (h : GW D w w1) (o : Nat) (v : Value) : GW D w (w1.setCell ⟨D, o, none⟩ v) :=
  ⟨h.os, h.tape, h.output, by rw [World.size_setCell]; exact h.size, fun k hk hne => (RowKit.Below.heap_setCell _ _ _ _ (fun e => hne (by rw [e]))).trans (h.block k hk hne)⟩
theorem GW.to {D B : Nat} {w w1 : World} (h : GW D w w1) (hB : B ≤ w.heap.size) (hD : B ≤ D) : Below B w w1 := (Below.refl B w).grown h hB (fun k e => by obtain rfl := Option.some.inj e; exact hD)
/-- four cells written. -/
def put4 (w : World) (D o : Nat) (x : Trn) : World := (((w.setCell ⟨D, o, none⟩ (.int .i64 x.no)).setCell ⟨D, o + 1, none⟩ (.int .i64 x.tg)).setCell ⟨D, o + 2, none⟩ (.int .i64 x.r.sv)).setCell ⟨D, o + 3, none⟩ (.string x.r.lt)
theorem GW.put {D : Nat} {w w1 : World} (h : GW D w w1) (o : Nat) (x : Trn) : GW D w (put4 w1 D o x) := (((h.set _ _).set _ _).set _ _).set _ _
theorem size_put4 (w : World) (D o : Nat) (x : Trn) : (put4 w D o x).heap.size = w.heap.size := by
  unfold put4
  rw [World.size_setCell, World.size_setCell, World.size_setCell, World.size_setCell]
theorem set_other {w : World} {D i j : Nat} {u : Value} (h : j ≠ i) : (w.setCell ⟨D, i, none⟩ u).cell? ⟨D, j, none⟩ = w.cell? ⟨D, j, none⟩ :=
  World.cell?_setCell_other _ _ _ _ (fun e => h (by injection e with _ e2; exact e2.symm))
theorem set_sameZ {w : World} {D i : Nat} {u v : Value} (hc : w.cell? ⟨D, i, none⟩ = some v) : (w.setCell ⟨D, i, none⟩ u).cell? ⟨D, i, none⟩ = some u := World.cell?_setCell_same (h := hc) ..
theorem put4_other {w : World} {D o j : Nat} {x : Trn} (h : j < o ∨ o + 3 < j) : (put4 w D o x).cell? ⟨D, j, none⟩ = w.cell? ⟨D, j, none⟩ := by
  unfold put4
  rw [set_other (by omega), set_other (by omega), set_other (by omega), set_other (by omega)]
theorem put4_same {w : World} {D o : Nat} {x : Trn} {v0 v1 v2 v3 : Value} (h0 : w.cell? ⟨D, o, none⟩ = some v0) (h1 : w.cell? ⟨D, o + 1, none⟩ = some v1) (h2 : w.cell? ⟨D, o + 2, none⟩ = some v2) (h3 : w.cell? ⟨D, o + 3, none⟩ = some v3) :
    (put4 w D o x).cell? ⟨D, o, none⟩ = some (.int .i64 x.no) ∧ (put4 w D o x).cell? ⟨D, o + 1, none⟩ = some (.int .i64 x.tg) ∧ (put4 w D o x).cell? ⟨D, o + 2, none⟩ = some (.int .i64 x.r.sv) ∧ (put4 w D o x).cell? ⟨D, o + 3, none⟩ = some (.string x.r.lt) := by
  unfold put4
  refine ⟨?_, ?_, ?_, ?_⟩
  · rw [set_other (by omega), set_other (by omega), set_other (by omega)]
    exact set_sameZ h0
  · rw [set_other (by omega), set_other (by omega)]
    exact set_sameZ (by rw [set_other (by omega)]; exact h1)
  · rw [set_other (by omega)]
    exact set_sameZ (by rw [set_other (by omega), set_other (by omega)]; exact h2)
  · exact set_sameZ (by rw [set_other (by omega), set_other (by omega), set_other (by omega)]; exact h3)
theorem RowC.put {w : World} {D off : Nat} {l : List Trn} (h : RowC w D off l) {i : Nat} (hi : i < l.length) (y : Trn) : RowC (put4 w D (off + i * 4) y) D off (l.set i y) := by
  refine ⟨fun k hk => ?_, fun o => ?_, by rw [size_put4]; exact h.2.2⟩
  · rw [List.length_set] at hk
    obtain ⟨a, b, c, d⟩ := h.1 k hk
    by_cases e : i = k
    · subst e
      rw [List.getElem_set_self]
      exact put4_same a b c d
    · rw [List.getElem_set_ne e]
      exact ⟨(put4_other (by omega)).trans a, (put4_other (by omega)).trans b, (put4_other (by omega)).trans c, (put4_other (by omega)).trans d⟩
  · unfold put4
    rw [World.frozen?_setCell, World.frozen?_setCell, World.frozen?_setCell, World.frozen?_setCell]
    exact h.2.1 o
theorem RowC.drew {w : World} {D off : Nat} {l : List Trn} (h : RowC w D off l) : RowC w.drew D off l := h
/-- two elements exchanged, in memory. -/
theorem RowC.swap {w : World} {D off : Nat} {l : List Trn} (h : RowC w D off l) {i j : Nat} {x y : Trn} (hi : l[i]? = some x) (hj : l[j]? = some y) :
    RowC (put4 (put4 w D (off + i * 4) y) D (off + j * 4) x).drew D off (swp l i j) := by
  obtain ⟨hi', -⟩ := List.getElem?_eq_some_iff.1 hi
  obtain ⟨hj', -⟩ := List.getElem?_eq_some_iff.1 hj
  unfold swp
  rw [hi, hj]
  exact ((h.put hi' y).put (by rw [List.length_set]; exact hj') x).drew
theorem GW.swap {D : Nat} {w w1 : World} (h : GW D w w1) (o o' : Nat) (x y : Trn) : GW D w (put4 (put4 w1 D o y) D o' x).drew := ((h.put _ _).put _ _).drew
theorem RowC.at {w : World} {D off : Nat} {l : List Trn} (h : RowC w D off l) {i : Nat} {x : Trn} (hi : l[i]? = some x) :
    w.cell? ⟨D, off + i * 4, none⟩ = some (.int .i64 x.no) ∧ w.cell? ⟨D, off + i * 4 + 1, none⟩ = some (.int .i64 x.tg) ∧ w.cell? ⟨D, off + i * 4 + 2, none⟩ = some (.int .i64 x.r.sv) ∧ w.cell? ⟨D, off + i * 4 + 3, none⟩ = some (.string x.r.lt) := by
  obtain ⟨hi', rfl⟩ := List.getElem?_eq_some_iff.1 hi
  exact h.1 i hi'
end Go.Proofs.YtdpbedkppomffaaDoor
